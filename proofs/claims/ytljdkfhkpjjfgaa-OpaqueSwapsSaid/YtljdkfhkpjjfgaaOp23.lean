/- writer: lemmas for the laws of layer 22. -/
import Derived.Test.YtljdkfhkpjjfgaaOp22
namespace Go.Proofs.Ytljdkfhkpjjfgaa
open Go.RowKit Go.Shelf
set_option linter.unusedVariables false

set_option maxRecDepth 100000 in
set_option maxHeartbeats 6400000 in
theorem writer_any (s : Sto) (A : Option Addr) (k c : Nat) (w : World) (hS : Sl w A k 6 (mvsC s.moves)) (hk : s.moves.length = k) (hbig : k * 48 ≤ 140737488355328) :
    Calls Try.prog 20 #[.agg (stoC s (.slice A k c)).toArray] w fun e w' => e = .returned (.bool (writerB s)) ∧ Below w.heap.size w w' := by
  have hd : writerB s = if s.moves.any (·.write) then decide (s.fate = 1) else false := by
    rw [writerB]
    cases s.moves.any (·.write) <;> rfl
  obtain ⟨th, sp, bg, en, fa, er, by_, op, ga, ms⟩ := s
  dsimp only at hS hk hd
  dsimp only [stoC]
  have h0 := (Star.begin w).new (.cells #[.int .i64 th, .int .i64 sp, .int .i64 bg, .int .i64 en, .int .i64 fa, .int .i64 er, .int .i64 by_, .int .i64 op, .int .i64 ga, .slice A k c] 44)
  have x9 : (w.alloc (.cells #[.int .i64 th, .int .i64 sp, .int .i64 bg, .int .i64 en, .int .i64 fa, .int .i64 er, .int .i64 by_, .int .i64 op, .int .i64 ga, .slice A k c] 44)).cell? ⟨w.heap.size, 9, none⟩ = some (.slice A k c) := h0.cell 9
  have x4 : (w.alloc (.cells #[.int .i64 th, .int .i64 sp, .int .i64 bg, .int .i64 en, .int .i64 fa, .int .i64 er, .int .i64 by_, .int .i64 op, .int .i64 ga, .slice A k c] 44)).cell? ⟨w.heap.size, 4, none⟩ = some (.int .i64 fa) := h0.cell 4
  have HS := Lib.hid (hS.after (by omega) (h0.pull 1))
  have HB := Lib.hid (h0.pull 1).below
  have HK := Lib.hid hk
  have HD := Lib.hid hd
  clear h0 hS hk hd
  go_enter Try.func20, Try.ntmps20
  go_wp2
  go_loop [3] (fun i => ∃ j : Nat, j ≤ k ∧ i = .int .i64 j ∧ Hid ((ms.take j).any (·.write) = false)) (fun i => k - (intOf i).toNat)
  case atStart => exact ⟨0, Nat.zero_le _, rfl, Lib.hid rfl⟩
  case round =>
    obtain ⟨j, hj, rfl, hE⟩ := hrel
    by_cases hlt : j < k
    · obtain ⟨m, hm⟩ : ∃ m, ms[j]? = some m := ⟨_, List.getElem?_eq_getElem (by have := HK.out; omega)⟩
      obtain ⟨g, o, rfl, hg, ca⟩ := HS.out.row hlt (by omega)
      have a1 : (w.alloc (.cells #[.int .i64 th, .int .i64 sp, .int .i64 bg, .int .i64 en, .int .i64 fa, .int .i64 er, .int .i64 by_, .int .i64 op, .int .i64 ga, .slice (some ⟨g, o, none⟩) k c] 44)).cell? ⟨g, o + j * 6 + 1, none⟩ = some (.bool m.write) := ca 1 _ (by rw [mvsC_at hm (by omega)]; rfl)
      have hjz : (j : Int) < k := by omega
      have ht : (ms.take (j + 1)).any (·.write) = m.write := by rw [take_succ hm, List.any_append, hE.out]; simp
      cases hw : m.write with
      | true =>
        rw [hw] at a1
        have hany : ms.any (·.write) = true := by rw [List.any_eq_true]; exact ⟨m, List.mem_of_getElem? hm, hw⟩
        have e1 : writerB ⟨th, sp, bg, en, fa, er, by_, op, ga, ms⟩ = decide (fa = 1) := by rw [HD.out, if_pos hany]
        have E1 := Lib.hid e1
        clear ca hm ht hw hany e1 hE
        by_cases hf : fa = 1
        · have hfb : (fa == 1) = true := by simpa using hf
          have E2 := Lib.hid hf
          clear hf
          go_wp2
          go_ret
          exact ⟨by rw [E1.out, decide_eq_true E2.out]; rfl, HB.out⟩
        · have hfb : (fa == 1) = false := by simpa using hf
          have E2 := Lib.hid hf
          clear hf
          go_wp2
          go_ret
          exact ⟨by rw [E1.out, decide_eq_false E2.out]; rfl, HB.out⟩
      | false =>
        rw [hw] at a1 ht
        have HT := Lib.hid ht
        clear ca hm ht hw hE
        go_wp2
        go_round
        case rel => exact ⟨j + 1, by omega, by go_num, HT⟩
        case measure => simp [intOf]; omega
    · have hkn : j = k := by omega
      have e1 : writerB ⟨th, sp, bg, en, fa, er, by_, op, ga, ms⟩ = false := by
        have := hE.out
        rw [List.take_of_length_le (by have := HK.out; omega)] at this
        rw [HD.out, this]; rfl
      have E1 := Lib.hid e1
      have hjz : ¬ (j : Int) < k := by omega
      clear e1 hE
      go_wp2
      go_ret
      exact ⟨by rw [E1.out]; rfl, HB.out⟩
end Go.Proofs.Ytljdkfhkpjjfgaa
