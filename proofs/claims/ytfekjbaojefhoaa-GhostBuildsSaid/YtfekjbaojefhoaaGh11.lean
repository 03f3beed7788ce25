/- The tests of likeness: lemmas for the laws of ghost. -/
import Derived.Test.YtfekjbaojefhoaaGh10
namespace Go.Proofs.Ytfekjbaojefhoaa
open Go.RowKit Go.Shelf
set_option linter.unusedVariables false

theorem mv_neq (a : Int) (b : Bool) (c d : Int) (e : Bool) (f : Int) (w : World) : (binOp .neq 38 (.agg #[.int .i64 a, .bool b, .int .i64 c, .int .i64 d, .bool e, .int .i64 f]) (.agg #[.int .i64 a, .bool b, .int .i64 c, .int .i64 d, .bool e, .int .i64 f])).run Try.prog w = .ok (.bool false) w := by
  have hs : Try.prog.stoodInHeld 38 = false := by kernel_rfl
  simp only [go_sem]
  simp [go_sem, Op.eqFields]
theorem pair_neq (a b : Int) (w : World) : (binOp .neq 57 (.agg #[.int .i64 a, .int .i64 b]) (.agg #[.int .i64 a, .int .i64 b])).run Try.prog w = .ok (.bool false) w := by
  have hs : Try.prog.stoodInHeld 57 = false := by kernel_rfl
  simp only [go_sem]
  simp [go_sem, Op.eqFields]
theorem Sl.row {w : World} {A : Option Addr} {n size : Nat} {xs : List Value} (hS : Sl w A n size xs) {k : Nat} (hk : k < n) (hs : 0 < size) : ∃ g o, A = some ⟨g, o, none⟩ ∧ g < w.heap.size ∧ ∀ j u, xs[k * size + j]? = some u → w.cell? ⟨g, o + k * size + j, none⟩ = some u := by
  obtain ⟨g, o, e, hc⟩ := hS.2 (by omega)
  have h1 : 0 < xs.length := by rw [hS.1]; exact Nat.mul_pos (by omega) hs
  exact ⟨g, o, e, World.block_lt_of_cell? w _ (hc 0 _ (List.getElem?_eq_getElem h1)), fun j u hu => by rw [Nat.add_assoc]; exact hc _ _ hu⟩
set_option maxRecDepth 100000 in
set_option maxHeartbeats 3200000 in
theorem same_any (x : Sto) (A B : Option Addr) (n c d : Nat) (w : World) (hA : Sl w A n 6 (mvsC x.moves)) (hB : Sl w B n 6 (mvsC x.moves)) (hn : x.moves.length = n) (hb : n ≤ 9223372036854775807) :
    Calls Try.prog 28 #[.agg (stoC x (.slice A n c)).toArray, .agg (stoC x (.slice B n d)).toArray] w fun e w' => e = .returned (.bool true) ∧ Below w.heap.size w w' := by
  obtain ⟨th, sp, bg, en, fa, er, by_, op, ga, ms⟩ := x
  dsimp only at hA hB hn
  dsimp only [stoC]
  have h0 := ((Star.begin w).new (.cells #[.int .i64 th, .int .i64 sp, .int .i64 bg, .int .i64 en, .int .i64 fa, .int .i64 er, .int .i64 by_, .int .i64 op, .int .i64 ga, .slice A n c] 36)).new (.cells #[.int .i64 th, .int .i64 sp, .int .i64 bg, .int .i64 en, .int .i64 fa, .int .i64 er, .int .i64 by_, .int .i64 op, .int .i64 ga, .slice B n d] 36)
  simp only [World.size_alloc] at h0
  have HA := Lib.hid hA
  have HB := Lib.hid hB
  have HN := Lib.hid hn
  clear hA hB hn
  go_enter Try.func28, Try.ntmps28
  go_wp2_with fail
  generalize (w.alloc (.cells #[.int .i64 th, .int .i64 sp, .int .i64 bg, .int .i64 en, .int .i64 fa, .int .i64 er, .int .i64 by_, .int .i64 op, .int .i64 ga, .slice A n c] 36)).alloc (.cells #[.int .i64 th, .int .i64 sp, .int .i64 bg, .int .i64 en, .int .i64 fa, .int .i64 er, .int .i64 by_, .int .i64 op, .int .i64 ga, .slice B n d] 36) = wA at h0 ⊢
  go_loopw [5] (fun i wr => ∃ k : Nat, k ≤ n ∧ i = .int .i64 k ∧ ∃ q, wr = wA.drewN q) (fun i _ => n - (intOf i).toNat)
  case atStart => exact ⟨0, Nat.zero_le _, rfl, 0, rfl⟩
  case round =>
    obtain ⟨k, hk, rfl, q, rfl⟩ := hrel
    have h1 := h0.drewN q
    have ea : wA.cell? ⟨w.heap.size, 9, none⟩ = some (.slice A n c) := (h0.pull 1).cell 9
    have eb : wA.cell? ⟨w.heap.size + 1, 9, none⟩ = some (.slice B n d) := h0.cell 9
    by_cases hlt : k < n
    · obtain ⟨m, hm⟩ : ∃ m, ms[k]? = some m := ⟨_, List.getElem?_eq_getElem (by have := HN.out; omega)⟩
      obtain ⟨g, o, rfl, hg, ca⟩ := HA.out.row hlt (by omega)
      obtain ⟨g', o', rfl, hg', cb⟩ := HB.out.row hlt (by omega)
      have fa' : ∀ j u, (mvC m)[j]? = some u → j < 6 → wA.cell? ⟨g, o + k * 6 + j, none⟩ = some u := fun j u hu hj => ((h0.pull 2).oldCell hg).trans (ca j u (by rw [mvsC_at hm hj]; exact hu))
      have fb' : ∀ j u, (mvC m)[j]? = some u → j < 6 → wA.cell? ⟨g', o' + k * 6 + j, none⟩ = some u := fun j u hu hj => ((h0.pull 2).oldCell hg').trans (cb j u (by rw [mvsC_at hm hj]; exact hu))
      have a0 := fa' 0 _ rfl (by omega)
      have a1 := fa' 1 _ rfl (by omega)
      have a2 := fa' 2 _ rfl (by omega)
      have a3 := fa' 3 _ rfl (by omega)
      have a4 := fa' 4 _ rfl (by omega)
      have a5 := fa' 5 _ rfl (by omega)
      have b0 := fb' 0 _ rfl (by omega)
      have b1 := fb' 1 _ rfl (by omega)
      have b2 := fb' 2 _ rfl (by omega)
      have b3 := fb' 3 _ rfl (by omega)
      have b4 := fb' 4 _ rfl (by omega)
      have b5 := fb' 5 _ rfl (by omega)
      simp only [Nat.add_zero] at a0 b0
      have hq := fun w => mv_neq m.step m.write m.cell m.x m.own m.gate w
      have hkz : (k : Int) < n := by omega
      clear fa' fb' ca cb hm h1
      go_wp2
      go_quiet (fail)
      go_wp2
      go_roundw
      case rel => exact ⟨k + 1, by omega, by go_num, _, rfl⟩
      case measure => simp [intOf]; omega
    · have hkn : k = n := by omega
      subst hkn
      have h2 := (h1.pull 2).below
      have H2 := Lib.hid h2
      clear h1 h2
      go_wp2
      go_ret
      exact ⟨rfl, H2.out⟩
end Go.Proofs.Ytfekjbaojefhoaa
