/- explained, leaves: lemmas for the laws of layer 22. -/
import Derived.Test.YtljdkfhkpjjfgaaOp5
namespace Go.Proofs.Ytljdkfhkpjjfgaa
open Go.RowKit Go.Shelf
set_option linter.unusedVariables false

/-- what a read of a story should tell -/
def wantF (f own : Cells) (k : Int) : Int := match own k with | some v => v | none => (f k).getD 0
/-- do all reads tell what there is -/
def explS (f : Cells) : Cells → List Mv → Bool
  | _, [] => true
  | own, m :: ms => if m.write then explS f (putF own m.cell m.x) ms else if wantF f own m.cell = m.x then explS f own ms else false
def ownS (own : Cells) (m : Mv) : Cells := if m.write then putF own m.cell m.x else own
set_option maxRecDepth 100000 in
set_option maxHeartbeats 6400000 in
theorem explained_any (s : Sto) (A : Option Addr) (k c b : Nat) (f : Cells) (R : List HA) (W w : World) (hM : Star W w (memA b f :: R)) (hS : Sl w A k 6 (mvsC s.moves)) (hk : s.moves.length = k) (hbig : k * 48 ≤ 140737488355328) :
    Calls Try.prog 30 #[.map (some b), .agg (stoC s (.slice A k c)).toArray] w fun e w' => e = .returned (.bool (explS f (fun _ => none) s.moves)) ∧ Below w.heap.size w w' := by
  have hmm := @run_makeMap Try.prog
  obtain ⟨th, sp, bg, en, fa, er, by_, op, ga, ms⟩ := s
  dsimp only at hS hk
  dsimp only [stoC]
  have h0 := (Star.begin w).new (.cells #[.int .i64 th, .int .i64 sp, .int .i64 bg, .int .i64 en, .int .i64 fa, .int .i64 er, .int .i64 by_, .int .i64 op, .int .i64 ga, .slice A k c] 44)
  have h1 := (h0.mapNew encI)
  simp only [World.size_alloc] at h1
  have h2 := mem_shut repM_nil h1
  have HM := Lib.hid hM
  have HS := Lib.hid hS
  have HK := Lib.hid hk
  clear hM hS hk h0 h1
  go_enter Try.func30, Try.ntmps30
  go_wp2_with fail
  have H2 := Lib.hid h2
  clear h2
  go_loopw [14] (fun i wr => ∃ j : Nat, j ≤ k ∧ i = .int .i64 j ∧ ∃ own : Cells, Star w wr [memA (w.heap.size + 1) own, oldA w] ∧ Hid (explS f (fun _ => none) ms = explS f own (ms.drop j))) (fun i _ => k - (intOf i).toNat)
  case atStart => exact ⟨0, Nat.zero_le _, rfl, _, H2.out.pick 3 [0, 2], Lib.hid rfl⟩
  case round =>
    clear H2
    obtain ⟨j, hj, rfl, own, hR, hE⟩ := hrel
    by_cases hlt : j < k
    · obtain ⟨m, hm⟩ : ∃ m, ms[j]? = some m := ⟨_, List.getElem?_eq_getElem (by have := HK.out; omega)⟩
      obtain ⟨g, o, rfl, hg, ca⟩ := HS.out.row hlt (by omega)
      have fm : ∀ i u, (mvC m)[i]? = some u → i < 6 → wr.cell? ⟨g, o + j * 6 + i, none⟩ = some u := fun i u hu hi => ((hR.pull 1).oldCell hg).trans (ca i u (by rw [mvsC_at hm hi]; exact hu))
      have a0 := fm 0 _ rfl (by omega)
      have a1 := fm 1 _ rfl (by omega)
      have a2 := fm 2 _ rfl (by omega)
      have a3 := fm 3 _ rfl (by omega)
      have a4 := fm 4 _ rfl (by omega)
      have a5 := fm 5 _ rfl (by omega)
      simp only [Nat.add_zero] at a0
      have hjz : (j : Int) < k := by omega
      have hdr : ms.drop j = m :: ms.drop (j + 1) := (by have := List.drop_eq_getElem_cons (l := ms) (i := j) (List.getElem?_eq_some_iff.1 hm).1; rw [(List.getElem?_eq_some_iff.1 hm).2] at this; exact this)
      rw [hdr] at hE
      have hN := hR.new (.cells #[.int .i64 m.step, .bool m.write, .int .i64 m.cell, .int .i64 m.x, .bool m.own, .int .i64 m.gate] 46)
      have hF := hN.frame (L := [_, _]) HM.out
      have x1 : (wr.alloc (.cells #[.int .i64 m.step, .bool m.write, .int .i64 m.cell, .int .i64 m.x, .bool m.own, .int .i64 m.gate] 46)).cell? ⟨wr.heap.size, 1, none⟩ = some (.bool m.write) := hN.cell 1
      have x2 : (wr.alloc (.cells #[.int .i64 m.step, .bool m.write, .int .i64 m.cell, .int .i64 m.x, .bool m.own, .int .i64 m.gate] 46)).cell? ⟨wr.heap.size, 2, none⟩ = some (.int .i64 m.cell) := hN.cell 2
      have x3 : (wr.alloc (.cells #[.int .i64 m.step, .bool m.write, .int .i64 m.cell, .int .i64 m.x, .bool m.own, .int .i64 m.gate] 46)).cell? ⟨wr.heap.size, 3, none⟩ = some (.int .i64 m.x) := hN.cell 3
      have hl1 := mem_look2 Try.underlying60 (hN.pull 1) m.cell
      have hl2 := mem_look Try.underlying61 (hF.pull 2) m.cell
      obtain ⟨st, wt, ce, xx, ow, ga2⟩ := m
      dsimp only [mvC] at a0 a1 a2 a3 a4 a5 x1 x2 x3 hl1 hl2 hE
      have HN := Lib.hid hN
      clear fm ca hm hdr hR hN hF
      cases wt with
      | true =>
        have e1 : explS f (fun _ => none) ms = explS f (putF own ce xx) (ms.drop (j + 1)) := by rw [hE.out]; rfl
        have E1 := Lib.hid e1
        clear hE e1 hl1 hl2
        go_wp2_with (refine wpList_mem_put rfl _ _ _ 60 rfl Try.underlying60 rfl ce rfl xx rfl (HN.out.pull 1) ?_; intro w3 h3)
        have H3 := Lib.hid h3
        clear h3
        go_wp2
        go_roundw
        case rel => exact ⟨j + 1, by omega, by go_num, _, H3.out.pick 3 [0, 2], E1⟩
        case measure => simp [intOf]; omega
      | false =>
        have e1 : explS f (fun _ => none) ms = if wantF f own ce = xx then explS f own (ms.drop (j + 1)) else false := by rw [hE.out]; rfl
        cases ho : own ce with
        | some v =>
          have e2 : wantF f own ce = v := by rw [wantF, ho]
          rw [e2] at e1
          rw [ho] at hl1
          simp only [Option.getD_some, Option.isSome_some] at hl1
          by_cases hv : v = xx
          · rw [if_pos hv] at e1
            have E1 := Lib.hid e1
            have hvb : (v != xx) = false := by simpa using hv
            clear hE e1 e2 ho hl2 hv
            go_wp2
            go_roundw
            case rel => exact ⟨j + 1, by omega, by go_num, _, HN.out.pick 3 [1, 2], E1⟩
            case measure => simp [intOf]; omega
          · rw [if_neg hv] at e1
            have E1 := Lib.hid e1
            have hvb : (v != xx) = true := by simpa using hv
            clear hE e1 e2 ho hl2 hv
            go_wp2
            go_ret
            exact ⟨by rw [E1.out]; rfl, (HN.out.pull 2).below⟩
        | none =>
          have e2 : wantF f own ce = (f ce).getD 0 := by rw [wantF, ho]
          rw [e2] at e1
          rw [ho] at hl1
          simp only [Option.getD_none, Option.isSome_none] at hl1
          generalize (f ce).getD 0 = v at e1 hl2
          by_cases hv : v = xx
          · rw [if_pos hv] at e1
            have E1 := Lib.hid e1
            have hvb : (v != xx) = false := by simpa using hv
            clear hE e1 e2 ho hv
            go_wp2
            go_roundw
            case rel => exact ⟨j + 1, by omega, by go_num, _, HN.out.pick 3 [1, 2], E1⟩
            case measure => simp [intOf]; omega
          · rw [if_neg hv] at e1
            have E1 := Lib.hid e1
            have hvb : (v != xx) = true := by simpa using hv
            clear hE e1 e2 ho hv
            go_wp2
            go_ret
            exact ⟨by rw [E1.out]; rfl, (HN.out.pull 2).below⟩
    · have hkn : j = k := by omega
      subst hkn
      have e1 : ms.drop j = [] := List.drop_eq_nil_of_le (by have := HK.out; omega)
      rw [e1] at hE
      have e2 : explS f (fun _ => none) ms = true := by rw [hE.out]; rfl
      have E2 := Lib.hid e2
      have HR := Lib.hid hR
      have hjz : ¬ (j : Int) < j := by omega
      clear hR e1 e2 hE
      go_wp2
      go_ret
      exact ⟨by rw [E2.out]; rfl, (HR.out.pull 1).below⟩
end Go.Proofs.Ytljdkfhkpjjfgaa
