/- every: lemmas for the laws of layer 22. -/
import Derived.Test.YtljdkfhkpjjfgaaOp7
import Derived.Test.YtljdkfhkpjjfgaaMem2
namespace Go.Proofs.Ytljdkfhkpjjfgaa
open Go.RowKit Go.Shelf
set_option linter.unusedVariables false

theorem Try.info4 : (Try.prog.info? 4).map (fun i => (i.zero, i.size, i.bytes)) = some (some (.bool false), 1, 1) := by kernel_rfl
def boolsC (bs : List Bool) : List Value := bs.map .bool
theorem boolsC_len (bs : List Bool) : (boolsC bs).length = bs.length := by rw [boolsC, List.length_map]
theorem made_one (z : Value) (n : Nat) : madeCells #[z] n = Array.replicate n z := by
  apply Array.ext'
  rw [toList_madeCells_one z n, Array.toList_replicate]
theorem make_ints (t e : TypeId) (z : Value) (by_ n : Nat) (hc : z.cells = #[z]) (ht : Try.prog.underlying t = some (.slice e)) (h : (Try.prog.info? e).map (fun i => (i.zero, i.size, i.bytes)) = some (some z, 1, by_)) (hby : by_ ≤ 8) (hn : n * 8 ≤ 140737488355328) (w : World) :
    (Instr.makeSlice t (.int .i64 (n : Int)) (.int .i64 (n : Int))).run Try.prog w = .ok (.slice (some ⟨w.heap.size, 0, none⟩) n n) (w.alloc (.cells (Array.replicate n z) e)) := by
  obtain ⟨i, hi, hz0, hz1, hz2⟩ := info_parts h
  have hb : i.bytes * n ≤ 8 * n := Nat.mul_le_mul_right _ (by omega)
  have := run_make_star (P := Try.prog) w t e i z ht hi hz0 n (by omega) (by omega)
  rw [hz1, hc, Nat.mul_one, made_one] at this
  exact this
theorem row1_cell {W w : World} {L : List HA} {e : TypeId} {g n c i : Nat} {xs : List Value} {u : Value} (h : Star W w (rowA e 1 (.slice (some ⟨g, 0, none⟩) n c) n xs :: L)) (hu : xs[i]? = some u) : w.cell? ⟨g, i, none⟩ = some u ∧ w.frozen? ⟨g, i, none⟩ = false := by
  have hl := h.rowLen
  have hi := (List.getElem?_eq_some_iff.1 hu).1
  obtain ⟨g', e', _, _, hc, hf⟩ := h.rowAt (by omega)
  injection e' with e'
  injection e' with e'
  subst e'
  exact ⟨by rw [hc i (by omega), hu], hf i⟩
/-- has an order each of n places once: what went ahead, what is left -/
def evP (n : Nat) : List Int → List Int → Bool
  | pre, [] => pre.length == n
  | pre, i :: r => if 0 ≤ i ∧ i < n ∧ i ∉ pre then evP n (pre ++ [i]) r else false
/-- the marks -/
def markI (n : Nat) (pre : List Int) : List Int := (List.range n).map fun x : Nat => if (x : Int) ∈ pre then 1 else 0
theorem mark_len (n : Nat) (pre : List Int) : (markI n pre).length = n := by simp [markI]
theorem mark_nil (n : Nat) : markI n [] = List.replicate n 0 := by
  apply List.ext_getElem <;> simp [markI]
theorem mark_at (n : Nat) (pre : List Int) (i : Nat) (h : i < n) : (markI n pre)[i]? = some (if (i : Int) ∈ pre then 1 else 0) := by
  simp [markI, h]
theorem mark_set (n : Nat) (pre : List Int) (i : Nat) (h : i < n) : (markI n pre).set i 1 = markI n (pre ++ [(i : Int)]) := by
  apply List.ext_getElem
  · simp [markI]
  · intro j h1 h2
    simp only [markI, List.getElem_set, List.getElem_map, List.getElem_range, List.mem_append, List.mem_singleton]
    by_cases hj : i = j
    · subst hj; simp
    · rw [if_neg hj]
      have : ¬ (j : Int) = i := by omega
      simp [this]
set_option maxRecDepth 100000 in
set_option maxHeartbeats 6400000 in
theorem every_any (A : Option Addr) (k c n : Nat) (zs : List Int) (w : World) (hS : Sl w A k 1 (intsC zs)) (hb : k * 8 ≤ 140737488355328) (hn : n * 8 ≤ 140737488355328) :
    Calls Try.prog 28 #[.slice A k c, .int .i64 n] w fun e w' => e = .returned (.bool (evP n [] zs)) ∧ Below w.heap.size w w' := by
  have hzl : zs.length = k := by have := hS.1; rw [intsC_len] at this; omega
  have hm1 := make_ints 24 3 (.int .i64 0) 8 n rfl Try.underlying24 Try.info3 (by omega) (by omega)
  have h1 := (Star.begin w).rowNew 3 1 (Array.replicate n (.int .i64 0)) n (by simp only [maxLen]; omega) (by simp)
  have e0 : (Array.replicate n (Value.int .i64 0)).toList = intsC (markI n []) := by rw [mark_nil, Array.toList_replicate]; simp [intsC]
  rw [e0] at h1
  have HS := Lib.hid hS
  have HZ := Lib.hid hzl
  have H1 := Lib.hid h1
  clear hS hzl h1 e0
  go_enter Try.func28, Try.ntmps28
  go_wp2_with fail
  go_loopw [12] (fun i wr => ∃ j : Nat, j ≤ k ∧ i = .int .i64 j ∧ Star w wr [rowA 3 1 (.slice (some ⟨w.heap.size, 0, none⟩) n n) n (intsC (markI n (zs.take j))), oldA w] ∧ Hid (evP n [] zs = evP n (zs.take j) (zs.drop j))) (fun i _ => k - (intOf i).toNat)
  case atStart => exact ⟨0, Nat.zero_le _, rfl, H1.out, Lib.hid rfl⟩
  case round =>
    clear H1
    obtain ⟨j, hj, rfl, hR, hE⟩ := hrel
    by_cases hlt : j < k
    · obtain ⟨z, hz⟩ : ∃ z, zs[j]? = some z := ⟨_, List.getElem?_eq_getElem (by have := HZ.out; omega)⟩
      obtain ⟨g, o, rfl, hg, ca⟩ := HS.out.row hlt (by omega)
      have a0 : wr.cell? ⟨g, o + j, none⟩ = some (.int .i64 z) := ((hR.pull 1).oldCell hg).trans (by have := ca 0 _ (by rw [Nat.mul_one, Nat.add_zero]; exact intsC_get hz); simpa using this)
      have hjz : (j : Int) < k := by omega
      have hdr : zs.drop j = z :: zs.drop (j + 1) := by
        have := List.drop_eq_getElem_cons (l := zs) (i := j) (List.getElem?_eq_some_iff.1 hz).1
        rw [(List.getElem?_eq_some_iff.1 hz).2] at this
        exact this
      have htk : zs.take (j + 1) = zs.take j ++ [z] := take_succ hz
      have e1 := hE.out
      rw [hdr, evP] at e1
      have HB := Lib.hid (hR.pull 1).below
      clear hE ca hz hdr
      by_cases hz0 : z < 0
      · rw [if_neg (by omega)] at e1
        have E1 := Lib.hid e1
        clear e1 hR htk
        go_wp2
        go_ret
        exact ⟨by rw [E1.out]; rfl, HB.out⟩
      · by_cases hzn : (n : Int) ≤ z
        · rw [if_neg (by omega)] at e1
          have E1 := Lib.hid e1
          clear e1 hR htk
          go_wp2
          go_ret
          exact ⟨by rw [E1.out]; rfl, HB.out⟩
        · obtain ⟨i, rfl⟩ : ∃ i : Nat, z = i := ⟨z.toNat, by omega⟩
          have hin : i < n := by omega
          have hma := mark_at n (zs.take j) i hin
          have hcf := row1_cell hR (intsC_get hma)
          obtain ⟨b0, b1⟩ := hcf
          by_cases hmem : (i : Int) ∈ zs.take j
          · rw [if_neg (fun h => h.2.2 hmem)] at e1
            rw [if_pos hmem] at b0
            have E1 := Lib.hid e1
            clear e1 hR htk hma hmem
            go_wp2
            go_ret
            exact ⟨by rw [E1.out]; rfl, HB.out⟩
          · rw [if_pos ⟨by omega, by omega, hmem⟩] at e1
            rw [if_neg hmem] at b0
            have h2 := hR.rowSet i (.int .i64 1)
            have e2 : (intsC (markI n (zs.take j))).set i (.int .i64 1) = intsC (markI n (zs.take (j + 1))) := by
              rw [htk, ← mark_set n _ i hin, intsC, intsC, List.map_set]
            rw [e2] at h2
            rw [← htk] at e1
            have E1 := Lib.hid e1
            have H2 := Lib.hid h2
            clear e1 hR htk hma hmem h2 e2
            go_wp2
            go_roundw
            case rel => exact ⟨j + 1, by omega, by go_num, H2.out, E1⟩
            case measure => simp [intOf]; omega
    · have hkn : j = k := by omega
      subst hkn
      have e1 : zs.drop j = [] := List.drop_eq_nil_of_le (by have := HZ.out; omega)
      have e2 := hE.out
      rw [e1, List.take_of_length_le (by have := HZ.out; omega), evP, HZ.out] at e2
      have HR := Lib.hid (hR.pull 1).below
      have hjz : ¬ (j : Int) < j := by omega
      have e3 : ((j : Int) == (n : Int)) = (j == n) := by
        rw [Bool.eq_iff_iff, beq_iff_eq, beq_iff_eq]
        omega
      have E2 := Lib.hid e2
      clear hR e1 hE e2
      go_wp2
      go_ret
      refine ⟨?_, HR.out⟩
      rw [E2.out]
      first | rfl | (rw [← e3]; rfl) | skip
end Go.Proofs.Ytljdkfhkpjjfgaa
