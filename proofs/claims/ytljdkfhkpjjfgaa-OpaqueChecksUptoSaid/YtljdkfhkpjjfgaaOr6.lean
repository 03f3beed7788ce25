/- The document's Every: lemmas for the laws of layer 22. -/
import Derived.Test.YtljdkfhkpjjfgaaOr5
namespace Go.Proofs.Ytljdkfhkpjjfgaa
open Go.RowKit Go.Shelf
set_option linter.unusedVariables false

def markB (n : Nat) (pre : List Int) : List Bool := (List.range n).map fun x : Nat => decide ((x : Int) ∈ pre)
theorem markB_nil (n : Nat) : markB n [] = List.replicate n false := by
  apply List.ext_getElem <;> simp [markB]
theorem markB_at (n : Nat) (pre : List Int) (i : Nat) (h : i < n) : (boolsC (markB n pre))[i]? = some (.bool (decide ((i : Int) ∈ pre))) := by
  simp [boolsC, markB, h]
theorem markB_set (n : Nat) (pre : List Int) (i : Nat) (h : i < n) : (boolsC (markB n pre)).set i (.bool true) = boolsC (markB n (pre ++ [(i : Int)])) := by
  apply List.ext_getElem?
  intro j
  by_cases hj : j = i
  · subst hj
    rw [List.getElem?_set_self (by simp [boolsC, markB, h]), markB_at n _ j h]
    simp
  · rw [List.getElem?_set_ne (fun e => hj e.symm)]
    rcases Nat.lt_or_ge j n with hjn | hjn
    · rw [markB_at n _ j hjn, markB_at n _ j hjn]
      have : (j : Int) ≠ (i : Int) := by omega
      simp [this]
    · rw [List.getElem?_eq_none (by simp [boolsC, markB]; omega), List.getElem?_eq_none (by simp [boolsC, markB]; omega)]
set_option maxRecDepth 100000 in
set_option maxHeartbeats 6400000 in
theorem every_doc (A : Option Addr) (k c n : Nat) (zs : List Int) (w : World) (hS : Sl w A k 1 (intsC zs)) (hb : k * 8 ≤ 140737488355328) (hn : n * 8 ≤ 140737488355328) :
    Calls Try.prog 32 #[.slice A k c, .int .i64 n] w fun e w' => e = .returned (.bool (evP n [] zs)) ∧ Below w.heap.size w w' := by
  have hzl : zs.length = k := by have := hS.1; rw [intsC_len] at this; omega
  have hm1 := make_ints 81 4 (.bool false) 1 n rfl Try.underlying81 Try.info4 (by omega) (by omega)
  have h1 := (Star.begin w).rowNew 4 1 (Array.replicate n (.bool false)) n (by simp only [maxLen]; omega) (by simp)
  have e0 : (Array.replicate n (Value.bool false)).toList = boolsC (markB n []) := by rw [markB_nil, Array.toList_replicate]; simp [boolsC]
  rw [e0] at h1
  have HS := Lib.hid hS
  have HZ := Lib.hid hzl
  have H1 := Lib.hid h1
  have HEV := Lib.hid (evP_iff (n := n) zs [])
  clear hS hzl h1 e0
  by_cases hkn : k = n
  case neg =>
    have e1 : evP n [] zs = false := by
      rw [Bool.eq_false_iff]
      intro h
      have := (HEV.out.1 h).2.2.2
      have h2 := HZ.out
      simp at this
      omega
    have E1 := Lib.hid e1
    have hne : ((k : Int) != (n : Int)) = true := by simp only [bne_iff_ne, ne_eq]; omega
    clear e1 hkn
    go_enter Try.func32, Try.ntmps32
    go_wp2
    go_ret
    exact ⟨by rw [E1.out]; rfl, Below.refl _ _⟩
  subst hkn
  have hne : ((k : Int) != (k : Int)) = false := by simp
  go_enter Try.func32, Try.ntmps32
  go_wp2_with fail
  clear hne
  go_loopw [6] (fun i wr => ∃ j : Nat, j ≤ k ∧ i = .int .i64 j ∧ Star w wr [rowA 4 1 (.slice (some ⟨w.heap.size, 0, none⟩) k k) k (boolsC (markB k (zs.take j))), oldA w] ∧ Hid (evP k [] zs = evP k (zs.take j) (zs.drop j))) (fun i _ => k - (intOf i).toNat)
  case atStart => exact ⟨0, Nat.zero_le _, rfl, H1.out, Lib.hid rfl⟩
  case round =>
    clear H1
    obtain ⟨j, hj, rfl, hR, hE⟩ := hrel
    by_cases hlt : j < k
    · obtain ⟨z, hz⟩ : ∃ z, zs[j]? = some z := ⟨_, List.getElem?_eq_getElem (by have := HZ.out; omega)⟩
      obtain ⟨g, o, rfl, hg, ca⟩ := HS.out.row hlt (by omega)
      have a0 : wr.cell? ⟨g, o + j, none⟩ = some (.int .i64 z) := ((hR.pull 1).oldCell hg).trans (by have := ca 0 _ (by rw [Nat.mul_one, Nat.add_zero]; exact intsC_get hz); simpa using this)
      have hjz : (j : Int) < k := by omega
      have hdr : zs.drop j = z :: zs.drop (j + 1) := drop_cons hz
      have htk : zs.take (j + 1) = zs.take j ++ [z] := take_succ hz
      have e1 := hE.out
      rw [hdr, evP] at e1
      have HB := Lib.hid (hR.pull 1).below
      clear hE ca hz hdr
      by_cases hz0 : z < 0
      · rw [if_neg (by omega)] at e1
        have E1 := Lib.hid e1
        clear e1 hR htk
        go_wp2
        go_ret
        exact ⟨by rw [E1.out]; rfl, HB.out⟩
      · by_cases hzn : (k : Int) ≤ z
        · rw [if_neg (by omega)] at e1
          have E1 := Lib.hid e1
          clear e1 hR htk
          go_wp2
          go_ret
          exact ⟨by rw [E1.out]; rfl, HB.out⟩
        · obtain ⟨i, rfl⟩ : ∃ i : Nat, z = i := ⟨z.toNat, by omega⟩
          have hin : i < k := by omega
          obtain ⟨b0, b1⟩ := row1_cell hR (markB_at k (zs.take j) i hin)
          by_cases hmem : (i : Int) ∈ zs.take j
          · rw [if_neg (fun h => h.2.2 hmem)] at e1
            rw [decide_eq_true hmem] at b0
            have E1 := Lib.hid e1
            clear e1 hR htk hmem
            go_wp2
            go_ret
            exact ⟨by rw [E1.out]; rfl, HB.out⟩
          · rw [if_pos ⟨by omega, by omega, hmem⟩] at e1
            rw [decide_eq_false hmem] at b0
            have h2 := hR.rowSet i (.bool true)
            rw [markB_set k _ i hin, ← htk] at h2
            rw [← htk] at e1
            have E1 := Lib.hid e1
            have H2 := Lib.hid h2
            clear e1 hR htk hmem h2
            go_wp2
            go_roundw
            case rel => exact ⟨j + 1, by omega, by go_num, H2.out, E1⟩
            case measure => simp [intOf]; omega
    · have hkn : j = k := by omega
      have e2 := hE.out
      rw [List.drop_eq_nil_of_le (by have := HZ.out; omega), List.take_of_length_le (by have := HZ.out; omega), evP, HZ.out, beq_self_eq_true] at e2
      have HR := Lib.hid (hR.pull 1).below
      have E2 := Lib.hid e2
      have hjz : ¬ (j : Int) < k := by omega
      clear hR hE e2 hkn
      go_wp2
      go_ret
      exact ⟨by rw [E2.out]; rfl, HR.out⟩
end Go.Proofs.Ytljdkfhkpjjfgaa
