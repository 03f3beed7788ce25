/- OpaqueFinds and the arguments: lemmas for the laws of layer 22. -/
import Derived.Test.YtljdkfhkpjjfgaaOqC
import Derived.Test.YtljdkfhkpjjfgaaGh29
namespace Go.Proofs.Ytljdkfhkpjjfgaa
open Go.RowKit Go.Shelf
set_option linter.unusedVariables false

theorem check_zero {st : List Int} {sts : List Sto} {zs : List Int} (h : (checkP st sts zs).1 = 0) : checkP st sts zs = (0, 0) := by
  rw [checkP] at h ⊢
  split at h
  · split at h
    · cases h
    · split at h
      · cases h
      · rename_i h1 _ h2 _ h3
        simp_all
  · cases h
set_option maxRecDepth 100000 in
set_option maxHeartbeats 6400000 in
theorem finds_walk (SA : Option Addr) (sn sc : Nat) (st : List Int) (B : Option Addr) (m d : Nat) (sts : List Sto) (vs : List Value) (A : Option Addr) (k c : Nat) (zs : List Int) (w : World)
    (hST : Sl w SA sn 1 (intsC st)) (hsb : sn * 8 ≤ 140737488355328) (hT : Stories w B m sts vs) (hbm : m * 96 ≤ 140737488355328) (hO : Sl w A k 1 (intsC zs)) (hb : k * 8 ≤ 140737488355328) :
    Calls Try.prog 7 #[.slice SA sn sc, .slice B m d, .slice A k c] w fun e w' => e = .returned (.bool true) ∧ Below w.heap.size w w' := by
  have HST := Lib.hid hST
  have HT := Lib.hid hT
  have HO := Lib.hid hO
  clear hST hT hO
  go_enter Try.func7, Try.ntmps7
  go_wp2_with fail
  refine (awake_any _).mono ?_
  rintro e' w1 ⟨rfl, hb1⟩
  have HB1 := Lib.hid hb1
  clear hb1
  go_wp2_with fail
  refine (check_any SA sn sc st B m d sts vs A k c zs w1 (HST.out.below (by omega) HB1.out) hsb (HT.out.below HB1.out) hbm (HO.out.below (by omega) HB1.out) hb).mono ?_
  rintro e' w2 ⟨rfl, hb2⟩
  obtain ⟨E, hE⟩ : ∃ E, (checkP st sts zs).1 = E := ⟨_, rfl⟩
  obtain ⟨F, hF⟩ : ∃ F, (checkP st sts zs).2 = F := ⟨_, rfl⟩
  rw [hE, hF]
  have HE := Lib.hid hE
  have HB2 := Lib.hid (below_next HB1.out hb2)
  clear hb2 HB1 hE hF
  go_wp2_with fail
  refine (long_any B m d sts vs w2 (HT.out.below HB2.out) hbm).mono ?_
  rintro e' w3 ⟨rfl, rfl⟩
  by_cases h0 : E = 0
  · have h0b : (E != 0) = false := by simpa using h0
    by_cases h7 : m ≤ 7
    · have h7z : ¬ (7 : Int) < m := by omega
      obtain ⟨L, hL⟩ : ∃ L, longB sts = L := ⟨_, rfl⟩
      rw [hL]
      have HZ := Lib.hid h0
      clear hL h0
      cases L with
      | true =>
        go_wp2
        go_ret
        exact ⟨rfl, HB2.out⟩
      | false =>
        go_wp2_with fail
        refine (search_any SA sn sc st B m d sts vs w2 (HST.out.below (by omega) HB2.out) hsb (HT.out.below HB2.out) hbm).mono ?_
        intro e' w3 h3
        have hck := check_zero (HE.out.trans HZ.out)
        obtain ⟨o, o', hz, hol, hsr, hol', hck', hlx⟩ := found_of st sts zs hck (by rw [HT.out.ns]; exact h7)
        have hns := HT.out.ns
        have hse : srchE sts = 0 := by rw [srchE, hns, if_pos h7]
        rw [hsr, hse] at h3
        obtain ⟨fa, fq, he, h3⟩ := h3
        have he : e' = .returned (.tuple #[.slice fa o'.length fq, .bool true, .int .i64 0]) := he
        have h3 : Star w2 w3 [rowA 3 1 (.slice fa o'.length fq) o'.length (natsC o'), oldA w2] := h3
        have hom : o'.length = m := by omega
        rw [hom] at he h3
        rw [natsC_ints] at h3
        subst he
        have hb3 := below_next HB2.out (h3.pull 1).below
        have hfs := h3.rowSl
        have hkm : k = m := by
          have := HO.out.1
          rw [intsC_len, hz] at this
          simp [intsOf] at this
          omega
        subst hkm
        have CK := Lib.hid (check_any SA sn sc st B k d sts vs fa k fq (intsOf o') w3 (HST.out.below (by omega) hb3) hsb (HT.out.below hb3) hbm hfs hb)
        have HB3 := Lib.hid hb3
        have HFS := Lib.hid hfs
        have HC2 := Lib.hid hck'
        have HLX := Lib.hid hlx
        have HZS := Lib.hid hz
        have HOL := Lib.hid (show o.length = k ∧ o'.length = k from ⟨by omega, hom⟩)
        clear h3 hb3 hfs hck' hlx hz hol hsr hol' hns hse hom hck
        go_wp2_with fail
        refine CK.out.mono ?_
        rintro e' w4 ⟨rfl, hb4⟩
        rw [HC2.out]
        have HB4 := Lib.hid (below_next HB3.out hb4)
        have HF4 := Lib.hid (HFS.out.below (by omega) hb4)
        have hkk : ((k : Int) != (k : Int)) = false := by simp
        clear hb4 CK HB3 HFS HC2
        go_wp2_with fail
        clear hkk
        go_loopw [16] (fun i wr => ∃ j : Nat, j ≤ k ∧ i = .int .i64 j ∧ (∃ q, wr = w4.drewN q) ∧ Hid (∀ x, x < j → o'[x]? = o[x]?)) (fun i _ => k - (intOf i).toNat)
        case atStart => exact ⟨0, Nat.zero_le _, rfl, ⟨0, rfl⟩, Lib.hid (fun x hx => absurd hx (by omega))⟩
        case round =>
          obtain ⟨j, hj, rfl, ⟨q, rfl⟩, hE⟩ := hrel
          by_cases hlt : j < k
          · obtain ⟨x, hx⟩ : ∃ x, o'[j]? = some x := ⟨_, List.getElem?_eq_getElem (by have := HOL.out; omega)⟩
            obtain ⟨y, hy⟩ : ∃ y, o[j]? = some y := ⟨_, List.getElem?_eq_getElem (by have := HOL.out; omega)⟩
            obtain ⟨g, o1, rfl, hg, ca⟩ := HF4.out.row hlt (by omega)
            obtain ⟨g', o2, rfl, hg', cb⟩ := (HO.out.below (by omega) HB4.out).row hlt (by omega)
            have a0 : w4.cell? ⟨g, o1 + j * 1 + 0, none⟩ = some (.int .i64 (x : Int)) := ca 0 _ (by simp [intsC, intsOf, hx])
            have b0 : w4.cell? ⟨g', o2 + j * 1 + 0, none⟩ = some (.int .i64 (y : Int)) := cb 0 _ (by rw [HZS.out]; simp [intsC, intsOf, hy])
            simp only [Nat.add_zero, Nat.mul_one] at a0 b0
            have hjz : (j : Int) < k := by omega
            by_cases hxy : x = y
            · have hb0 : ((x : Int) != (y : Int)) = false := by simp [hxy]
              have E1 := Lib.hid (show ∀ z, z < j + 1 → o'[z]? = o[z]? from fun z hz => by
                by_cases hzj : z = j
                · rw [hzj, hx, hy, hxy]
                · exact hE.out z (by omega))
              clear ca cb hx hy hE hxy
              go_wp2
              go_quiet (fail)
              go_wp2
              go_roundw
              case rel => exact ⟨j + 1, by omega, by go_num, ⟨_, rfl⟩, E1⟩
              case measure => simp [intOf]; omega
            · have hb0 : ((x : Int) != (y : Int)) = true := by simp only [bne_iff_ne, ne_eq]; omega
              obtain ⟨x', y', ex, ey, hlt2⟩ := HLX.out j hE.out (by rw [hx, hy]; simpa using hxy)
              rw [hx] at ex
              rw [hy] at ey
              injection ex with ex
              injection ey with ey
              have hl2 : (x : Int) < y := by omega
              have hl3 : decide ((x : Int) < y) = true := decide_eq_true hl2
              have hl4 : decide (x < y) = true := decide_eq_true (by omega)
              clear ca cb hx hy hE hxy ex ey hlt2
              go_wp2
              go_quiet (fail)
              go_wp2
              go_quiet (fail)
              go_wp2
              go_ret
              exact ⟨rfl, (((((Star.begin w).of_below HB4.out).drewN _).drewN _).drewN _).below⟩
          · have hkn : j = k := by omega
            have hjz : ¬ (j : Int) < k := by omega
            clear hE
            go_wp2
            go_ret
            exact ⟨rfl, (((Star.begin w).of_below HB4.out).drewN _).below⟩
    · have h7z : (7 : Int) < m := by omega
      generalize longB sts = L
      clear h0
      go_wp2
      go_ret
      exact ⟨rfl, HB2.out⟩
  · have h0b : (E != 0) = true := by simpa using h0
    generalize longB sts = L
    clear h0
    go_wp2
    go_ret
    exact ⟨rfl, HB2.out⟩
end Go.Proofs.Ytljdkfhkpjjfgaa
namespace Go.Proofs.Ytljdkfhkpjjfgaa
open Go.ChangeShapes Go.WideShapes Go.Deep Go.RowKit
set_option linter.unusedVariables false

section
variable {H : Type} {enc : TypeId × Value → H} {w : World} {base : Nat} {spare : Nat → Bool} {held : Bool}
theorem places_arg {A : Option Addr} {len cap : Nat} {d : DataW H} {ps : List MemPlace} (h : DataW.Trod enc Try.prog w base spare held 24 (.slice A len cap) d ps) (hw : ∀ x ∈ d.weights Try.prog 24, x ≤ reachBytes) :
    len * 8 ≤ 140737488351232 ∧ ∃ zs : List Int, Sl w A len 1 (intsC zs) := by
  obtain ⟨hl, hm, zs, hz, hsl⟩ := ints_open Try.underlying24 Try.underlying3 (by kernel_rfl) h
  refine ⟨?_, zs, hsl⟩
  obtain ⟨n, h0⟩ := h
  rcases open_slice Try.underlying24 h0 with ⟨hcs, _⟩ | ⟨a, len', cap', m, n', D, Pl, hcs, _, hl', hm', hmm, hx, hi⟩
  · simp [Value.cells] at hcs
    obtain ⟨rfl, rfl, rfl⟩ := hcs
    omega
  · simp [Value.cells] at hcs
    obtain ⟨rfl, rfl, rfl⟩ := hcs
    simp only [Prod.mk.injEq] at hx
    obtain ⟨rfl, _⟩ := hx
    have hb : Try.prog.bytesOf 3 = 8 := by kernel_rfl
    have := hw ((List.length ((List.range len).map D) + List.length ((List.range (m - len)).map fun j => D (len + j))) * Try.prog.bytesOf 3) (by simp only [DataW.weights, Try.underlying24]; exact List.mem_cons_self)
    rw [hb] at this
    simp only [List.length_map, List.length_range, reachBytes] at this
    omega
end
end Go.Proofs.Ytljdkfhkpjjfgaa
