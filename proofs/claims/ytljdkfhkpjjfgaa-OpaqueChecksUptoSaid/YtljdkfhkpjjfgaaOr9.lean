/- OpaqueChecks' walk: lemmas for the laws of layer 22. -/
import Derived.Test.YtljdkfhkpjjfgaaOr8
namespace Go.Proofs.Ytljdkfhkpjjfgaa
open Go.RowKit Go.Shelf
set_option linter.unusedVariables false

set_option maxRecDepth 100000 in
set_option maxHeartbeats 6400000 in
theorem checks_walk (X : Nat) (SA : Option Addr) (sn sc : Nat) (st : List Int) (B : Option Addr) (m d : Nat) (sts : List Sto) (vs : List Value) (A : Option Addr) (k c : Nat) (zs : List Int) (w : World)
    (hST : Sl w SA sn 1 (intsC st)) (hsb : sn * 8 ≤ 140737488355328) (hT : Stories w B m sts vs) (hbm : m * 96 ≤ 140737488355328) (hO : Sl w A k 1 (intsC zs)) (hb : k * 8 ≤ 140737488355328) (hX : ∀ s ∈ sts, s.moves.length ≤ X) (hXb : m * X * 16 ≤ 140737488355328) :
    Calls Try.prog 5 #[.slice SA sn sc, .slice B m d, .slice A k c] w fun e w' => e = .returned (.bool true) ∧ Below w.heap.size w w' := by
  obtain ⟨i0, hi0, hz0, hz1, hz2⟩ := info_parts Try.info3
  have HST := Lib.hid hST
  have HT := Lib.hid hT
  have HO := Lib.hid hO
  have HX := Lib.hid hX
  clear hST hT hO hX
  go_enter Try.func5, Try.ntmps5
  go_wp2_with fail
  refine (awake_any _).mono ?_
  rintro e' w1 ⟨rfl, hb1⟩
  have S1 := ((Star.begin w).of_below hb1).rowNil 3 1
  have SRC := Lib.hid (HO.out.below (by omega) hb1).src
  clear hb1
  go_wp2_with (at_builtin; refine wpList_append_star_any rfl _ _ 24 rfl 3 i0 _ 1 8 Try.underlying24 hi0 hz0 hz1 hz2 rfl (by decide) _ 0 _ rfl S1 A k c (intsC zs) rfl (by have := HO.out.1; exact this) SRC.out (intsC_one zs) (by simp only [maxLen]; omega) (by omega) ?_; intro a' q' w2 h2; simp only [Nat.zero_add, List.nil_append] at h2 ⊢; have H2 := Lib.hid h2; clear h2 S1 SRC)
  have hb2 := (H2.out.pull 1).below
  refine (check_any SA sn sc st B m d sts vs a' k q' zs w2 (HST.out.below (by omega) hb2) hsb (HT.out.below hb2) hbm H2.out.rowSl hb).mono ?_
  rintro e' w3 ⟨rfl, hb3⟩
  have H3 := Lib.hid (H2.out.of_below hb3)
  clear hb2 hb3 H2
  obtain ⟨E, hE⟩ : ∃ E, (checkP st sts zs).1 = E := ⟨_, rfl⟩
  obtain ⟨F, hF⟩ : ∃ F, (checkP st sts zs).2 = F := ⟨_, rfl⟩
  rw [hE, hF]
  have HE := Lib.hid (⟨hE, hF⟩ : _ ∧ _)
  clear hE hF
  go_wp2_with fail
  have hb3 := (H3.out.pull 1).below
  refine (check_doc X SA sn sc st B m d sts vs A k c zs w3 (HST.out.below (by omega) hb3) hsb (HT.out.below hb3) hbm (HO.out.below (by omega) hb3) hb HX.out hXb).mono ?_
  rintro e' w4 ⟨rfl, hb4⟩
  have H4 := Lib.hid (H3.out.of_below hb4)
  rw [HE.out.1, HE.out.2]
  clear hb3 hb4 H3
  go_wp2_with fail
  have hb4 := (H4.out.pull 1).below
  refine (order_ref B m d sts vs w4 (HT.out.below hb4) hbm).mono ?_
  rintro e' w5 ⟨a2, q2, rfl, h5⟩
  rw [natsC_ints] at h5
  have H5 := Lib.hid (h5.frame (L := [_]) H4.out)
  clear h5 hb4 H4
  go_wp2_with fail
  have hb5 := (H5.out.pull 2).below
  refine (check_any SA sn sc st B m d sts vs a2 m q2 _ w5 (HST.out.below (by omega) hb5) hsb (HT.out.below hb5) hbm H5.out.rowSl (by omega)).mono ?_
  rintro e' w6 ⟨rfl, hb6⟩
  have H6 := Lib.hid (H5.out.of_below hb6)
  clear hb5 hb6 H5
  obtain ⟨G, hG⟩ : ∃ G, (checkP st sts (intsOf (orderOf sts))).1 = G := ⟨_, rfl⟩
  obtain ⟨K, hK⟩ : ∃ K, (checkP st sts (intsOf (orderOf sts))).2 = K := ⟨_, rfl⟩
  rw [hG, hK]
  have HG := Lib.hid (⟨hG, hK⟩ : _ ∧ _)
  clear hG hK
  go_wp2_with fail
  have hb6 := (H6.out.pull 2).below
  refine (check_doc X SA sn sc st B m d sts vs a2 m q2 _ w6 (HST.out.below (by omega) hb6) hsb (HT.out.below hb6) hbm H6.out.rowSl (by omega) HX.out hXb).mono ?_
  rintro e' w7 ⟨rfl, hb7⟩
  have H7 := Lib.hid (H6.out.of_below hb7)
  rw [HG.out.1, HG.out.2]
  clear hb6 hb7 H6
  go_wp2_with fail
  have hb7 := (H7.out.pull 2).below
  refine (sameInts_any zs zs a' A k k q' c w7 (H7.out.pull 1).rowSl (HO.out.below (by omega) hb7) (by omega)).mono ?_
  rintro e' w8 ⟨rfl, n, rfl⟩
  have H8 := Lib.hid (below_next hb7 (below_drew w7 n))
  have h1 : (E == E) = true := by simp
  have h2 : (F == F) = true := by simp
  have h3 : (G == G) = true := by simp
  have h4 : (K == K) = true := by simp
  clear hb7 H7
  go_wp2
  go_ret
  exact ⟨rfl, H8.out⟩
end Go.Proofs.Ytljdkfhkpjjfgaa
