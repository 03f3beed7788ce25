/- OpaqueSearches' walk: lemmas for the laws of layer 22. -/
import Derived.Test.YtljdkfhkpjjfgaaOsB
namespace Go.Proofs.Ytljdkfhkpjjfgaa
open Go.RowKit Go.Shelf
set_option linter.unusedVariables false

theorem moves_le : ∀ {sts : List Sto} {s : Sto}, s ∈ sts → s.moves.length ≤ movesN sts
  | [], _, h => nomatch h
  | a :: r, s, h => by
    rw [movesN]
    rcases List.mem_cons.1 h with rfl | h
    · omega
    · have := moves_le h; omega
set_option maxRecDepth 100000 in
set_option maxHeartbeats 6400000 in
theorem searches_walk (SA : Option Addr) (sn sc : Nat) (st : List Int) (B : Option Addr) (m d : Nat) (sts : List Sto) (vs : List Value) (w : World)
    (hST : Sl w SA sn 1 (intsC st)) (hsb : sn * 8 ≤ 140737488355328) (hT : Stories w B m sts vs) (hbm : m * 96 ≤ 140737488355328) :
    Calls Try.prog 6 #[.slice SA sn sc, .slice B m d] w fun e w' => e = .returned (.bool true) ∧ Below w.heap.size w w' := by
  have HST := Lib.hid hST
  have HT := Lib.hid hT
  clear hST hT
  go_enter Try.func6, Try.ntmps6
  go_wp2_with fail
  refine (awake_any _).mono ?_
  rintro e' w1 ⟨rfl, hb1⟩
  have HB1 := Lib.hid hb1
  clear hb1
  go_wp2_with fail
  refine (long_any B m d sts vs w1 (HT.out.below HB1.out) hbm).mono ?_
  rintro e' w1' ⟨rfl, rfl⟩
  obtain ⟨L, hL⟩ : ∃ L, longB sts = L := ⟨_, rfl⟩
  rw [hL]
  have HL := Lib.hid hL
  clear hL
  have hw : ∀ (hX : m ≤ 7 → ∀ s ∈ sts, s.moves.length ≤ 300), Calls Try.prog 17 #[.slice SA sn sc, .slice B m d] w1 (SrchR w1 (srchP st sts) (srchE sts)) ∧ ∀ w2, Below w1.heap.size w1 w2 → Calls Try.prog 18 #[.slice SA sn sc, .slice B m d] w2 (SrchR w2 (srchP st sts) (srchE sts)) := fun hX =>
    ⟨search_any SA sn sc st B m d sts vs w1 (HST.out.below (by omega) HB1.out) hsb (HT.out.below HB1.out) hbm, fun w2 hb => search_doc 300 SA sn sc st B m d sts vs w2 (HST.out.below (by omega) (below_next HB1.out hb)) hsb (HT.out.below (below_next HB1.out hb)) hbm hX (by omega)⟩
  by_cases hc : L = true ∧ m ≤ 7
  · obtain ⟨rfl, h7⟩ := hc
    have h7z : (m : Int) ≤ 7 := by omega
    clear hw
    go_wp2
    go_ret
    exact ⟨rfl, HB1.out⟩
  · have hX : m ≤ 7 → ∀ s ∈ sts, s.moves.length ≤ 300 := fun h7 s hs => by
      have hLf : L = false := by
        cases L with
        | false => rfl
        | true => exact absurd ⟨rfl, h7⟩ hc
      have h1 := HL.out
      rw [hLf, longB, decide_eq_false_iff_not] at h1
      have := moves_le hs
      omega
    obtain ⟨hA, hB⟩ := hw hX
    obtain ⟨T, hT⟩ : ∃ T, srchP st sts = T := ⟨_, rfl⟩
    obtain ⟨E, hE⟩ : ∃ E, srchE sts = E := ⟨_, rfl⟩
    rw [hT, hE] at hA hB
    have HA := Lib.hid hA
    have HBB := Lib.hid hB
    have hL2 : L = false ∨ L = true ∧ ¬ (m : Int) ≤ 7 := by
      cases L with
      | false => exact .inl rfl
      | true => exact .inr ⟨rfl, fun h => hc ⟨rfl, by omega⟩⟩
    clear hA hB hw hX hc hT hE
    rcases hL2 with rfl | ⟨rfl, h7⟩
    all_goals
      go_wp2_with fail
      refine HA.out.mono ?_
      rintro e' w2 ⟨a, q, rfl, h2⟩
      have H2 := Lib.hid h2
      have HBX := Lib.hid (HBB.out w2 (h2.pull 1).below)
      clear h2 HA HBB
      go_wp2_with fail
      refine HBX.out.mono ?_
      rintro e' w3 ⟨a', q', rfl, h3⟩
      have h4 := h3.frame (L := [_]) H2.out
      have hx : Sl w3 a (T.getD []).length 1 (intsC (intsOf (T.getD []))) := by have := (h4.pull 1).rowSl; rwa [natsC_ints] at this
      have hy : Sl w3 a' (T.getD []).length 1 (intsC (intsOf (T.getD []))) := by have := h4.rowSl; rwa [natsC_ints] at this
      have hlb := (h4.rowCap).1
      have hlb2 := (h4.rowCap).2
      unfold maxLen at hlb2
      have SI := Lib.hid (sameInts_any _ _ a a' (T.getD []).length (T.getD []).length q q' w3 hx hy (by omega))
      have HB3 := Lib.hid (below_next HB1.out (h4.pull 2).below)
      clear h3 h4 hx hy H2 HBX
      generalize (T.getD []).length = n at SI hlb ⊢
      go_wp2_with fail
      refine SI.out.mono ?_
      rintro e' w4 ⟨rfl, k, rfl⟩
      have HB4 := Lib.hid (below_next HB3.out (below_drew w3 k))
      have hEE : (E == E) = true := by simp
      clear HB3 SI
      cases T with
      | none =>
        go_wp2
        go_ret
        exact ⟨rfl, HB4.out⟩
      | some o =>
        go_wp2
        go_ret
        exact ⟨rfl, HB4.out⟩
end Go.Proofs.Ytljdkfhkpjjfgaa
