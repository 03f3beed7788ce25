/- OpaqueSwaps' walk: lemmas for the laws of layer 22. -/
import Derived.Test.YtljdkfhkpjjfgaaOqE
namespace Go.Proofs.Ytljdkfhkpjjfgaa
open Go.RowKit Go.Shelf
set_option linter.unusedVariables false

def c0Of (cut : Int) : Int := if cut < 0 then -(cut + 1) else cut
/-- the cells of a story of a row, one by one -/
theorem Stories.cells {w : World} {B : Option Addr} {m : Nat} {sts : List Sto} {vs : List Value} (hT : Stories w B m sts vs) {i : Nat} (hi : i < m) :
    ∃ (s : Sto) (MA : Option Addr) (mk mc g o : Nat), sts[i]? = some s ∧ stAt sts i = s ∧ B = some ⟨g, o, none⟩ ∧ g < w.heap.size ∧ s.moves.length = mk ∧ Sl w MA mk 6 (mvsC s.moves) ∧ mk * 48 ≤ 140737488355328 ∧
      w.cell? ⟨g, o + i * 10, none⟩ = some (.int .i64 s.thread) ∧ w.cell? ⟨g, o + i * 10 + 1, none⟩ = some (.int .i64 s.stamp) ∧ w.cell? ⟨g, o + i * 10 + 2, none⟩ = some (.int .i64 s.begin_) ∧ w.cell? ⟨g, o + i * 10 + 3, none⟩ = some (.int .i64 s.end_) ∧ w.cell? ⟨g, o + i * 10 + 4, none⟩ = some (.int .i64 s.fate) ∧
      w.cell? ⟨g, o + i * 10 + 5, none⟩ = some (.int .i64 s.e) ∧ w.cell? ⟨g, o + i * 10 + 6, none⟩ = some (.int .i64 s.by_) ∧ w.cell? ⟨g, o + i * 10 + 7, none⟩ = some (.int .i64 s.opens) ∧ w.cell? ⟨g, o + i * 10 + 8, none⟩ = some (.int .i64 s.gate) ∧ w.cell? ⟨g, o + i * 10 + 9, none⟩ = some (.slice MA mk mc) := by
  obtain ⟨s, hs⟩ : ∃ s, sts[i]? = some s := ⟨_, List.getElem?_eq_getElem (by have := hT.ns; omega)⟩
  obtain ⟨v, hv⟩ : ∃ v, vs[i]? = some v := ⟨_, List.getElem?_eq_getElem (by have := hT.nv; omega)⟩
  obtain ⟨MA, mk, mc, rfl, hmk, hms, hmb⟩ := hT.mv i s v hs hv
  obtain ⟨g, o, rfl, hg, ca⟩ := hT.row.row hi (by omega)
  have fm : ∀ i' u, (stoC s (.slice MA mk mc))[i']? = some u → i' < 10 → w.cell? ⟨g, o + i * 10 + i', none⟩ = some u := fun i' u hu hi => ca i' u (by rw [stosC_at hs hv hi]; exact hu)
  exact ⟨s, MA, mk, mc, g, o, hs, by rw [stAt, Int.toNat_natCast, hs]; rfl, rfl, hg, hmk, hms, hmb, fm 0 _ rfl (by omega), fm 1 _ rfl (by omega), fm 2 _ rfl (by omega), fm 3 _ rfl (by omega), fm 4 _ rfl (by omega), fm 5 _ rfl (by omega), fm 6 _ rfl (by omega), fm 7 _ rfl (by omega), fm 8 _ rfl (by omega), fm 9 _ rfl (by omega)⟩
theorem sto_one (s : Sto) (a : Option Addr) (k c : Nat) : ∀ u ∈ stoC s (.slice a k c), u.oneCell' = true := by intro u hu; simp only [stoC, List.mem_cons, List.not_mem_nil, or_false] at hu; rcases hu with rfl | rfl | rfl | rfl | rfl | rfl | rfl | rfl | rfl | rfl <;> rfl
/-- the move lists of stories by their places -/
def vsAt (vs : List Value) (zs : List Int) : List Value := zs.map fun z => (vs[z.toNat]?).getD undef
theorem natsC_snoc (l : List Nat) (j : Nat) : natsC (l ++ [j]) = natsC l ++ [.int .i64 j] := by simp [natsC]
/-- stories taken out of a row by their places are such a row -/
theorem Stories.picked {w : World} {B : Option Addr} {m : Nat} {sts : List Sto} {vs : List Value} (hT : Stories w B m sts vs) (zs : List Int) (hz : ∀ z ∈ zs, 0 ≤ z ∧ z < (m : Int)) {A : Option Addr} {n : Nat} (hn : zs.length = n) (hA : Sl w A n 10 (stosC (zs.map (stAt sts)) (vsAt vs zs))) :
    Stories w A n (zs.map (stAt sts)) (vsAt vs zs) := by
  refine ⟨hA, by simpa using hn, by simpa [vsAt] using hn, fun i s v hs hv => ?_⟩
  rw [List.getElem?_map] at hs
  rw [vsAt, List.getElem?_map] at hv
  cases hzi : zs[i]? with
  | none => rw [hzi] at hs; cases hs
  | some z =>
    rw [hzi] at hs hv
    have hb := hz z (List.mem_of_getElem? hzi)
    have h1 : sts[z.toNat]? = some s := by
      have : z.toNat < sts.length := by have := hT.ns; omega
      simp only [Option.map_some, stAt, List.getElem?_eq_getElem this, Option.getD_some] at hs ⊢
      exact hs
    have h2 : vs[z.toNat]? = some v := by
      have : z.toNat < vs.length := by have := hT.nv; omega
      simp only [Option.map_some, List.getElem?_eq_getElem this, Option.getD_some] at hv ⊢
      exact hv
    exact hT.mv z.toNat s v h1 h2
set_option maxRecDepth 100000 in
set_option maxHeartbeats 6400000 in
theorem swaps_walk (SA : Option Addr) (sn sc : Nat) (st : List Int) (B : Option Addr) (m d : Nat) (sts : List Sto) (vs : List Value) (A : Option Addr) (k c : Nat) (zs : List Int) (wh : Int) (w : World)
    (hST : Sl w SA sn 1 (intsC st)) (hsb : sn * 8 ≤ 140737488355328) (hT : Stories w B m sts vs) (hbm : m * 96 ≤ 140737488355328) (hO : Sl w A k 1 (intsC zs)) (hb : k * 8 ≤ 140737488355328) (hwh : -9223372036854775808 ≤ wh ∧ wh ≤ 9223372036854775807) :
    Calls Try.prog 9 #[.slice SA sn sc, .slice B m d, .slice A k c, .int .i64 wh] w fun e w' => e = .returned (.bool true) ∧ Below w.heap.size w w' := by
  have hzk : zs.length = k := by have := hO.1; rw [intsC_len] at this; omega
  have HST := Lib.hid hST
  have HT := Lib.hid hT
  have HO := Lib.hid hO
  obtain ⟨c0, hc0⟩ : ∃ c0 : Nat, c0Of wh = (c0 : Int) := ⟨(c0Of wh).toNat, by unfold c0Of; split <;> omega⟩
  have HC0 := Lib.hid hc0
  have HZK := Lib.hid hzk
  have h63 : c0 ≤ 9223372036854775807 := by have := hc0; unfold c0Of at this; split at this <;> omega
  obtain ⟨hw1, hw2⟩ := hwh
  clear hST hT hO hc0 hzk
  go_enter Try.func9, Try.ntmps9
  go_wp2_with fail
  refine (awake_any _).mono ?_
  rintro e' w1 ⟨rfl, hb1⟩
  have HB1 := Lib.hid hb1
  clear hb1
  go_wp2_with fail
  refine (check_any SA sn sc st B m d sts vs A k c zs w1 (HST.out.below (by omega) HB1.out) hsb (HT.out.below HB1.out) hbm (HO.out.below (by omega) HB1.out) hb).mono ?_
  rintro e' w2 ⟨rfl, hb2⟩
  obtain ⟨E, hE⟩ : ∃ E, (checkP st sts zs).1 = E := ⟨_, rfl⟩
  obtain ⟨F, hF⟩ : ∃ F, (checkP st sts zs).2 = F := ⟨_, rfl⟩
  rw [hE, hF]
  have HE := Lib.hid hE
  have HB2 := Lib.hid (below_next HB1.out hb2)
  clear hb2 HB1 hE hF
  by_cases h0 : E = 0
  case neg =>
    have h0b : (E != 0) = true := by simpa using h0
    clear h0
    go_wp2
    go_ret
    exact ⟨rfl, HB2.out⟩
  have h0b : (E != 0) = false := by simpa using h0
  by_cases hk2 : k < 2
  case pos =>
    have hk2z : (k : Int) < 2 := by omega
    clear h0
    go_wp2
    go_ret
    exact ⟨rfl, HB2.out⟩
  have hk2z : ¬ (k : Int) < 2 := by omega
  have HCK := Lib.hid (check_zero (HE.out.trans h0))
  clear h0
  go_upto_if 42 with fail
  go_cut [3] (fun v wx => v = .int .i64 (c0 : Int) ∧ wx = w2)
  case first =>
    by_cases hneg : wh < 0
    · have e1 : -(wh + 1) = (c0 : Int) := by have := HC0.out; unfold c0Of at this; rw [if_pos hneg] at this; exact this
      have E1 := Lib.hid e1
      clear e1
      go_wp2
      go_meet
      exact ⟨by rw [E1.out], rfl⟩
    · have e1 : wh = (c0 : Int) := by have := HC0.out; unfold c0Of at this; rw [if_neg hneg] at this; exact this
      have E1 := Lib.hid e1
      clear e1
      go_wp2
      go_meet
      exact ⟨by rw [E1.out], rfl⟩
  case rest =>
    obtain ⟨rfl, rfl⟩ := hcut
    obtain ⟨w2, rfl⟩ : ∃ w2 : World, w2 = wc := ⟨_, rfl⟩
    obtain ⟨t, ht⟩ : ∃ t : Nat, t = c0 % (k - 1) := ⟨_, rfl⟩
    have htk : t + 1 < k := by have := Nat.mod_lt c0 (show 0 < k - 1 by omega); omega
    have htz : (c0 : Int) % ((k : Int) - 1) = (t : Int) := by rw [ht]; have : ((k : Int) - 1) = ((k - 1 : Nat) : Int) := by omega
                                                              rw [this, Int.natCast_emod]
    have HTZ := Lib.hid htz
    clear htz ht
    go_upto_block 8 with fail
    rw [HTZ.out]
    have hT2 := HT.out.below HB2.out
    have hO2 := HO.out.below (by omega) HB2.out
    have hall := ((evP_iff zs []).1 ((check_S st sts zs).1 HCK.out).1).1
    obtain ⟨x, hx⟩ : ∃ x, zs[t]? = some x := ⟨_, List.getElem?_eq_getElem (by have := HZK.out; omega)⟩
    obtain ⟨y, hy⟩ : ∃ y, zs[t + 1]? = some y := ⟨_, List.getElem?_eq_getElem (by have := HZK.out; omega)⟩
    have hns := HT.out.ns
    obtain ⟨i, rfl⟩ : ∃ i : Nat, x = i := ⟨x.toNat, by have := hall x (List.mem_of_getElem? hx); omega⟩
    obtain ⟨j, rfl⟩ : ∃ j : Nat, y = j := ⟨y.toNat, by have := hall y (List.mem_of_getElem? hy); omega⟩
    have him : i < m := by have := hall i (List.mem_of_getElem? hx); omega
    have hjm : j < m := by have := hall j (List.mem_of_getElem? hy); omega
    obtain ⟨a, MA, mk, mc, g, o, hsa, hst1, rfl, hg, hmk, hms, hmb, a0, a1, a2, a3, a4, a5, a6, a7, a8, a9⟩ := hT2.cells him
    obtain ⟨b, NA, nk, nc, g', o', hsb2, hst2, eB, hg', hnk, hns2, hnb, b0, b1, b2, b3, b4, b5, b6, b7, b8, b9⟩ := hT2.cells hjm
    injection eB with eB
    injection eB with e1 e2 e3
    subst e1 e2
    obtain ⟨gO, oO, rfl, hgO, ca⟩ := hO2.row (show t < k from by omega) (by omega)
    obtain ⟨gO', oO', eO, -, cb⟩ := hO2.row htk (by omega)
    injection eO with eO
    injection eO with e1 e2 e3
    subst e1 e2
    have z0 : w2.cell? ⟨gO, oO + t, none⟩ = some (.int .i64 i) := by have := ca 0 _ (by rw [Nat.mul_one, Nat.add_zero]; exact intsC_get hx); simpa using this
    have h1 := (Star.begin w2).new (.cells #[.int .i64 a.thread, .int .i64 a.stamp, .int .i64 a.begin_, .int .i64 a.end_, .int .i64 a.fate, .int .i64 a.e, .int .i64 a.by_, .int .i64 a.opens, .int .i64 a.gate, .slice MA mk mc] 44)
    have z1 : (w2.alloc (.cells #[.int .i64 a.thread, .int .i64 a.stamp, .int .i64 a.begin_, .int .i64 a.end_, .int .i64 a.fate, .int .i64 a.e, .int .i64 a.by_, .int .i64 a.opens, .int .i64 a.gate, .slice MA mk mc] 44)).cell? ⟨gO, oO + (t + 1), none⟩ = some (.int .i64 j) := ((h1.pull 1).oldCell hgO).trans (by have := cb 0 _ (by rw [Nat.mul_one, Nat.add_zero]; exact intsC_get hy); simpa using this)
    have b0 : (w2.alloc (.cells #[.int .i64 a.thread, .int .i64 a.stamp, .int .i64 a.begin_, .int .i64 a.end_, .int .i64 a.fate, .int .i64 a.e, .int .i64 a.by_, .int .i64 a.opens, .int .i64 a.gate, .slice MA mk mc] 44)).cell? ⟨g, o + j * 10, none⟩ = some (.int .i64 b.thread) := ((h1.pull 1).oldCell hg).trans b0
    have b1 : (w2.alloc (.cells #[.int .i64 a.thread, .int .i64 a.stamp, .int .i64 a.begin_, .int .i64 a.end_, .int .i64 a.fate, .int .i64 a.e, .int .i64 a.by_, .int .i64 a.opens, .int .i64 a.gate, .slice MA mk mc] 44)).cell? ⟨g, o + j * 10 + 1, none⟩ = some (.int .i64 b.stamp) := ((h1.pull 1).oldCell hg).trans b1
    have b2 : (w2.alloc (.cells #[.int .i64 a.thread, .int .i64 a.stamp, .int .i64 a.begin_, .int .i64 a.end_, .int .i64 a.fate, .int .i64 a.e, .int .i64 a.by_, .int .i64 a.opens, .int .i64 a.gate, .slice MA mk mc] 44)).cell? ⟨g, o + j * 10 + 2, none⟩ = some (.int .i64 b.begin_) := ((h1.pull 1).oldCell hg).trans b2
    have b3 : (w2.alloc (.cells #[.int .i64 a.thread, .int .i64 a.stamp, .int .i64 a.begin_, .int .i64 a.end_, .int .i64 a.fate, .int .i64 a.e, .int .i64 a.by_, .int .i64 a.opens, .int .i64 a.gate, .slice MA mk mc] 44)).cell? ⟨g, o + j * 10 + 3, none⟩ = some (.int .i64 b.end_) := ((h1.pull 1).oldCell hg).trans b3
    have b4 : (w2.alloc (.cells #[.int .i64 a.thread, .int .i64 a.stamp, .int .i64 a.begin_, .int .i64 a.end_, .int .i64 a.fate, .int .i64 a.e, .int .i64 a.by_, .int .i64 a.opens, .int .i64 a.gate, .slice MA mk mc] 44)).cell? ⟨g, o + j * 10 + 4, none⟩ = some (.int .i64 b.fate) := ((h1.pull 1).oldCell hg).trans b4
    have b5 : (w2.alloc (.cells #[.int .i64 a.thread, .int .i64 a.stamp, .int .i64 a.begin_, .int .i64 a.end_, .int .i64 a.fate, .int .i64 a.e, .int .i64 a.by_, .int .i64 a.opens, .int .i64 a.gate, .slice MA mk mc] 44)).cell? ⟨g, o + j * 10 + 5, none⟩ = some (.int .i64 b.e) := ((h1.pull 1).oldCell hg).trans b5
    have b6 : (w2.alloc (.cells #[.int .i64 a.thread, .int .i64 a.stamp, .int .i64 a.begin_, .int .i64 a.end_, .int .i64 a.fate, .int .i64 a.e, .int .i64 a.by_, .int .i64 a.opens, .int .i64 a.gate, .slice MA mk mc] 44)).cell? ⟨g, o + j * 10 + 6, none⟩ = some (.int .i64 b.by_) := ((h1.pull 1).oldCell hg).trans b6
    have b7 : (w2.alloc (.cells #[.int .i64 a.thread, .int .i64 a.stamp, .int .i64 a.begin_, .int .i64 a.end_, .int .i64 a.fate, .int .i64 a.e, .int .i64 a.by_, .int .i64 a.opens, .int .i64 a.gate, .slice MA mk mc] 44)).cell? ⟨g, o + j * 10 + 7, none⟩ = some (.int .i64 b.opens) := ((h1.pull 1).oldCell hg).trans b7
    have b8 : (w2.alloc (.cells #[.int .i64 a.thread, .int .i64 a.stamp, .int .i64 a.begin_, .int .i64 a.end_, .int .i64 a.fate, .int .i64 a.e, .int .i64 a.by_, .int .i64 a.opens, .int .i64 a.gate, .slice MA mk mc] 44)).cell? ⟨g, o + j * 10 + 8, none⟩ = some (.int .i64 b.gate) := ((h1.pull 1).oldCell hg).trans b8
    have b9 : (w2.alloc (.cells #[.int .i64 a.thread, .int .i64 a.stamp, .int .i64 a.begin_, .int .i64 a.end_, .int .i64 a.fate, .int .i64 a.e, .int .i64 a.by_, .int .i64 a.opens, .int .i64 a.gate, .slice MA mk mc] 44)).cell? ⟨g, o + j * 10 + 9, none⟩ = some (.slice NA nk nc) := ((h1.pull 1).oldCell hg).trans b9
    have h2 := h1.new (.cells #[.int .i64 b.thread, .int .i64 b.stamp, .int .i64 b.begin_, .int .i64 b.end_, .int .i64 b.fate, .int .i64 b.e, .int .i64 b.by_, .int .i64 b.opens, .int .i64 b.gate, .slice NA nk nc] 44)
    simp only [World.size_alloc] at h2
    have c00 : ((w2.alloc (.cells #[.int .i64 a.thread, .int .i64 a.stamp, .int .i64 a.begin_, .int .i64 a.end_, .int .i64 a.fate, .int .i64 a.e, .int .i64 a.by_, .int .i64 a.opens, .int .i64 a.gate, .slice MA mk mc] 44)).alloc (.cells #[.int .i64 b.thread, .int .i64 b.stamp, .int .i64 b.begin_, .int .i64 b.end_, .int .i64 b.fate, .int .i64 b.e, .int .i64 b.by_, .int .i64 b.opens, .int .i64 b.gate, .slice NA nk nc] 44)).cell? ⟨w2.heap.size, 0, none⟩ = some (.int .i64 a.thread) := ((h2.pull 1).cell 0).trans rfl
    have c1 : ((w2.alloc (.cells #[.int .i64 a.thread, .int .i64 a.stamp, .int .i64 a.begin_, .int .i64 a.end_, .int .i64 a.fate, .int .i64 a.e, .int .i64 a.by_, .int .i64 a.opens, .int .i64 a.gate, .slice MA mk mc] 44)).alloc (.cells #[.int .i64 b.thread, .int .i64 b.stamp, .int .i64 b.begin_, .int .i64 b.end_, .int .i64 b.fate, .int .i64 b.e, .int .i64 b.by_, .int .i64 b.opens, .int .i64 b.gate, .slice NA nk nc] 44)).cell? ⟨w2.heap.size, 1, none⟩ = some (.int .i64 a.stamp) := ((h2.pull 1).cell 1).trans rfl
    have c2 : ((w2.alloc (.cells #[.int .i64 a.thread, .int .i64 a.stamp, .int .i64 a.begin_, .int .i64 a.end_, .int .i64 a.fate, .int .i64 a.e, .int .i64 a.by_, .int .i64 a.opens, .int .i64 a.gate, .slice MA mk mc] 44)).alloc (.cells #[.int .i64 b.thread, .int .i64 b.stamp, .int .i64 b.begin_, .int .i64 b.end_, .int .i64 b.fate, .int .i64 b.e, .int .i64 b.by_, .int .i64 b.opens, .int .i64 b.gate, .slice NA nk nc] 44)).cell? ⟨w2.heap.size, 2, none⟩ = some (.int .i64 a.begin_) := ((h2.pull 1).cell 2).trans rfl
    have c3 : ((w2.alloc (.cells #[.int .i64 a.thread, .int .i64 a.stamp, .int .i64 a.begin_, .int .i64 a.end_, .int .i64 a.fate, .int .i64 a.e, .int .i64 a.by_, .int .i64 a.opens, .int .i64 a.gate, .slice MA mk mc] 44)).alloc (.cells #[.int .i64 b.thread, .int .i64 b.stamp, .int .i64 b.begin_, .int .i64 b.end_, .int .i64 b.fate, .int .i64 b.e, .int .i64 b.by_, .int .i64 b.opens, .int .i64 b.gate, .slice NA nk nc] 44)).cell? ⟨w2.heap.size, 3, none⟩ = some (.int .i64 a.end_) := ((h2.pull 1).cell 3).trans rfl
    have c4 : ((w2.alloc (.cells #[.int .i64 a.thread, .int .i64 a.stamp, .int .i64 a.begin_, .int .i64 a.end_, .int .i64 a.fate, .int .i64 a.e, .int .i64 a.by_, .int .i64 a.opens, .int .i64 a.gate, .slice MA mk mc] 44)).alloc (.cells #[.int .i64 b.thread, .int .i64 b.stamp, .int .i64 b.begin_, .int .i64 b.end_, .int .i64 b.fate, .int .i64 b.e, .int .i64 b.by_, .int .i64 b.opens, .int .i64 b.gate, .slice NA nk nc] 44)).cell? ⟨w2.heap.size, 4, none⟩ = some (.int .i64 a.fate) := ((h2.pull 1).cell 4).trans rfl
    have c5 : ((w2.alloc (.cells #[.int .i64 a.thread, .int .i64 a.stamp, .int .i64 a.begin_, .int .i64 a.end_, .int .i64 a.fate, .int .i64 a.e, .int .i64 a.by_, .int .i64 a.opens, .int .i64 a.gate, .slice MA mk mc] 44)).alloc (.cells #[.int .i64 b.thread, .int .i64 b.stamp, .int .i64 b.begin_, .int .i64 b.end_, .int .i64 b.fate, .int .i64 b.e, .int .i64 b.by_, .int .i64 b.opens, .int .i64 b.gate, .slice NA nk nc] 44)).cell? ⟨w2.heap.size, 5, none⟩ = some (.int .i64 a.e) := ((h2.pull 1).cell 5).trans rfl
    have c6 : ((w2.alloc (.cells #[.int .i64 a.thread, .int .i64 a.stamp, .int .i64 a.begin_, .int .i64 a.end_, .int .i64 a.fate, .int .i64 a.e, .int .i64 a.by_, .int .i64 a.opens, .int .i64 a.gate, .slice MA mk mc] 44)).alloc (.cells #[.int .i64 b.thread, .int .i64 b.stamp, .int .i64 b.begin_, .int .i64 b.end_, .int .i64 b.fate, .int .i64 b.e, .int .i64 b.by_, .int .i64 b.opens, .int .i64 b.gate, .slice NA nk nc] 44)).cell? ⟨w2.heap.size, 6, none⟩ = some (.int .i64 a.by_) := ((h2.pull 1).cell 6).trans rfl
    have c7 : ((w2.alloc (.cells #[.int .i64 a.thread, .int .i64 a.stamp, .int .i64 a.begin_, .int .i64 a.end_, .int .i64 a.fate, .int .i64 a.e, .int .i64 a.by_, .int .i64 a.opens, .int .i64 a.gate, .slice MA mk mc] 44)).alloc (.cells #[.int .i64 b.thread, .int .i64 b.stamp, .int .i64 b.begin_, .int .i64 b.end_, .int .i64 b.fate, .int .i64 b.e, .int .i64 b.by_, .int .i64 b.opens, .int .i64 b.gate, .slice NA nk nc] 44)).cell? ⟨w2.heap.size, 7, none⟩ = some (.int .i64 a.opens) := ((h2.pull 1).cell 7).trans rfl
    have c8 : ((w2.alloc (.cells #[.int .i64 a.thread, .int .i64 a.stamp, .int .i64 a.begin_, .int .i64 a.end_, .int .i64 a.fate, .int .i64 a.e, .int .i64 a.by_, .int .i64 a.opens, .int .i64 a.gate, .slice MA mk mc] 44)).alloc (.cells #[.int .i64 b.thread, .int .i64 b.stamp, .int .i64 b.begin_, .int .i64 b.end_, .int .i64 b.fate, .int .i64 b.e, .int .i64 b.by_, .int .i64 b.opens, .int .i64 b.gate, .slice NA nk nc] 44)).cell? ⟨w2.heap.size, 8, none⟩ = some (.int .i64 a.gate) := ((h2.pull 1).cell 8).trans rfl
    have c9 : ((w2.alloc (.cells #[.int .i64 a.thread, .int .i64 a.stamp, .int .i64 a.begin_, .int .i64 a.end_, .int .i64 a.fate, .int .i64 a.e, .int .i64 a.by_, .int .i64 a.opens, .int .i64 a.gate, .slice MA mk mc] 44)).alloc (.cells #[.int .i64 b.thread, .int .i64 b.stamp, .int .i64 b.begin_, .int .i64 b.end_, .int .i64 b.fate, .int .i64 b.e, .int .i64 b.by_, .int .i64 b.opens, .int .i64 b.gate, .slice NA nk nc] 44)).cell? ⟨w2.heap.size, 9, none⟩ = some (.slice MA mk mc) := ((h2.pull 1).cell 9).trans rfl
    have d0 : ((w2.alloc (.cells #[.int .i64 a.thread, .int .i64 a.stamp, .int .i64 a.begin_, .int .i64 a.end_, .int .i64 a.fate, .int .i64 a.e, .int .i64 a.by_, .int .i64 a.opens, .int .i64 a.gate, .slice MA mk mc] 44)).alloc (.cells #[.int .i64 b.thread, .int .i64 b.stamp, .int .i64 b.begin_, .int .i64 b.end_, .int .i64 b.fate, .int .i64 b.e, .int .i64 b.by_, .int .i64 b.opens, .int .i64 b.gate, .slice NA nk nc] 44)).cell? ⟨w2.heap.size + 1, 0, none⟩ = some (.int .i64 b.thread) := ((h2).cell 0).trans rfl
    have d1 : ((w2.alloc (.cells #[.int .i64 a.thread, .int .i64 a.stamp, .int .i64 a.begin_, .int .i64 a.end_, .int .i64 a.fate, .int .i64 a.e, .int .i64 a.by_, .int .i64 a.opens, .int .i64 a.gate, .slice MA mk mc] 44)).alloc (.cells #[.int .i64 b.thread, .int .i64 b.stamp, .int .i64 b.begin_, .int .i64 b.end_, .int .i64 b.fate, .int .i64 b.e, .int .i64 b.by_, .int .i64 b.opens, .int .i64 b.gate, .slice NA nk nc] 44)).cell? ⟨w2.heap.size + 1, 1, none⟩ = some (.int .i64 b.stamp) := ((h2).cell 1).trans rfl
    have d2 : ((w2.alloc (.cells #[.int .i64 a.thread, .int .i64 a.stamp, .int .i64 a.begin_, .int .i64 a.end_, .int .i64 a.fate, .int .i64 a.e, .int .i64 a.by_, .int .i64 a.opens, .int .i64 a.gate, .slice MA mk mc] 44)).alloc (.cells #[.int .i64 b.thread, .int .i64 b.stamp, .int .i64 b.begin_, .int .i64 b.end_, .int .i64 b.fate, .int .i64 b.e, .int .i64 b.by_, .int .i64 b.opens, .int .i64 b.gate, .slice NA nk nc] 44)).cell? ⟨w2.heap.size + 1, 2, none⟩ = some (.int .i64 b.begin_) := ((h2).cell 2).trans rfl
    have d3 : ((w2.alloc (.cells #[.int .i64 a.thread, .int .i64 a.stamp, .int .i64 a.begin_, .int .i64 a.end_, .int .i64 a.fate, .int .i64 a.e, .int .i64 a.by_, .int .i64 a.opens, .int .i64 a.gate, .slice MA mk mc] 44)).alloc (.cells #[.int .i64 b.thread, .int .i64 b.stamp, .int .i64 b.begin_, .int .i64 b.end_, .int .i64 b.fate, .int .i64 b.e, .int .i64 b.by_, .int .i64 b.opens, .int .i64 b.gate, .slice NA nk nc] 44)).cell? ⟨w2.heap.size + 1, 3, none⟩ = some (.int .i64 b.end_) := ((h2).cell 3).trans rfl
    have d4 : ((w2.alloc (.cells #[.int .i64 a.thread, .int .i64 a.stamp, .int .i64 a.begin_, .int .i64 a.end_, .int .i64 a.fate, .int .i64 a.e, .int .i64 a.by_, .int .i64 a.opens, .int .i64 a.gate, .slice MA mk mc] 44)).alloc (.cells #[.int .i64 b.thread, .int .i64 b.stamp, .int .i64 b.begin_, .int .i64 b.end_, .int .i64 b.fate, .int .i64 b.e, .int .i64 b.by_, .int .i64 b.opens, .int .i64 b.gate, .slice NA nk nc] 44)).cell? ⟨w2.heap.size + 1, 4, none⟩ = some (.int .i64 b.fate) := ((h2).cell 4).trans rfl
    have d5 : ((w2.alloc (.cells #[.int .i64 a.thread, .int .i64 a.stamp, .int .i64 a.begin_, .int .i64 a.end_, .int .i64 a.fate, .int .i64 a.e, .int .i64 a.by_, .int .i64 a.opens, .int .i64 a.gate, .slice MA mk mc] 44)).alloc (.cells #[.int .i64 b.thread, .int .i64 b.stamp, .int .i64 b.begin_, .int .i64 b.end_, .int .i64 b.fate, .int .i64 b.e, .int .i64 b.by_, .int .i64 b.opens, .int .i64 b.gate, .slice NA nk nc] 44)).cell? ⟨w2.heap.size + 1, 5, none⟩ = some (.int .i64 b.e) := ((h2).cell 5).trans rfl
    have d6 : ((w2.alloc (.cells #[.int .i64 a.thread, .int .i64 a.stamp, .int .i64 a.begin_, .int .i64 a.end_, .int .i64 a.fate, .int .i64 a.e, .int .i64 a.by_, .int .i64 a.opens, .int .i64 a.gate, .slice MA mk mc] 44)).alloc (.cells #[.int .i64 b.thread, .int .i64 b.stamp, .int .i64 b.begin_, .int .i64 b.end_, .int .i64 b.fate, .int .i64 b.e, .int .i64 b.by_, .int .i64 b.opens, .int .i64 b.gate, .slice NA nk nc] 44)).cell? ⟨w2.heap.size + 1, 6, none⟩ = some (.int .i64 b.by_) := ((h2).cell 6).trans rfl
    have d7 : ((w2.alloc (.cells #[.int .i64 a.thread, .int .i64 a.stamp, .int .i64 a.begin_, .int .i64 a.end_, .int .i64 a.fate, .int .i64 a.e, .int .i64 a.by_, .int .i64 a.opens, .int .i64 a.gate, .slice MA mk mc] 44)).alloc (.cells #[.int .i64 b.thread, .int .i64 b.stamp, .int .i64 b.begin_, .int .i64 b.end_, .int .i64 b.fate, .int .i64 b.e, .int .i64 b.by_, .int .i64 b.opens, .int .i64 b.gate, .slice NA nk nc] 44)).cell? ⟨w2.heap.size + 1, 7, none⟩ = some (.int .i64 b.opens) := ((h2).cell 7).trans rfl
    have d8 : ((w2.alloc (.cells #[.int .i64 a.thread, .int .i64 a.stamp, .int .i64 a.begin_, .int .i64 a.end_, .int .i64 a.fate, .int .i64 a.e, .int .i64 a.by_, .int .i64 a.opens, .int .i64 a.gate, .slice MA mk mc] 44)).alloc (.cells #[.int .i64 b.thread, .int .i64 b.stamp, .int .i64 b.begin_, .int .i64 b.end_, .int .i64 b.fate, .int .i64 b.e, .int .i64 b.by_, .int .i64 b.opens, .int .i64 b.gate, .slice NA nk nc] 44)).cell? ⟨w2.heap.size + 1, 8, none⟩ = some (.int .i64 b.gate) := ((h2).cell 8).trans rfl
    have d9 : ((w2.alloc (.cells #[.int .i64 a.thread, .int .i64 a.stamp, .int .i64 a.begin_, .int .i64 a.end_, .int .i64 a.fate, .int .i64 a.e, .int .i64 a.by_, .int .i64 a.opens, .int .i64 a.gate, .slice MA mk mc] 44)).alloc (.cells #[.int .i64 b.thread, .int .i64 b.stamp, .int .i64 b.begin_, .int .i64 b.end_, .int .i64 b.fate, .int .i64 b.e, .int .i64 b.by_, .int .i64 b.opens, .int .i64 b.gate, .slice NA nk nc] 44)).cell? ⟨w2.heap.size + 1, 9, none⟩ = some (.slice NA nk nc) := ((h2).cell 9).trans rfl
    have htz0 : (0 : Int) ≤ t := by omega
    have htkz : (t : Int) < k := by omega
    have htkz1 : (t : Int) + 1 < k := by omega
    have himz : (i : Int) < m := by omega
    have hjmz : (j : Int) < m := by omega
    have WA := Lib.hid (writer_any a MA mk mc ((w2.alloc (.cells #[.int .i64 a.thread, .int .i64 a.stamp, .int .i64 a.begin_, .int .i64 a.end_, .int .i64 a.fate, .int .i64 a.e, .int .i64 a.by_, .int .i64 a.opens, .int .i64 a.gate, .slice MA mk mc] 44)).alloc (.cells #[.int .i64 b.thread, .int .i64 b.stamp, .int .i64 b.begin_, .int .i64 b.end_, .int .i64 b.fate, .int .i64 b.e, .int .i64 b.by_, .int .i64 b.opens, .int .i64 b.gate, .slice NA nk nc] 44)) (hms.after (by omega) (h2.pull 2)) hmk hmb)
    have FA := Lib.hid (⟨hx, hy, hst1, hst2, hg, hgO, hms, hmk, hmb, hns2, hnk, hnb⟩ : _ ∧ _ ∧ _ ∧ _ ∧ _ ∧ _ ∧ _ ∧ _ ∧ _ ∧ _ ∧ _ ∧ _)
    have H2 := Lib.hid h2
    clear hx hy hst1 hst2 hms hmk hns2 hnk h1 h2 hall hns hT2 hO2 ca cb hsa hsb2
    go_wp2_with fail
    refine WA.out.mono ?_
    rintro e' w3 ⟨rfl, hb3⟩
    obtain ⟨hx, hy, hst1, hst2, hg, hgO, hms, hmk, hmb, hns2, hnk, hnb⟩ := FA.out
    have h3 := H2.out.of_below hb3
    clear c00 c1 c2 c3 c4 c5 c6 c7 c8 c9 d0 d1 d2 d3 d4 d5 d6 d7 d8 d9 a0 a1 a2 a3 a4 a5 a6 a7 a8 a9 b0 b1 b2 b3 b4 b5 b6 b7 b8 b9 z0 z1 WA hb3 H2
    have d0 : w3.cell? ⟨w2.heap.size + 1, 0, none⟩ = some (.int .i64 b.thread) := ((h3).cell 0).trans rfl
    have d1 : w3.cell? ⟨w2.heap.size + 1, 1, none⟩ = some (.int .i64 b.stamp) := ((h3).cell 1).trans rfl
    have d2 : w3.cell? ⟨w2.heap.size + 1, 2, none⟩ = some (.int .i64 b.begin_) := ((h3).cell 2).trans rfl
    have d3 : w3.cell? ⟨w2.heap.size + 1, 3, none⟩ = some (.int .i64 b.end_) := ((h3).cell 3).trans rfl
    have d4 : w3.cell? ⟨w2.heap.size + 1, 4, none⟩ = some (.int .i64 b.fate) := ((h3).cell 4).trans rfl
    have d5 : w3.cell? ⟨w2.heap.size + 1, 5, none⟩ = some (.int .i64 b.e) := ((h3).cell 5).trans rfl
    have d6 : w3.cell? ⟨w2.heap.size + 1, 6, none⟩ = some (.int .i64 b.by_) := ((h3).cell 6).trans rfl
    have d7 : w3.cell? ⟨w2.heap.size + 1, 7, none⟩ = some (.int .i64 b.opens) := ((h3).cell 7).trans rfl
    have d8 : w3.cell? ⟨w2.heap.size + 1, 8, none⟩ = some (.int .i64 b.gate) := ((h3).cell 8).trans rfl
    have d9 : w3.cell? ⟨w2.heap.size + 1, 9, none⟩ = some (.slice NA nk nc) := ((h3).cell 9).trans rfl
    have WB := Lib.hid (writer_any b NA nk nc w3 (hns2.after (by omega) (h3.pull 2)) hnk hnb)
    have H3 := Lib.hid h3
    clear hx hy hst1 hst2 hms hmk hns2 hnk h3
    obtain ⟨one, h1⟩ : ∃ one, writerB a = one := ⟨_, rfl⟩
    rw [h1]
    have HO1 := Lib.hid h1
    clear h1
    go_wp2_with fail
    refine WB.out.mono ?_
    rintro e' w4 ⟨rfl, hb4⟩
    have h4 := H3.out.of_below hb4
    obtain ⟨two, h2⟩ : ∃ two, writerB b = two := ⟨_, rfl⟩
    rw [h2]
    have HO2 := Lib.hid h2
    clear d0 d1 d2 d3 d4 d5 d6 d7 d8 d9 WB hb4 H3 h2
    have c3 : w4.cell? ⟨w2.heap.size, 3, none⟩ = some (.int .i64 a.end_) := ((h4.pull 1).cell 3).trans rfl
    have d2 : w4.cell? ⟨w2.heap.size + 1, 2, none⟩ = some (.int .i64 b.begin_) := ((h4).cell 2).trans rfl
    have H4 := Lib.hid (h4.pull 2).below
    clear h4
    have hB4 : ∃ cc : Bool, cc = (!one && (!two && !(a.end_ != 0 && decide (a.end_ < b.begin_)))) := ⟨_, rfl⟩
    obtain ⟨cc, hcc⟩ := hB4
    have HCC := Lib.hid hcc
    clear hcc
    go_upto_region 12 with fail
    go_cut [88] (fun v wx => v = .bool cc ∧ wx = w4)
    case first =>
      have hcc := HCC.out
      cases one with
      | true =>
        have E1 := Lib.hid hcc
        clear hcc
        go_wp2
        go_meet
        exact ⟨by rw [E1.out]; rfl, rfl⟩
      | false =>
        cases two with
        | true =>
          have E1 := Lib.hid hcc
          clear hcc
          go_wp2
          go_meet
          exact ⟨by rw [E1.out]; rfl, rfl⟩
        | false =>
          by_cases he : a.end_ = 0
          · have heb : (a.end_ != 0) = false := by simpa using he
            rw [heb] at hcc
            have E1 := Lib.hid hcc
            clear hcc he
            go_wp2
            go_meet
            exact ⟨by rw [E1.out]; rfl, rfl⟩
          · have heb : (a.end_ != 0) = true := by simpa using he
            rw [heb] at hcc
            by_cases hl : a.end_ < b.begin_
            · rw [decide_eq_true hl] at hcc
              have E1 := Lib.hid hcc
              clear hcc he
              go_wp2
              go_meet
              exact ⟨by rw [E1.out]; rfl, rfl⟩
            · rw [decide_eq_false hl] at hcc
              have E1 := Lib.hid hcc
              clear hcc he
              go_wp2
              go_meet
              exact ⟨by rw [E1.out]; rfl, rfl⟩
    case rest =>
      obtain ⟨rfl, rfl⟩ := hcut
      obtain ⟨w4, rfl⟩ : ∃ w4 : World, w4 = wc := ⟨_, rfl⟩
      clear c3 d2
      go_upto_if 88 with fail
      go_cut [17] (fun v wx => Below w2.heap.size w2 wx)
      case first =>
        cases cc with
        | false =>
          go_wp2
          go_meet
          exact H4.out
        | true =>
          have hcc := HCC.out
          have h1 : one = false := by cases one with | false => rfl | true => cases hcc
          subst h1
          have h2 : two = false := by cases two with | false => rfl | true => cases hcc
          subst h2
          have hag : ¬ AgS b a := by
            rintro ⟨h1, h2⟩
            have h3 : (a.end_ != 0) = true := by simpa using h1
            rw [h3, decide_eq_true h2] at hcc
            cases hcc
          obtain ⟨hx, hy, hst1, hst2, -, -, -, -, -, -, -, -⟩ := FA.out
          have hzs : zs = zs.take t ++ (i : Int) :: (j : Int) :: zs.drop (t + 2) := by
            conv => lhs; rw [← List.take_append_drop t zs]
            have e1 := List.drop_eq_getElem_cons (l := zs) (i := t) (List.getElem?_eq_some_iff.1 hx).1
            have e2 := List.drop_eq_getElem_cons (l := zs) (i := t + 1) (List.getElem?_eq_some_iff.1 hy).1
            rw [(List.getElem?_eq_some_iff.1 hx).2] at e1
            rw [(List.getElem?_eq_some_iff.1 hy).2] at e2
            rw [e1, e2]
          have hck := HCK.out
          have hsw : checkP st sts (zs.take t ++ (j : Int) :: (i : Int) :: zs.drop (t + 2)) = (0, 0) := swap_ok st sts _ _ i j (by rw [← hzs]; exact hck) (by rw [hst1]; exact HO1.out) (by rw [hst2]; exact HO2.out) (by rw [hst1, hst2]; exact hag)
          have hset : ((zs.set t j).set (t + 1) i) = zs.take t ++ (j : Int) :: (i : Int) :: zs.drop (t + 2) := by
            have hl : (zs.take t).length = t := by rw [List.length_take]; have := HZK.out; omega
            conv => lhs; rw [hzs]
            rw [List.set_append_right _ _ (by omega), List.set_append_right _ _ (by omega), hl]
            simp
          have HSW := Lib.hid hsw
          have HST5 := Lib.hid hset
          have hOO := HO.out.below (by omega) (below_next HB2.out H4.out)
          obtain ⟨i0, hi0, hz0, hz1, hz2⟩ := info_parts Try.info3
          have S4 := ((Star.begin w2).of_below H4.out).rowNil 3 1
          have SRC := Lib.hid hOO.src
          have FX := Lib.hid (⟨hx, hy⟩ : _ ∧ _)
          clear hcc hx hy hst1 hst2 hzs hck hsw hset hOO
          go_wp2_with (at_builtin; refine wpList_append_star_any rfl _ _ 24 rfl 3 i0 _ 1 8 Try.underlying24 hi0 hz0 hz1 hz2 rfl (by decide) _ 0 _ rfl S4 (some ⟨gO, oO, none⟩) k c (intsC zs) rfl (by rw [intsC_len, HZK.out, Nat.mul_one]) SRC.out (intsC_one zs) (by simp only [maxLen]; omega) (by omega) ?_; intro a' q' w5 h5; simp only [Nat.zero_add, List.nil_append] at h5 ⊢)
          obtain ⟨gP, rfl, -, -, cP, fP⟩ := h5.rowAt (show 0 < k by omega)
          have p0 : w5.cell? ⟨gP, t, none⟩ = some (.int .i64 i) := (cP t (by omega)).trans (intsC_get FX.out.1)
          have p1 : w5.cell? ⟨gP, t + 1, none⟩ = some (.int .i64 j) := (cP (t + 1) (by omega)).trans (intsC_get FX.out.2)
          have q0 : w5.frozen? ⟨gP, t, none⟩ = false := fP t
          have q1 : w5.frozen? ⟨gP, t + 1, none⟩ = false := fP (t + 1)
          have hwr : IntKind.i64.wrap ((t : Int) + 1) = (t : Int) + 1 := by rw [IntKind.wrap_i64]; omega
          have htn : ((t : Int) + 1).toNat = t + 1 := by omega
          have ht1 : (0 : Int) ≤ (t : Int) + 1 := by omega
          have H5 := Lib.hid h5
          clear cP fP h5 S4 SRC FX
          go_upto_region 15 with fail
          go_region
          have h6 := ((H5.out.rowSet t (.int .i64 j)).rowSet (t + 1) (.int .i64 i)).drew
          have es : ((intsC zs).set t (.int .i64 j)).set (t + 1) (.int .i64 i) = intsC (zs.take t ++ (j : Int) :: (i : Int) :: zs.drop (t + 2)) := by
            rw [← HST5.out, intsC, intsC, List.map_set, List.map_set]
          rw [es] at h6
          have hb6 := below_next HB2.out (h6.pull 1).below
          have CK := Lib.hid (check_any SA sn sc st (some ⟨g, o, none⟩) m d sts vs (some ⟨gP, 0, none⟩) k q' (zs.take t ++ (j : Int) :: (i : Int) :: zs.drop (t + 2)) _ (HST.out.below (by omega) hb6) hsb (HT.out.below hb6) hbm h6.rowSl hb)
          have H6 := Lib.hid (h6.pull 1).below
          clear p0 p1 q0 q1 hwr htn ht1 h6 es hb6 H5
          go_wp2_with fail
          refine CK.out.mono ?_
          rintro e' w7 ⟨rfl, hb7⟩
          rw [HSW.out]
          have H7 := Lib.hid (below_next H6.out hb7)
          clear hb7 H6 CK
          go_wp2
          go_meet
          exact H7.out
      case rest =>
        have HB := Lib.hid hcut
        have hkm : k ≤ m := by
          have := ((evP_iff zs []).1 ((check_S st sts zs).1 HCK.out).1).2.2.2
          have h1 := HZK.out
          have h2 := HT.out.ns
          simp at this
          omega
        have hlb : (t : Int) + 1 < k := htkz1
        have h0 := ((((Star.begin w2).of_below hcut).rowNil 3 1).rowNil 44 10)
        have H0 := Lib.hid h0
        clear hcut h0 H4 HCC HO1 HO2
        go_wp2_with fail
        go_loopw [20, 21, 22] (fun l1 l2 i wr => ∃ p : Nat, p ≤ t + 1 ∧ i = .int .i64 p ∧ ∃ a1 q1 a2 q2, l1 = .slice a1 p q1 ∧ l2 = .slice a2 p q2 ∧ Star w2 wr [rowA 44 10 (.slice a1 p q1) p (stosC ((zs.take p).map (stAt sts)) (vsAt vs (zs.take p))), rowA 3 1 (.slice a2 p q2) p (natsC (List.range p)), oldA w2]) (fun _ _ i _ => t + 1 - (intOf i).toNat)
        case atStart => exact ⟨0, Nat.zero_le _, rfl, none, 0, none, 0, rfl, rfl, H0.out⟩
        case round =>
          clear H0
          obtain ⟨p, hp, rfl, a1, q1, a2, q2, rfl, rfl, hR⟩ := hrel
          by_cases hlt : p ≤ t
          · obtain ⟨z, hz⟩ : ∃ z, zs[p]? = some z := ⟨_, List.getElem?_eq_getElem (by have := HZK.out; omega)⟩
            have hall := ((evP_iff zs []).1 ((check_S st sts zs).1 HCK.out).1).1 z (List.mem_of_getElem? hz)
            have hns := HT.out.ns
            obtain ⟨x, rfl⟩ : ∃ x : Nat, z = x := ⟨z.toNat, by omega⟩
            have hxm : x < m := by omega
            obtain ⟨s, XA, xk, xc, g3, o3, hss, hst3, eB, hg3, hxk, hxs, hxb, s0, s1, s2, s3, s4, s5, s6, s7, s8, s9⟩ := (HT.out.below HB2.out).cells hxm
            injection eB with eB
            injection eB with e1 e2 e3
            subst e1 e2
            obtain ⟨gO', oO', eO, hgO, cb⟩ := (HO.out.below (by omega) HB2.out).row (show p < k by omega) (by omega)
            injection eO with eO
            injection eO with e1 e2 e3
            subst e1 e2
            have z0 : wr.cell? ⟨gO, oO + p, none⟩ = some (.int .i64 x) := ((hR.pull 2).oldCell hgO).trans (by have := cb 0 _ (by rw [Nat.mul_one, Nat.add_zero]; exact intsC_get hz); simpa using this)
            have s0 : wr.cell? ⟨g, o + x * 10, none⟩ = some (.int .i64 s.thread) := ((hR.pull 2).oldCell hg3).trans s0
            have s1 : wr.cell? ⟨g, o + x * 10 + 1, none⟩ = some (.int .i64 s.stamp) := ((hR.pull 2).oldCell hg3).trans s1
            have s2 : wr.cell? ⟨g, o + x * 10 + 2, none⟩ = some (.int .i64 s.begin_) := ((hR.pull 2).oldCell hg3).trans s2
            have s3 : wr.cell? ⟨g, o + x * 10 + 3, none⟩ = some (.int .i64 s.end_) := ((hR.pull 2).oldCell hg3).trans s3
            have s4 : wr.cell? ⟨g, o + x * 10 + 4, none⟩ = some (.int .i64 s.fate) := ((hR.pull 2).oldCell hg3).trans s4
            have s5 : wr.cell? ⟨g, o + x * 10 + 5, none⟩ = some (.int .i64 s.e) := ((hR.pull 2).oldCell hg3).trans s5
            have s6 : wr.cell? ⟨g, o + x * 10 + 6, none⟩ = some (.int .i64 s.by_) := ((hR.pull 2).oldCell hg3).trans s6
            have s7 : wr.cell? ⟨g, o + x * 10 + 7, none⟩ = some (.int .i64 s.opens) := ((hR.pull 2).oldCell hg3).trans s7
            have s8 : wr.cell? ⟨g, o + x * 10 + 8, none⟩ = some (.int .i64 s.gate) := ((hR.pull 2).oldCell hg3).trans s8
            have s9 : wr.cell? ⟨g, o + x * 10 + 9, none⟩ = some (.slice XA xk xc) := ((hR.pull 2).oldCell hg3).trans s9
            have hvx : ∃ v, vs[x]? = some v ∧ v = .slice XA xk xc := by
              obtain ⟨v, hv⟩ : ∃ v, vs[x]? = some v := ⟨_, List.getElem?_eq_getElem (by have := HT.out.nv; omega)⟩
              refine ⟨v, hv, ?_⟩
              obtain ⟨g4, o4, eB, hg4, ca⟩ := (HT.out.below HB2.out).row.row hxm (by omega)
              injection eB with eB
              injection eB with e1 e2 e3
              subst e1 e2
              have h9 := ca 9 v (by rw [stosC_at hss hv (by omega)]; rfl)
              have h8 := ((hR.pull 2).oldCell hg3).symm.trans s9
              rw [h9] at h8
              injection h8
            obtain ⟨v, hv, rfl⟩ := hvx
            obtain ⟨i0, hi0, hz0, hz1, hz2⟩ := info_parts Try.info3
            obtain ⟨i1, hi1, hy0, hy1, hy2⟩ := info_parts Try.info44
            have hN := (hR.new (.cells (stoC s (.slice XA xk xc)).toArray 44)).pull 1
            have hpz : (p : Int) ≤ t := by omega
            have hpk : (p : Int) < k := by omega
            have hxz : (x : Int) < m := by omega
            have et : zs.take (p + 1) = zs.take p ++ [(x : Int)] := take_succ hz
            have ev : vsAt vs (zs.take p ++ [(x : Int)]) = vsAt vs (zs.take p) ++ [.slice XA xk xc] := by rw [vsAt, List.map_append, ← vsAt]; simp [hv]
            have em : (zs.take p ++ [(x : Int)]).map (stAt sts) = (zs.take p).map (stAt sts) ++ [s] := by simp [hst3]
            have ec : stosC ((zs.take (p + 1)).map (stAt sts)) (vsAt vs (zs.take (p + 1))) = stosC ((zs.take p).map (stAt sts)) (vsAt vs (zs.take p)) ++ stoC s (.slice XA xk xc) := by
              rw [et, ev, em, stosC_snoc (by simp [vsAt])]
            have EC := Lib.hid ec
            clear hz hall hns hss hst3 hg3 hxk hxs cb hgO hv hR et ev em ec
            go_wp2_with (first
              | (at_builtin; refine wpList_append_star rfl (.tmp 122) (.tmp 130) 23 rfl 44 i1 _ 10 96 Try.underlying23 hi1 hy0 hy1 hy2 rfl (by decide) _ p _ rfl hN ⟨wr.heap.size, 0, none⟩ 1 1 (stoC s (.slice XA xk xc)) rfl rfl (cell_list_new _ _ rfl _ _) (sto_one _ _ _ _) (by simp only [maxLen]; omega) (by omega) ?_; intro a1' q1' w5 h5; have h6 := (h5.new (.cells #[.int .i64 p] 3)).pull 3; have H5 := Lib.hid h5; clear h5)
              | (at_builtin; refine wpList_append_star rfl (.tmp 132) (.tmp 134) 24 rfl 3 i0 _ 1 8 Try.underlying24 hi0 hz0 hz1 hz2 rfl (by decide) _ p _ rfl h6 ⟨w5.heap.size, 0, none⟩ 1 1 [.int .i64 p] rfl rfl (cell_list_new _ _ rfl _ _) (by simp [Value.oneCell']) (by simp only [maxLen]; omega) (by omega) ?_; intro a2' q2' w6 h7; have H7 := Lib.hid h7; clear h7 h6))
            go_roundw
            case rel => exact ⟨p + 1, by omega, by go_num, a1', q1', a2', q2', rfl, rfl, by rw [EC.out, List.range_succ, natsC_snoc]; exact H7.out.pick 5 [2, 0, 4]⟩
            case measure => simp [intOf]; omega
          · have hpt : p = t + 1 := by omega
            subst hpt
            have hns := HT.out.ns
            have hpz : ¬ ((t + 1 : Nat) : Int) ≤ t := by omega
            have hz : ∀ z ∈ zs.take (t + 1), 0 ≤ z ∧ z < (m : Int) := fun z hz => by
              have := ((evP_iff zs []).1 ((check_S st sts zs).1 HCK.out).1).1 z (List.mem_of_mem_take hz)
              omega
            have hl : (zs.take (t + 1)).length = t + 1 := by rw [List.length_take]; have := HZK.out; omega
            have hbg := begin_ok st sts zs (t + 1) HCK.out
            rw [List.length_map, hl] at hbg
            have hb0 := below_next HB2.out (hR.pull 2).below
            have hS := (HT.out.below hb0).picked (zs.take (t + 1)) hz hl hR.rowSl
            have hP : Sl wr a2 (t + 1) 1 (intsC (intsOf (List.range (t + 1)))) := by have := (hR.pull 1).rowSl; rwa [natsC_ints] at this
            have CK := Lib.hid (check_any SA sn sc st a1 (t + 1) q1 _ _ a2 (t + 1) q2 _ wr (HST.out.below (by omega) hb0) hsb hS (by omega) hP (by omega))
            have HB0 := Lib.hid hb0
            have HBG := Lib.hid hbg
            clear hR hns hz hl hbg hS hP hb0
            go_wp2_with fail
            refine CK.out.mono ?_
            rintro e' w7 ⟨rfl, hb7⟩
            rw [HBG.out]
            have H7 := Lib.hid (below_next HB0.out hb7)
            clear hb7 HB0 CK HBG
            go_wp2
            go_ret
            exact ⟨rfl, H7.out⟩
end Go.Proofs.Ytljdkfhkpjjfgaa
