/- The sort's merge whole, over a comparer: the comparer may make memory: lemmas for the laws of layer 22. -/
import Derived.Test.YtljdkfhkpjjfgaaSrt4b
import Derived.Deep.DeepCutAuto
import Derived.Deep.CutBlock
import Derived.KernelRfl
namespace Go.Proofs.Ytljdkfhkpjjfgaa
open Go.RowKit
set_option linter.unusedVariables false

/-- what the search for the turning place has found -/
theorem turn_join {less : Nat → Nat → Bool} (Wk : Weak less) {p x y r D z1 z2 : List Nat} {a m b s en : Nat} (hD : D = p ++ (x ++ (y ++ r))) (ha : a = p.length) (hm : m = a + x.length) (hb : b = m + y.length) (hx : x.Pairwise (tot less)) (hy : y.Pairwise (tot less))
    (h1 : a ≤ s) (h2 : s ≤ m) (h3 : m ≤ en) (h4 : en ≤ b) (hA : ∀ u v, a < s → en < b → D[s - 1]? = some u → D[en]? = some v → tot less u v) (hB : ∀ u v, m < en → s < m → D[en - 1]? = some u → D[s]? = some v → tot less u v)
    (k1 : SP less z1 (x.take (s - a) ++ y.take (en - m))) (k2 : SP less z2 (x.drop (s - a) ++ y.drop (en - m))) : SP less (z1 ++ z2) (x ++ y) := by
  have e1 : x.take (s - a) ++ x.drop (s - a) = x := List.take_append_drop _ _
  have e2 : y.take (en - m) ++ y.drop (en - m) = y := List.take_append_drop _ _
  have := join_sorted Wk k1 k2 (by rw [e1]; exact hx) (by rw [e2]; exact hy) (fun u v hu hv => ?_) (fun u v hu hv => ?_)
  · rwa [e1, e2] at this
  · obtain ⟨q1, q2⟩ := last_take hu (by omega)
    obtain ⟨q3, q4⟩ := head_drop hv
    refine hA u v (by omega) (by omega) ?_ ?_
    · rw [hD, at_second (by omega) (by omega), show s - 1 - p.length = s - a - 1 by omega]; exact q2
    · rw [hD, at_third (by omega) (by omega), show en - (p.length + x.length) = en - m by omega]; exact q4
  · obtain ⟨q1, q2⟩ := last_take hu (by omega)
    obtain ⟨q3, q4⟩ := head_drop hv
    refine hB u v (by omega) (by omega) ?_ ?_
    · rw [hD, at_third (by omega) (by omega), show en - 1 - (p.length + x.length) = en - m - 1 by omega]; exact q2
    · rw [hD, at_second (by omega) (by omega), show s - p.length = s - a by omega]; exact q4
/-- the facts of one call of the merge -/
structure Mg (less : Nat → Nat → Bool) (ok : Nat → Prop) (a m b : Nat) (p x y : List Nat) : Prop where
  ha : a = p.length
  hm : m = a + x.length
  hb : b = m + y.length
  hx : x.Pairwise (tot less)
  hy : y.Pairwise (tot less)
  hxy : ∀ u ∈ x, ∀ v ∈ y, u < v
  okx : ∀ u ∈ x, ok u
  oky : ∀ v ∈ y, ok v
def Merges (g n q : Nat) (cap : Value) (ok : Nat → Prop) (cv : Nat → Nat → Int) (W : World) (R : List HA) (N : Nat) : Prop :=
  ∀ (a m b : Nat) (p x y r : List Nat) (w : World), x.length + y.length ≤ N → 0 < x.length → 0 < y.length → Mg (lessOf cv) ok a m b p x y → Star W w (plcA g n q (p ++ (x ++ (y ++ r))) :: R) →
    Calls Try.prog 47 #[.slice (some ⟨g, 0, none⟩) n q, .int .i64 a, .int .i64 m, .int .i64 b, .func (.func 24) #[] #[cap]] w fun e w' => e = .returned (.tuple #[]) ∧ ∃ z, SP (lessOf cv) z (x ++ y) ∧ Star W w' (plcA g n q (p ++ (z ++ r)) :: R)
theorem sp_side {less : Nat → Nat → Bool} {x y : List Nat} (hx : x.Pairwise (tot less)) (hy : y.Pairwise (tot less)) (h : x.length = 0 ∨ y.length = 0) : SP less (x ++ y) (x ++ y) := by
  refine ⟨List.Perm.refl _, ?_⟩
  rcases h with h | h
  · rw [List.eq_nil_of_length_eq_zero h]; exact hy
  · rw [List.eq_nil_of_length_eq_zero h, List.append_nil]; exact hx
/-- the four parts -/
structure Parts (less : Nat → Nat → Bool) (ok : Nat → Prop) (a m b s en mid : Nat) (p x y r x1 x2 y1 y2 D : List Nat) : Prop where
  l1 : x1.length = s - a
  l2 : x2.length = m - s
  l3 : y1.length = en - m
  l4 : y2.length = b - en
  eD : D = (p ++ x1) ++ (x2 ++ (y1 ++ (y2 ++ r)))
  s1 : x1.Pairwise (tot less)
  s2 : x2.Pairwise (tot less)
  s3 : y1.Pairwise (tot less)
  s4 : y2.Pairwise (tot less)
  c1 : ∀ u ∈ x1, ∀ v ∈ y1, u < v
  c2 : ∀ u ∈ x2, ∀ v ∈ y2, u < v
  k1 : ∀ u ∈ x1, ok u
  k2 : ∀ u ∈ x2, ok u
  k3 : ∀ u ∈ y1, ok u
  k4 : ∀ u ∈ y2, ok u
  fin : ∀ z1 z2, SP less z1 (x1 ++ y1) → SP less z2 (x2 ++ y2) → SP less (z1 ++ z2) (x ++ y)
theorem parts_mk {less : Nat → Nat → Bool} (Wk : Weak less) {ok : Nat → Prop} {a m b s en mid : Nat} {p x y r D : List Nat} (M : Mg less ok a m b p x y) (hD : D = p ++ (x ++ (y ++ r)))
    (h1 : a ≤ s) (h2 : s ≤ m) (h3 : m ≤ en) (h4 : en ≤ b) (hA : ∀ u v, a < s → en < b → D[s - 1]? = some u → D[en]? = some v → tot less u v) (hB : ∀ u v, m < en → s < m → D[en - 1]? = some u → D[s]? = some v → tot less u v) :
    Parts less ok a m b s en mid p x y r (x.take (s - a)) (x.drop (s - a)) (y.take (en - m)) (y.drop (en - m)) D := by
  have ha := M.ha
  have hm := M.hm
  have hb := M.hb
  exact {
    l1 := by rw [List.length_take]; omega
    l2 := by rw [List.length_drop]; omega
    l3 := by rw [List.length_take]; omega
    l4 := by rw [List.length_drop]; omega
    eD := by
      rw [hD]
      have e1 : x.take (s - a) ++ x.drop (s - a) = x := List.take_append_drop _ _
      have e2 : y.take (en - m) ++ y.drop (en - m) = y := List.take_append_drop _ _
      rw [List.append_assoc, ← List.append_assoc (y.take _), e2, ← List.append_assoc (x.take _), e1]
    s1 := M.hx.sublist (List.take_sublist _ _)
    s2 := M.hx.sublist (List.drop_sublist _ _)
    s3 := M.hy.sublist (List.take_sublist _ _)
    s4 := M.hy.sublist (List.drop_sublist _ _)
    c1 := fun u hu v hv => M.hxy u (List.mem_of_mem_take hu) v (List.mem_of_mem_take hv)
    c2 := fun u hu v hv => M.hxy u (List.mem_of_mem_drop hu) v (List.mem_of_mem_drop hv)
    k1 := fun u hu => M.okx u (List.mem_of_mem_take hu)
    k2 := fun u hu => M.okx u (List.mem_of_mem_drop hu)
    k3 := fun u hu => M.oky u (List.mem_of_mem_take hu)
    k4 := fun u hu => M.oky u (List.mem_of_mem_drop hu)
    fin := fun z1 z2 q1 q2 => turn_join Wk hD ha hm hb M.hx M.hy h1 h2 h3 h4 hA hB q1 q2 }
set_option maxRecDepth 100000 in
set_option maxHeartbeats 16000000 in
theorem merge_step (g n q : Nat) (cap : Value) (ok : Nat → Prop) (cv : Nat → Nat → Int) (W : World) (R : List HA) (N : Nat) (hn : n ≤ 17592186044416) (Wk : Weak (lessOf cv)) (hC : Cmps g n q W R cap ok cv) (IH : Merges g n q cap ok cv W R N)
    (a m b : Nat) (p x y r : List Nat) (w : World) (hN : x.length + y.length ≤ N + 1) (hx2 : 2 ≤ x.length) (hy2 : 2 ≤ y.length) (M : Mg (lessOf cv) ok a m b p x y) (h : Star W w (plcA g n q (p ++ (x ++ (y ++ r))) :: R)) :
    Calls Try.prog 47 #[.slice (some ⟨g, 0, none⟩) n q, .int .i64 a, .int .i64 m, .int .i64 b, .func (.func 24) #[] #[cap]] w fun e w' => e = .returned (.tuple #[]) ∧ ∃ z, SP (lessOf cv) z (x ++ y) ∧ Star W w' (plcA g n q (p ++ (z ++ r)) :: R) := by
  have hl := plc_len h
  simp only [List.length_append] at hl
  have hcap1 := h.rowCap.1
  have ha := M.ha
  have hm := M.hm
  have hb := M.hb
  have ham : a + 2 ≤ m := by omega
  have hmb : m + 2 ≤ b := by omega
  have hbn : b ≤ n := by omega
  have hN2 : b - a ≤ N + 1 := by omega
  have HM := Lib.hid M
  have HC := Lib.hid hC
  have HW := Lib.hid Wk
  have HIH := Lib.hid IH
  have t1 : (((m : Int) - a) == 1) = false := by simp; omega
  have t2 : (((b : Int) - m) == 1) = false := by simp; omega
  obtain ⟨mid, hmid⟩ : ∃ mid : Nat, mid = (a + b) / 2 := ⟨_, rfl⟩
  have hz : ((a : Int) + b) / 2 = (mid : Int) := by omega
  have ham2 : a < mid := by omega
  have hmb2 : mid < b := by omega
  have hmm2 : 2 * mid ≤ a + b := by omega
  have hmm3 : a + b ≤ 2 * mid + 1 := by omega
  have HZ := Lib.hid hz
  obtain ⟨D, hD⟩ : ∃ D : List Nat, D = p ++ (x ++ (y ++ r)) := ⟨_, rfl⟩
  have h0 : Star W w (plcA g n q D :: R) := by rw [hD]; exact h
  have HD := Lib.hid hD
  have hsum0 : (0 : Int) ≤ (a : Int) + b := by omega
  clear h hl ha hm hb M hC Wk IH hD hN hx2 hy2 hz hmid
  have search : ∃ s0 r0 : Nat, s0 ≤ r0 ∧ a ≤ s0 ∧ r0 ≤ m ∧ (mid < m → s0 = mid + m - b ∧ r0 = mid) ∧ (m ≤ mid → s0 = a ∧ r0 = m) := by
    by_cases hc : mid < m
    · exact ⟨mid + m - b, mid, by omega, by omega, by omega, fun _ => ⟨rfl, rfl⟩, fun h => absurd h (by omega)⟩
    · exact ⟨a, m, by omega, by omega, by omega, fun h => absurd h (by omega), fun _ => ⟨rfl, rfl⟩⟩
  obtain ⟨s0, r0, hs1, hs2, hs3, hs4, hs5⟩ := search
  have HS := Lib.hid (⟨hs4, hs5⟩ : (mid < m → s0 = mid + m - b ∧ r0 = mid) ∧ (m ≤ mid → s0 = a ∧ r0 = m))
  clear hs4 hs5
  have hnn : (mid : Int) + m = ((mid + m : Nat) : Int) := by omega
  obtain ⟨nn, hnnE⟩ : ∃ nn : Nat, nn = mid + m := ⟨_, rfl⟩
  rw [← hnnE] at hnn
  have HNN := Lib.hid hnn
  have hpp : (nn : Int) - 1 = ((nn - 1 : Nat) : Int) := by omega
  obtain ⟨pp, hppE⟩ : ∃ pp : Nat, pp = nn - 1 := ⟨_, rfl⟩
  rw [← hppE] at hpp
  have HPP := Lib.hid hpp
  have hpn : pp + 1 = mid + m := by omega
  have hnn2 : nn = mid + m := hnnE
  have hnb : nn ≤ 35184372088832 := by omega
  have hnb1 : 1 ≤ nn := by omega
  have HPN := Lib.hid hpn
  clear hnn hpp hnnE hppE hpn
  have HNE := Lib.hid hnn2
  clear hnn2
  go_enter Try.func47, Try.ntmps47
  go_upto_if 140 with fail
  go_cut [18, 19, 20, 21] (fun c d s t wx => c = .int .i64 mid ∧ d = .int .i64 nn ∧ s = .int .i64 s0 ∧ t = .int .i64 r0 ∧ wx = w)
  case first =>
    by_cases hc : mid < m
    · have hmc : ((a : Int) + b) / 2 < m := by have := HZ.out; omega
      go_wp2
      go_meet
      have hs := HS.out.1 hc
      refine ⟨?_, ?_, ?_, ?_, rfl⟩
      · rw [HZ.out]
      · rw [HZ.out, HNN.out]
      · rw [HZ.out, HNN.out, hs.1]; have := HNE.out; congr 1; omega
      · rw [HZ.out, hs.2]
    · have hmc : ¬ ((a : Int) + b) / 2 < m := by have := HZ.out; omega
      go_wp2
      go_meet
      have hs := HS.out.2 (by omega)
      refine ⟨?_, ?_, ?_, ?_, rfl⟩
      · rw [HZ.out]
      · rw [HZ.out, HNN.out]
      · rw [hs.1]
      · rw [hs.2]
  case rest =>
    obtain ⟨rfl, rfl, rfl, rfl, rfl⟩ := hcut
    obtain ⟨w1, rfl⟩ : ∃ w1 : World, w1 = wc := ⟨_, rfl⟩
    go_wp2
    rw [HPP.out]
    go_loopw [20, 21] (fun i j wr => ∃ s t : Nat, s0 ≤ s ∧ s ≤ t ∧ t ≤ r0 ∧ i = .int .i64 (s : Int) ∧ j = .int .i64 (t : Int) ∧ (∀ u v, s0 < s → D[s - 1]? = some u → D[nn - s]? = some v → tot (lessOf cv) u v) ∧ (∀ u v, t < r0 → D[nn - t - 1]? = some u → D[t]? = some v → tot (lessOf cv) u v) ∧ Star W wr (plcA g n q D :: R)) (fun i j _ => (intOf j).toNat - (intOf i).toNat)
    case atStart => exact ⟨s0, r0, Nat.le_refl _, hs1, Nat.le_refl _, rfl, rfl, fun _ _ h => absurd h (by omega), fun _ _ h => absurd h (by omega), h0⟩
    case round =>
      clear h0
      obtain ⟨s, t, b1, b2, b3, rfl, rfl, hI, hJ, hR⟩ := hrel
      have hbounds : ∀ c, s0 ≤ c → c < r0 → m + c + 1 ≤ nn ∧ nn ≤ b + c := by
        intro c q1 q2
        have := HNE.out
        by_cases hc : mid < m
        · have := HS.out.1 hc; omega
        · have := HS.out.2 (by omega); omega
      by_cases hlt : s < t
      · obtain ⟨c, hce⟩ : ∃ c : Nat, c = (s + t) / 2 := ⟨_, rfl⟩
        have h1 : s ≤ c := by omega
        have h2 : c < t := by omega
        have hsum : (s : Int) + t ≤ 9223372036854775807 := by omega
        have hsum0 : (0 : Int) ≤ (s : Int) + t := by omega
        have hz : ((s : Int) + t) / 2 = (c : Int) := by omega
        have HZC := Lib.hid hz
        have HB := Lib.hid (hbounds c (by omega) (by omega))
        have hMg := HM.out
        have hpn := HPN.out
        have hne := HNE.out
        have hc1' : pp - c = nn - c - 1 := by omega
        have q1 := HB.out.1
        have q2 := HB.out.2
        have k1 := hMg.ha
        have k2 := hMg.hm
        have k3 := hMg.hb
        obtain ⟨u, hu⟩ : ∃ u, x[c - a]? = some u := ⟨_, List.getElem?_eq_getElem (by omega)⟩
        obtain ⟨v, hv⟩ : ∃ v, y[pp - c - m]? = some v := ⟨_, List.getElem?_eq_getElem (by omega)⟩
        have d0 : D[c]? = some u := by rw [HD.out, at_second (by omega) (by omega), show c - p.length = c - a by omega]; exact hu
        have d1 : D[pp - c]? = some v := by rw [HD.out, at_third (by omega) (by omega), show pp - c - (p.length + x.length) = pp - c - m by omega]; exact hv
        obtain ⟨c0, f0⟩ := plc_cell hR d0
        obtain ⟨c1, f1⟩ := plc_cell hR d1
        have hoku := hMg.okx u (List.mem_of_getElem? hu)
        have hokv := hMg.oky v (List.mem_of_getElem? hv)
        have huv := hMg.hxy u (List.mem_of_getElem? hu) v (List.mem_of_getElem? hv)
        have HCC := Lib.hid (HC.out _ wr.drew v u hokv hoku hR.drew)
        have hcn : c < n := by omega
        have hpcn : pp - c < n := by omega
        have hcp : c ≤ pp := by omega
        have hpnn : pp ≤ 35184372088832 := by omega
        have HR := Lib.hid hR
        have HI := Lib.hid hI
        have HJ := Lib.hid hJ
        have D0 := Lib.hid d0
        have D1 := Lib.hid d1
        have HPC := Lib.hid hc1'
        clear hpn hne
        clear hMg hc1' q1 q2 k1 k2 k3 hu hv d0 d1 hR hI hJ hce hz hbounds
        go_wp2_with fail
        rw [HZC.out]
        by_cases hls : cv v u < 0
        · have hlb : decide (cv v u < 0) = true := by simpa using hls
          have HL : Hid (tot (lessOf cv) v u) := Lib.hid (.inl (by unfold lessOf; simpa using hls))
          have v1 : IntKind.i64.wrap ((pp : Int) - c) = (pp : Int) - c := IntWalk.i64_in _ (by omega)
          have v2 : (0 : Int) ≤ (pp : Int) - c := by omega
          have v3 : (c : Int) ≤ (pp : Int) := by omega
          have v4 : (pp : Int) - c < n := by omega
          have v5 : ((pp : Int) - c).toNat = pp - c := by omega
          go_region_held3 (fun w' => w'.cell? ⟨g, c, none⟩ = some (.int .i64 u) ∧ w'.cell? ⟨g, pp - c, none⟩ = some (.int .i64 v)) (go_keep) (
            (go_at_call 24; refine HCC.out.mono ?_; rintro e wq ⟨rfl, hbq⟩; have hQ2 := HR.out.drew.keptBelow hbq; obtain ⟨d1, g1⟩ := plc_cell hQ2 D1.out; obtain ⟨d0, g0⟩ := plc_cell hQ2 D0.out; have HQ2 := Lib.hid hQ2; clear hQ2 hbq))
          all_goals
           clear v1 v2 v3 v4 v5
           go_wp2
           go_roundw
           case rel => exact ⟨s, c, by omega, by omega, by omega, rfl, rfl, HI.out, fun u' v' _ hu' hv' => by
              rw [← HPC.out, D1.out] at hu'; rw [D0.out] at hv'
              injection hu' with e1; injection hv' with e2; rw [← e1, ← e2]; exact HL.out, HQ2.out⟩
           case measure => simp [intOf]; omega
        · have hlb : decide (cv v u < 0) = false := by simpa using hls
          have HL : Hid (tot (lessOf cv) u v) := Lib.hid (.inr ⟨by unfold lessOf; exact hlb, huv⟩)
          have v1 : IntKind.i64.wrap ((pp : Int) - c) = (pp : Int) - c := IntWalk.i64_in _ (by omega)
          have v2 : (0 : Int) ≤ (pp : Int) - c := by omega
          have v3 : (c : Int) ≤ (pp : Int) := by omega
          have v4 : (pp : Int) - c < n := by omega
          have v5 : ((pp : Int) - c).toNat = pp - c := by omega
          go_region_held3 (fun w' => w'.cell? ⟨g, c, none⟩ = some (.int .i64 u) ∧ w'.cell? ⟨g, pp - c, none⟩ = some (.int .i64 v)) (go_keep) (
            (go_at_call 24; refine HCC.out.mono ?_; rintro e wq ⟨rfl, hbq⟩; have hQ2 := HR.out.drew.keptBelow hbq; obtain ⟨d1, g1⟩ := plc_cell hQ2 D1.out; obtain ⟨d0, g0⟩ := plc_cell hQ2 D0.out; have HQ2 := Lib.hid hQ2; clear hQ2 hbq))
          all_goals
           clear v1 v2 v3 v4 v5
           go_wp2
           go_roundw
           case rel => exact ⟨c + 1, t, by omega, by omega, by omega, by go_num, rfl, fun u' v' _ hu' hv' => by
              rw [show c + 1 - 1 = c by omega, D0.out] at hu'; rw [show nn - (c + 1) = nn - c - 1 by omega, ← HPC.out, D1.out] at hv'
              injection hu' with e1; injection hv' with e2; rw [← e1, ← e2]; exact HL.out, HJ.out, HQ2.out⟩
           case measure => simp [intOf]; omega
      · have hst : s = t := by omega
        subst hst
        have hnlt : ¬ (s : Int) < s := by omega
        have hne := HNE.out
        have hMa := HM.out.ha
        have hb2 : m + s ≤ nn ∧ nn ≤ b + s := by
          by_cases hc : mid < m
          · have := HS.out.1 hc; omega
          · have := HS.out.2 (by omega); omega
        obtain ⟨en, hen⟩ : ∃ en : Nat, en = nn - s := ⟨_, rfl⟩
        have hez : (nn : Int) - s = (en : Int) := by omega
        have HE := Lib.hid hez
        have hP := parts_mk (mid := mid) (r := r) (s := s) (en := en) HW.out HM.out HD.out (by omega) (by omega) (by omega) (by omega)
          (fun u v q1 q2 q3 q4 => hI u v (by
            by_cases hc : mid < m
            · have := HS.out.1 hc; omega
            · have := HS.out.2 (by omega); omega) q3 (by rw [← hen]; exact q4))
          (fun u v q1 q2 q3 q4 => hJ u v (by
            by_cases hc : mid < m
            · have := HS.out.1 hc; omega
            · have := HS.out.2 (by omega); omega) (by rw [← hen]; exact q3) q4)
        have hsm : s ≤ m := by omega
        have has : a ≤ s := by omega
        have hme : m ≤ en := by omega
        have heb : en ≤ b := by omega
        have hens : en + s = mid + m := by omega
        have HES := Lib.hid hens
        generalize x.take (s - a) = x1 at hP
        generalize x.drop (s - a) = x2 at hP
        generalize y.take (en - m) = y1 at hP
        generalize y.drop (en - m) = y2 at hP
        have HP := Lib.hid hP
        have HR := Lib.hid hR
        clear hI hJ hP hR hne hMa hb2 hen hez hens hbounds
        obtain ⟨bb, hbb⟩ : ∃ bb : Bool, bb = decide (s < m ∧ m < en) := ⟨_, rfl⟩
        have HBB := Lib.hid hbb
        clear hbb
        go_upto_region 39 with fail
        rw [HE.out]
        go_cut [185] (fun v wx => v = .bool bb ∧ wx = wr)
        case first =>
          by_cases hr1 : s < m
          · have d1 : decide (s < m) = true := by simpa using hr1
            by_cases hr2 : m < en
            · have d2 : decide (m < en) = true := by simpa using hr2
              go_wp2
              go_meet
              exact ⟨by rw [HBB.out]; simp [hr1, hr2], rfl⟩
            · have d2 : decide (m < en) = false := by simpa using hr2
              go_wp2
              go_meet
              exact ⟨by rw [HBB.out]; simp [hr2], rfl⟩
          · have d1 : decide (s < m) = false := by simpa using hr1
            go_wp2
            go_meet
            exact ⟨by rw [HBB.out]; simp [hr1], rfl⟩
        case rest =>
          obtain ⟨rfl, rfl⟩ := hcut
          go_upto_if 185 with fail
          go_cut [20] (fun v wx => v = .int .i64 s ∧ Star W wx (plcA g n q (p ++ ((x1 ++ y1) ++ (x2 ++ (y2 ++ r)))) :: R))
          case first =>
            by_cases hr : s < m ∧ m < en
            · obtain rfl : bb = true := by rw [HBB.out]; simp [hr]
              have hrot : Star W wc (plcA g n q ((p ++ x1) ++ (x2 ++ (y1 ++ (y2 ++ r)))) :: R) := by rw [← HP.out.eD]; exact HR.out
              have C := Lib.hid fun f => rotate_any g n q s m en (p ++ x1) x2 y1 (y2 ++ r) f W wc R (by have := HP.out.l1; have := HM.out.ha; rw [List.length_append]; omega) (by have := HP.out.l2; omega) (by have := HP.out.l3; omega) (by have := HP.out.l2; omega) (by have := HP.out.l3; omega) hn hrot
              clear hrot hr
              go_wp2_with fail
              refine (C.out _).mono ?_
              rintro e' w2 ⟨rfl, h2⟩
              have e1 : (p ++ x1) ++ (y1 ++ (x2 ++ (y2 ++ r))) = p ++ ((x1 ++ y1) ++ (x2 ++ (y2 ++ r))) := by simp
              rw [e1] at h2
              have H2 := Lib.hid h2
              clear h2 e1
              go_wp2
              go_meet
              exact ⟨rfl, H2.out⟩
            · obtain rfl : bb = false := by rw [HBB.out]; simpa using hr
              have hor : x2 = [] ∨ y1 = [] := by
                have l2 := HP.out.l2
                have l3 := HP.out.l3
                by_cases q1 : s < m
                · exact .inr (List.eq_nil_of_length_eq_zero (by omega))
                · exact .inl (List.eq_nil_of_length_eq_zero (by omega))
              have h2 : Star W wc (plcA g n q (p ++ ((x1 ++ y1) ++ (x2 ++ (y2 ++ r)))) :: R) := by
                have := HR.out
                rw [HP.out.eD] at this
                rcases hor with e | e
                · rw [e] at this ⊢; simpa using this
                · rw [e] at this ⊢; simpa using this
              have H2 := Lib.hid h2
              clear h2 hor hr
              go_wp2
              go_meet
              exact ⟨rfl, H2.out⟩
          case rest => as_aux_lemma =>
            obtain ⟨rfl, h3⟩ := hcut
            have H3 := Lib.hid h3
            clear h3 HR HBB
            obtain ⟨w3, rfl⟩ : ∃ w3 : World, w3 = wc := ⟨_, rfl⟩
            obtain ⟨b1, hb1⟩ : ∃ b1 : Bool, b1 = decide (a < s ∧ s < mid) := ⟨_, rfl⟩
            have HB1 := Lib.hid hb1
            clear hb1
            go_upto_region 41 with fail
            go_cut [199] (fun v wx => v = .bool b1 ∧ wx = w3)
            case first =>
              by_cases hr1 : a < s
              · have d1 : decide (a < s) = true := by simpa using hr1
                by_cases hr2 : s < mid
                · have d2 : decide (s < mid) = true := by simpa using hr2
                  go_wp2
                  go_meet
                  exact ⟨by rw [HB1.out]; simp [hr1, hr2], rfl⟩
                · have d2 : decide (s < mid) = false := by simpa using hr2
                  go_wp2
                  go_meet
                  exact ⟨by rw [HB1.out]; simp [hr2], rfl⟩
              · have d1 : decide (a < s) = false := by simpa using hr1
                go_wp2
                go_meet
                exact ⟨by rw [HB1.out]; simp [hr1], rfl⟩
            case rest =>
              obtain ⟨rfl, rfl⟩ := hcut
              obtain ⟨w4, rfl⟩ : ∃ w4 : World, w4 = wc := ⟨_, rfl⟩
              go_upto_if 199 with fail
              go_cut [20] (fun v wx => v = .int .i64 s ∧ ∃ z1, SP (lessOf cv) z1 (x1 ++ y1) ∧ Star W wx (plcA g n q (p ++ (z1 ++ (x2 ++ (y2 ++ r)))) :: R))
              case first =>
                by_cases hr : a < s ∧ s < mid
                · obtain rfl : b1 = true := by rw [HB1.out]; simp [hr]
                  have C := Lib.hid (HIH.out a s mid p x1 y1 (x2 ++ (y2 ++ r)) w4 (by have := HP.out.l1; have := HP.out.l3; have := HES.out; omega) (by have := HP.out.l1; omega) (by have := HP.out.l3; have := HES.out; omega)
                    ⟨HM.out.ha, by have := HP.out.l1; omega, by have := HP.out.l3; have := HES.out; omega, HP.out.s1, HP.out.s3, HP.out.c1, HP.out.k1, HP.out.k3⟩ (by have := H3.out; rw [List.append_assoc] at this; exact this))
                  clear hr
                  go_wp2_with fail
                  refine C.out.mono ?_
                  rintro e' w5 ⟨rfl, z1, hz1, h5⟩
                  have H5 := Lib.hid (⟨hz1, h5⟩ : _ ∧ _)
                  clear hz1 h5
                  go_wp2
                  go_meet
                  exact ⟨rfl, z1, H5.out.1, H5.out.2⟩
                · obtain rfl : b1 = false := by rw [HB1.out]; simpa using hr
                  have hsd : SP (lessOf cv) (x1 ++ y1) (x1 ++ y1) := sp_side HP.out.s1 HP.out.s3 (by
                    have l1 := HP.out.l1
                    have l3 := HP.out.l3
                    have := HES.out
                    by_cases q1 : a < s
                    · right; omega
                    · left; omega)
                  have H5 := Lib.hid hsd
                  clear hsd hr
                  go_wp2
                  go_meet
                  exact ⟨rfl, _, H5.out, H3.out⟩
              case rest => as_aux_lemma =>
                obtain ⟨rfl, z1, hz1, h5⟩ := hcut
                have H5 := Lib.hid (⟨hz1, h5⟩ : _ ∧ _)
                clear hz1 h5 HB1 H3
                obtain ⟨w5, rfl⟩ : ∃ w5 : World, w5 = wc := ⟨_, rfl⟩
                by_cases hr1 : mid < en
                · have d1 : decide (mid < en) = true := by simpa using hr1
                  by_cases hr2 : en < b
                  · have d2 : decide (en < b) = true := by simpa using hr2
                    have C := Lib.hid (HIH.out mid en b (p ++ z1) x2 y2 r w5 (by have := HP.out.l2; have := HP.out.l4; have := HES.out; omega) (by have := HP.out.l2; have := HES.out; omega) (by have := HP.out.l4; omega)
                      ⟨by have := H5.out.1.1.length_eq; have := HP.out.l1; have := HP.out.l3; have := HES.out; have := HM.out.ha; simp only [List.length_append] at *; omega, by have := HP.out.l2; have := HES.out; omega, by have := HP.out.l4; omega, HP.out.s2, HP.out.s4, HP.out.c2, HP.out.k2, HP.out.k4⟩ (by have := H5.out.2; rw [List.append_assoc]; exact this))
                    go_wp2_with fail
                    refine C.out.mono ?_
                    rintro e' w6 ⟨rfl, z2, hz2, h6⟩
                    have H6 := Lib.hid (⟨hz2, h6⟩ : _ ∧ _)
                    clear hz2 h6
                    go_wp2
                    go_end0
                    refine ⟨rfl, z1 ++ z2, HP.out.fin z1 z2 H5.out.1 H6.out.1, ?_⟩
                    have := H6.out.2
                    rw [List.append_assoc] at this ⊢
                    exact this
                  · have d2 : decide (en < b) = false := by simpa using hr2
                    go_wp2
                    go_end0
                    refine ⟨rfl, z1 ++ (x2 ++ y2), HP.out.fin z1 _ H5.out.1 (sp_side HP.out.s2 HP.out.s4 (.inr (by have := HP.out.l4; omega))), ?_⟩
                    have := H5.out.2
                    simpa only [List.append_assoc] using this
                · have d1 : decide (mid < en) = false := by simpa using hr1
                  go_wp2
                  go_end0
                  refine ⟨rfl, z1 ++ (x2 ++ y2), HP.out.fin z1 _ H5.out.1 (sp_side HP.out.s2 HP.out.s4 (.inl (by have := HP.out.l2; have := HES.out; omega))), ?_⟩
                  have := H5.out.2
                  simpa only [List.append_assoc] using this
theorem merge_any (g n q : Nat) (cap : Value) (ok : Nat → Prop) (cv : Nat → Nat → Int) (W : World) (R : List HA) (hn : n ≤ 17592186044416) (Wk : Weak (lessOf cv)) (hC : Cmps g n q W R cap ok cv) : ∀ N, Merges g n q cap ok cv W R N := by
  intro N
  induction N with
  | zero => intro a m b p x y r w hN hx0; omega
  | succ N ih =>
    intro a m b p x y r w hN hx0 hy0 M h
    by_cases hx1 : x.length = 1
    · obtain ⟨u, rfl⟩ : ∃ u, x = [u] := List.length_eq_one_iff.1 hx1
      have hm := M.hm
      simp only [List.length_cons, List.length_nil] at hm
      rw [hm]
      exact merge_left g n q a b p y r u cap ok cv W w R M.ha (by have := M.hb; omega) hn M.hy (fun v hv => M.hxy u (by simp) v hv) (M.okx u (by simp)) M.oky Wk hC h
    by_cases hy1 : y.length = 1
    · obtain ⟨u, rfl⟩ : ∃ u, y = [u] := List.length_eq_one_iff.1 hy1
      have hb := M.hb
      simp only [List.length_cons, List.length_nil] at hb
      rw [hb]
      exact merge_right g n q a m p x r u cap ok cv W w R M.ha M.hm (by omega) hn M.hx (fun v hv => M.hxy v hv u (by simp)) (M.oky u (by simp)) M.okx Wk hC h
    exact merge_step g n q cap ok cv W R N hn Wk hC ih a m b p x y r w hN (by omega) (by omega) M h
end Go.Proofs.Ytljdkfhkpjjfgaa
