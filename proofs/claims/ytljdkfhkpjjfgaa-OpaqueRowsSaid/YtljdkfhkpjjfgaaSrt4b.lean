/- The sort's merge where one side is a single place, over a comparer: the comparer may make memory: lemmas for the laws of layer 22. -/
import Derived.Test.YtljdkfhkpjjfgaaSrt3b
namespace Go.Proofs.Ytljdkfhkpjjfgaa
open Go.RowKit
set_option linter.unusedVariables false

theorem at_tail {p y r : List Nat} {u c : Nat} (h1 : p.length + 1 ≤ c) (h2 : c < p.length + 1 + y.length) : (p ++ u :: (y ++ r))[c]? = y[c - (p.length + 1)]? := by
  have := at_third (p := p) (x := [u]) (y := y) (r := r) (c := c) (by simpa using h1) (by simpa using h2)
  simpa using this
theorem across_head {less : Nat → Nat → Bool} (Wk : Weak less) {u : Nat} {y : List Nat} (hy : y.Pairwise (tot less)) (h : ∀ v, y.head? = some v → tot less u v) : ∀ v ∈ y, tot less u v := by
  cases y with
  | nil => intro v hv; cases hv
  | cons a y =>
    intro v hv
    have ha := h a rfl
    rcases List.mem_cons.1 hv with rfl | hv
    · exact ha
    · exact tot_trans Wk ha ((List.pairwise_cons.1 hy).1 v hv)
set_option maxRecDepth 100000 in
set_option maxHeartbeats 3200000 in
theorem merge_left (g n q a b : Nat) (p y r : List Nat) (u : Nat) (cap : Value) (ok : Nat → Prop) (cv : Nat → Nat → Int) (W w : World) (R : List HA) (ha : a = p.length) (hb : b = a + 1 + y.length) (hn : n ≤ 17592186044416)
    (hy : y.Pairwise (tot (lessOf cv))) (hlt : ∀ v ∈ y, u < v) (hoku : ok u) (hok : ∀ x ∈ y, ok x) (Wk : Weak (lessOf cv)) (hC : Cmps g n q W R cap ok cv) (h : Star W w (plcA g n q (p ++ u :: (y ++ r)) :: R)) :
    Calls Try.prog 47 #[.slice (some ⟨g, 0, none⟩) n q, .int .i64 a, .int .i64 ((a + 1 : Nat) : Int), .int .i64 b, .func (.func 24) #[] #[cap]] w fun e w' => e = .returned (.tuple #[]) ∧ ∃ z, SP (lessOf cv) z (u :: y) ∧ Star W w' (plcA g n q (p ++ (z ++ r)) :: R) := by
  have hl := plc_len h
  simp only [List.length_append, List.length_cons] at hl
  have hbn : b ≤ n := by omega
  have hab : a + 1 ≤ b := by omega
  have hcap1 := h.rowCap.1
  have HA := Lib.hid (⟨ha, hb⟩ : a = p.length ∧ b = a + 1 + y.length)
  have HY := Lib.hid (⟨hy, hlt, hok⟩ : y.Pairwise (tot (lessOf cv)) ∧ (∀ v ∈ y, u < v) ∧ ∀ x ∈ y, ok x)
  have HC := Lib.hid hC
  have HW := Lib.hid Wk
  clear hl ha hb hy hlt hok hC Wk
  have e1 : ((a + 1 : Nat) : Int) - a = 1 := by omega
  obtain ⟨m, hm⟩ : ∃ m : Nat, m = a + 1 := ⟨_, rfl⟩
  rw [← hm] at e1 ⊢
  have HM := Lib.hid hm
  have ht : (((m : Int) - a) == 1) = true := by simpa using e1
  have hmb : m ≤ b := by omega
  have ham : a ≤ m := by omega
  clear hm e1
  go_enter Try.func47, Try.ntmps47
  go_wp2
  go_loopw [10, 11] (fun i j wr => ∃ i' j' : Nat, m ≤ i' ∧ i' ≤ j' ∧ j' ≤ b ∧ i = .int .i64 (i' : Int) ∧ j = .int .i64 (j' : Int) ∧ (∀ v, m < i' → y[i' - 1 - m]? = some v → tot (lessOf cv) v u) ∧ (∀ v, y[j' - m]? = some v → tot (lessOf cv) u v) ∧ Star W wr (plcA g n q (p ++ u :: (y ++ r)) :: R)) (fun i j _ => (intOf j).toNat - (intOf i).toNat)
  case atStart => exact ⟨m, b, by omega, by omega, by omega, rfl, rfl, fun v h => absurd h (by omega), fun v h2 => by
    have := (List.getElem?_eq_some_iff.1 h2).1
    have := HA.out; have := HM.out; omega, h⟩
  case round =>
    clear h
    obtain ⟨i', j', hi1, hi2, hi3, rfl, rfl, hI, hJ, hR⟩ := hrel
    by_cases hlt : i' < j'
    · obtain ⟨hh, hhe⟩ : ∃ hh : Nat, hh = (i' + j') / 2 := ⟨_, rfl⟩
      have h1 : i' ≤ hh := by omega
      have h2 : hh < j' := by omega
      have hsum : (i' : Int) + j' ≤ 9223372036854775807 := by omega
      have hsum0 : (0 : Int) ≤ (i' : Int) + j' := by omega
      have hz : ((i' : Int) + j') / 2 = (hh : Int) := by omega
      have HZ := Lib.hid hz
      have hhm : m ≤ hh := by omega
      obtain ⟨v, hv⟩ : ∃ v, y[hh - m]? = some v := ⟨_, List.getElem?_eq_getElem (by have := HA.out; have := HM.out; omega)⟩
      have hc1 : (p ++ u :: (y ++ r))[hh]? = some v := by
        rw [at_tail (by have := HA.out; have := HM.out; omega) (by have := HA.out; have := HM.out; omega), show hh - (p.length + 1) = hh - m by have := HA.out; have := HM.out; omega]; exact hv
      have hc0 : (p ++ u :: (y ++ r))[a]? = some u := by rw [List.getElem?_append_right (by have := HA.out; omega), show a - p.length = 0 by have := HA.out; omega]; rfl
      obtain ⟨c1, f1⟩ := plc_cell hR hc1
      obtain ⟨c0, f0⟩ := plc_cell hR hc0
      have hokv : ok v := HY.out.2.2 v (List.mem_of_getElem? hv)
      have huv : u < v := HY.out.2.1 v (List.mem_of_getElem? hv)
      have HCC := Lib.hid (HC.out _ wr.drew v u hokv hoku hR.drew)
      have HC01 := Lib.hid (⟨hc1, hc0⟩ : _ ∧ _)
      have hhn : hh < n := by omega
      have han : a < n := by omega
      have HR := Lib.hid hR
      have HV := Lib.hid hv
      have HI := Lib.hid hI
      have HJ := Lib.hid hJ
      clear hz hc1 hc0 hR hv hI hJ hhe
      go_wp2_with fail
      rw [HZ.out]
      by_cases hls : cv v u < 0
      · have hlb : decide (cv v u < 0) = true := by simpa using hls
        have HL : Hid (tot (lessOf cv) v u) := Lib.hid (.inl (by unfold lessOf; simpa using hls))
        go_region_held3 (fun w' => w'.cell? ⟨g, hh, none⟩ = some (.int .i64 v) ∧ w'.cell? ⟨g, a, none⟩ = some (.int .i64 u)) (go_keep) (
          (go_at_call 24; refine HCC.out.mono ?_; rintro e wq ⟨rfl, hbq⟩; have hQ2 := HR.out.drew.keptBelow hbq; obtain ⟨d1, g1⟩ := plc_cell hQ2 HC01.out.1; obtain ⟨d0, g0⟩ := plc_cell hQ2 HC01.out.2; have HQ2 := Lib.hid hQ2; clear hQ2 hbq))
        all_goals
         go_wp2
         go_roundw
         case rel => exact ⟨hh + 1, j', by omega, by omega, by omega, by go_num, rfl, fun v' _ hv' => by
            rw [show hh + 1 - 1 - m = hh - m by omega, HV.out] at hv'; injection hv' with e; rw [← e]; exact HL.out, HJ.out, HQ2.out⟩
         case measure => simp [intOf]; omega
      · have hlb : decide (cv v u < 0) = false := by simpa using hls
        have HL : Hid (tot (lessOf cv) u v) := Lib.hid (.inr ⟨by unfold lessOf; exact hlb, huv⟩)
        go_region_held3 (fun w' => w'.cell? ⟨g, hh, none⟩ = some (.int .i64 v) ∧ w'.cell? ⟨g, a, none⟩ = some (.int .i64 u)) (go_keep) (
          (go_at_call 24; refine HCC.out.mono ?_; rintro e wq ⟨rfl, hbq⟩; have hQ2 := HR.out.drew.keptBelow hbq; obtain ⟨d1, g1⟩ := plc_cell hQ2 HC01.out.1; obtain ⟨d0, g0⟩ := plc_cell hQ2 HC01.out.2; have HQ2 := Lib.hid hQ2; clear hQ2 hbq))
        all_goals
         go_wp2
         go_roundw
         case rel => exact ⟨i', hh, by omega, by omega, by omega, rfl, rfl, HI.out, fun v' hv' => by
            rw [HV.out] at hv'; injection hv' with e; rw [← e]; exact HL.out, HQ2.out⟩
         case measure => simp [intOf]; omega
    · have hij : i' = j' := by omega
      subst hij
      have hsp : SP (lessOf cv) (y.take (i' - m) ++ u :: y.drop (i' - m)) (u :: y) := by
        refine ⟨?_, insert_sorted HW.out (by rw [List.take_append_drop]; exact HY.out.1) (fun v hv => ?_) (across_head HW.out ?_ fun v hv => ?_)⟩
        · have e1 : (y.take (i' - m) ++ u :: y.drop (i' - m)).Perm (u :: (y.take (i' - m) ++ y.drop (i' - m))) := List.perm_middle
          rwa [List.take_append_drop] at e1
        · obtain ⟨k0, k1⟩ := last_take hv (by have := HA.out; have := HM.out; omega)
          exact hI v (by omega) (by rw [show i' - 1 - m = i' - m - 1 by omega]; exact k1)
        · exact HY.out.1.sublist (List.drop_sublist _ _)
        · exact hJ v (head_drop hv).2
      have h0 : Star W wr (plcA g n q (p ++ (y.take 0 ++ u :: (y.drop 0 ++ r))) :: R) := hR
      have HSP := Lib.hid hsp
      have hnlt : ¬ (i' : Int) < i' := by omega
      obtain ⟨wo, rfl⟩ : ∃ wo : World, wo = wr := ⟨_, rfl⟩
      have hyl : i' - m ≤ y.length := by have := HA.out; have := HM.out; omega
      have ham1 : a + 1 ≤ i' := by have := HM.out; omega
      clear hI hJ hsp hR
      go_wp2
      go_loopw [13] (fun k wr => ∃ t : Nat, t ≤ i' - m ∧ k = .int .i64 ((a + t : Nat) : Int) ∧ Star W wr (plcA g n q (p ++ (y.take t ++ u :: (y.drop t ++ r))) :: R)) (fun k _ => i' - (intOf k).toNat)
      case atStart => exact ⟨0, Nat.zero_le _, by go_num, h0⟩
      case round =>
        clear h0
        obtain ⟨t, ht2, rfl, hQ⟩ := hrel
        have hapm := HA.out.1
        have hm1 := HM.out
        by_cases hlt2 : t < i' - m
        · obtain ⟨v, hv⟩ : ∃ v, y[t]? = some v := ⟨_, List.getElem?_eq_getElem (by omega)⟩
          have hd : y.drop t = v :: y.drop (t + 1) := by
            obtain ⟨hi, rfl⟩ := List.getElem?_eq_some_iff.1 hv
            exact List.drop_eq_getElem_cons hi
          have e0 : p ++ (y.take t ++ u :: (y.drop t ++ r)) = (p ++ y.take t) ++ u :: v :: (y.drop (t + 1) ++ r) := by rw [hd]; simp
          have hlen : (p ++ y.take t).length = a + t := by rw [List.length_append, List.length_take]; omega
          have e1 : swp ((p ++ y.take t) ++ u :: v :: (y.drop (t + 1) ++ r)) (a + t) (a + t + 1) = p ++ (y.take (t + 1) ++ u :: (y.drop (t + 1) ++ r)) := by
            rw [swp_next hlen.symm (by omega), List.take_add_one, hv]; simp
          rw [e0] at hQ
          have a0 : ((p ++ y.take t) ++ u :: v :: (y.drop (t + 1) ++ r))[a + t]? = some u := by rw [List.getElem?_append_right (by omega), hlen, Nat.sub_self]; rfl
          have a1 : ((p ++ y.take t) ++ u :: v :: (y.drop (t + 1) ++ r))[a + t + 1]? = some v := by rw [List.getElem?_append_right (by omega), hlen, show a + t + 1 - (a + t) = 1 by omega]; rfl
          obtain ⟨c0, f0⟩ := plc_cell hQ a0
          obtain ⟨c1, f1⟩ := plc_cell hQ a1
          obtain ⟨c3, f3⟩ := plc_set (x := v) hQ (i := a + t) (j := a + t + 1) (by omega) a1
          have hS := plc_swp hQ a0 a1
          rw [e1] at hS
          have HS := Lib.hid hS
          obtain ⟨k, hk⟩ : ∃ k : Nat, k = a + t := ⟨_, rfl⟩
          rw [← hk] at c0 f0 c1 f1 c3 f3 ⊢
          have hki : (k : Int) < (i' : Int) - 1 := by omega
          have hkn : k + 1 < n := by omega
          have HK := Lib.hid hk
          rw [← hk] at HS
          clear hQ hS e0 e1 a0 a1 hlen hd hv hk hapm hm1
          go_wp2
          go_region
          all_goals
            go_wp2
            go_roundw
            case rel =>
              have hk := HK.out
              exact ⟨t + 1, by omega, by rw [show a + (t + 1) = k + 1 by omega]; go_num, HS.out.drew⟩
            case measure => simp [intOf]; omega
        · have htm : t = i' - m := by omega
          have e1 : p ++ (y.take t ++ u :: (y.drop t ++ r)) = p ++ ((y.take (i' - m) ++ u :: y.drop (i' - m)) ++ r) := by rw [htm]; simp
          rw [e1] at hQ
          have HQ := Lib.hid hQ
          have hki : ¬ ((a + t : Nat) : Int) < (i' : Int) - 1 := by omega
          obtain ⟨k, hk⟩ : ∃ k : Nat, k = a + t := ⟨_, rfl⟩
          rw [← hk] at hki ⊢
          clear hQ e1 hk htm hapm hm1
          go_wp2
          refine bodyPost_ret (results_none rfl _ _ _) rfl ?_
          exact ⟨rfl, _, HSP.out, HQ.out⟩
set_option maxRecDepth 100000 in
set_option maxHeartbeats 3200000 in
theorem merge_right (g n q a m : Nat) (p x r : List Nat) (u : Nat) (cap : Value) (ok : Nat → Prop) (cv : Nat → Nat → Int) (W w : World) (R : List HA) (ha : a = p.length) (hm : m = a + x.length) (hx2 : 2 ≤ x.length) (hn : n ≤ 17592186044416)
    (hx : x.Pairwise (tot (lessOf cv))) (hlt : ∀ v ∈ x, v < u) (hoku : ok u) (hok : ∀ v ∈ x, ok v) (Wk : Weak (lessOf cv)) (hC : Cmps g n q W R cap ok cv) (h : Star W w (plcA g n q (p ++ (x ++ u :: r)) :: R)) :
    Calls Try.prog 47 #[.slice (some ⟨g, 0, none⟩) n q, .int .i64 a, .int .i64 m, .int .i64 ((m + 1 : Nat) : Int), .func (.func 24) #[] #[cap]] w fun e w' => e = .returned (.tuple #[]) ∧ ∃ z, SP (lessOf cv) z (x ++ [u]) ∧ Star W w' (plcA g n q (p ++ (z ++ r)) :: R) := by
  have hl := plc_len h
  simp only [List.length_append, List.length_cons] at hl
  have hcap1 := h.rowCap.1
  have HA := Lib.hid (⟨ha, hm⟩ : a = p.length ∧ m = a + x.length)
  have HY := Lib.hid (⟨hx, hlt, hok⟩ : x.Pairwise (tot (lessOf cv)) ∧ (∀ v ∈ x, v < u) ∧ ∀ v ∈ x, ok v)
  have HC := Lib.hid hC
  have HW := Lib.hid Wk
  have ham : a + 2 ≤ m := by omega
  have hmn : m + 1 ≤ n := by omega
  clear hl ha hm hx hlt hok hC Wk hx2
  have e1 : ((m + 1 : Nat) : Int) - m = 1 := by omega
  obtain ⟨b, hb⟩ : ∃ b : Nat, b = m + 1 := ⟨_, rfl⟩
  rw [← hb] at e1 ⊢
  have HB := Lib.hid hb
  have ht : (((b : Int) - m) == 1) = true := by simpa using e1
  have ht1 : (((m : Int) - a) == 1) = false := by simp; omega
  have hmb : m ≤ b := by omega
  have hbn : b ≤ n := by omega
  clear hb e1
  go_enter Try.func47, Try.ntmps47
  go_wp2
  go_loopw [14, 15] (fun i j wr => ∃ i' j' : Nat, a ≤ i' ∧ i' ≤ j' ∧ j' ≤ m ∧ i = .int .i64 (i' : Int) ∧ j = .int .i64 (j' : Int) ∧ (∀ v, a < i' → x[i' - 1 - a]? = some v → tot (lessOf cv) v u) ∧ (∀ v, x[j' - a]? = some v → tot (lessOf cv) u v) ∧ Star W wr (plcA g n q (p ++ (x ++ u :: r)) :: R)) (fun i j _ => (intOf j).toNat - (intOf i).toNat)
  case atStart => exact ⟨a, m, by omega, by omega, by omega, rfl, rfl, fun v h => absurd h (by omega), fun v h2 => by
    have := (List.getElem?_eq_some_iff.1 h2).1
    have := HA.out; omega, h⟩
  case round =>
    clear h
    obtain ⟨i', j', hi1, hi2, hi3, rfl, rfl, hI, hJ, hR⟩ := hrel
    by_cases hlt : i' < j'
    · obtain ⟨hh, hhe⟩ : ∃ hh : Nat, hh = (i' + j') / 2 := ⟨_, rfl⟩
      have h1 : i' ≤ hh := by omega
      have h2 : hh < j' := by omega
      have hsum : (i' : Int) + j' ≤ 9223372036854775807 := by omega
      have hsum0 : (0 : Int) ≤ (i' : Int) + j' := by omega
      have hz : ((i' : Int) + j') / 2 = (hh : Int) := by omega
      have HZ := Lib.hid hz
      obtain ⟨v, hv⟩ : ∃ v, x[hh - a]? = some v := ⟨_, List.getElem?_eq_getElem (by have := HA.out; omega)⟩
      have hc1 : (p ++ (x ++ u :: r))[hh]? = some v := by
        rw [at_second (by have := HA.out; omega) (by have := HA.out; omega), show hh - p.length = hh - a by have := HA.out; omega]; exact hv
      have hc0 : (p ++ (x ++ u :: r))[m]? = some u := by
        rw [List.getElem?_append_right (by have := HA.out; omega), List.getElem?_append_right (by have := HA.out; omega), show m - p.length - x.length = 0 by have := HA.out; omega]; rfl
      obtain ⟨c1, f1⟩ := plc_cell hR hc1
      obtain ⟨c0, f0⟩ := plc_cell hR hc0
      have hokv : ok v := HY.out.2.2 v (List.mem_of_getElem? hv)
      have huv : v < u := HY.out.2.1 v (List.mem_of_getElem? hv)
      have HCC := Lib.hid (HC.out _ wr.drew u v hoku hokv hR.drew)
      have HC01 := Lib.hid (⟨hc1, hc0⟩ : _ ∧ _)
      have hhn : hh < n := by omega
      have han : m < n := by omega
      have HR := Lib.hid hR
      have HV := Lib.hid hv
      have HI := Lib.hid hI
      have HJ := Lib.hid hJ
      clear hz hc1 hc0 hR hv hI hJ hhe
      go_wp2_with fail
      rw [HZ.out]
      by_cases hls : cv u v < 0
      · have hlb : decide (cv u v < 0) = true := by simpa using hls
        have HL : Hid (tot (lessOf cv) u v) := Lib.hid (.inl (by unfold lessOf; simpa using hls))
        go_region_held3 (fun w' => w'.cell? ⟨g, hh, none⟩ = some (.int .i64 v) ∧ w'.cell? ⟨g, m, none⟩ = some (.int .i64 u)) (go_keep) (
          (go_at_call 24; refine HCC.out.mono ?_; rintro e wq ⟨rfl, hbq⟩; have hQ2 := HR.out.drew.keptBelow hbq; obtain ⟨d1, g1⟩ := plc_cell hQ2 HC01.out.1; obtain ⟨d0, g0⟩ := plc_cell hQ2 HC01.out.2; have HQ2 := Lib.hid hQ2; clear hQ2 hbq))
        all_goals
         go_wp2
         go_roundw
         case rel => exact ⟨i', hh, by omega, by omega, by omega, rfl, rfl, HI.out, fun v' hv' => by
            rw [HV.out] at hv'; injection hv' with e; rw [← e]; exact HL.out, HQ2.out⟩
         case measure => simp [intOf]; omega
      · have hlb : decide (cv u v < 0) = false := by simpa using hls
        have HL : Hid (tot (lessOf cv) v u) := Lib.hid (.inr ⟨by unfold lessOf; exact hlb, huv⟩)
        go_region_held3 (fun w' => w'.cell? ⟨g, hh, none⟩ = some (.int .i64 v) ∧ w'.cell? ⟨g, m, none⟩ = some (.int .i64 u)) (go_keep) (
          (go_at_call 24; refine HCC.out.mono ?_; rintro e wq ⟨rfl, hbq⟩; have hQ2 := HR.out.drew.keptBelow hbq; obtain ⟨d1, g1⟩ := plc_cell hQ2 HC01.out.1; obtain ⟨d0, g0⟩ := plc_cell hQ2 HC01.out.2; have HQ2 := Lib.hid hQ2; clear hQ2 hbq))
        all_goals
         go_wp2
         go_roundw
         case rel => exact ⟨hh + 1, j', by omega, by omega, by omega, by go_num, rfl, fun v' _ hv' => by
            rw [show hh + 1 - 1 - a = hh - a by omega, HV.out] at hv'; injection hv' with e; rw [← e]; exact HL.out, HJ.out, HQ2.out⟩
         case measure => simp [intOf]; omega
    · have hij : i' = j' := by omega
      subst hij
      have hsp : SP (lessOf cv) (x.take (i' - a) ++ u :: x.drop (i' - a)) (x ++ [u]) := by
        refine ⟨?_, insert_sorted HW.out (by rw [List.take_append_drop]; exact HY.out.1) (fun v hv => ?_) (across_head HW.out ?_ fun v hv => ?_)⟩
        · have e1 : (x.take (i' - a) ++ u :: x.drop (i' - a)).Perm (u :: (x.take (i' - a) ++ x.drop (i' - a))) := List.perm_middle
          rw [List.take_append_drop] at e1
          exact e1.trans (List.perm_append_comm (l₁ := [u]))
        · obtain ⟨k0, k1⟩ := last_take hv (by have := HA.out; omega)
          exact hI v (by omega) (by rw [show i' - 1 - a = i' - a - 1 by omega]; exact k1)
        · exact HY.out.1.sublist (List.drop_sublist _ _)
        · exact hJ v (head_drop hv).2
      have h0 : Star W wr (plcA g n q (p ++ (x.take (m - a) ++ u :: (x.drop (m - a) ++ r))) :: R) := by
        rw [List.take_of_length_le (by have := HA.out; omega), List.drop_eq_nil_of_le (by have := HA.out; omega)]; exact hR
      have HSP := Lib.hid hsp
      have hnlt : ¬ (i' : Int) < i' := by omega
      obtain ⟨wo, rfl⟩ : ∃ wo : World, wo = wr := ⟨_, rfl⟩
      clear hI hJ hsp hR
      go_wp2
      go_loopw [17] (fun k wr => ∃ t : Nat, i' - a ≤ t ∧ t ≤ m - a ∧ k = .int .i64 ((a + t : Nat) : Int) ∧ Star W wr (plcA g n q (p ++ (x.take t ++ u :: (x.drop t ++ r))) :: R)) (fun k _ => (intOf k).toNat)
      case atStart => exact ⟨m - a, by omega, Nat.le_refl _, by rw [show a + (m - a) = m by omega], h0⟩
      case round =>
        clear h0
        obtain ⟨t, ht2, ht3, rfl, hQ⟩ := hrel
        have hapm := HA.out
        by_cases hlt2 : i' - a < t
        · obtain ⟨s, rfl⟩ : ∃ s, t = s + 1 := ⟨t - 1, by omega⟩
          obtain ⟨v, hv⟩ : ∃ v, x[s]? = some v := ⟨_, List.getElem?_eq_getElem (by omega)⟩
          have hd : x.drop s = v :: x.drop (s + 1) := by
            obtain ⟨hi, rfl⟩ := List.getElem?_eq_some_iff.1 hv
            exact List.drop_eq_getElem_cons hi
          have e0 : p ++ (x.take (s + 1) ++ u :: (x.drop (s + 1) ++ r)) = (p ++ x.take s) ++ v :: u :: (x.drop (s + 1) ++ r) := by rw [List.take_add_one, hv]; simp
          have hlen : (p ++ x.take s).length = a + s := by rw [List.length_append, List.length_take]; omega
          have e1 : swp ((p ++ x.take s) ++ v :: u :: (x.drop (s + 1) ++ r)) (a + (s + 1)) (a + (s + 1) - 1) = p ++ (x.take s ++ u :: (x.drop s ++ r)) := by
            rw [swp_comm _ (by omega), swp_next (by omega) (by omega), hd]; simp
          rw [e0] at hQ
          have a1 : ((p ++ x.take s) ++ v :: u :: (x.drop (s + 1) ++ r))[a + (s + 1) - 1]? = some v := by rw [List.getElem?_append_right (by omega), hlen, show a + (s + 1) - 1 - (a + s) = 0 by omega]; rfl
          have a0 : ((p ++ x.take s) ++ v :: u :: (x.drop (s + 1) ++ r))[a + (s + 1)]? = some u := by rw [List.getElem?_append_right (by omega), hlen, show a + (s + 1) - (a + s) = 1 by omega]; rfl
          obtain ⟨c0, f0⟩ := plc_cell hQ a0
          obtain ⟨c1, f1⟩ := plc_cell hQ a1
          obtain ⟨c3, f3⟩ := plc_set (x := v) hQ (i := a + (s + 1)) (j := a + (s + 1) - 1) (by omega) a1
          have hS := plc_swp hQ a0 a1
          rw [e1] at hS
          have HS := Lib.hid hS
          obtain ⟨k, hk⟩ : ∃ k : Nat, k = a + (s + 1) := ⟨_, rfl⟩
          rw [← hk] at c0 f0 c1 f1 c3 f3 ⊢
          have hki : i' < k := by omega
          have hki2 : decide (i' < k) = true := by simpa using hki
          have hkn : k < n := by omega
          have hk1 : 1 ≤ k := by omega
          have hk2 : (k : Int) - 1 = ((a + s : Nat) : Int) := by omega
          have HK := Lib.hid hk2
          rw [← hk] at HS
          clear hQ hS e0 e1 a0 a1 hlen hd hv hk hapm hk2
          go_wp2
          go_region
          all_goals
            go_wp2
            go_roundw
            case rel => exact ⟨s, by omega, by omega, by rw [HK.out], HS.out.drew⟩
            case measure => simp [intOf]; omega
        · have htm : t = i' - a := by omega
          have e1 : p ++ (x.take t ++ u :: (x.drop t ++ r)) = p ++ ((x.take (i' - a) ++ u :: x.drop (i' - a)) ++ r) := by rw [htm]; simp
          rw [e1] at hQ
          have HQ := Lib.hid hQ
          obtain ⟨k, hk⟩ : ∃ k : Nat, k = a + t := ⟨_, rfl⟩
          rw [← hk]
          have hki : decide (i' < k) = false := by simp; omega
          clear hQ e1 hk htm hapm
          go_wp2
          refine bodyPost_ret (results_none rfl _ _ _) rfl ?_
          exact ⟨rfl, _, HSP.out, HQ.out⟩
end Go.Proofs.Ytljdkfhkpjjfgaa
