/- The sort by insertion, over a comparer: the comparer may make memory: lemmas for the laws of layer 22. -/
import Derived.Test.YtljdkfhkpjjfgaaSrt2
import Derived.Below
namespace Go.Proofs.Ytljdkfhkpjjfgaa
open Go.RowKit
set_option linter.unusedVariables false

theorem Star.keptBelow {W w w' : World} {L : List HA} (h : Star W w L) (hb : Below w.heap.size w w') : Star W w' L :=
  ⟨⟨hb.os.trans h.1.os, hb.tape.trans h.1.tape, hb.output.trans h.1.output⟩, h.2.up fun k o hk => by
    have hlt : k < w.heap.size := by
      rcases Nat.lt_or_ge k w.heap.size with hlt | hge
      · exact hlt
      · simp only [heapOf] at hk; rw [Array.getElem?_eq_none hge] at hk; cases hk
    simp only [heapOf] at hk ⊢
    rw [hb.block k hlt]; exact hk⟩
/-- what a comparer answers, whatever the row holds -/
def Cmps (g n q : Nat) (W : World) (R : List HA) (cap : Value) (ok : Nat → Prop) (cv : Nat → Nat → Int) : Prop :=
  ∀ (l : List Nat) (w : World) (x y : Nat), ok x → ok y → Star W w (plcA g n q l :: R) → Calls Try.prog 24 #[.int .i64 x, .int .i64 y, cap] w fun e w' => e = .returned (.int .i64 (cv x y)) ∧ Below w.heap.size w w'
def lessOf (cv : Nat → Nat → Int) (x y : Nat) : Bool := decide (cv x y < 0)
theorem sp_one (less : Nat → Nat → Bool) (s : List Nat) : SP less (s.take 1) (s.take 1) := by
  refine ⟨List.Perm.refl _, ?_⟩
  cases s with
  | nil => exact List.Pairwise.nil
  | cons a s => rw [List.take_succ_cons, List.take_zero]; exact List.pairwise_singleton _ _
theorem ins_done {less : Nat → Nat → Bool} (Wk : Weak less) {s t1 t2 : List Nat} {t x : Nat} (hx : s[t]? = some x) (hsp : SP less (t1 ++ t2) (s.take t)) (h1 : ∀ u, t1.getLast? = some u → tot less u x) (h2 : ∀ y ∈ t2, tot less x y) : SP less (t1 ++ x :: t2) (s.take (t + 1)) := by
  refine ⟨?_, insert_sorted Wk hsp.2 h1 h2⟩
  rw [List.take_add_one, hx]
  have e1 : (t1 ++ x :: t2).Perm (x :: (t1 ++ t2)) := List.perm_middle
  have e2 : (s.take t ++ (some x).toList).Perm (x :: s.take t) := List.perm_append_comm
  exact e1.trans ((List.Perm.cons x hsp.1).trans e2.symm)
theorem below_of {s z : List Nat} {t x y : Nat} (hs : s.Pairwise (· < ·)) (hx : s[t]? = some x) (hz : z.Perm (s.take t)) (hy : y ∈ z) : y < x := by
  have h1 := hz.subset hy
  obtain ⟨i, hi, rfl⟩ := List.mem_iff_getElem.1 h1
  rw [List.length_take] at hi
  rw [List.getElem_take]
  obtain ⟨ht, rfl⟩ := List.getElem?_eq_some_iff.1 hx
  exact List.pairwise_iff_getElem.1 hs i t _ _ (by omega)
set_option maxRecDepth 100000 in
set_option maxHeartbeats 3200000 in
theorem ins_any (g n q a b : Nat) (p s r : List Nat) (cap : Value) (ok : Nat → Prop) (cv : Nat → Nat → Int) (W w : World) (R : List HA) (ha : a = p.length) (hb : b = a + s.length) (hn : n ≤ 17592186044416)
    (hs : s.Pairwise (· < ·)) (hok : ∀ x ∈ s, ok x) (Wk : Weak (lessOf cv)) (hC : Cmps g n q W R cap ok cv) (h : Star W w (plcA g n q (p ++ (s ++ r)) :: R)) :
    Calls Try.prog 46 #[.slice (some ⟨g, 0, none⟩) n q, .int .i64 a, .int .i64 b, .func (.func 24) #[] #[cap]] w fun e w' => e = .returned (.tuple #[]) ∧ ∃ z, SP (lessOf cv) z s ∧ Star W w' (plcA g n q (p ++ (z ++ r)) :: R) := by
  have hl := plc_len h
  simp only [List.length_append] at hl
  have hbn : b ≤ n := by omega
  have hab : a ≤ b := by omega
  have hcap1 := h.rowCap.1
  have HA := Lib.hid (⟨ha, hb⟩ : a = p.length ∧ b = a + s.length)
  have HS := Lib.hid (⟨hs, hok⟩ : s.Pairwise (· < ·) ∧ ∀ x ∈ s, ok x)
  have HC := Lib.hid hC
  have HW := Lib.hid Wk
  have h0 : Star W w (plcA g n q (p ++ (s.take 1 ++ (s.drop 1 ++ r))) :: R) := by rw [← List.append_assoc (s.take 1), List.take_append_drop]; exact h
  clear h hl ha hb hs hok hC Wk
  go_enter Try.func46, Try.ntmps46
  go_wp2
  go_loopw [8, 9] (fun i j wr => ∃ t : Nat, 1 ≤ t ∧ a + t ≤ b + 1 ∧ i = .int .i64 ((a + t : Nat) : Int) ∧ ∃ z, SP (lessOf cv) z (s.take t) ∧ Star W wr (plcA g n q (p ++ (z ++ (s.drop t ++ r))) :: R)) (fun i _ _ => n + 2 - (intOf i).toNat)
  case atStart => exact ⟨1, by omega, by omega, by go_num, _, sp_one _ s, h0⟩
  case round =>
    clear h0
    obtain ⟨t, ht1, htb, rfl, z, hz, hR⟩ := hrel
    by_cases hlt : a + t < b
    · obtain ⟨x, hx⟩ : ∃ x, s[t]? = some x := ⟨_, List.getElem?_eq_getElem (by have := HA.out; omega)⟩
      have hzl : z.length = t := by have := hz.1.length_eq; rw [List.length_take] at this; have := HA.out; omega
      have hd : s.drop t = x :: s.drop (t + 1) := by
        obtain ⟨hi, rfl⟩ := List.getElem?_eq_some_iff.1 hx
        exact List.drop_eq_getElem_cons hi
      have hR2 : ∃ t1 t2 : List Nat, t = t1.length ∧ z = t1 ++ t2 ∧ (∀ y ∈ t2, tot (lessOf cv) x y) ∧ Star W wr (plcA g n q (p ++ (t1 ++ x :: (t2 ++ (s.drop (t + 1) ++ r)))) :: R) :=
        ⟨z, [], hzl.symm, by simp, by simp, by rw [hd] at hR; exact hR⟩
      have HZ := Lib.hid hz
      have HX := Lib.hid hx
      obtain ⟨it, hit⟩ : ∃ it : Nat, it = a + t := ⟨_, rfl⟩
      rw [← hit]
      have hltz : (it : Int) < b := by omega
      have hitn : it ≤ n := by omega
      have HIT := Lib.hid hit
      clear hit
      obtain ⟨wo, rfl⟩ : ∃ wo : World, wo = wr := ⟨_, rfl⟩
      clear hR hd hzl hz hx
      go_wp2
      go_loopw [9] (fun j wr => ∃ k jj : Nat, k ≤ t ∧ jj = a + k ∧ j = .int .i64 (jj : Int) ∧ ∃ t1 t2 : List Nat, k = t1.length ∧ z = t1 ++ t2 ∧ (∀ y ∈ t2, tot (lessOf cv) x y) ∧ Star W wr (plcA g n q (p ++ (t1 ++ x :: (t2 ++ (s.drop (t + 1) ++ r)))) :: R)) (fun j _ => (intOf j).toNat)
      case atStart => exact ⟨t, it, Nat.le_refl _, HIT.out, rfl, hR2⟩
      case round =>
        clear hR2
        obtain ⟨k, jj, hkt, hjj, rfl, t1, t2, hk, hzz, hgt, hQ⟩ := hrel
        have hxs : x ∈ s := List.mem_of_getElem? HX.out
        have hl2 := plc_len hQ
        simp only [List.length_append, List.length_cons] at hl2
        have hap := HA.out.1
        by_cases hk0 : k = 0
        · have h1 : SP (lessOf cv) (t1 ++ x :: t2) (s.take (t + 1)) := ins_done HW.out HX.out (by rw [← hzz]; exact HZ.out) (fun u hu => by
            have : t1 = [] := List.eq_nil_of_length_eq_zero (by omega)
            subst this; simp at hu) hgt
          have hnlt2 : decide (a < jj) = false := by simp; omega
          have e1 : p ++ (t1 ++ x :: (t2 ++ (s.drop (t + 1) ++ r))) = p ++ ((t1 ++ x :: t2) ++ (s.drop (t + 1) ++ r)) := by simp
          rw [e1] at hQ
          have H1 := Lib.hid (⟨h1, hQ⟩ : SP (lessOf cv) (t1 ++ x :: t2) (s.take (t + 1)) ∧ Star W wr (plcA g n q (p ++ ((t1 ++ x :: t2) ++ (s.drop (t + 1) ++ r))) :: R))
          clear h1 hQ e1 hgt hzz hk hap hl2 hk0 hjj
          go_wp2_with fail
          go_quiet (fail)
          go_wp2
          go_roundw
          case rel => exact ⟨t + 1, by omega, by have := HIT.out; omega, by rw [show a + (t + 1) = it + 1 by have := HIT.out; omega]; go_num, _, H1.out.1, H1.out.2.drewN nq⟩
          case measure => have := HIT.out; simp [intOf]; omega
        · obtain ⟨t3, y, rfl⟩ : ∃ t3 y, t1 = t3 ++ [y] := by
            have : t1 ≠ [] := by intro e; subst e; exact hk0 hk
            exact ⟨t1.dropLast, t1.getLast this, (List.dropLast_concat_getLast _).symm⟩
          have hk' : k = t3.length + 1 := by rw [hk]; simp
          have hyz : y ∈ z := by rw [hzz]; simp
          have hyx : y < x := below_of HS.out.1 HX.out HZ.out.1 hyz
          have hoky : ok y := HS.out.2 y (List.mem_of_mem_take (HZ.out.1.subset hyz))
          have hokx : ok x := HS.out.2 x hxs
          have e0 : p ++ ((t3 ++ [y]) ++ x :: (t2 ++ (s.drop (t + 1) ++ r))) = (p ++ t3) ++ y :: x :: (t2 ++ (s.drop (t + 1) ++ r)) := by simp
          rw [e0] at hQ
          have hj : jj = (p ++ t3).length + 1 := by rw [List.length_append]; omega
          have a1 : ((p ++ t3) ++ y :: x :: (t2 ++ (s.drop (t + 1) ++ r)))[jj]? = some x := by rw [hj, List.getElem?_append_right (by omega), show (p ++ t3).length + 1 - (p ++ t3).length = 1 by omega]; rfl
          have a0 : ((p ++ t3) ++ y :: x :: (t2 ++ (s.drop (t + 1) ++ r)))[jj - 1]? = some y := by rw [show jj - 1 = (p ++ t3).length by omega, List.getElem?_append_right (by omega), Nat.sub_self]; rfl
          have a1' := a1
          have a0' := a0
          obtain ⟨c1, f1⟩ := plc_cell hQ a1
          obtain ⟨c0, f0⟩ := plc_cell hQ a0
          have hC := fun W' (h : Star W W' (plcA g n q ((p ++ t3) ++ y :: x :: (t2 ++ (s.drop (t + 1) ++ r))) :: R)) => HC.out _ W' x y hokx hoky h
          have hguard : decide (a < jj) = true := by simp; omega
          have HCC := Lib.hid hC
          have hjn : jj < n := by simp only [List.length_append, List.length_cons, List.length_nil] at hl2; omega
          have hak : 1 ≤ jj := by omega
          have eS : swp ((p ++ t3) ++ y :: x :: (t2 ++ (s.drop (t + 1) ++ r))) jj (jj - 1) = p ++ (t3 ++ x :: ((y :: t2) ++ (s.drop (t + 1) ++ r))) := by
            rw [swp_comm _ (by omega), swp_next (by omega) (by omega)]; simp
          have hsw := fun W' (h : Star W W' (plcA g n q ((p ++ t3) ++ y :: x :: (t2 ++ (s.drop (t + 1) ++ r))) :: R)) => plc_swp h a1 a0
          rw [eS] at hsw
          have hset := fun W' (h : Star W W' (plcA g n q ((p ++ t3) ++ y :: x :: (t2 ++ (s.drop (t + 1) ++ r))) :: R)) => plc_set h (i := jj) (j := jj - 1) (x := y) (by omega) a0
          have HQ := Lib.hid hQ
          have HSW := Lib.hid hsw
          have HSET := Lib.hid hset
          have HK := Lib.hid (⟨hk', hzz, hgt, hap, hjj⟩ : k = t3.length + 1 ∧ z = (t3 ++ [y]) ++ t2 ∧ (∀ y ∈ t2, tot (lessOf cv) x y) ∧ a = p.length ∧ jj = a + k)
          clear hC hk hzz hgt hap hk' hQ hjj a0 a1 e0 eS hsw hset hyz hl2 hj
          have hj1 : (jj : Int) - 1 = ((jj - 1 : Nat) : Int) := by omega
          have HJ := Lib.hid hj1
          clear hj1
          have A01 := Lib.hid (⟨a1', a0'⟩ : _ ∧ _)
          clear a0' a1'
          by_cases hls : cv x y < 0
          · have HLS : Hid (tot (lessOf cv) x y) := Lib.hid (.inl (by unfold lessOf; simpa using hls))
            have hlb : decide (cv x y < 0) = true := by simpa using hls
            go_wp2_with fail
            have v1 : IntKind.i64.wrap ((jj : Int) - 1) = (jj : Int) - 1 := IntWalk.i64_in _ (by omega)
            have v2 : (0 : Int) ≤ (jj : Int) - 1 := by omega
            have v3 : (1 : Int) ≤ (jj : Int) := by omega
            have v4 : (jj : Int) - 1 < n := by omega
            have v5 : ((jj : Int) - 1).toNat = jj - 1 := by omega
            go_region_held3 (fun w' => w'.cell? ⟨g, jj, none⟩ = some (.int .i64 x) ∧ w'.cell? ⟨g, jj - 1, none⟩ = some (.int .i64 y)) (go_keep) (
              (go_at_call 24; refine (HCC.out _ HQ.out.drew).mono ?_; rintro e wq ⟨rfl, hbq⟩; have hQ2 := HQ.out.drew.keptBelow hbq; obtain ⟨d1, g1⟩ := plc_cell hQ2 A01.out.1; obtain ⟨d0, g0⟩ := plc_cell hQ2 A01.out.2; have HQ2 := Lib.hid hQ2; clear hQ2 hbq))
            all_goals
              clear v1 v2 v3 v4 v5
              have hS2 := HSW.out _ HQ2.out
              obtain ⟨c3, f3⟩ := HSET.out _ HQ2.out
              have HS2 := Lib.hid hS2
              clear hS2 HSW HSET HQ HCC c0 c1 f0 f1 A01 hls hlb hguard
              go_wp2_with fail
              go_region
              all_goals
               go_wp2
               go_roundw
               case rel =>
                obtain ⟨k1, k2, k3, k4, k5⟩ := HK.out
                exact ⟨k - 1, jj - 1, by omega, by omega, by rw [HJ.out], t3, y :: t2, by omega, by rw [k2]; simp, fun u hu => by
                  rcases List.mem_cons.1 hu with rfl | hu
                  · exact HLS.out
                  · exact k3 u hu, HS2.out.drew⟩
               case measure => simp [intOf]; omega
          · have hlb : decide (cv x y < 0) = false := by simpa using hls
            have hyx2 : tot (lessOf cv) y x := .inr ⟨hlb, hyx⟩
            have h1 : SP (lessOf cv) ((t3 ++ [y]) ++ x :: t2) (s.take (t + 1)) := by
              obtain ⟨k1, k2, k3, k4, k5⟩ := HK.out
              exact ins_done HW.out HX.out (by rw [← k2]; exact HZ.out) (fun u hu => by
                have : u = y := by simpa using hu.symm
                rw [this]; exact hyx2) k3
            have e1 : (p ++ t3) ++ y :: x :: (t2 ++ (s.drop (t + 1) ++ r)) = p ++ (((t3 ++ [y]) ++ x :: t2) ++ (s.drop (t + 1) ++ r)) := by simp
            have hQ := HQ.out
            rw [e1] at hQ
            have H1 := Lib.hid (⟨h1, hQ⟩ : SP (lessOf cv) ((t3 ++ [y]) ++ x :: t2) (s.take (t + 1)) ∧ Star W wr (plcA g n q (p ++ (((t3 ++ [y]) ++ x :: t2) ++ (s.drop (t + 1) ++ r))) :: R))
            clear h1 hQ hyx2 HSW HSET
            have E1 := Lib.hid e1
            clear e1
            go_wp2_with fail
            have v1 : IntKind.i64.wrap ((jj : Int) - 1) = (jj : Int) - 1 := IntWalk.i64_in _ (by omega)
            have v2 : (0 : Int) ≤ (jj : Int) - 1 := by omega
            have v3 : (1 : Int) ≤ (jj : Int) := by omega
            have v4 : (jj : Int) - 1 < n := by omega
            have v5 : ((jj : Int) - 1).toNat = jj - 1 := by omega
            go_region_held3 (fun w' => w'.cell? ⟨g, jj, none⟩ = some (.int .i64 x) ∧ w'.cell? ⟨g, jj - 1, none⟩ = some (.int .i64 y)) (go_keep) (
              (go_at_call 24; refine (HCC.out _ HQ.out.drew).mono ?_; rintro e wq ⟨rfl, hbq⟩; have hQ2 := HQ.out.drew.keptBelow hbq; obtain ⟨d1, g1⟩ := plc_cell hQ2 A01.out.1; obtain ⟨d0, g0⟩ := plc_cell hQ2 A01.out.2; have HQ2 := Lib.hid hQ2; clear hQ2 hbq))
            all_goals
              clear v1 v2 v3 v4 v5
              go_wp2
              go_roundw
              case rel => exact ⟨t + 1, by omega, by have := HIT.out; omega, by rw [show a + (t + 1) = it + 1 by have := HIT.out; omega]; go_num, _, H1.out.1, by have h := HQ2.out; rw [E1.out] at h; exact h⟩
              case measure => have := HIT.out; simp [intOf]; omega
    · have htn : s.length ≤ t := by have := HA.out; omega
      have e1 : s.take t = s := List.take_of_length_le htn
      have e2 : s.drop t = [] := List.drop_eq_nil_of_le htn
      rw [e1] at hz
      rw [e2, List.nil_append] at hR
      have H1 := Lib.hid (⟨hz, hR⟩ : SP (lessOf cv) z s ∧ Star W wr (plcA g n q (p ++ (z ++ r)) :: R))
      have hltz : ¬ ((a + t : Nat) : Int) < b := by omega
      clear hz hR e1 e2 htn
      go_wp2
      go_end0
      exact ⟨rfl, z, H1.out.1, H1.out.2⟩
end Go.Proofs.Ytljdkfhkpjjfgaa
