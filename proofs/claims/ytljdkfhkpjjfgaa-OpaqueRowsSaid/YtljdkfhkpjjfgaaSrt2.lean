/- The sort's exchanges: swapRange and rotate over a row of places: lemmas for the laws of ghost and opaque. -/
import Derived.Test.YtljdkfhkpjjfgaaMem
import Derived.Test.YtljdkfhkpjjfgaaSrt1
import Derived.Test.YtljdkfhkpjjfgaaProg
import Derived.WalkSpells
import Derived.WalkLawsBesides
import Derived.IntWalk
import Derived.Lib.Hide
import Derived.BigRegion
import Derived.BigQuiet
import Derived.Deep.RegionHeld3
import Derived.Deep.RegionWith
import Derived.Deep.RegionLaw
namespace Go.Proofs.Ytljdkfhkpjjfgaa
open Go.RowKit
set_option linter.unusedVariables false

def idxC (l : List Nat) : List Value := l.map fun i : Nat => .int .i64 (i : Int)
theorem idxC_len (l : List Nat) : (idxC l).length = l.length := by simp [idxC]
theorem idxC_at {l : List Nat} {i x : Nat} (h : l[i]? = some x) : (idxC l)[i]? = some (.int .i64 (x : Int)) := by rw [idxC, List.getElem?_map, h]; rfl
theorem idxC_set (l : List Nat) (i x : Nat) : (idxC l).set i (.int .i64 (x : Int)) = idxC (l.set i x) := by rw [idxC, idxC, List.map_set]
section
variable {W w w' : World} {R : List HA}
/-- a row of places -/
abbrev plcA (g n q : Nat) (l : List Nat) : HA := rowA 3 1 (.slice (some ⟨g, 0, none⟩) n q) n (idxC l)
theorem plc_cell {g n q : Nat} {l : List Nat} (h : Star W w (plcA g n q l :: R)) {i x : Nat} (hx : l[i]? = some x) : w.cell? ⟨g, i, none⟩ = some (.int .i64 (x : Int)) ∧ w.frozen? ⟨g, i, none⟩ = false := by
  have hl : (idxC l).length = n * 1 := h.rowLen
  rw [idxC_len] at hl
  have hi := (List.getElem?_eq_some_iff.1 hx).1
  obtain ⟨g', e, _, _, hc, hf⟩ := h.rowAt (by omega)
  injection e with e
  injection e with e1 e2
  subst e1
  exact ⟨by rw [hc _ (by omega), idxC_at hx], hf _⟩
theorem plc_len {g n q : Nat} {l : List Nat} (h : Star W w (plcA g n q l :: R)) : l.length = n := by
  have := h.rowLen; rw [idxC_len] at this; omega
theorem plc_set {g n q : Nat} {l : List Nat} (h : Star W w (plcA g n q l :: R)) {i j x y : Nat} (hij : i ≠ j) (hy : l[j]? = some y) :
    (w.setCell ⟨g, i, none⟩ (.int .i64 (x : Int))).cell? ⟨g, j, none⟩ = some (.int .i64 (y : Int)) ∧ (w.setCell ⟨g, i, none⟩ (.int .i64 (x : Int))).frozen? ⟨g, j, none⟩ = false := by
  have h1 := h.rowSet i (.int .i64 (x : Int))
  rw [idxC_set] at h1
  exact plc_cell h1 (by rw [List.getElem?_set, if_neg hij]; exact hy)
theorem plc_swp {g n q : Nat} {l : List Nat} (h : Star W w (plcA g n q l :: R)) {i j x y : Nat} (hx : l[i]? = some x) (hy : l[j]? = some y) :
    Star W ((w.setCell ⟨g, i, none⟩ (.int .i64 (y : Int))).setCell ⟨g, j, none⟩ (.int .i64 (x : Int))) (plcA g n q (swp l i j) :: R) := by
  have h1 := (h.rowSet i (.int .i64 (y : Int))).rowSet j (.int .i64 (x : Int))
  rw [idxC_set, idxC_set] at h1
  have e : swp l i j = (l.set i y).set j x := by simp [swp, List.getD, hx, hy]
  rw [e]; exact h1
end
set_option maxRecDepth 100000 in
set_option maxHeartbeats 1600000 in
theorem swap_any (g n q a b k : Nat) (p u m v r : List Nat) (f : Value) (W w : World) (R : List HA) (hv : v.length = u.length) (hk : k = u.length) (ha : a = p.length) (hb : b = p.length + u.length + m.length) (hn : n ≤ 17592186044416)
    (h : Star W w (plcA g n q (p ++ (u ++ (m ++ (v ++ r)))) :: R)) :
    Calls Try.prog 52 #[.slice (some ⟨g, 0, none⟩) n q, .int .i64 a, .int .i64 b, .int .i64 k, f] w fun e w' => e = .returned (.tuple #[]) ∧ Star W w' (plcA g n q (p ++ (v ++ (m ++ (u ++ r)))) :: R) := by
  have hl := plc_len h
  simp only [List.length_append] at hl
  have hbn : b + k ≤ n := by omega
  have han : a + k ≤ n := by omega
  have hcap := h.rowCap
  have hcap1 := hcap.1
  have HL := Lib.hid (⟨hv, hk, ha, hb⟩ : v.length = u.length ∧ k = u.length ∧ a = p.length ∧ b = p.length + u.length + m.length)
  have h0 : Star W w (plcA g n q (swpd p u m v r 0) :: R) := by rw [swpd_zero]; exact h
  clear h hl hv hk ha hb hcap
  go_enter Try.func52, Try.ntmps52
  go_wp2
  go_loopw [10] (fun i wr => ∃ t : Nat, t ≤ k ∧ i = .int .i64 t ∧ Star W wr (plcA g n q (swpd p u m v r t) :: R)) (fun i _ => k - (intOf i).toNat)
  case atStart => exact ⟨0, Nat.zero_le _, rfl, h0⟩
  case round =>
    clear h0
    obtain ⟨t, ht, rfl, hR⟩ := hrel
    by_cases hlt : t < k
    · have hl2 := plc_len hR
      obtain ⟨x, hx⟩ : ∃ x, (swpd p u m v r t)[a + t]? = some x := ⟨_, List.getElem?_eq_getElem (by omega)⟩
      obtain ⟨y, hy⟩ : ∃ y, (swpd p u m v r t)[b + t]? = some y := ⟨_, List.getElem?_eq_getElem (by omega)⟩
      obtain ⟨c1, f1⟩ := plc_cell hR hx
      obtain ⟨c2, f2⟩ := plc_cell hR hy
      have hS := plc_swp hR hx hy
      obtain ⟨c3, f3⟩ := plc_set (x := y) hR (i := a + t) (by have := HL.out; omega) hy
      have e1 : swp (swpd p u m v r t) (a + t) (b + t) = swpd p u m v r (t + 1) := by
        obtain ⟨q1, q2, q3, q4⟩ := HL.out
        exact swpd_succ q1 (by omega) q3 q4
      rw [e1] at hS
      have HS := Lib.hid hS
      have htz : (t : Int) < k := by omega
      clear hR hx hy hS e1 hl2
      go_wp2
      go_region
      all_goals
        go_wp2
        go_roundw
        case rel => exact ⟨t + 1, by omega, by go_num, HS.out.drew⟩
        case measure => simp [intOf]; omega
    · have hkn : t = k := by omega
      subst hkn
      obtain ⟨q1, q2, q3, q4⟩ := HL.out
      have e1 := swpd_all (p := p) (m := m) (q := r) q2.symm (q1.trans q2.symm)
      rw [e1] at hR
      have HR := Lib.hid hR
      clear hR e1 q1 q2 q3 q4
      go_wp2
      go_end0
      exact ⟨rfl, HR.out⟩
set_option maxRecDepth 100000 in
set_option maxHeartbeats 1600000 in
theorem rotate_any (g n q a m b : Nat) (p u v r : List Nat) (f : Value) (W w : World) (R : List HA) (ha : a = p.length) (hm : m = a + u.length) (hb : b = m + v.length) (hu0 : 0 < u.length) (hv0 : 0 < v.length) (hn : n ≤ 17592186044416)
    (h : Star W w (plcA g n q (p ++ (u ++ (v ++ r))) :: R)) :
    Calls Try.prog 51 #[.slice (some ⟨g, 0, none⟩) n q, .int .i64 a, .int .i64 m, .int .i64 b, f] w fun e w' => e = .returned (.tuple #[]) ∧ Star W w' (plcA g n q (p ++ (v ++ (u ++ r))) :: R) := by
  have hl := plc_len h
  simp only [List.length_append] at hl
  have h0 : ∃ P u' v' Q : List Nat, 0 < u'.length ∧ 0 < v'.length ∧ m - a = u'.length ∧ b - m = v'.length ∧ P.length + u'.length = m ∧ m + v'.length ≤ n ∧ P ++ (v' ++ (u' ++ Q)) = p ++ (v ++ (u ++ r)) ∧ Star W w (plcA g n q (P ++ (u' ++ (v' ++ Q))) :: R) :=
    ⟨p, u, v, r, hu0, hv0, by omega, by omega, by omega, by omega, rfl, h⟩
  have ham : a ≤ m := by omega
  have hmb : m ≤ b := by omega
  have hbn : b ≤ n := by omega
  have e1 : (m : Int) - a = ((m - a : Nat) : Int) := by omega
  have e2 : (b : Int) - m = ((b - m : Nat) : Int) := by omega
  have E1 := Lib.hid e1
  have E2 := Lib.hid e2
  clear h hl ha hm hb hu0 hv0 e1 e2
  generalize p ++ (v ++ (u ++ r)) = tgt at h0 ⊢
  go_enter Try.func51, Try.ntmps51
  go_wp2
  go_loopw [10, 11] (fun i j wr => ∃ x y : Nat, ∃ P u' v' Q : List Nat, i = .int .i64 x ∧ j = .int .i64 y ∧ 0 < u'.length ∧ 0 < v'.length ∧ x = u'.length ∧ y = v'.length ∧ P.length + u'.length = m ∧ m + v'.length ≤ n ∧ P ++ (v' ++ (u' ++ Q)) = tgt ∧ Star W wr (plcA g n q (P ++ (u' ++ (v' ++ Q))) :: R)) (fun i j _ => (intOf i).toNat + (intOf j).toNat)
  case atStart =>
    obtain ⟨P, u', v', Q, z1, z2, z3, z4, z5, z6, z7, z8⟩ := h0
    exact ⟨m - a, b - m, P, u', v', Q, by rw [E1.out], by rw [E2.out], z1, z2, z3, z4, z5, z6, z7, z8⟩
  case round =>
    clear h0 E1 E2 ham hmb hbn
    obtain ⟨x, y, P, u', v', Q, rfl, rfl, hu0, hv0, hx, hy, hP, hmy, hT, hR⟩ := hrel
    have hx0 : 0 < x := by omega
    have hy0 : 0 < y := by omega
    have hxm : x ≤ m := by omega
    have hmyn : m + y ≤ n := by omega
    have hpm : P.length = m - x := by omega
    have emx : (m : Int) - x = ((m - x : Nat) : Int) := by omega
    rcases Nat.lt_trichotomy x y with hxy | hxy | hxy
    · -- i < j
      have hs : v' = v'.take (y - x) ++ v'.drop (y - x) := (List.take_append_drop _ _).symm
      have l1 : (v'.take (y - x)).length = y - x := by rw [List.length_take]; omega
      have l2 : (v'.drop (y - x)).length = x := by rw [List.length_drop]; omega
      have HS := Lib.hid hs
      generalize v'.take (y - x) = v1 at hs l1 HS
      generalize v'.drop (y - x) = v2 at hs l2 HS
      have hR2 : Star W wr (plcA g n q (P ++ (u' ++ (v1 ++ (v2 ++ Q)))) :: R) := by rw [hs, List.append_assoc] at hR; exact hR
      have emj : (m : Int) + y - x = ((m + y - x : Nat) : Int) := by omega
      have C := Lib.hid fun f => swap_any g n q (m - x) (m + y - x) x P u' v1 v2 Q f W wr R (by omega) (by omega) (by omega) (by omega) hn hR2
      have HT : Hid (P ++ (v1 ++ (v2 ++ (u' ++ Q))) = tgt) := Lib.hid (by rw [← hT, hs, List.append_assoc])
      have hxz : (x : Int) < y := by omega
      have L := Lib.hid (⟨l1, l2, hpm⟩ : v1.length = y - x ∧ v2.length = x ∧ P.length = m - x)
      have EX := Lib.hid emx
      have EJ := Lib.hid emj
      have eyx : (y : Int) - x = ((y - x : Nat) : Int) := by omega
      have EY := Lib.hid eyx
      clear hs l1 l2 HS hR hR2 hT hpm emx emj hx hy hP hmy hu0 hv0 eyx
      go_wp2_with fail
      rw [EX.out, EJ.out]
      refine (C.out _).mono ?_
      rintro e' w1 ⟨rfl, h1⟩
      go_wp2
      go_roundw
      case rel =>
        obtain ⟨l1, l2, l3⟩ := L.out
        exact ⟨x, y - x, P, v2, v1, u' ++ Q, rfl, by rw [EY.out], by omega, by omega, by omega, by omega, by omega, by omega, HT.out, h1⟩
      case measure => simp [intOf]; omega
    · -- the same
      subst hxy
      have C := Lib.hid fun f => swap_any g n q (m - x) m x P u' [] v' Q f W wr R (by omega) (by omega) (by omega) (by simp; omega) hn hR
      have HT := Lib.hid hT
      have EX := Lib.hid emx
      clear hR hT hpm emx hx hy hP hmy hu0 hv0
      go_wp2_with fail
      rw [EX.out]
      refine (C.out _).mono ?_
      rintro e' w1 ⟨rfl, h1⟩
      rw [List.nil_append, HT.out] at h1
      go_wp2
      go_end0
      exact ⟨rfl, h1⟩
    · -- i > j
      have hs : u' = u'.take y ++ u'.drop y := (List.take_append_drop _ _).symm
      have l1 : (u'.take y).length = y := by rw [List.length_take]; omega
      have l2 : (u'.drop y).length = x - y := by rw [List.length_drop]; omega
      have HS := Lib.hid hs
      generalize u'.take y = u1 at hs l1 HS
      generalize u'.drop y = u2 at hs l2 HS
      have hR2 : Star W wr (plcA g n q (P ++ (u1 ++ (u2 ++ (v' ++ Q)))) :: R) := by rw [hs, List.append_assoc] at hR; exact hR
      have C := Lib.hid fun f => swap_any g n q (m - x) m y P u1 u2 v' Q f W wr R (by omega) (by omega) (by omega) (by omega) hn hR2
      have HT : Hid ((P ++ v') ++ (u1 ++ (u2 ++ Q)) = tgt) := Lib.hid (by rw [← hT, hs]; simp only [List.append_assoc])
      have L := Lib.hid (⟨l1, l2, hpm, hy⟩ : u1.length = y ∧ u2.length = x - y ∧ P.length = m - x ∧ y = v'.length)
      have EX := Lib.hid emx
      have eyx : (x : Int) - y = ((x - y : Nat) : Int) := by omega
      have EY := Lib.hid eyx
      clear hs l1 l2 HS hR hR2 hT hpm emx hx hy hP hmy hu0 hv0 eyx
      go_wp2_with fail
      rw [EX.out]
      refine (C.out _).mono ?_
      rintro e' w1 ⟨rfl, h1⟩
      go_wp2
      go_roundw
      case rel =>
        obtain ⟨l1, l2, l3, l4⟩ := L.out
        refine ⟨x - y, y, P ++ v', u2, u1, Q, by rw [EY.out], rfl, by omega, by omega, by omega, by omega, by rw [List.length_append]; omega, by omega, HT.out, ?_⟩
        rw [List.append_assoc]; exact h1
      case measure => simp [intOf]; omega
end Go.Proofs.Ytljdkfhkpjjfgaa
