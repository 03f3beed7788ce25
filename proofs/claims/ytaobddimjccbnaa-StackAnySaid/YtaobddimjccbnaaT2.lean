/- Contracts of the stack and of the reference, walked: lemmas for the laws of the stack. -/
import Derived.Test.YtaobddimjccbnaaT1
import Derived.Deep.RegionLaw
namespace Go.Proofs.Ytaobddimjccbnaa
open Go.RowKit
set_option linter.unusedVariables false

theorem ints_get {xs : List Int} {k : Nat} {u : Value} (h : (ints xs)[k]? = some u) : ∃ x, u = .int .i64 x ∧ xs[k]? = some x := by
  simp only [ints, List.getElem?_map, Option.map_eq_some_iff] at h
  obtain ⟨x, hx, rfl⟩ := h
  exact ⟨x, rfl, hx⟩
theorem take_snoc {α : Type} {xs : List α} {k : Nat} {x : α} (h : xs[k]? = some x) : xs.take (k + 1) = xs.take k ++ [x] := by
  obtain ⟨hk, rfl⟩ := List.getElem?_eq_some_iff.1 h
  exact List.take_succ_eq_append_getElem hk
theorem ne_of_at {α : Type} {xs ys : List α} {k : Nat} {x y : α} (h : xs[k]? = some x) (h' : ys[k]? = some y) (hne : x ≠ y) : xs ≠ ys := by
  rintro rfl; rw [h] at h'; injection h' with h'; exact hne h'

set_option maxHeartbeats 400000 in
theorem same_any (A B : Option Addr) (n m c d : Nat) (xs ys : List Int) (w : World) (hx : xs.length = n) (hy : ys.length = m) (ha : Sl w A n 1 (ints xs)) (hb : Sl w B m 1 (ints ys)) (hn : n ≤ 9223372036854775807) (hm : m ≤ 9223372036854775807) :
    Calls Try.prog 12 #[.slice A n c, .slice B m d] w fun e w' => e = .returned (.bool (decide (xs = ys))) ∧ ∃ k, w' = w.drewN k := by
  by_cases hnm : n = m
  · subst hnm
    have hne : ((n : Int) != n) = false := by simp
    go_enter Try.func12, Try.ntmps12
    go_wp2
    go_loopw [5] (fun i wr => ∃ k : Nat, k ≤ n ∧ i = .int .i64 k ∧ xs.take k = ys.take k ∧ ∃ q, wr = w.drewN q) (fun i _ => n - (intOf i).toNat)
    case atStart => exact ⟨0, Nat.zero_le _, rfl, rfl, 0, rfl⟩
    case round =>
      obtain ⟨k, hk, rfl, he, q, rfl⟩ := hrel
      have He : Hid (xs.take k = ys.take k) := he
      clear he
      by_cases hlt : k < n
      · obtain ⟨g, o, u, rfl, hu, hcu⟩ := ha.at1 hlt
        obtain ⟨g', o', u', rfl, hu', hcu'⟩ := hb.at1 hlt
        obtain ⟨x, rfl, hx1⟩ := ints_get hu
        obtain ⟨y, rfl, hy1⟩ := ints_get hu'
        have Hx := Lib.hid hx1
        have Hy := Lib.hid hy1
        clear ha hb hu hu' hx1 hy1
        by_cases hxy : x = y
        · have hb1 : (x != y) = false := by simpa using hxy
          have He' : Hid (xs.take (k + 1) = ys.take (k + 1)) := by rw [take_snoc Hx.out, take_snoc Hy.out, He.out, hxy]; rfl
          clear hxy
          go_wp2
          go_quiet (fail)
          go_wp2
          go_roundw
          case rel => exact ⟨k + 1, by omega, by go_num, He'.out, _, rfl⟩
          case measure => simp [intOf]; omega
        · have hb1 : (x != y) = true := by simpa using hxy
          have Hne : Hid (decide (xs = ys) = false) := decide_eq_false (ne_of_at Hx.out Hy.out hxy)
          clear hxy
          go_wp2
          go_quiet (fail)
          go_wp2
          go_ret
          exact ⟨by rw [Hne.out]; rfl, _, World.drewN_drewN _ _ _⟩
      · have hkn : k = n := by omega
        have Hxy : Hid (decide (xs = ys) = true) := decide_eq_true (by have := He.out; rw [hkn] at this; rwa [List.take_of_length_le (by omega), List.take_of_length_le (by omega)] at this)
        clear hkn
        go_wp2
        go_ret
        exact ⟨by rw [Hxy.out]; rfl, _, rfl⟩
  · have hne : ((n : Int) != m) = true := by simp; omega
    have Hne : Hid (decide (xs = ys) = false) := decide_eq_false (by rintro rfl; omega)
    go_enter Try.func12, Try.ntmps12
    go_wp2
    go_ret
    exact ⟨by rw [Hne.out]; rfl, 0, rfl⟩

set_option maxHeartbeats 400000 in
theorem rcopy (b : Nat) (most : Int) (xs : List Int) (R : List HA) (W w : World) (hS : Star W w (stackA 62 b most xs :: R)) (hl : xs.length ≤ 1000000) :
    Calls Try.prog 25 #[.pointer (some ⟨b, 0, none⟩)] w fun e w' => ∃ b', e = .returned (.pointer (some ⟨b', 0, none⟩)) ∧ Star W w' (stackA 62 b' most xs :: stackA 62 b most xs :: R) := by
  obtain ⟨i0, hi, hz0, hz1, hz2⟩ := info_parts Try.info3
  obtain ⟨a, n, c, rfl, h1⟩ := stack_open hS
  have c0 : w.cell? ⟨b, 0, none⟩ = some (.int .i64 most) := h1.cell 0
  have c1 : w.cell? ⟨b, 1, none⟩ = some (.slice a xs.length c) := h1.cell 1
  have hb := h1.lt
  clear hS
  go_enter Try.func25, Try.ntmps25
  go_wp2
  have hA := h1.new (.cells #[.int .i64 most, .slice none 0 0] 62)
  have hN := hA.drew.rowNil 3 1
  have cn := hA.cell 1
  have fn := hA.frozen
  have hsrc := (hN.pull 3).rowSrc
  clear hA
  go_region_law (refine step_append_star_any rfl (.tmp 14) (.tmp 18) 22 rfl 3 i0 _ 1 8 Try.underlying22 hi hz0 hz1 hz2 rfl (by decide) (.slice none 0 0) 0 [] rfl hN a xs.length c (ints xs) rfl (by simp [ints]) hsrc (ints_one xs) (by simp only [maxLen]; omega) (by omega) ?_; intro a' c' w1 hS1; have c1' := (hS1.pull 1).cell 1; have f1' := (hS1.pull 1).frozen)
  all_goals
    go_wp2
    go_ret
    simp only [Nat.zero_add, List.nil_append] at hS1
    have h2 := stack_shut ((hS1.pull 1).set 1 (.slice a' xs.length c')) rfl
    exact ⟨_, rfl, (stack_shut (((h2.pull 1).pull 2).pull 1) rfl).swap⟩
end Go.Proofs.Ytaobddimjccbnaa
