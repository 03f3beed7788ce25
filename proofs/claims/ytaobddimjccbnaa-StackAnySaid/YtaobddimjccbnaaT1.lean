/- Contracts of the stack and of the reference, walked: lemmas for the laws of the stack. -/
import Derived.Test.YtaobddimjccbnaaMem
import Derived.Test.YtaobddimjccbnaaProg
import Derived.Deep.QuietTactic
import Derived.BigQuiet
import Derived.StillTailTactics
import Derived.WalkSpells
import Derived.WalkLawsBesides
import Derived.Lib.Hide
import Derived.BigRegion
import Derived.Deep.RegionHeld3
import Derived.Deep.RegionWith
import Derived.Deep.DeepFit
import Derived.Deep.DeepMust
namespace Go.Proofs.Ytaobddimjccbnaa
open Go.RowKit
set_option linter.unusedVariables false

theorem Try.info3 : (Try.prog.info? 3).map (fun i => (i.zero, i.size, i.bytes)) = some (some (.int .i64 0), 1, 8) := by kernel_rfl

/-- a stack of ints -/
def ints (xs : List Int) : List Value := xs.map (Value.int .i64)
theorem ints_length (xs : List Int) : (ints xs).length = xs.length := by simp [ints]
theorem ints_at (xs : List Int) (k : Nat) (h : k < xs.length) : (ints xs)[k]? = some (.int .i64 (xs.getD k 0)) := by
  simp [ints, List.getElem?_eq_getElem h, List.getD]
theorem ints_one (xs : List Int) : ∀ u ∈ ints xs, u.oneCell' = true := by simp [ints, Value.oneCell']
def stackA (T : TypeId) (b : Nat) (most : Int) (xs : List Int) : HA :=
  exA fun v : Value => Holds [cellsA b #[.int .i64 most, v] T, rowA 3 1 v xs.length (ints xs)]

def pushR (most : Int) (xs : List Int) : Int := if most ≤ xs.length then 11 else 0
def pushS (most : Int) (xs : List Int) (x : Int) : List Int := if most ≤ xs.length then xs else xs ++ [x]

theorem stack_open {T : TypeId} {W w : World} {b : Nat} {most : Int} {xs : List Int} {R : List HA} (h : Star W w (stackA T b most xs :: R)) :
    ∃ a n c, n = xs.length ∧ Star W w (cellsA b #[.int .i64 most, .slice a n c] T :: rowA 3 1 (.slice a n c) xs.length (ints xs) :: R) := by
  obtain ⟨v, hv⟩ := h.ex
  have h1 := hv.flat
  obtain ⟨a, c, rfl⟩ := h1.swap.form
  exact ⟨a, _, c, rfl, h1⟩
theorem ints_append (xs ys : List Int) : ints (xs ++ ys) = ints xs ++ ints ys := by simp [ints]
theorem ints_take (xs : List Int) (n : Nat) : ints (xs.take n) = (ints xs).take n := by simp [ints]
theorem row_shorter {W w : World} {a : Option Addr} {c : Nat} {xs ys : List Int} {R : List HA} (h : Star W w (rowA 3 1 (.slice a (xs ++ ys).length c) (xs ++ ys).length (ints (xs ++ ys)) :: R)) :
    Star W w (rowA 3 1 (.slice a xs.length c) xs.length (ints xs) :: R) := by
  have := h.rowCut xs.length (by simp)
  rwa [ints_append, List.take_append_of_le_length (by simp [ints]), List.take_of_length_le (by simp [ints])] at this
theorem stack_c0 {T : TypeId} {W w : World} {b : Nat} {most : Int} {xs : List Int} {R : List HA} (h : Star W w (stackA T b most xs :: R)) : w.cell? ⟨b, 0, none⟩ = some (.int .i64 most) := by
  obtain ⟨a, n, c, rfl, h1⟩ := stack_open h
  exact h1.cell 0
theorem stack_shut {T : TypeId} {W w : World} {b : Nat} {most : Int} {xs : List Int} {R : List HA} {v : Value} {n : Nat} (h : Star W w (cellsA b #[.int .i64 most, v] T :: rowA 3 1 v n (ints xs) :: R)) (hn : n = xs.length) :
    Star W w (stackA T b most xs :: R) := by
  subst hn
  exact Star.exI v (Star.fold (L := [cellsA b #[.int .i64 most, v] T, rowA 3 1 v xs.length (ints xs)]) h)

set_option maxHeartbeats 400000 in
theorem len_any (b : Nat) (most : Int) (xs : List Int) (R : List HA) (W w : World) (hS : Star W w (stackA 67 b most xs :: R)) :
    Calls Try.prog 11 #[.pointer (some ⟨b, 0, none⟩)] w fun e w' => e = .returned (.int .i64 xs.length) ∧ w = w' := by
  obtain ⟨a, n, c, rfl, h1⟩ := stack_open hS
  have c1 : w.cell? ⟨b, 1, none⟩ = some (.slice a xs.length c) := h1.cell 1
  clear hS
  go_enter Try.func11, Try.ntmps11
  go_wp2
  go_ret
  exact ⟨rfl, rfl⟩
set_option maxHeartbeats 400000 in
theorem room_any (b : Nat) (most : Int) (xs : List Int) (R : List HA) (W w : World) (hS : Star W w (stackA 67 b most xs :: R)) (h0 : 0 ≤ most) (hm : most ≤ 256) (hl : xs.length ≤ 256) :
    Calls Try.prog 27 #[.pointer (some ⟨b, 0, none⟩)] w fun e w' => e = .returned (.int .i64 (most - xs.length)) ∧ ∃ n, w' = w.drewN n := by
  obtain ⟨a, n, c, rfl, h1⟩ := stack_open hS
  have c0 : w.cell? ⟨b, 0, none⟩ = some (.int .i64 most) := h1.cell 0
  have c1 : w.cell? ⟨b, 1, none⟩ = some (.slice a xs.length c) := h1.cell 1
  clear h1 hS
  go_enter Try.func27, Try.ntmps27
  go_wp2
  go_quiet (fail)
  go_wp2
  go_ret
  exact ⟨rfl, _, rfl⟩
set_option maxHeartbeats 400000 in
theorem push_full (b : Nat) (most : Int) (xs : List Int) (x : Int) (R : List HA) (W w : World) (hS : Star W w (stackA 67 b most xs :: R)) (hf : most ≤ xs.length) :
    Calls Try.prog 8 #[.pointer (some ⟨b, 0, none⟩), .int .i64 x] w fun e w' => e = .returned (.int .i64 11) ∧ Star W w' (stackA 67 b most xs :: R) := by
  obtain ⟨a, n, c, rfl, h1⟩ := stack_open hS
  have c0 : w.cell? ⟨b, 0, none⟩ = some (.int .i64 most) := h1.cell 0
  have c1 : w.cell? ⟨b, 1, none⟩ = some (.slice a xs.length c) := h1.cell 1
  clear h1
  go_enter Try.func8, Try.ntmps8
  go_wp2
  go_quiet (fail)
  go_wp2
  go_ret
  exact ⟨rfl, hS.drewN _⟩
set_option maxHeartbeats 400000 in
theorem push_ok (b : Nat) (most : Int) (xs : List Int) (x : Int) (R : List HA) (W w : World) (hS : Star W w (stackA 67 b most xs :: R)) (hf : (xs.length : Int) < most) (hl : xs.length ≤ 1000000) :
    Calls Try.prog 8 #[.pointer (some ⟨b, 0, none⟩), .int .i64 x] w fun e w' => e = .returned (.int .i64 0) ∧ Star W w' (stackA 67 b most (xs ++ [x]) :: R) := by
  obtain ⟨i0, hi, hz0, hz1, hz2⟩ := info_parts Try.info3
  obtain ⟨a, n, c, rfl, h1⟩ := stack_open hS
  have c0 : w.cell? ⟨b, 0, none⟩ = some (.int .i64 most) := h1.cell 0
  have c1 : w.cell? ⟨b, 1, none⟩ = some (.slice a xs.length c) := h1.cell 1
  have hb := h1.lt
  clear hS
  go_enter Try.func8, Try.ntmps8
  go_wp2
  go_quiet (fail)
  go_wp2_with (at_builtin; refine wpList_append_star rfl _ _ 22 rfl 3 i0 _ 1 8 Try.underlying22 hi hz0 hz1 hz2 rfl (by decide) _ _ _ rfl (((h1.drewN _).new _).pull 2) ⟨w.heap.size, 0, none⟩ 1 1 [.int .i64 x] rfl rfl (cell_one_new _ _ _) (by simp [Value.oneCell']) (by simp only [maxLen]; omega) (by omega) ?_; intro a' c' w1 hS1; have c1' : w1.cell? ⟨b, 1, none⟩ = some (.slice a xs.length c) := (hS1.pull 2).cell 1; have f1' := (hS1.pull 2).frozen)
  go_ret
  exact ⟨rfl, stack_shut (xs := xs ++ [x]) (by simpa [ints] using (((hS1.pull 2).set 1 _).pull 2).drop) (by simp)⟩

def peekV (xs : List Int) (k : Int) : Int := if k < 0 ∨ xs.length ≤ k then 0 else xs.getD (xs.length - 1 - k.toNat) 0
def peekE (xs : List Int) (k : Int) : Int := if k < 0 ∨ xs.length ≤ k then 2 else 0
set_option maxHeartbeats 400000 in
theorem peek_out (b : Nat) (most : Int) (xs : List Int) (k : Int) (R : List HA) (W w : World) (hS : Star W w (stackA 67 b most xs :: R)) (hk : k < 0 ∨ xs.length ≤ k) :
    Calls Try.prog 28 #[.pointer (some ⟨b, 0, none⟩), .int .i64 k] w fun e w' => e = .returned (.tuple #[.int .i64 0, .int .i64 2]) ∧ w = w' := by
  obtain ⟨a, n, c, rfl, h1⟩ := stack_open hS
  have c1 : w.cell? ⟨b, 1, none⟩ = some (.slice a xs.length c) := h1.cell 1
  clear h1 hS
  by_cases h0 : k < 0
  · go_enter Try.func28, Try.ntmps28
    go_wp2
    go_ret2
    exact ⟨rfl, rfl⟩
  · have hk' : (xs.length : Int) ≤ k := by omega
    clear hk
    go_enter Try.func28, Try.ntmps28
    go_wp2
    go_ret2
    exact ⟨rfl, rfl⟩
set_option maxHeartbeats 400000 in
theorem peek_in (b : Nat) (most : Int) (xs : List Int) (k : Int) (R : List HA) (W w : World) (hS : Star W w (stackA 67 b most xs :: R)) (hk0 : 0 ≤ k) (hk : k < xs.length) :
    Calls Try.prog 28 #[.pointer (some ⟨b, 0, none⟩), .int .i64 k] w fun e w' => e = .returned (.tuple #[.int .i64 (xs.getD (xs.length - 1 - k.toNat) 0), .int .i64 0]) ∧ Star W w' (stackA 67 b most xs :: R) := by
  obtain ⟨k, rfl⟩ := Int.eq_ofNat_of_zero_le hk0
  obtain ⟨a, n, c, rfl, h1⟩ := stack_open hS
  have c1 : w.cell? ⟨b, 1, none⟩ = some (.slice a xs.length c) := h1.cell 1
  obtain ⟨g, rfl, hnc, hcm, hc, hf⟩ := h1.swap.rowAt (by omega)
  have ck : w.cell? ⟨g, xs.length - 1 - k, none⟩ = some (.int .i64 (xs.getD (xs.length - 1 - k) 0)) := by rw [hc _ (by omega), ints_at _ _ (by omega)]
  clear h1 hc hf
  unfold maxLen at hcm
  go_enter Try.func28, Try.ntmps28
  go_wp2
  go_quiet (fail)
  go_wp2
  go_ret2
  exact ⟨rfl, hS.drewN _⟩
set_option maxHeartbeats 400000 in
theorem pop_none (b : Nat) (most : Int) (R : List HA) (W w : World) (hS : Star W w (stackA 67 b most [] :: R)) :
    Calls Try.prog 10 #[.pointer (some ⟨b, 0, none⟩)] w fun e w' => e = .returned (.tuple #[.int .i64 0, .int .i64 12]) ∧ w = w' := by
  go_enter Try.func10, Try.ntmps10
  go_wp2_with fail
  refine (peek_out b most [] 0 R W _ hS (by simp)).mono ?_
  rintro e w' ⟨rfl, rfl⟩
  go_wp2
  go_ret2
  exact ⟨rfl, rfl⟩
set_option maxHeartbeats 400000 in
theorem pop_some (b : Nat) (most : Int) (xs : List Int) (x : Int) (R : List HA) (W w : World) (hS : Star W w (stackA 67 b most (xs ++ [x]) :: R)) :
    Calls Try.prog 10 #[.pointer (some ⟨b, 0, none⟩)] w fun e w' => e = .returned (.tuple #[.int .i64 x, .int .i64 0]) ∧ Star W w' (stackA 67 b most xs :: R) := by
  go_enter Try.func10, Try.ntmps10
  go_wp2_with fail
  refine (peek_in b most (xs ++ [x]) 0 R W _ hS (by simp) (by simp)).mono ?_
  rintro e w1 ⟨rfl, hS1⟩
  obtain ⟨a, n, c, hn, h1⟩ := stack_open hS1
  have hn' : n = xs.length + 1 := by simpa using hn
  clear hn
  subst hn'
  have c1 : w1.cell? ⟨b, 1, none⟩ = some (.slice a (xs.length + 1) c) := h1.cell 1
  have f1 := h1.frozen
  obtain ⟨hnc, hcm⟩ := h1.swap.rowCap
  simp only [List.length_append, List.length_cons, List.length_nil] at hnc
  unfold maxLen at hcm
  clear hS hS1
  go_wp2
  go_region
  all_goals
    go_wp2
    go_ret2
    refine ⟨rfl, Star.drew ?_⟩
    have h2 := (h1.set 1 (.slice a xs.length c)).swap
    have h3 := row_shorter (ys := [x]) (by simpa using h2)
    exact stack_shut h3.swap rfl

set_option maxHeartbeats 400000 in
theorem new_bad (most : Int) (w : World) (hm : most < 1 ∨ 256 < most) :
    Calls Try.prog 7 #[.int .i64 most] w fun e w' => e = .returned (.tuple #[.pointer none, .int .i64 1]) ∧ w = w' := by
  by_cases h0 : most < 1
  · go_enter Try.func7, Try.ntmps7
    go_wp2
    go_ret2
    exact ⟨rfl, rfl⟩
  · have hm' : 256 < most := by omega
    clear hm
    go_enter Try.func7, Try.ntmps7
    go_wp2
    go_ret2
    exact ⟨rfl, rfl⟩
set_option maxHeartbeats 400000 in
theorem new_ok (most : Int) (R : List HA) (W w : World) (hS : Star W w R) (h1 : 1 ≤ most) (h2 : most ≤ 256) :
    Calls Try.prog 7 #[.int .i64 most] w fun e w' => ∃ b, e = .returned (.tuple #[.pointer (some ⟨b, 0, none⟩), .int .i64 0]) ∧ Star W w' (stackA 67 b most [] :: R) := by
  go_enter Try.func7, Try.ntmps7
  go_wp2
  go_ret2
  exact ⟨_, rfl, stack_shut (((hS.new _).rowNil 3 1).swap) rfl⟩
set_option maxHeartbeats 400000 in
theorem clear_any (b : Nat) (most : Int) (xs : List Int) (R : List HA) (W w : World) (hS : Star W w (stackA 67 b most xs :: R)) :
    Calls Try.prog 36 #[.pointer (some ⟨b, 0, none⟩)] w fun e w' => e = .returned (.tuple #[]) ∧ Star W w' (stackA 67 b most [] :: R) := by
  obtain ⟨a, n, c, rfl, h1⟩ := stack_open hS
  have c1 : w.cell? ⟨b, 1, none⟩ = some (.slice a xs.length c) := h1.cell 1
  have f1 := h1.frozen
  go_enter Try.func36, Try.ntmps36
  go_wp2
  go_end0
  exact ⟨rfl, stack_shut (((h1.set 1 (.slice none 0 0)).swap.drop.rowNil 3 1).swap) rfl⟩
set_option maxHeartbeats 400000 in
theorem cut_ok (b : Nat) (most : Int) (xs ys : List Int) (k : Int) (R : List HA) (W w : World) (hS : Star W w (stackA 67 b most (xs ++ ys) :: R)) (hk : k = ys.length) :
    Calls Try.prog 34 #[.pointer (some ⟨b, 0, none⟩), .int .i64 k] w fun e w' => e = .returned (.int .i64 0) ∧ Star W w' (stackA 67 b most xs :: R) := by
  subst hk
  obtain ⟨a, n, c, hn, h1⟩ := stack_open hS
  have hn' : n = xs.length + ys.length := by simpa using hn
  clear hn
  subst hn'
  have c1 : w.cell? ⟨b, 1, none⟩ = some (.slice a (xs.length + ys.length) c) := h1.cell 1
  have f1 := h1.frozen
  obtain ⟨hnc, hcm⟩ := h1.swap.rowCap
  simp only [List.length_append] at hnc
  unfold maxLen at hcm
  clear hS
  go_enter Try.func34, Try.ntmps34
  go_wp2
  go_region
  all_goals
    go_wp2
    go_ret
    refine ⟨rfl, Star.drew ?_⟩
    have h2 := (h1.set 1 (.slice a xs.length c)).swap
    have h3 := row_shorter (ys := ys) (by simpa using h2)
    exact stack_shut h3.swap rfl
set_option maxHeartbeats 400000 in
theorem cut_no (b : Nat) (most : Int) (xs : List Int) (k : Int) (R : List HA) (W w : World) (hS : Star W w (stackA 67 b most xs :: R)) (hk : k < 0 ∨ xs.length < k) :
    Calls Try.prog 34 #[.pointer (some ⟨b, 0, none⟩), .int .i64 k] w fun e w' => e = .returned (.int .i64 (if k < 0 then 1 else 12)) ∧ w = w' := by
  obtain ⟨a, n, c, rfl, h1⟩ := stack_open hS
  have c1 : w.cell? ⟨b, 1, none⟩ = some (.slice a xs.length c) := h1.cell 1
  clear h1 hS
  by_cases h0 : k < 0
  · go_enter Try.func34, Try.ntmps34
    go_wp2
    go_ret
    simp
  · have hk' : (xs.length : Int) < k := by omega
    clear hk
    go_enter Try.func34, Try.ntmps34
    go_wp2
    go_ret
    simp

set_option maxHeartbeats 400000 in
theorem all_any (b : Nat) (most : Int) (xs : List Int) (R : List HA) (W w : World) (hS : Star W w (stackA 67 b most xs :: R)) (hl : xs.length ≤ 1000000) :
    Calls Try.prog 13 #[.pointer (some ⟨b, 0, none⟩)] w fun e w' => ∃ a c, e = .returned (.slice a xs.length c) ∧ Star W w' (rowA 3 1 (.slice a xs.length c) xs.length (ints xs) :: stackA 67 b most xs :: R) := by
  obtain ⟨i0, hi, hz0, hz1, hz2⟩ := info_parts Try.info3
  obtain ⟨a, n, c, rfl, h1⟩ := stack_open hS
  have c1 : w.cell? ⟨b, 1, none⟩ = some (.slice a xs.length c) := h1.cell 1
  have hb := h1.lt
  have hN := (h1.rowNew 3 1 #[] 0 (by simp [maxLen]) rfl)
  have hsrc := (hN.pull 2).rowSrc
  clear hS
  go_enter Try.func13, Try.ntmps13
  go_wp2_with (at_builtin; refine wpList_append_star_any rfl _ _ 22 rfl 3 i0 _ 1 8 Try.underlying22 hi hz0 hz1 hz2 rfl (by decide) _ _ _ rfl hN a xs.length c (ints xs) rfl (by simp [ints]) hsrc (ints_one xs) (by simp only [maxLen]; omega) (by omega) ?_; intro a' c' w1 hS1)
  go_ret
  simp only [Nat.zero_add, List.nil_append] at hS1
  refine ⟨a', c', by simp, ?_⟩
  exact (stack_shut (hS1.pull 1 |>.pull 2 |>.pull 1) rfl).swap
set_option maxHeartbeats 400000 in
theorem copy_any (b : Nat) (most : Int) (xs : List Int) (R : List HA) (W w : World) (hS : Star W w (stackA 67 b most xs :: R)) (hl : xs.length ≤ 1000000) :
    Calls Try.prog 9 #[.pointer (some ⟨b, 0, none⟩)] w fun e w' => ∃ b', e = .returned (.pointer (some ⟨b', 0, none⟩)) ∧ Star W w' (stackA 67 b' most xs :: stackA 67 b most xs :: R) := by
  obtain ⟨a, n, c, rfl, h1⟩ := stack_open hS
  have c0 : w.cell? ⟨b, 0, none⟩ = some (.int .i64 most) := h1.cell 0
  clear h1
  go_enter Try.func9, Try.ntmps9
  go_wp2
  go_region_held3 (fun w' => w'.cell? ⟨b, 0, none⟩ = some (.int .i64 most)) (go_keep) (first | (go_at_call 13; refine (all_any b most xs R W _ (by first | exact hS | exact hS.drew) hl).mono ?_; rintro e w1 ⟨a', c', rfl, hS1⟩; have c01 : w1.cell? ⟨b, 0, none⟩ = some (.int .i64 most) := stack_c0 hS1.swap))
  all_goals
    go_wp2
    go_ret
    refine ⟨_, rfl, ?_⟩
    exact stack_shut ((hS1.new _).swap |>.swap) rfl
set_option maxHeartbeats 1000000 in
theorem swap_ok (b : Nat) (most : Int) (xs : List Int) (x y : Int) (R : List HA) (W w : World) (hS : Star W w (stackA 67 b most (xs ++ [x, y]) :: R)) :
    Calls Try.prog 29 #[.pointer (some ⟨b, 0, none⟩)] w fun e w' => e = .returned (.int .i64 0) ∧ Star W w' (stackA 67 b most (xs ++ [y, x]) :: R) := by
  obtain ⟨a, n, c, hn, h1⟩ := stack_open hS
  have hn' : n = xs.length + 2 := by simpa using hn
  clear hn
  subst hn'
  have c1 : w.cell? ⟨b, 1, none⟩ = some (.slice a (xs.length + 2) c) := h1.cell 1
  obtain ⟨g, rfl, hnc, hcm, hc, hf⟩ := h1.swap.rowAt (by simp)
  simp only [List.length_append, List.length_cons, List.length_nil] at hnc
  unfold maxLen at hcm
  have cx : w.cell? ⟨g, xs.length, none⟩ = some (.int .i64 x) := by rw [hc _ (by simp)]; simp [ints]
  have cy : w.cell? ⟨g, xs.length + 1, none⟩ = some (.int .i64 y) := by rw [hc _ (by simp)]; simp [ints]
  clear hS hc
  obtain ⟨W0, hW0⟩ : ∃ W0, W0 = W := ⟨_, rfl⟩
  go_enter Try.func29, Try.ntmps29
  go_wp2
  go_region
  all_goals
    go_wp2
    go_ret
    refine ⟨rfl, Star.drew ?_⟩
    have hr : Star W w (rowA 3 1 (.slice (some ⟨g, 0, none⟩) (xs.length + 2) c) (xs.length + 2) (ints (xs ++ [x, y])) :: cellsA b #[.int .i64 most, .slice (some ⟨g, 0, none⟩) (xs.length + 2) c] 67 :: R) := by simpa using h1.swap
    have h2 := ((hr.rowSet (xs.length + 1) (.int .i64 x)).rowSet xs.length (.int .i64 y)).swap
    have e : ((ints (xs ++ [x, y])).set (xs.length + 1) (.int .i64 x)).set xs.length (.int .i64 y) = ints (xs ++ [y, x]) := by simp [ints]
    rw [e] at h2
    exact stack_shut (by simpa using h2) (by simp)

set_option maxHeartbeats 400000 in
theorem swap_no (b : Nat) (most : Int) (xs : List Int) (R : List HA) (W w : World) (hS : Star W w (stackA 67 b most xs :: R)) (hl : xs.length < 2) :
    Calls Try.prog 29 #[.pointer (some ⟨b, 0, none⟩)] w fun e w' => e = .returned (.int .i64 12) ∧ w = w' := by
  obtain ⟨a, n, c, rfl, h1⟩ := stack_open hS
  have c1 : w.cell? ⟨b, 1, none⟩ = some (.slice a xs.length c) := h1.cell 1
  clear h1 hS
  go_enter Try.func29, Try.ntmps29
  go_wp2
  go_ret
  exact ⟨rfl, rfl⟩

/-! the reference's -/
set_option maxHeartbeats 400000 in
theorem rnew_bad (most : Int) (w : World) (hm : most < 1 ∨ 256 < most) :
    Calls Try.prog 24 #[.int .i64 most] w fun e w' => e = .returned (.tuple #[.pointer none, .int .i64 1]) ∧ w = w' := by
  by_cases h0 : most < 1
  · go_enter Try.func24, Try.ntmps24
    go_wp2
    go_ret2
    exact ⟨rfl, rfl⟩
  · have hm' : 256 < most := by omega
    clear hm
    go_enter Try.func24, Try.ntmps24
    go_wp2
    go_ret2
    exact ⟨rfl, rfl⟩
set_option maxHeartbeats 400000 in
theorem rnew_ok (most : Int) (R : List HA) (W w : World) (hS : Star W w R) (h1 : 1 ≤ most) (h2 : most ≤ 256) :
    Calls Try.prog 24 #[.int .i64 most] w fun e w' => ∃ b, e = .returned (.tuple #[.pointer (some ⟨b, 0, none⟩), .int .i64 0]) ∧ Star W w' (stackA 62 b most [] :: R) := by
  go_enter Try.func24, Try.ntmps24
  go_wp2
  go_ret2
  exact ⟨_, rfl, stack_shut (((hS.new _).rowNil 3 1).swap) rfl⟩
set_option maxHeartbeats 400000 in
theorem rkeep (b : Nat) (most : Int) (xs ys : List Int) (k : Int) (R : List HA) (W w : World) (hS : Star W w (stackA 62 b most (xs ++ ys) :: R)) (hk : k = xs.length) (hl : xs.length ≤ 1000000) :
    Calls Try.prog 37 #[.pointer (some ⟨b, 0, none⟩), .int .i64 k] w fun e w' => e = .returned (.tuple #[]) ∧ Star W w' (stackA 62 b most xs :: R) := by
  subst hk
  obtain ⟨i0, hi, hz0, hz1, hz2⟩ := info_parts Try.info3
  obtain ⟨a, n, c, hn, h1⟩ := stack_open hS
  have hn' : n = xs.length + ys.length := by simpa using hn
  clear hn
  subst hn'
  have c1 : w.cell? ⟨b, 1, none⟩ = some (.slice a (xs.length + ys.length) c) := h1.cell 1
  obtain ⟨hnc, hcm⟩ := h1.swap.rowCap
  simp only [List.length_append] at hnc
  unfold maxLen at hcm
  have h2 := row_shorter (ys := ys) (by simpa using h1.swap)
  have hN := h2.rowNil 3 1
  have hsrc := h2.rowSrc
  clear hS h1
  go_enter Try.func37, Try.ntmps37
  go_wp2_with (at_builtin; refine wpList_append_star_any rfl _ _ 22 rfl 3 i0 _ 1 8 Try.underlying22 hi hz0 hz1 hz2 rfl (by decide) _ _ _ rfl hN a xs.length c (ints xs) rfl (by simp [ints]) hsrc (ints_one xs) (by simp only [maxLen]; omega) (by omega) ?_; intro a' c' w1 hS1; have c1' : w1.cell? ⟨b, 1, none⟩ = some (.slice a (xs.length + ys.length) c) := (hS1.pull 2).cell 1; have f1' := (hS1.pull 2).frozen)
  go_end0
  simp only [Nat.zero_add, List.nil_append] at hS1 ⊢
  exact ⟨by simp, stack_shut (((hS1.pull 2).set 1 (.slice a' xs.length c')).pull 2 |>.drop) rfl⟩
set_option maxHeartbeats 400000 in
theorem rpush_full (b : Nat) (most : Int) (xs : List Int) (x : Int) (R : List HA) (W w : World) (hS : Star W w (stackA 62 b most xs :: R)) (hf : most ≤ xs.length) :
    Calls Try.prog 30 #[.pointer (some ⟨b, 0, none⟩), .int .i64 x] w fun e w' => e = .returned (.int .i64 11) ∧ Star W w' (stackA 62 b most xs :: R) := by
  obtain ⟨a, n, c, rfl, h1⟩ := stack_open hS
  have c0 : w.cell? ⟨b, 0, none⟩ = some (.int .i64 most) := h1.cell 0
  have c1 : w.cell? ⟨b, 1, none⟩ = some (.slice a xs.length c) := h1.cell 1
  clear h1
  go_enter Try.func30, Try.ntmps30
  go_wp2
  go_quiet (fail)
  go_wp2
  go_ret
  exact ⟨rfl, hS.drewN _⟩
set_option maxHeartbeats 400000 in
theorem rpush_ok (b : Nat) (most : Int) (xs : List Int) (x : Int) (R : List HA) (W w : World) (hS : Star W w (stackA 62 b most xs :: R)) (hf : (xs.length : Int) < most) (hl : xs.length ≤ 1000000) :
    Calls Try.prog 30 #[.pointer (some ⟨b, 0, none⟩), .int .i64 x] w fun e w' => e = .returned (.int .i64 0) ∧ Star W w' (stackA 62 b most (xs ++ [x]) :: R) := by
  obtain ⟨i0, hi, hz0, hz1, hz2⟩ := info_parts Try.info3
  obtain ⟨a, n, c, rfl, h1⟩ := stack_open hS
  have c0 : w.cell? ⟨b, 0, none⟩ = some (.int .i64 most) := h1.cell 0
  have c1 : w.cell? ⟨b, 1, none⟩ = some (.slice a xs.length c) := h1.cell 1
  have hb := h1.lt
  clear hS
  go_enter Try.func30, Try.ntmps30
  go_wp2
  go_quiet (fail)
  go_wp2_with (at_builtin; refine wpList_append_star rfl _ _ 22 rfl 3 i0 _ 1 8 Try.underlying22 hi hz0 hz1 hz2 rfl (by decide) _ _ _ rfl (((h1.drewN _).new _).pull 2) ⟨w.heap.size, 0, none⟩ 1 1 [.int .i64 x] rfl rfl (cell_one_new _ _ _) (by simp [Value.oneCell']) (by simp only [maxLen]; omega) (by omega) ?_; intro a' c' w1 hS1; have c1' : w1.cell? ⟨b, 1, none⟩ = some (.slice a xs.length c) := (hS1.pull 2).cell 1; have f1' := (hS1.pull 2).frozen)
  go_ret
  exact ⟨rfl, stack_shut (xs := xs ++ [x]) (by simpa [ints] using (((hS1.pull 2).set 1 _).pull 2).drop) (by simp)⟩
set_option maxHeartbeats 400000 in
theorem rpop_none (b : Nat) (most : Int) (R : List HA) (W w : World) (hS : Star W w (stackA 62 b most [] :: R)) :
    Calls Try.prog 31 #[.pointer (some ⟨b, 0, none⟩)] w fun e w' => e = .returned (.tuple #[.int .i64 0, .int .i64 12]) ∧ w = w' := by
  obtain ⟨a, n, c, hn, h1⟩ := stack_open hS
  simp at hn
  subst hn
  have c1 : w.cell? ⟨b, 1, none⟩ = some (.slice a 0 c) := h1.cell 1
  clear h1 hS
  go_enter Try.func31, Try.ntmps31
  go_wp2
  go_ret2
  exact ⟨rfl, rfl⟩
set_option maxHeartbeats 400000 in
theorem rpop_some (b : Nat) (most : Int) (xs : List Int) (x : Int) (R : List HA) (W w : World) (hS : Star W w (stackA 62 b most (xs ++ [x]) :: R)) (hl : xs.length ≤ 1000000) :
    Calls Try.prog 31 #[.pointer (some ⟨b, 0, none⟩)] w fun e w' => e = .returned (.tuple #[.int .i64 x, .int .i64 0]) ∧ Star W w' (stackA 62 b most xs :: R) := by
  obtain ⟨a, n, c, hn, h1⟩ := stack_open hS
  have hn' : n = xs.length + 1 := by simpa using hn
  clear hn
  subst hn'
  have c1 : w.cell? ⟨b, 1, none⟩ = some (.slice a (xs.length + 1) c) := h1.cell 1
  obtain ⟨g, rfl, hnc, hcm, hc, hf⟩ := h1.swap.rowAt (by simp)
  have cx : w.cell? ⟨g, xs.length, none⟩ = some (.int .i64 x) := by rw [hc _ (by simp)]; simp [ints]
  have ht : ((xs.length : Int) + 1 == 0) = false := beq_eq_false_iff_ne.2 (by omega)
  clear h1 hc hf
  go_enter Try.func31, Try.ntmps31
  go_wp2_with fail
  refine (rkeep b most xs [x] _ R W _ hS (by omega) hl).mono ?_
  rintro e w1 ⟨rfl, hS1⟩
  go_wp2
  go_ret2
  exact ⟨rfl, hS1⟩
set_option maxHeartbeats 400000 in
theorem rpeek_out (b : Nat) (most : Int) (xs : List Int) (k : Int) (R : List HA) (W w : World) (hS : Star W w (stackA 62 b most xs :: R)) (hk : k < 0 ∨ xs.length ≤ k) :
    Calls Try.prog 32 #[.pointer (some ⟨b, 0, none⟩), .int .i64 k] w fun e w' => e = .returned (.tuple #[.int .i64 0, .int .i64 2]) ∧ w = w' := by
  obtain ⟨a, n, c, rfl, h1⟩ := stack_open hS
  have c1 : w.cell? ⟨b, 1, none⟩ = some (.slice a xs.length c) := h1.cell 1
  clear h1 hS
  by_cases h0 : k < 0
  · go_enter Try.func32, Try.ntmps32
    go_wp2
    go_ret2
    exact ⟨rfl, rfl⟩
  · have hk' : (xs.length : Int) ≤ k := by omega
    clear hk
    go_enter Try.func32, Try.ntmps32
    go_wp2
    go_ret2
    exact ⟨rfl, rfl⟩
set_option maxHeartbeats 400000 in
theorem rpeek_in (b : Nat) (most : Int) (xs : List Int) (k : Int) (R : List HA) (W w : World) (hS : Star W w (stackA 62 b most xs :: R)) (hk0 : 0 ≤ k) (hk : k < xs.length) :
    Calls Try.prog 32 #[.pointer (some ⟨b, 0, none⟩), .int .i64 k] w fun e w' => e = .returned (.tuple #[.int .i64 (xs.getD (xs.length - 1 - k.toNat) 0), .int .i64 0]) ∧ Star W w' (stackA 62 b most xs :: R) := by
  obtain ⟨k, rfl⟩ := Int.eq_ofNat_of_zero_le hk0
  obtain ⟨a, n, c, rfl, h1⟩ := stack_open hS
  have c1 : w.cell? ⟨b, 1, none⟩ = some (.slice a xs.length c) := h1.cell 1
  obtain ⟨g, rfl, hnc, hcm, hc, hf⟩ := h1.swap.rowAt (by omega)
  have ck : w.cell? ⟨g, xs.length - 1 - k, none⟩ = some (.int .i64 (xs.getD (xs.length - 1 - k) 0)) := by rw [hc _ (by omega), ints_at _ _ (by omega)]
  clear h1 hc hf
  unfold maxLen at hcm
  go_enter Try.func32, Try.ntmps32
  go_wp2
  go_quiet (fail)
  go_wp2
  go_ret2
  exact ⟨rfl, hS.drewN _⟩
set_option maxHeartbeats 1000000 in
theorem rswap_ok (b : Nat) (most : Int) (xs : List Int) (x y : Int) (R : List HA) (W w : World) (hS : Star W w (stackA 62 b most (xs ++ [x, y]) :: R)) :
    Calls Try.prog 33 #[.pointer (some ⟨b, 0, none⟩)] w fun e w' => e = .returned (.int .i64 0) ∧ Star W w' (stackA 62 b most (xs ++ [y, x]) :: R) := by
  obtain ⟨a, n, c, hn, h1⟩ := stack_open hS
  have hn' : n = xs.length + 2 := by simpa using hn
  clear hn
  subst hn'
  have c1 : w.cell? ⟨b, 1, none⟩ = some (.slice a (xs.length + 2) c) := h1.cell 1
  obtain ⟨g, rfl, hnc, hcm, hc, hf⟩ := h1.swap.rowAt (by simp)
  simp only [List.length_append, List.length_cons, List.length_nil] at hnc
  unfold maxLen at hcm
  have cx : w.cell? ⟨g, xs.length, none⟩ = some (.int .i64 x) := by rw [hc _ (by simp)]; simp [ints]
  have cy : w.cell? ⟨g, xs.length + 1, none⟩ = some (.int .i64 y) := by rw [hc _ (by simp)]; simp [ints]
  have hgb : b ≠ g := h1.rowNe
  clear hS hc
  go_enter Try.func33, Try.ntmps33
  go_wp2
  go_region
  all_goals
    go_wp2
    go_ret
    refine ⟨rfl, Star.drew ?_⟩
    have hr : Star W w (rowA 3 1 (.slice (some ⟨g, 0, none⟩) (xs.length + 2) c) (xs.length + 2) (ints (xs ++ [x, y])) :: cellsA b #[.int .i64 most, .slice (some ⟨g, 0, none⟩) (xs.length + 2) c] 62 :: R) := by simpa using h1.swap
    have h2 := ((hr.rowSet (xs.length + 1) (.int .i64 x)).rowSet xs.length (.int .i64 y)).swap
    have e : ((ints (xs ++ [x, y])).set (xs.length + 1) (.int .i64 x)).set xs.length (.int .i64 y) = ints (xs ++ [y, x]) := by simp [ints]
    rw [e] at h2
    exact stack_shut (by simpa using h2) (by simp)
set_option maxHeartbeats 400000 in
theorem rswap_no (b : Nat) (most : Int) (xs : List Int) (R : List HA) (W w : World) (hS : Star W w (stackA 62 b most xs :: R)) (hl : xs.length < 2) :
    Calls Try.prog 33 #[.pointer (some ⟨b, 0, none⟩)] w fun e w' => e = .returned (.int .i64 12) ∧ w = w' := by
  obtain ⟨a, n, c, rfl, h1⟩ := stack_open hS
  have c1 : w.cell? ⟨b, 1, none⟩ = some (.slice a xs.length c) := h1.cell 1
  clear h1 hS
  go_enter Try.func33, Try.ntmps33
  go_wp2
  go_ret
  exact ⟨rfl, rfl⟩
set_option maxHeartbeats 400000 in
theorem rcut_ok (b : Nat) (most : Int) (xs ys : List Int) (k : Int) (R : List HA) (W w : World) (hS : Star W w (stackA 62 b most (xs ++ ys) :: R)) (hk : k = ys.length) (hl : xs.length ≤ 1000000) (hl2 : ys.length ≤ 1000000) :
    Calls Try.prog 35 #[.pointer (some ⟨b, 0, none⟩), .int .i64 k] w fun e w' => e = .returned (.int .i64 0) ∧ Star W w' (stackA 62 b most xs :: R) := by
  subst hk
  obtain ⟨a, n, c, hn, h1⟩ := stack_open hS
  have hn' : n = xs.length + ys.length := by simpa using hn
  clear hn
  subst hn'
  have c1 : w.cell? ⟨b, 1, none⟩ = some (.slice a (xs.length + ys.length) c) := h1.cell 1
  clear h1
  go_enter Try.func35, Try.ntmps35
  go_wp2_with fail
  refine (rkeep b most xs ys _ R W _ hS (by omega) hl).mono ?_
  rintro e w1 ⟨rfl, hS1⟩
  go_wp2
  go_ret
  exact ⟨rfl, hS1⟩
set_option maxHeartbeats 400000 in
theorem rcut_no (b : Nat) (most : Int) (xs : List Int) (k : Int) (R : List HA) (W w : World) (hS : Star W w (stackA 62 b most xs :: R)) (hk : k < 0 ∨ xs.length < k) :
    Calls Try.prog 35 #[.pointer (some ⟨b, 0, none⟩), .int .i64 k] w fun e w' => e = .returned (.int .i64 (if k < 0 then 1 else 12)) ∧ w = w' := by
  obtain ⟨a, n, c, rfl, h1⟩ := stack_open hS
  have c1 : w.cell? ⟨b, 1, none⟩ = some (.slice a xs.length c) := h1.cell 1
  clear h1 hS
  by_cases h0 : k < 0
  · go_enter Try.func35, Try.ntmps35
    go_wp2
    go_ret
    simp
  · have hk' : (xs.length : Int) < k := by omega
    clear hk
    go_enter Try.func35, Try.ntmps35
    go_wp2
    go_ret
    simp
end Go.Proofs.Ytaobddimjccbnaa
