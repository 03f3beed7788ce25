/- Contracts of the stacks of strings and of structs, walked: lemmas for the law StackAny. -/
import Derived.Test.YtaobddimjccbnaaT3
import Derived.Laws.StructEq
namespace Go.Proofs.Ytaobddimjccbnaa
open Go.RowKit
set_option linter.unusedVariables false

theorem Try.info9 : (Try.prog.info? 9).map (fun i => (i.zero, i.size, i.bytes)) = some (some (.string ByteArray.empty), 1, 16) := by kernel_rfl
theorem Try.info45 : (Try.prog.info? 45).map (fun i => (i.zero, i.size, i.bytes)) = some (some (.agg #[.string ByteArray.empty, .int .i64 0, .int .i64 0]), 3, 32) := by kernel_rfl

def stackG (T E : TypeId) (size : Nat) (b : Nat) (most : Int) (n : Nat) (cs : List Value) : HA :=
  exA fun v : Value => Holds [cellsA b #[.int .i64 most, v] T, rowA E size v n cs]
section
variable {T E : TypeId} {size : Nat} {W w : World} {b : Nat} {most : Int} {n : Nat} {cs : List Value} {R : List HA}
theorem g_open (h : Star W w (stackG T E size b most n cs :: R)) : ∃ a c, Star W w (cellsA b #[.int .i64 most, .slice a n c] T :: rowA E size (.slice a n c) n cs :: R) := by
  obtain ⟨v, hv⟩ := h.ex
  have h1 := hv.flat
  obtain ⟨a, c, rfl⟩ := h1.swap.form
  exact ⟨a, c, h1⟩
theorem g_shut {v : Value} (h : Star W w (cellsA b #[.int .i64 most, v] T :: rowA E size v n cs :: R)) : Star W w (stackG T E size b most n cs :: R) :=
  Star.exI v (Star.fold (L := [cellsA b #[.int .i64 most, v] T, rowA E size v n cs]) h)
theorem g_cut {a : Option Addr} {c : Nat} {m k : Nat} {ys : List Value} (h : Star W w (rowA E size (.slice a n c) n cs :: R)) (hm : m ≤ n) (hy : cs.take (m * size) = ys) : Star W w (rowA E size (.slice a m c) m ys :: R) := by
  subst hy; exact h.rowCut m hm
end

set_option maxHeartbeats 400000 in
theorem snew_ok (most : Int) (R : List HA) (W w : World) (hS : Star W w R) (h1 : 1 ≤ most) (h2 : most ≤ 256) :
    Calls Try.prog 14 #[.int .i64 most] w fun e w' => ∃ b, e = .returned (.tuple #[.pointer (some ⟨b, 0, none⟩), .int .i64 0]) ∧ Star W w' (stackG 69 9 1 b most 0 [] :: R) := by
  go_enter Try.func14, Try.ntmps14
  go_wp2
  go_ret2
  exact ⟨_, rfl, g_shut (((hS.new _).rowNil 9 1).swap)⟩
set_option maxHeartbeats 400000 in
theorem tnew_ok (most : Int) (R : List HA) (W w : World) (hS : Star W w R) (h1 : 1 ≤ most) (h2 : most ≤ 256) :
    Calls Try.prog 15 #[.int .i64 most] w fun e w' => ∃ b, e = .returned (.tuple #[.pointer (some ⟨b, 0, none⟩), .int .i64 0]) ∧ Star W w' (stackG 72 45 3 b most 0 [] :: R) := by
  go_enter Try.func15, Try.ntmps15
  go_wp2
  go_ret2
  exact ⟨_, rfl, g_shut (((hS.new _).rowNil 45 3).swap)⟩
set_option maxHeartbeats 400000 in
theorem slen (b : Nat) (most : Int) (n : Nat) (cs : List Value) (R : List HA) (W w : World) (hS : Star W w (stackG 69 9 1 b most n cs :: R)) :
    Calls Try.prog 20 #[.pointer (some ⟨b, 0, none⟩)] w fun e w' => e = .returned (.int .i64 n) ∧ w = w' := by
  obtain ⟨a, c, h1⟩ := g_open hS
  have c1 : w.cell? ⟨b, 1, none⟩ = some (.slice a n c) := h1.cell 1
  clear hS h1
  go_enter Try.func20, Try.ntmps20
  go_wp2
  go_ret
  exact ⟨rfl, rfl⟩
set_option maxHeartbeats 400000 in
theorem tlen (b : Nat) (most : Int) (n : Nat) (cs : List Value) (R : List HA) (W w : World) (hS : Star W w (stackG 72 45 3 b most n cs :: R)) :
    Calls Try.prog 21 #[.pointer (some ⟨b, 0, none⟩)] w fun e w' => e = .returned (.int .i64 n) ∧ w = w' := by
  obtain ⟨a, c, h1⟩ := g_open hS
  have c1 : w.cell? ⟨b, 1, none⟩ = some (.slice a n c) := h1.cell 1
  clear hS h1
  go_enter Try.func21, Try.ntmps21
  go_wp2
  go_ret
  exact ⟨rfl, rfl⟩
set_option maxHeartbeats 400000 in
theorem spush (b : Nat) (most : Int) (n : Nat) (cs : List Value) (x : ByteArray) (R : List HA) (W w : World) (hS : Star W w (stackG 69 9 1 b most n cs :: R)) (hf : (n : Int) < most) (hl : n ≤ 1000000) :
    Calls Try.prog 16 #[.pointer (some ⟨b, 0, none⟩), .string x] w fun e w' => e = .returned (.int .i64 0) ∧ Star W w' (stackG 69 9 1 b most (n + 1) (cs ++ [.string x]) :: R) := by
  obtain ⟨i0, hi, hz0, hz1, hz2⟩ := info_parts Try.info9
  obtain ⟨a, c, h1⟩ := g_open hS
  have c0 : w.cell? ⟨b, 0, none⟩ = some (.int .i64 most) := h1.cell 0
  have c1 : w.cell? ⟨b, 1, none⟩ = some (.slice a n c) := h1.cell 1
  have hb := h1.lt
  clear hS
  go_enter Try.func16, Try.ntmps16
  go_wp2
  go_quiet (fail)
  go_wp2_with (at_builtin; refine wpList_append_star rfl _ _ 36 rfl 9 i0 _ 1 16 Try.underlying36 hi hz0 hz1 hz2 rfl (by decide) _ _ _ rfl (((h1.drewN _).new _).pull 2) ⟨w.heap.size, 0, none⟩ 1 1 [.string x] rfl rfl (cell_one_new _ _ _) (by simp [Value.oneCell']) (by simp only [maxLen]; omega) (by omega) ?_; intro a' c' w1 hS1; have c1' : w1.cell? ⟨b, 1, none⟩ = some (.slice a n c) := (hS1.pull 2).cell 1; have f1' := (hS1.pull 2).frozen)
  go_ret
  exact ⟨rfl, g_shut (((hS1.pull 2).set 1 _).pull 2).drop⟩
set_option maxHeartbeats 400000 in
theorem scut_ok (b : Nat) (most : Int) (n m : Nat) (k : Int) (cs : List Value) (R : List HA) (W w : World) (hS : Star W w (stackG 69 9 1 b most (m + n) cs :: R)) (hk : k = n) :
    Calls Try.prog 18 #[.pointer (some ⟨b, 0, none⟩), .int .i64 k] w fun e w' => e = .returned (.int .i64 0) ∧ Star W w' (stackG 69 9 1 b most m (cs.take m) :: R) := by
  subst hk
  obtain ⟨a, c, h1⟩ := g_open hS
  have c1 : w.cell? ⟨b, 1, none⟩ = some (.slice a (m + n) c) := h1.cell 1
  have f1 := h1.frozen
  obtain ⟨hnc, hcm⟩ := h1.swap.rowCap
  unfold maxLen at hcm
  clear hS
  go_enter Try.func18, Try.ntmps18
  go_wp2
  go_region
  all_goals
    go_wp2
    go_ret
    refine ⟨rfl, Star.drew ?_⟩
    have h2 := (h1.set 1 (.slice a m c)).swap
    have h3 := h2.rowCut m (by omega)
    rw [Nat.mul_one] at h3
    exact g_shut h3.swap
set_option maxHeartbeats 400000 in
theorem tcut_ok (b : Nat) (most : Int) (n m : Nat) (k : Int) (cs : List Value) (R : List HA) (W w : World) (hS : Star W w (stackG 72 45 3 b most (m + n) cs :: R)) (hk : k = n) :
    Calls Try.prog 19 #[.pointer (some ⟨b, 0, none⟩), .int .i64 k] w fun e w' => e = .returned (.int .i64 0) ∧ Star W w' (stackG 72 45 3 b most m (cs.take (m * 3)) :: R) := by
  subst hk
  obtain ⟨a, c, h1⟩ := g_open hS
  have c1 : w.cell? ⟨b, 1, none⟩ = some (.slice a (m + n) c) := h1.cell 1
  have f1 := h1.frozen
  obtain ⟨hnc, hcm⟩ := h1.swap.rowCap
  unfold maxLen at hcm
  clear hS
  go_enter Try.func19, Try.ntmps19
  go_wp2
  go_region
  all_goals
    go_wp2
    go_ret
    refine ⟨rfl, Star.drew ?_⟩
    have h2 := (h1.set 1 (.slice a m c)).swap
    exact g_shut (h2.rowCut m (by omega)).swap
set_option maxHeartbeats 400000 in
theorem scut_no (b : Nat) (most : Int) (n : Nat) (k : Int) (cs : List Value) (R : List HA) (W w : World) (hS : Star W w (stackG 69 9 1 b most n cs :: R)) (hk : k < 0 ∨ n < k) :
    Calls Try.prog 18 #[.pointer (some ⟨b, 0, none⟩), .int .i64 k] w fun e w' => e = .returned (.int .i64 (if k < 0 then 1 else 12)) ∧ w = w' := by
  obtain ⟨a, c, h1⟩ := g_open hS
  have c1 : w.cell? ⟨b, 1, none⟩ = some (.slice a n c) := h1.cell 1
  clear h1 hS
  by_cases h0 : k < 0
  · go_enter Try.func18, Try.ntmps18
    go_wp2
    go_ret
    simp
  · have hk' : (n : Int) < k := by omega
    clear hk
    go_enter Try.func18, Try.ntmps18
    go_wp2
    go_ret
    simp
set_option maxHeartbeats 400000 in
theorem tcut_no (b : Nat) (most : Int) (n : Nat) (k : Int) (cs : List Value) (R : List HA) (W w : World) (hS : Star W w (stackG 72 45 3 b most n cs :: R)) (hk : k < 0 ∨ n < k) :
    Calls Try.prog 19 #[.pointer (some ⟨b, 0, none⟩), .int .i64 k] w fun e w' => e = .returned (.int .i64 (if k < 0 then 1 else 12)) ∧ w = w' := by
  obtain ⟨a, c, h1⟩ := g_open hS
  have c1 : w.cell? ⟨b, 1, none⟩ = some (.slice a n c) := h1.cell 1
  clear h1 hS
  by_cases h0 : k < 0
  · go_enter Try.func19, Try.ntmps19
    go_wp2
    go_ret
    simp
  · have hk' : (n : Int) < k := by omega
    clear hk
    go_enter Try.func19, Try.ntmps19
    go_wp2
    go_ret
    simp
set_option maxHeartbeats 400000 in
theorem speek (b : Nat) (most : Int) (n : Nat) (cs : List Value) (k : Int) (x : ByteArray) (R : List HA) (W w : World) (hS : Star W w (stackG 69 9 1 b most n cs :: R)) (hk0 : 0 ≤ k) (hk : k < n) (hx : cs[n - 1 - k.toNat]? = some (.string x)) :
    Calls Try.prog 22 #[.pointer (some ⟨b, 0, none⟩), .int .i64 k] w fun e w' => e = .returned (.tuple #[.string x, .int .i64 0]) ∧ Star W w' (stackG 69 9 1 b most n cs :: R) := by
  obtain ⟨k, rfl⟩ := Int.eq_ofNat_of_zero_le hk0
  simp only [Int.toNat_natCast] at hx
  obtain ⟨a, c, h1⟩ := g_open hS
  have c1 : w.cell? ⟨b, 1, none⟩ = some (.slice a n c) := h1.cell 1
  obtain ⟨g, rfl, hnc, hcm, hc, hf⟩ := h1.swap.rowAt (by omega)
  have ck : w.cell? ⟨g, n - 1 - k, none⟩ = some (.string x) := by rw [hc _ (by omega), hx]
  clear h1 hc hf hx
  unfold maxLen at hcm
  go_enter Try.func22, Try.ntmps22
  go_wp2
  go_quiet (fail)
  go_wp2
  go_ret2
  exact ⟨rfl, hS.drewN _⟩
end Go.Proofs.Ytaobddimjccbnaa
