/- Contracts of the stack of structs: Push and Peek, walked: lemmas for the law StackAny. -/
import Derived.Test.YtaobddimjccbnaaG1
import Derived.Deep.RegionLaw
namespace Go.Proofs.Ytaobddimjccbnaa
open Go.RowKit
set_option linter.unusedVariables false

set_option maxHeartbeats 800000 in
theorem tpeek_out (b : Nat) (most : Int) (n : Nat) (cs : List Value) (k : Int) (R : List HA) (W w : World) (hS : Star W w (stackG 72 45 3 b most n cs :: R)) (hk : (n : Int) ≤ k) :
    Calls Try.prog 23 #[.pointer (some ⟨b, 0, none⟩), .int .i64 k] w fun e w' => e = .returned (.tuple #[.agg #[.string ⟨#[]⟩, .int .i64 0, .int .i64 0], .int .i64 2]) ∧ Star W w' (stackG 72 45 3 b most n cs :: R) := by
  obtain ⟨a, c, h1⟩ := g_open hS
  have c1 : w.cell? ⟨b, 1, none⟩ = some (.slice a n c) := h1.cell 1
  have hb := h1.lt
  have hk0 : 0 ≤ k := by omega
  clear h1
  go_enter Try.func23, Try.ntmps23
  go_wp2
  refine bodyPost_ret (v := .tuple #[.agg #[.string ⟨#[]⟩, .int .i64 0, .int .i64 0], .int .i64 2]) (by simp [results, Try.results23, go_sem]) rfl ⟨rfl, ((hS.new _).new _).drop.drop⟩
set_option maxHeartbeats 800000 in
theorem tpeek_in (b : Nat) (most : Int) (n : Nat) (cs : List Value) (k : Int) (x : ByteArray) (i j : Int) (R : List HA) (W w : World) (hS : Star W w (stackG 72 45 3 b most n cs :: R)) (hk0 : 0 ≤ k) (hk : k < n)
    (hx : cs[(n - 1 - k.toNat) * 3]? = some (.string x)) (hy : cs[(n - 1 - k.toNat) * 3 + 1]? = some (.int .i64 i)) (hz : cs[(n - 1 - k.toNat) * 3 + 2]? = some (.int .i64 j)) :
    Calls Try.prog 23 #[.pointer (some ⟨b, 0, none⟩), .int .i64 k] w fun e w' => e = .returned (.tuple #[.agg #[.string x, .int .i64 i, .int .i64 j], .int .i64 0]) ∧ Star W w' (stackG 72 45 3 b most n cs :: R) := by
  obtain ⟨k, rfl⟩ := Int.eq_ofNat_of_zero_le hk0
  simp only [Int.toNat_natCast] at hx hy hz
  obtain ⟨a, c, h1⟩ := g_open hS
  have c1 : w.cell? ⟨b, 1, none⟩ = some (.slice a n c) := h1.cell 1
  have hb := h1.lt
  obtain ⟨g, rfl, hnc, hcm, hc, hf⟩ := h1.swap.rowAt (by omega)
  have hg : g < w.heap.size := by
    have := hc ((n - 1 - k) * 3) (by omega)
    rw [hx] at this
    exact World.block_lt_of_cell? w _ this
  have ck : w.cell? ⟨g, (n - 1 - k) * 3, none⟩ = some (.string x) := by rw [hc _ (by omega), hx]
  have ck1 : w.cell? ⟨g, (n - 1 - k) * 3 + 1, none⟩ = some (.int .i64 i) := by rw [hc _ (by omega), hy]
  have ck2 : w.cell? ⟨g, (n - 1 - k) * 3 + 2, none⟩ = some (.int .i64 j) := by rw [hc _ (by omega), hz]
  clear h1 hc hf hx hy hz
  unfold maxLen at hcm
  go_enter Try.func23, Try.ntmps23
  go_wp2
  go_region
  all_goals
    go_wp2
    refine bodyPost_ret (v := .tuple #[.agg #[.string x, .int .i64 i, .int .i64 j], .int .i64 0]) (by simp [results, Try.results23, go_sem]) rfl ⟨rfl, ((hS.new _).new _).drop.drop.drew⟩

theorem cell_three_new (w : World) (x y z : Value) (t : TypeId) : ∀ j u, [x, y, z][j]? = some u → (w.alloc (.cells #[x, y, z] t)).cell? ((⟨w.heap.size, 0, none⟩ : Addr).add j) = some u := by
  intro j u hj
  match j, hj with
  | 0, hj => simp at hj; subst hj; simp [Addr.add]
  | 1, hj => simp at hj; subst hj; simp [Addr.add]
  | 2, hj => simp at hj; subst hj; simp [Addr.add]
  | j + 3, hj => simp at hj
theorem cell_three_at (w : World) (n : Nat) (hn : w.heap.size = n) (x y z : Value) (t : TypeId) : ∀ j u, [x, y, z][j]? = some u → (w.alloc (.cells #[x, y, z] t)).cell? ((⟨n, 0, none⟩ : Addr).add j) = some u := by
  subst hn; exact cell_three_new w x y z t
set_option maxHeartbeats 800000 in
theorem tpush (b : Nat) (most : Int) (n : Nat) (cs : List Value) (x : ByteArray) (i j : Int) (R : List HA) (W w : World) (hS : Star W w (stackG 72 45 3 b most n cs :: R)) (hf : (n : Int) < most) (hl : n ≤ 1000000) :
    Calls Try.prog 17 #[.pointer (some ⟨b, 0, none⟩), .agg #[.string x, .int .i64 i, .int .i64 j]] w fun e w' => e = .returned (.int .i64 0) ∧ Star W w' (stackG 72 45 3 b most (n + 1) (cs ++ [.string x, .int .i64 i, .int .i64 j]) :: R) := by
  obtain ⟨i0, hi, hz0, hz1, hz2⟩ := info_parts Try.info45
  obtain ⟨a, c, h1⟩ := g_open hS
  have c0 : w.cell? ⟨b, 0, none⟩ = some (.int .i64 most) := h1.cell 0
  have c1 : w.cell? ⟨b, 1, none⟩ = some (.slice a n c) := h1.cell 1
  have hb := h1.lt
  have h2 := h1.new (.cells #[.string x, .int .i64 i, .int .i64 j] 45)
  clear hS
  go_enter Try.func17, Try.ntmps17
  go_wp2
  go_quiet (fail)
  go_wp2
  go_region_law (refine step_append_star_any rfl (.tmp 19) (.tmp 21) 70 rfl 45 i0 _ 3 32 Try.underlying70 hi hz0 hz1 hz2 rfl (by decide) (.slice a n c) n cs rfl (((h2.drewN _).new _).pull 3) (some ⟨w.heap.size + 1, 0, none⟩) 1 1 [.string x, .int .i64 i, .int .i64 j] rfl rfl (fun _ => ⟨_, rfl, cell_three_at _ _ (by simp) _ _ _ _⟩) (by simp [Value.oneCell']) (by simp only [maxLen]; omega) (by omega) ?_; intro a' c' w1 hS1; have c1' : w1.cell? ⟨b, 1, none⟩ = some (.slice a n c) := (hS1.pull 3).cell 1; have f1' := (hS1.pull 3).frozen)
  all_goals
    go_wp2
    go_ret
    exact ⟨rfl, g_shut ((hS1.pull 3).set 1 _ |>.pick 4 [0, 1])⟩
end Go.Proofs.Ytaobddimjccbnaa
