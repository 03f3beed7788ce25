/- The iterator over a story's moves: lemmas for the laws of ghost. -/
import Derived.Test.YtljdkfhkpjjfgaaGh6
namespace Go.Proofs.Ytljdkfhkpjjfgaa
open Go.RowKit
set_option linter.unusedVariables false
attribute [local go_sem] Oper.semAt_some

/-- a story's writes, or its reads of what it has not written -/
def sel (wr : Bool) (ms : List Mv) : List Mv := ms.filter fun m => decide (m.write = wr) && (m.write || !m.own)
theorem sel_hit (wx : Bool) (ms : List Mv) (m : Mv) (h : (decide (m.write = wx) && (m.write || !m.own)) = true) : sel wx (ms ++ [m]) = sel wx ms ++ [m] := by
  simp only [sel, List.filter_append, List.filter_cons, List.filter_nil, h, if_true]
theorem sel_miss (wx : Bool) (ms : List Mv) (m : Mv) (h : (decide (m.write = wx) && (m.write || !m.own)) = false) : sel wx (ms ++ [m]) = sel wx ms := by
  simp [sel, List.filter_append, h]
theorem sel_pre (wr : Bool) (ms : List Mv) (q : Nat) : sel wr (ms.take q) <+: sel wr ms := by
  rw [sel, sel]
  exact (List.take_prefix q ms).filter _
theorem take_snoc {α : Type} {xs : List α} {k : Nat} {x : α} (h : xs[k]? = some x) : xs.take (k + 1) = xs.take k ++ [x] := by
  rw [List.take_add_one, h]; rfl
set_option maxRecDepth 100000 in
set_option maxHeartbeats 3200000 in
theorem moves1_in (F : Fence) (n : Nat) (hF : F.fn 50) (hro : F.round = none) (hn : 1 ≤ n) (l Bs Bw n₀ : Nat) (wx : Bool) (A : Option Addr) (k c : Nat) (ms : List Mv) (hk : ms.length = k) (hkb : k ≤ 9223372036854775807) (J Jx : List Mv → World → Prop)
    (hY : ∀ pre x W, J pre W → pre.length < (sel wx ms).length → YieldAt F (n - 1) Try.prog l #[.agg (mvC x).toArray] W fun e W' =>
      (e = .returned (.bool true) ∧ J (pre ++ [x]) W' ∧ keepK n₀ Bw W W') ∨ (e = .returned (.bool false) ∧ Jx (pre ++ [x]) W'))
    (hJ : ∀ s W o, J s W → J s (W.alloc o))
    (W : World) (hs : W.cell? ⟨Bs, 9, none⟩ = some (.slice A k c)) (hw : W.cell? ⟨Bw, 0, none⟩ = some (.bool wx)) (hn₀ : n₀ ≤ W.heap.size) (hS : Sl W A k 6 (mvsC ms)) (hA : ∀ g o, A = some ⟨g, o, none⟩ → 0 < k → g < n₀) (h0 : J [] W) :
    CallsIn F n Try.prog 50 #[.func (.yield l) #[] #[], .pointer (some ⟨Bs, 0, none⟩), .pointer (some ⟨Bw, 0, none⟩)] W fun e W' => (∃ v, e = .returned v) ∧
      ((∃ ys, ys = sel wx ms ∧ J ys W') ∨ (∃ pre, pre <+: sel wx ms ∧ Jx pre W')) := by
  refine callsIn_of_wp Try.func50 rfl hF ?_ hro
  simp only [Try.ntmps50, List.size_toArray, List.length_cons, List.length_nil, Nat.reduceAdd, Nat.reduceSub, Array.replicate_succ, Array.replicate_zero, List.push_toArray, List.append_toArray, List.nil_append, List.cons_append]
  gi_wp2
  gi_loopw [9] (fun i wv => ∃ p : Nat, p ≤ k ∧ i = .int .i64 p ∧ J (sel wx (ms.take p)) wv ∧ keepK n₀ Bw W wv) (fun i _ => k - (intOf i).toNat)
  case atStart => exact ⟨0, Nat.zero_le _, rfl, by simpa [sel] using h0, Below.refl _ _, rfl⟩
  case round =>
    obtain ⟨p, hp, rfl, hj, hb⟩ := hrel
    by_cases hpk : p < k
    · obtain ⟨m, hm⟩ : ∃ m, ms[p]? = some m := ⟨_, List.getElem?_eq_getElem (by omega)⟩
      obtain ⟨g, o, rfl, hc⟩ := hS.2 (by omega)
      have hg := hA g o rfl (by omega)
      have hcell : ∀ j u, (mvC m)[j]? = some u → j < 6 → wr.cell? ⟨g, o + (p * 6 + j), none⟩ = some u := by
        intro j u hu hj
        rw [hb.1.cell (p := ⟨g, o + (p * 6 + j), none⟩) hg]
        exact hc (p * 6 + j) u (by rw [mvsC_at hm hj]; exact hu)
      have hts := take_snoc hm
      have hlen : ((decide (m.write = wx) && (m.write || !m.own)) = true) → (sel wx (ms.take p)).length < (sel wx ms).length := by
        intro h
        have h1 := (sel_pre wx ms (p + 1)).length_le
        rw [hts, sel_hit _ _ _ h, List.length_append, List.length_cons, List.length_nil] at h1
        omega
      have hhit := sel_hit wx (ms.take p) m
      have hmiss := sel_miss wx (ms.take p) m
      rw [← hts] at hhit hmiss
      have hpre := sel_pre wx ms (p + 1)
      obtain ⟨st, wt, ce, x, ow, ga⟩ := m
      have x0 : wr.cell? ⟨g, o + p * 6, none⟩ = some (.int .i64 st) := hcell 0 _ rfl (by omega)
      have x1 : wr.cell? ⟨g, o + p * 6 + 1, none⟩ = some (.bool wt) := by rw [Nat.add_assoc]; exact hcell 1 _ rfl (by omega)
      have x2 : wr.cell? ⟨g, o + p * 6 + 2, none⟩ = some (.int .i64 ce) := by rw [Nat.add_assoc]; exact hcell 2 _ rfl (by omega)
      have x3 : wr.cell? ⟨g, o + p * 6 + 3, none⟩ = some (.int .i64 x) := by rw [Nat.add_assoc]; exact hcell 3 _ rfl (by omega)
      have x4 : wr.cell? ⟨g, o + p * 6 + 4, none⟩ = some (.bool ow) := by rw [Nat.add_assoc]; exact hcell 4 _ rfl (by omega)
      have x5 : wr.cell? ⟨g, o + p * 6 + 5, none⟩ = some (.int .i64 ga) := by rw [Nat.add_assoc]; exact hcell 5 _ rfl (by omega)
      have hj1 : J (sel wx (ms.take p)) (wr.alloc (.cells #[.int .i64 st, .bool wt, .int .i64 ce, .int .i64 x, .bool ow, .int .i64 ga] 46)) := hJ _ _ _ hj
      have hBw : Bw < wr.heap.size := World.block_lt_of_cell? wr _ (hb.2.trans hw)
      have hb1 : keepK n₀ Bw W (wr.alloc (.cells #[.int .i64 st, .bool wt, .int .i64 ce, .int .i64 x, .bool ow, .int .i64 ga] 46)) := ⟨hb.1.alloc (Nat.le_trans hn₀ hb.1.size) _, (World.cell?_of_block (Below.heap_alloc wr _ Bw hBw)).trans hb.2⟩
      have w1 : (wr.alloc (.cells #[.int .i64 st, .bool wt, .int .i64 ce, .int .i64 x, .bool ow, .int .i64 ga] 46)).cell? ⟨Bw, 0, none⟩ = some (.bool wx) := hb1.2.trans hw
      have hpz : (p : Int) < k := by omega
      have hYY := fun h => hY (sel wx (ms.take p)) ⟨st, wt, ce, x, ow, ga⟩ _ hj1 (hlen h)
      clear hcell hm hc hS hA hs hY hj hw hlen hts
      cases wt <;> cases wx <;> cases ow
      all_goals first
        | (have hsel := hmiss rfl
           rw [← hsel] at hj1
           clear hYY hmiss hhit hsel hpre
           gi_wp2
           refine ⟨fun f hf => (nomatch hf), ?_⟩
           gi_wp2
           go_roundw
           case rel => exact ⟨p + 1, by omega, by go_num, hj1, hb1⟩
           case measure => simp [intOf]; omega)
        | (have hsel := hhit rfl
           obtain ⟨fn, tmps, assign, body, hy, hR⟩ := hYY rfl
           dsimp only [mvC] at hy
           rw [← hsel] at hR
           clear hYY hmiss hhit hsel
           gi_wp2
           refine hR.mono ?_
           rintro e W3 (⟨rfl, hJ3, hk3⟩ | ⟨rfl, hJx3⟩)
           · gi_wp2
             go_roundw
             case rel => exact ⟨p + 1, by omega, by go_num, hJ3, hb1.1.trans hk3.1, hk3.2.trans hb1.2⟩
             case measure => simp [intOf]; omega
           · gi_wp2
             refine bodyPost_ret (results_none rfl _ _ _) rfl ?_
             exact ⟨⟨_, rfl⟩, .inr ⟨_, hpre, hJx3⟩⟩)
    · have hpz : ¬ (p : Int) < k := by omega
      have hfin : ms.take p = ms := List.take_of_length_le (by omega)
      rw [hfin] at hj
      gi_wp2
      go_end0
      exact ⟨⟨_, rfl⟩, .inl hj⟩
theorem moves_in (F : Fence) (n : Nat) (hF : F.fn 45) (hro : F.round = none) (s : Sto) (v : Value) (wx : Bool) (w : World) :
    CallsIn F n Try.prog 45 #[.agg (stoC s v).toArray, .bool wx] w fun e w' => e = .returned (.func (.func 50) #[] #[.pointer (some ⟨w.heap.size, 0, none⟩), .pointer (some ⟨w.heap.size + 1, 0, none⟩)]) ∧ w' = (w.alloc (.cells (stoC s v).toArray 44)).alloc (.cells #[.bool wx] 4) := by
  refine callsIn_of_wp Try.func45 rfl hF ?_ hro
  simp only [Try.ntmps45, List.size_toArray, List.length_cons, List.length_nil, Nat.reduceAdd, Nat.reduceSub, Array.replicate_succ, Array.replicate_zero, List.push_toArray, List.append_toArray, List.nil_append, List.cons_append]
  gi_wp2
  go_ret
  exact ⟨rfl, rfl⟩
theorem moves_stops (F : Fence) (n : Nat) (hF : F.fn 50) (hro : F.round = none) (hn : 1 ≤ n) (Bs Bw n₀ : Nat) (wx : Bool) (A : Option Addr) (k c : Nat) (ms : List Mv) (hk : ms.length = k) (hkb : k ≤ 9223372036854775807) (w : World)
    (hs : w.cell? ⟨Bs, 9, none⟩ = some (.slice A k c)) (hw : w.cell? ⟨Bw, 0, none⟩ = some (.bool wx)) (hn₀ : n₀ ≤ w.heap.size) (hS : Sl w A k 6 (mvsC ms)) (hA : ∀ g o, A = some ⟨g, o, none⟩ → 0 < k → g < n₀) :
    SeqStopsK F n Try.prog 50 #[.pointer (some ⟨Bs, 0, none⟩), .pointer (some ⟨Bw, 0, none⟩)] (fun m : Mv => #[.agg (mvC m).toArray]) (keepK n₀ Bw) (fun ys => ys = sel wx ms) (fun pre => pre <+: sel wx ms) (sel wx ms).length w := by
  intro l J Jx W hW hJ hJx hY h0
  exact moves1_in F n hF hro hn l Bs Bw n₀ wx A k c ms hk hkb J Jx hY (fun s W o hs => hJ s W _ none hs (World.grownBy_alloc W o none) (by simp)) W
    ((hW.cell (p := ⟨Bs, 9, none⟩) (World.block_lt_of_cell? w _ hs)).trans hs) ((hW.cell (p := ⟨Bw, 0, none⟩) (World.block_lt_of_cell? w _ hw)).trans hw) (Nat.le_trans hn₀ hW.size)
    ⟨hS.1, fun h0 => by
      obtain ⟨g, o, e, hc⟩ := hS.2 h0
      exact ⟨g, o, e, fun j u hu => (hW.cell (p := ⟨g, o + j, none⟩) (Nat.lt_of_lt_of_le (hA g o e h0) hn₀)).trans (hc j u hu)⟩⟩ hA h0
end Go.Proofs.Ytljdkfhkpjjfgaa
