/- Reads, Writes and Point: lemmas for the laws of ghost. -/
import Derived.Test.YtfekjbaojefhoaaGh7
import Derived.Maps.OwnIn
import Derived.Shelf.Abstract
namespace Go.Proofs.Ytfekjbaojefhoaa
open Go.RowKit Go.Shelf
set_option linter.unusedVariables false
attribute [local go_sem] Oper.semAt_some

def pairC (p : Int × Int) : List Value := [.int .i64 p.1, .int .i64 p.2]
def pairsC (ps : List (Int × Int)) : List Value := (ps.map pairC).flatten
theorem pair_len {ps : List (Int × Int)} : ∀ c ∈ ps.map pairC, c.length = 2 := by intro c hc; obtain ⟨e, _, rfl⟩ := List.mem_map.1 hc; rfl
theorem pairsC_len (ps : List (Int × Int)) : (pairsC ps).length = ps.length * 2 := by rw [pairsC, flat_len pair_len, List.length_map]
theorem pairsC_at {ps : List (Int × Int)} {i j : Nat} {p : Int × Int} (h : ps[i]? = some p) (hj : j < 2) : (pairsC ps)[i * 2 + j]? = (pairC p)[j]? :=
  flat_at pair_len (by rw [List.getElem?_map, h]; rfl) hj
theorem pairsC_snoc (ps : List (Int × Int)) (p : Int × Int) : pairsC (ps ++ [p]) = pairsC ps ++ pairC p := by simp [pairsC]
theorem Try.info57 : (Try.prog.info? 57).map (fun i => (i.zero, i.size, i.bytes)) = some (some (.agg #[.int .i64 0, .int .i64 0]), 2, 16) := by kernel_rfl
def readsOf (ms : List Mv) : List (Int × Int) := (sel false ms).map fun m => (m.cell, m.x)

set_option maxRecDepth 100000 in
set_option maxHeartbeats 3200000 in
theorem reads_in (F : Fence) (n : Nat) (hF14 : F.fn 14) (hF30 : F.fn 30) (hF36 : F.fn 36) (hro : F.round = none) (hn : 3 ≤ n) (s : Sto) (A : Option Addr) (k c : Nat) (w : World) (hS : Sl w A k 6 (mvsC s.moves)) (hk : s.moves.length = k) (hbig : k * 48 ≤ 140737488355328) :
    CallsIn F n Try.prog 14 #[.agg (stoC s (.slice A k c)).toArray] w fun e w' => ∃ a c', e = .returned (.slice a (readsOf s.moves).length c') ∧ Star w w' [rowA 57 2 (.slice a (readsOf s.moves).length c') (readsOf s.moves).length (pairsC (readsOf s.moves)), oldA w] := by
  obtain ⟨i0, hi, hz0, hz1, hz2⟩ := info_parts Try.info57
  have h1n : 1 ≤ n := by omega
  refine callsIn_of_wp_marks Try.func14 rfl hF14 ?_ hro
  simp only [Try.ntmps14, stoC, List.size_toArray, List.length_cons, List.length_nil, Nat.reduceAdd, Nat.reduceSub, Array.replicate_succ, Array.replicate_zero, List.push_toArray, List.append_toArray, List.nil_append, List.cons_append]
  have mv := fun W => moves_in F (n - 1) hF30 hro s (.slice A k c) false W
  simp only [stoC] at mv
  gi_wp2_with (gi_at_call 30; refine (mv _).mono ?_; rintro e w' ⟨rfl, rfl⟩)
  have hL := ((((Star.begin w).new (.cells (stoC s (.slice A k c)).toArray 36)).new (.cells #[.slice none 0 0] 40)).new (.cells (stoC s (.slice A k c)).toArray 36)).new (.cells #[.bool false] 4)
  obtain ⟨wL, hwL⟩ : ∃ wL, wL = (((w.alloc (.cells (stoC s (.slice A k c)).toArray 36)).alloc (.cells #[.slice none 0 0] 40)).alloc (.cells (stoC s (.slice A k c)).toArray 36)).alloc (.cells #[.bool false] 4) := ⟨_, rfl⟩
  rw [← hwL] at hL
  simp only [World.size_alloc] at hL
  have hsz : wL.heap.size = w.heap.size + 4 := by rw [hwL]; simp
  have hs : wL.cell? ⟨w.heap.size + 1 + 1, 9, none⟩ = some (.slice A k c) := (hL.pull 1).cell 9
  have hw : wL.cell? ⟨w.heap.size + 1 + 1 + 1, 0, none⟩ = some (.bool false) := hL.cell 0
  have hA : ∀ g o, A = some ⟨g, o, none⟩ → 0 < k → g < w.heap.size := by
    rintro g o rfl h0
    obtain ⟨g', o', e, hc⟩ := hS.2 h0
    injection e with e
    injection e with e1 e2
    subst e1 e2
    have h1 : 0 < (mvsC s.moves).length := by rw [mvsC_len, hk]; omega
    exact World.block_lt_of_cell? w _ (hc 0 _ (List.getElem?_eq_getElem h1))
  have hSL : Sl wL A k 6 (mvsC s.moves) := ⟨hS.1, fun h0 => by
    obtain ⟨g, o, e, hc⟩ := hS.2 h0
    exact ⟨g, o, e, fun j u hu => ((hL.pull 4).oldCell (p := ⟨g, o + j, none⟩) (hA g o e h0)).trans (hc j u hu)⟩⟩
  show Code.wpIn _ _ _ _ _ _ ((((w.alloc (.cells (stoC s (.slice A k c)).toArray 36)).alloc (.cells #[.slice none 0 0] 40)).alloc (.cells (stoC s (.slice A k c)).toArray 36)).alloc (.cells #[.bool false] 4))
  rw [← hwL]
  clear hwL
  refine wpIn_rangeStar (w0 := w) (sel false s.moves) (w.heap.size + 1 + 1 + 1) (.bool false) (by omega) hro h1n (gf := 36) (lb := #[.pointer (some ⟨w.heap.size + 1 + 1, 0, none⟩), .pointer (some ⟨w.heap.size + 1 + 1 + 1, 0, none⟩)]) rfl hF36 (enters_of Try.func36 (by kernel_rfl) rfl)
    (moves_stops F (n - 1) hF36 hro (by omega) (w.heap.size + 1 + 1) (w.heap.size + 1 + 1 + 1) w.heap.size false A k c s.moves hk (by omega) wL hs hw (by omega) hSL hA) rfl
    (fun pre => [exA fun v : Value => Holds [cellsA (w.heap.size + 1) #[v] 40, rowA 57 2 v pre.length (pairsC (pre.map fun m => (m.cell, m.x)))], cellsA (w.heap.size + 1 + 1 + 1) #[.bool false] 4]) (fun _ => [factA False])
    ?cg (by intro pre X hX; simp only [List.mem_cons, List.not_mem_nil, or_false] at hX; subst hX; exact cel_fact) (fun x Bx => { tmps := #[.agg #[.int .i64 s.thread, .int .i64 s.stamp, .int .i64 s.begin_, .int .i64 s.end_, .int .i64 s.fate, .int .i64 s.e, .int .i64 s.by_, .int .i64 s.opens, .int .i64 s.gate, .slice A k c], .pointer (some ⟨w.heap.size, 0, none⟩), .slice none 0 0, .pointer (some ⟨w.heap.size + 1, 0, none⟩), .pointer (some ⟨Bx, 0, none⟩), .agg #[.int .i64 s.thread, .int .i64 s.stamp, .int .i64 s.begin_, .int .i64 s.end_, .int .i64 s.fate, .int .i64 s.e, .int .i64 s.by_, .int .i64 s.opens, .int .i64 s.gate, .slice A k c], .func (.func 36) #[] #[.pointer (some ⟨w.heap.size + 1 + 1, 0, none⟩), .pointer (some ⟨w.heap.size + 1 + 1 + 1, 0, none⟩)], .agg (mvC x).toArray, undef, undef, undef, undef, undef, undef, undef, undef, undef], defers := [] }) true
    (fun pre W h => (h.pull 1).cell 0) ?h0 ?assign ?body ?done ?stop
  case cg =>
    intro pre X hX
    simp only [List.mem_cons, List.not_mem_nil, or_false] at hX
    rcases hX with rfl | rfl
    · exact cel_ex fun v => cel_holds (by
        intro Y hY
        simp only [List.mem_cons, List.not_mem_nil, or_false] at hY
        rcases hY with rfl | rfl
        · exact cel_cells (.inr (by decide))
        · exact cel_row (by decide))
    · exact cel_cells (.inr (by decide))
  case h0 =>
    have h1 := (hL.pick 5 [2, 0, 4])
    have h2 := (h1.rowNil 57 2).pick 4 [1, 0, 2, 3]
    exact Star.exI (.slice none 0 0) (Star.fold (L := [_, _]) h2)
  case assign =>
    intro l x W K hK _
    have HK := Lib.hid (hK rfl)
    clear hK
    dsimp only [mvC] at HK ⊢
    gi_wp2
    exact HK.out
  case body =>
    intro l pre x Bx W hR hBc hWs hlen
    obtain ⟨hB, hc⟩ := hBc rfl
    clear hsz
    obtain ⟨v, h1⟩ := (hR.pull 1).ex
    have h2 := h1.flat
    obtain ⟨a0, q0, rfl⟩ := h2.swap.form
    have c0 : W.cell? ⟨w.heap.size + 1, 0, none⟩ = some (.slice a0 pre.length q0) := h2.cell 0
    have x2 : W.cell? ⟨Bx, 2, none⟩ = some (.int .i64 x.cell) := cell_of_row W Bx 2 (mvC x).toArray 38 (0, 0) hc
    have x3 : W.cell? ⟨Bx, 3, none⟩ = some (.int .i64 x.x) := cell_of_row W Bx 3 (mvC x).toArray 38 (0, 0) hc
    have hN := (h2.new (.cells (pairC (x.cell, x.x)).toArray 57)).pull 2
    have hlen2 : pre.length < k := by have := List.length_filter_le (fun m : Mv => decide (m.write = false) && (m.write || !m.own)) s.moves; rw [sel] at hlen; omega
    clear h1 h2
    dsimp only [mvC]
    gi_wp2_with (gi_at_builtin; refine wpListIn_append_own_at _ rfl _ _ 40 rfl 0 57 i0 _ 2 16 Try.underlying40 hi hz0 hz1 hz2 rfl (by decide) _ _ _ rfl hN.owns ⟨W.heap.size, 0, none⟩ 1 1 (pairC (x.cell, x.x)) rfl rfl (cell_list_new _ _ rfl _ _) (by simp [pairC, Value.oneCell']) (by simp only [maxLen]; omega) (by omega) (Nat.zero_le _) ?_; intro v' w1 hown' hgrow hnil hat; have hS1 := hN.rowGrown hown' hgrow hat; have c1 : w1.cell? ⟨w.heap.size + 1, 0, none⟩ = some (.slice a0 pre.length q0) := (hS1.pull 2).cell 0; have f1 := (hS1.pull 2).frozen 0; obtain ⟨a', c', rfl⟩ := hS1.form)
    have hsz1 : W.heap.size ≤ w1.heap.size := Nat.le_trans (by simp) hgrow.size
    refine ⟨by simpa using hsz1, ?_⟩
    have h5 := ((hS1.pull 2).set 0 (.slice a' (pre.length + 1) c')).pick 6 [0, 1, 3, 4, 5]
    have h6 : Star w _ (exA _ :: _) := Star.exI (f := fun v : Value => Holds [cellsA (w.heap.size + 1) #[v] 40, rowA 57 2 v (pre.length + 1) (pairsC (pre.map fun m => (m.cell, m.x)) ++ pairC (x.cell, x.x))]) (.slice a' (pre.length + 1) c') (Star.fold (L := [_, _]) h5)
    have h7 := h6.swap
    simp only [List.length_append, List.length_cons, List.length_nil, List.map_append, List.map_cons, List.map_nil, pairsC_snoc, Nat.zero_add]
    exact h7
  case done =>
    intro D W hD h hk
    obtain ⟨v, h1⟩ := h.ex
    have h2 := h1.flat
    obtain ⟨a0, q0, rfl⟩ := h2.swap.form
    have c0 : W.cell? ⟨w.heap.size + 1, 0, none⟩ = some (.slice a0 (sel false s.moves).length q0) := h2.cell 0
    have h3 : Star w W [rowA 57 2 (.slice a0 (sel false s.moves).length q0) (sel false s.moves).length (pairsC ((sel false s.moves).map fun m => (m.cell, m.x))), oldA w] := h2.pick 4 [1, 3]
    gi_wp2
    refine ⟨by simp, .inl ⟨_, _, rfl, run_takeDeferred hk, ?_⟩⟩
    refine ⟨_, results_tmp rfl _ _ _, a0, q0, by simp [readsOf], ?_⟩
    have h4 := h3.putObj (B := wL.heap.size) (o' := .deferred none) (by
      intro X hX
      simp only [List.mem_cons, List.not_mem_nil, or_false] at hX
      rcases hX with rfl | rfl
      · exact cel_row (by decide)
      · exact cel_old (by omega)) hD hk rfl
    simp only [readsOf, List.length_map]
    exact h4
  case stop =>
    intro D pre W hD hp h hk
    exact (Star.fact (L := [oldA w]) h).1.elim
theorem reads_any (s : Sto) (A : Option Addr) (k c : Nat) (w : World) (hS : Sl w A k 6 (mvsC s.moves)) (hk : s.moves.length = k) (hbig : k * 48 ≤ 140737488355328) :
    Calls Try.prog 14 #[.agg (stoC s (.slice A k c)).toArray] w fun e w' => ∃ a c', e = .returned (.slice a (readsOf s.moves).length c') ∧ Star w w' [rowA 57 2 (.slice a (readsOf s.moves).length c') (readsOf s.moves).length (pairsC (readsOf s.moves)), oldA w] :=
  callsIn_wide.1 (reads_in Fence.wide 10 trivial trivial trivial rfl (by omega) s A k c w hS hk hbig)
end Go.Proofs.Ytfekjbaojefhoaa
