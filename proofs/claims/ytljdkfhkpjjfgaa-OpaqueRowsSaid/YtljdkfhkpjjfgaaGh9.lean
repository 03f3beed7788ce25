/- Point: lemmas for the laws of ghost. -/
import Derived.Test.YtljdkfhkpjjfgaaGh8
import Derived.Shelf.RegionOpen
namespace Go.Proofs.Ytljdkfhkpjjfgaa
open Go.RowKit Go.Shelf
set_option linter.unusedVariables false
attribute [local go_sem] Oper.semAt_some

def lastOf (s : Sto) (ms : List Mv) : Int × Int := match ms.getLast? with | some m => (m.gate, m.step) | none => (s.opens, s.begin_)
theorem lastOf_snoc (s : Sto) (ms : List Mv) (m : Mv) : lastOf s (ms ++ [m]) = (m.gate, m.step) := by simp [lastOf]
def pointOf (s : Sto) : Int × Int := if s.fate = 1 ∧ sel true s.moves ≠ [] then (s.gate, s.end_) else lastOf s (sel false s.moves)
theorem old_lt {w : World} {A : Option Addr} {k : Nat} {ms : List Mv} (hS : Sl w A k 6 (mvsC ms)) : ∀ g o, A = some ⟨g, o, none⟩ → 0 < k → g < w.heap.size := by
  rintro g o rfl h0
  obtain ⟨g', o', e, hc⟩ := hS.2 h0
  injection e with e
  injection e with e1 e2
  subst e1 e2
  have h1 : 0 < (mvsC ms).length := by have := hS.1; omega
  exact World.block_lt_of_cell? w _ (hc 0 _ (List.getElem?_eq_getElem h1))
theorem Sl.moved {w w' : World} {L : List HA} {A : Option Addr} {k : Nat} {ms : List Mv} (hS : Sl w A k 6 (mvsC ms)) (h : Star w w' (oldA w :: L)) : Sl w' A k 6 (mvsC ms) := ⟨hS.1, fun h0 => by
    obtain ⟨g, o, e, hc⟩ := hS.2 h0
    exact ⟨g, o, e, fun j u hu => (h.oldCell (p := ⟨g, o + j, none⟩) (old_lt hS g o e h0)).trans (hc j u hu)⟩⟩

theorem moves_any (s : Sto) (v : Value) (wx : Bool) (w : World) :
    Calls Try.prog 45 #[.agg (stoC s v).toArray, .bool wx] w fun e w' => e = .returned (.func (.func 50) #[] #[.pointer (some ⟨w.heap.size, 0, none⟩), .pointer (some ⟨w.heap.size + 1, 0, none⟩)]) ∧ w' = (w.alloc (.cells (stoC s v).toArray 44)).alloc (.cells #[.bool wx] 4) :=
  callsIn_wide.1 (moves_in Fence.wide 10 trivial rfl s v wx w)
theorem cel_rest {B B' : Nat} {W : World} (h : W.heap.size ≤ B) : Cel B (restA B' W) := by
  intro p hp k o hk hB ho
  exact cutB_some (hp k o hk hB ho) (.inl (by have := (Array.getElem?_eq_some_iff.1 hk).1; omega))
set_option maxRecDepth 100000 in
set_option maxHeartbeats 6400000 in
theorem point_any (s : Sto) (A : Option Addr) (k c : Nat) (w : World) (hS : Sl w A k 6 (mvsC s.moves)) (hk : s.moves.length = k) (hbig : k * 48 ≤ 140737488355328) :
    Calls Try.prog 39 #[.agg (stoC s (.slice A k c)).toArray] w fun e w' => e = .returned (.tuple #[.int .i64 (pointOf s).1, .int .i64 (pointOf s).2]) ∧ Below w.heap.size w w' := by
  obtain ⟨th, sp, bg, en, fa, er, by_, op, ga, ms⟩ := s
  dsimp only at hS hk
  refine (callsIn_wide (n := 10)).1 ?_
  refine callsIn_of_wp_marks Try.func39 rfl trivial ?_ rfl
  refine wpIn_wide.2 ?_
  simp only [Try.ntmps39, stoC, List.size_toArray, List.length_cons, List.length_nil, Nat.reduceAdd, Nat.reduceSub, Array.replicate_succ, Array.replicate_zero, List.push_toArray, List.append_toArray, List.nil_append, List.cons_append]
  have mv := fun wx W => moves_any ⟨th, sp, bg, en, fa, er, by_, op, ga, ms⟩ (.slice A k c) wx W
  simp only [stoC] at mv
  have MV := Lib.hid mv
  clear mv
  by_cases hf : fa = 1
  · subst hf
    go_wp2_with fail
    refine (MV.out true _).mono ?_
    rintro e w' ⟨rfl, rfl⟩
    go_wp2_with fail
    have h2 := ((((Star.begin w).new (.cells #[.int .i64 th, .int .i64 sp, .int .i64 bg, .int .i64 en, .int .i64 1, .int .i64 er, .int .i64 by_, .int .i64 op, .int .i64 ga, .slice A k c] 44)).new (.cells #[.int .i64 0] 3)).new (.cells #[.int .i64 0] 3)).new (.cells #[.int .i64 th, .int .i64 sp, .int .i64 bg, .int .i64 en, .int .i64 1, .int .i64 er, .int .i64 by_, .int .i64 op, .int .i64 ga, .slice A k c] 44) |>.new (.cells #[.bool true] 4)
    simp only [World.size_alloc] at h2
    generalize hwA : ((((w.alloc (.cells #[.int .i64 th, .int .i64 sp, .int .i64 bg, .int .i64 en, .int .i64 1, .int .i64 er, .int .i64 by_, .int .i64 op, .int .i64 ga, .slice A k c] 44)).alloc (.cells #[.int .i64 0] 3)).alloc (.cells #[.int .i64 0] 3)).alloc (.cells #[.int .i64 th, .int .i64 sp, .int .i64 bg, .int .i64 en, .int .i64 1, .int .i64 er, .int .i64 by_, .int .i64 op, .int .i64 ga, .slice A k c] 44)).alloc (.cells #[.bool true] 4) = wA at h2 ⊢
    have hszA : wA.heap.size = w.heap.size + 1 + 1 + 1 + 1 + 1 := by rw [← hwA]; simp
    clear hwA
    have hs : wA.cell? ⟨w.heap.size + 1 + 1 + 1, 9, none⟩ = some (.slice A k c) := (h2.pull 1).cell 9
    have hw : wA.cell? ⟨w.heap.size + 1 + 1 + 1 + 1, 0, none⟩ = some (.bool true) := h2.cell 0
    have hwA : w.heap.size ≤ wA.heap.size := (h2.pull 5).oldSize
    refine (wpIn_wide (n := 10)).1 ?_
    refine wpIn_rangeStar (w0 := w) (sel true ms) (w.heap.size + 1 + 1 + 1 + 1) (.bool true) (by omega) rfl (by omega) (gf := 50) (lb := #[.pointer (some ⟨w.heap.size + 1 + 1 + 1, 0, none⟩), .pointer (some ⟨w.heap.size + 1 + 1 + 1 + 1, 0, none⟩)]) rfl trivial (enters_of Try.func50 (by kernel_rfl) rfl)
      (moves_stops Fence.wide 9 trivial rfl (by omega) (w.heap.size + 1 + 1 + 1) (w.heap.size + 1 + 1 + 1 + 1) w.heap.size true A k c ms hk (by omega) wA hs hw hwA (hS.moved (h2.pull 5)) (old_lt hS)) rfl
      (fun pre => [factA (pre = []), cellsA (w.heap.size + 1 + 1) #[.int .i64 0] 3, cellsA (w.heap.size + 1) #[.int .i64 0] 3, cellsA w.heap.size #[.int .i64 th, .int .i64 sp, .int .i64 bg, .int .i64 en, .int .i64 1, .int .i64 er, .int .i64 by_, .int .i64 op, .int .i64 ga, .slice A k c] 44, cellsA (w.heap.size + 1 + 1 + 1 + 1) #[.bool true] 4]) (fun pre => [factA (pre ≠ []), cellsA (w.heap.size + 1 + 1) #[.int .i64 en] 3, cellsA (w.heap.size + 1) #[.int .i64 ga] 3])
      ?cg1 ?cr1 (fun x Bx => { tmps := #[.agg #[.int .i64 th, .int .i64 sp, .int .i64 bg, .int .i64 en, .int .i64 1, .int .i64 er, .int .i64 by_, .int .i64 op, .int .i64 ga, .slice A k c], .pointer (some ⟨w.heap.size, 0, none⟩), .pointer (some ⟨w.heap.size + 1, 0, none⟩), .pointer (some ⟨w.heap.size + 1 + 1, 0, none⟩), undef, undef, undef, .pointer (some ⟨w.heap.size, 4, none⟩), .int .i64 1, .bool true, .agg #[.int .i64 th, .int .i64 sp, .int .i64 bg, .int .i64 en, .int .i64 1, .int .i64 er, .int .i64 by_, .int .i64 op, .int .i64 ga, .slice A k c], .func (.func 50) #[] #[.pointer (some ⟨w.heap.size + 1 + 1 + 1, 0, none⟩), .pointer (some ⟨w.heap.size + 1 + 1 + 1 + 1, 0, none⟩)], .agg (mvC x).toArray, undef, undef, undef, undef, undef, undef, undef, undef, undef, undef, undef, undef, undef, undef, undef, undef, undef], defers := [] }) false
      (fun pre W h => (h.pull 4).cell 0) (Star.factI rfl (h2.pick 6 [2, 3, 4, 0, 5])) ?assign1 ?body1 ?done1 ?stop1
    case cg1 =>
      intro pre X hX
      simp only [List.mem_cons, List.not_mem_nil, or_false] at hX
      rcases hX with rfl | rfl | rfl | rfl | rfl
      all_goals first | exact cel_fact | exact cel_cells (.inr (by decide))
    case cr1 =>
      intro pre X hX
      simp only [List.mem_cons, List.not_mem_nil, or_false] at hX
      rcases hX with rfl | rfl | rfl
      all_goals first | exact cel_fact | exact cel_cells (.inr (by decide))
    case assign1 =>
      intro l x W K _ hK
      have HK := Lib.hid (hK rfl)
      clear hK
      dsimp only [mvC] at HK ⊢
      gi_wp2
      simpa using HK.out
    case body1 =>
      intro l pre x Bx W hR _ hWs hlen
      clear hszA
      have hR1 := hR.pick 7 [2, 3, 4, 0, 5, 6]
      have q3 := hR1.cell 0
      have p3 := hR1.frozen 0
      have q2 := (hR1.pull 1).cell 0
      have p2 := (hR1.pull 1).frozen 0
      have q8 : W.cell? ⟨w.heap.size, 8, none⟩ = some (.int .i64 ga) := (hR1.pull 2).cell 8
      have q33 : W.cell? ⟨w.heap.size, 3, none⟩ = some (.int .i64 en) := (hR1.pull 2).cell 3
      have k1 := ((hR1.pull 1).set 0 (.int .i64 ga)).pull 1
      have k2 := (k1.set 0 (.int .i64 en)).drew
      have K2 := Lib.hid k2
      clear hR hR1 k1 k2
      gi_wp2
      have hmix : Try.prog.follows .mixedOrders = true := by kernel_rfl
      gi_region_with_o (fail)
      all_goals
        gi_wp2
        refine ⟨by simp, ?_⟩
        exact (Star.factI (q := pre ++ [x] ≠ []) (by simp) (K2.out.pick 6 [3, 0, 1, 5])).swap
    case stop1 =>
      intro D pre W hD hp h hk1
      obtain ⟨hne, h⟩ := Star.fact (L := [_, _, oldA w]) h
      have hne2 : sel true ms ≠ [] := by
        obtain ⟨z, hz⟩ := hp
        rw [← hz]
        intro e
        exact hne (List.append_eq_nil_iff.1 e).1
      have k3 := h.putObj (o' := .deferred none) (B := wA.heap.size) (by
        intro X hX
        simp only [List.mem_cons, List.not_mem_nil, or_false] at hX
        rcases hX with rfl | rfl | rfl
        · exact cel_cells (.inr (by decide))
        · exact cel_cells (.inr (by decide))
        · exact cel_old hwA) hD hk1 rfl
      have z3 := k3.cell 0
      have z2 := (k3.pull 1).cell 0
      have K3 := Lib.hid ((k3.pull 2).below)
      have hpt : pointOf ⟨th, sp, bg, en, 1, er, by_, op, ga, ms⟩ = (ga, en) := by simp [pointOf, hne2]
      clear k3 h
      gi_wp2
      refine ⟨by simp, .inl ⟨_, _, rfl, run_takeDeferred hk1, ?_⟩⟩
      refine ⟨.tuple #[.int .i64 ga, .int .i64 en], ?_, by rw [hpt], K3.out⟩
      simp [results, Try.results39, go_sem, z2, z3]
    case done1 =>
      intro D1 W1 hD1 h hk1
      obtain ⟨hnil, h⟩ := Star.fact (L := [_, _, _, _, oldA w]) h
      have hW1 : wA.heap.size ≤ W1.heap.size := by have := (Array.getElem?_eq_some_iff.1 hk1).1; omega
      have h0 := (h.rest (B := wA.heap.size) (by
        intro X hX
        simp only [List.mem_cons, List.not_mem_nil, or_false] at hX
        rcases hX with rfl | rfl | rfl | rfl | rfl
        · exact cel_cells (.inr (by decide))
        · exact cel_cells (.inr (by decide))
        · exact cel_cells (.inr (by decide))
        · exact cel_cells (.inr (by decide))
        · exact cel_old hwA)).pick 6 [1, 2, 3, 0, 5]
      clear h
      go_wp2_with fail
      have e2 : W1.cell? ⟨w.heap.size, 2, none⟩ = some (.int .i64 bg) := (h0.pull 2).cell 2
      have e7 : W1.cell? ⟨w.heap.size, 7, none⟩ = some (.int .i64 op) := (h0.pull 2).cell 7
      go_region_held3 (fun w' => w'.cell? ⟨w.heap.size, 2, none⟩ = some (.int .i64 bg) ∧ w'.cell? ⟨w.heap.size, 7, none⟩ = some (.int .i64 op)) (go_keep) (fail)
      all_goals
        first
          | (show Exit.then _ _ _ _ (((W1.alloc (.cells #[.int .i64 op] 3)).alloc (.cells #[.int .i64 bg] 3)).drew)
             have h1 := ((h0.new (.cells #[.int .i64 op] 3)).new (.cells #[.int .i64 bg] 3)).drew.swap
             simp only [World.size_alloc] at h1
             have hgF : W1.heap.size ≤ (((W1.alloc (.cells #[.int .i64 op] 3)).alloc (.cells #[.int .i64 bg] 3)).drew).heap.size := by simp; omega
             generalize ((W1.alloc (.cells #[.int .i64 op] 3)).alloc (.cells #[.int .i64 bg] 3)).drew = wF at h1 hgF ⊢
             generalize W1.heap.size + 1 = r5 at h1 ⊢
             generalize W1.heap.size = r4 at h1 ⊢)
          | (show Exit.then _ _ _ _ (((W1.alloc (.cells #[.int .i64 bg] 3)).alloc (.cells #[.int .i64 op] 3)).drew)
             have h1 := ((h0.new (.cells #[.int .i64 bg] 3)).new (.cells #[.int .i64 op] 3)).drew
             simp only [World.size_alloc] at h1
             have hgF : W1.heap.size ≤ (((W1.alloc (.cells #[.int .i64 bg] 3)).alloc (.cells #[.int .i64 op] 3)).drew).heap.size := by simp; omega
             generalize ((W1.alloc (.cells #[.int .i64 bg] 3)).alloc (.cells #[.int .i64 op] 3)).drew = wF at h1 hgF ⊢
             generalize W1.heap.size + 1 = r4 at h1 ⊢
             generalize W1.heap.size = r5 at h1 ⊢)
        clear e2 e7 h0
        have f : ∀ j u, [Value.int .i64 th, .int .i64 sp, .int .i64 bg, .int .i64 en, .int .i64 1, .int .i64 er, .int .i64 by_, .int .i64 op, .int .i64 ga, .slice A k c][j]? = some u → wF.cell? ⟨w.heap.size, j, none⟩ = some u := fun j u hu => by
          rw [(h1.pull 4).cell j]; simpa using hu
        have f0 := f 0 _ rfl
        have f1 := f 1 _ rfl
        have f2 := f 2 _ rfl
        have f3 := f 3 _ rfl
        have f4 := f 4 _ rfl
        have f5 := f 5 _ rfl
        have f6 := f 6 _ rfl
        have f7 := f 7 _ rfl
        have f8 := f 8 _ rfl
        have f9 := f 9 _ rfl
        clear f
        go_wp2_with fail
        refine (MV.out false _).mono ?_
        rintro e w' ⟨rfl, rfl⟩
        go_wp2_with fail
        have h2 := (h1.new (.cells #[.int .i64 th, .int .i64 sp, .int .i64 bg, .int .i64 en, .int .i64 1, .int .i64 er, .int .i64 by_, .int .i64 op, .int .i64 ga, .slice A k c] 44)).new (.cells #[.bool false] 4)
        simp only [World.size_alloc] at h2
        generalize hwL : (wF.alloc (.cells #[.int .i64 th, .int .i64 sp, .int .i64 bg, .int .i64 en, .int .i64 1, .int .i64 er, .int .i64 by_, .int .i64 op, .int .i64 ga, .slice A k c] 44)).alloc (.cells #[.bool false] 4) = wL at h2 ⊢
        have hsz : wL.heap.size = wF.heap.size + 1 + 1 := by rw [← hwL]; simp
        clear hwL f0 f1 f2 f3 f4 f5 f6 f7 f8 f9 h1
        generalize wF.heap.size = gS at h2 hsz hgF ⊢
        have hs : wL.cell? ⟨gS, 9, none⟩ = some (.slice A k c) := (h2.pull 1).cell 9
        have hw : wL.cell? ⟨gS + 1, 0, none⟩ = some (.bool false) := h2.cell 0
        have hw0 : w.heap.size ≤ wL.heap.size := (h2.pull 8).oldSize
        refine (wpIn_wide (n := 10)).1 ?_
        refine wpIn_rangeStar (w0 := w) (sel false ms) (gS + 1) (.bool false) (by omega) rfl (by omega) (gf := 50) (lb := #[.pointer (some ⟨gS, 0, none⟩), .pointer (some ⟨gS + 1, 0, none⟩)]) rfl trivial (enters_of Try.func50 (by kernel_rfl) rfl)
          (moves_stops Fence.wide 9 trivial rfl (by omega) gS (gS + 1) w.heap.size false A k c ms hk (by omega) wL hs hw hw0 (hS.moved (h2.pull 8)) (old_lt hS)) rfl
          (fun pre => [cellsA r4 #[.int .i64 (lastOf ⟨th, sp, bg, en, 1, er, by_, op, ga, ms⟩ pre).1] 3, cellsA r5 #[.int .i64 (lastOf ⟨th, sp, bg, en, 1, er, by_, op, ga, ms⟩ pre).2] 3, cellsA (w.heap.size + 1 + 1) #[.int .i64 0] 3, cellsA (w.heap.size + 1) #[.int .i64 0] 3, cellsA (gS + 1) #[.bool false] 4, restA wA.heap.size W1]) (fun _ => [factA False])
          ?cg (by intro pre X hX; simp only [List.mem_cons, List.not_mem_nil, or_false] at hX; subst hX; exact cel_fact) (fun x Bx => { tmps := #[.agg #[.int .i64 th, .int .i64 sp, .int .i64 bg, .int .i64 en, .int .i64 1, .int .i64 er, .int .i64 by_, .int .i64 op, .int .i64 ga, .slice A k c], .pointer (some ⟨w.heap.size, 0, none⟩), .pointer (some ⟨w.heap.size + 1, 0, none⟩), .pointer (some ⟨w.heap.size + 1 + 1, 0, none⟩), .pointer (some ⟨r4, 0, none⟩), .pointer (some ⟨r5, 0, none⟩), .pointer (some ⟨Bx, 0, none⟩), .pointer (some ⟨w.heap.size, 4, none⟩), .int .i64 1, .bool true, .agg #[.int .i64 th, .int .i64 sp, .int .i64 bg, .int .i64 en, .int .i64 1, .int .i64 er, .int .i64 by_, .int .i64 op, .int .i64 ga, .slice A k c], .func (.func 50) #[] #[.pointer (some ⟨w.heap.size + 1 + 1 + 1, 0, none⟩), .pointer (some ⟨w.heap.size + 1 + 1 + 1 + 1, 0, none⟩)], undef, undef, undef, undef, undef, .pointer (some ⟨w.heap.size, 7, none⟩), .int .i64 op, .pointer (some ⟨w.heap.size, 2, none⟩), .int .i64 bg, .agg #[.int .i64 th, .int .i64 sp, .int .i64 bg, .int .i64 en, .int .i64 1, .int .i64 er, .int .i64 by_, .int .i64 op, .int .i64 ga, .slice A k c], .func (.func 50) #[] #[.pointer (some ⟨gS, 0, none⟩), .pointer (some ⟨gS + 1, 0, none⟩)], .agg (mvC x).toArray, undef, undef, undef, undef, undef, undef], defers := [] }) true
          (fun pre W h => (h.pull 4).cell 0) (h2.pick 9 [2, 3, 4, 5, 0, 7, 8]) ?assign ?body ?done ?stop
        case cg =>
          intro pre X hX
          simp only [List.mem_cons, List.not_mem_nil, or_false] at hX
          rcases hX with rfl | rfl | rfl | rfl | rfl | rfl
          all_goals first | exact cel_cells (.inr (by decide)) | exact cel_rest (by omega)
        case assign =>
          intro l x W K hK _
          have HK := Lib.hid (hK rfl)
          clear hK
          dsimp only [mvC] at HK ⊢
          gi_wp2
          exact HK.out
        case body =>
          intro l pre x Bx W hR hBc hWs hlen
          obtain ⟨hB, hc⟩ := hBc rfl
          clear hsz
          have x5 : W.cell? ⟨Bx, 5, none⟩ = some (.int .i64 x.gate) := cell_of_row W Bx 5 (mvC x).toArray 46 (0, 0) hc
          have x0 : W.cell? ⟨Bx, 0, none⟩ = some (.int .i64 x.step) := cell_of_row W Bx 0 (mvC x).toArray 46 (0, 0) hc
          have hR1 := hR.pull 1
          have q4 := hR1.cell 0
          have p4 := hR1.frozen 0
          have hR2 := hR.pull 2
          have q5 := hR2.cell 0
          have p5 := hR2.frozen 0
          have hne : r4 ≠ r5 := Star.ne (hR.pick 3 [1, 2])
          have hne2 : r5 ≠ r4 := hne.symm
          have hB4 : Bx ≠ r4 := by
            rintro rfl
            have h9 := hR1.heap
            rw [hc] at h9
            simp at h9
          have hB5 : Bx ≠ r5 := by
            rintro rfl
            have h9 := hR2.heap
            rw [hc] at h9
            simp at h9
          dsimp only [mvC]
          gi_wp2
          have hmix : Try.prog.follows .mixedOrders = true := by kernel_rfl
          gi_region_with_o (fail)
          all_goals
            gi_wp2
            refine ⟨by simp, ?_⟩
            have k1 := ((hR1.set 0 (.int .i64 x.gate)).pull 2).set 0 (.int .i64 x.step)
            have k2 := (k1.pick 8 [2, 1, 0, 3, 4, 5, 6, 7]).drew
            simp only [lastOf_snoc]
            exact k2
        case done =>
          intro D W hD h hk2
          have d4 := h.cell 0
          have d5 := (h.pull 1).cell 0
          have d3 := (h.pull 2).cell 0
          have p3 := (h.pull 2).frozen 0
          have d2 := (h.pull 3).cell 0
          have p2 := (h.pull 3).frozen 0
          have n1 : r4 ≠ w.heap.size + 1 := Star.ne (h.pick 6 [0, 3])
          have n2 : r5 ≠ w.heap.size + 1 := Star.ne (h.pick 6 [1, 3])
          have n3 : r4 ≠ w.heap.size + 1 + 1 := Star.ne (h.pick 6 [0, 2])
          have n4 : r5 ≠ w.heap.size + 1 + 1 := Star.ne (h.pick 6 [1, 2])
          go_wp2_with fail
          have k1 := ((h.pull 3).set 0 (.int .i64 (lastOf ⟨th, sp, bg, en, 1, er, by_, op, ga, ms⟩ (sel false ms)).1)).pull 3
          have k2 := k1.set 0 (.int .i64 (lastOf ⟨th, sp, bg, en, 1, er, by_, op, ga, ms⟩ (sel false ms)).2)
          have hk3 := (KeepsOthers.setCell (W.setCell ⟨w.heap.size + 1, 0, none⟩ (.int .i64 (lastOf ⟨th, sp, bg, en, 1, er, by_, op, ga, ms⟩ (sel false ms)).1)) ⟨w.heap.size + 1 + 1, 0, none⟩ (.int .i64 (lastOf ⟨th, sp, bg, en, 1, er, by_, op, ga, ms⟩ (sel false ms)).2)).same D _ ((KeepsOthers.setCell W ⟨w.heap.size + 1, 0, none⟩ (.int .i64 (lastOf ⟨th, sp, bg, en, 1, er, by_, op, ga, ms⟩ (sel false ms)).1)).same D _ hk2 rfl) rfl
          have k3 := k2.drew.putObj (o' := .deferred none) (B := wL.heap.size) (by
            intro X hX
            have hX : X ∈ [_, _, _, _, _, _, _] := hX
            simp only [List.mem_cons, List.not_mem_nil, or_false] at hX
            rcases hX with rfl | rfl | rfl | rfl | rfl | rfl | rfl
            · exact cel_cells (.inr (by decide))
            · exact cel_cells (.inr (by decide))
            · exact cel_cells (.inr (by decide))
            · exact cel_cells (.inr (by decide))
            · exact cel_cells (.inr (by decide))
            · exact cel_rest (by omega)
            · exact cel_old hw0) hD hk3 rfl
          have kD1 := (k3.pull 5).restAt hk1 hD1 rfl
          have k4 := (k3.pick 7 [0, 1, 6]).putObj (o' := .deferred none) (B := wA.heap.size) (by
            intro X hX
            have hX : X ∈ [_, _, _] := hX
            simp only [List.mem_cons, List.not_mem_nil, or_false] at hX
            rcases hX with rfl | rfl | rfl
            · exact cel_cells (.inr (by decide))
            · exact cel_cells (.inr (by decide))
            · exact cel_old hwA) hD1 kD1 rfl
          have z3 := k4.cell 0
          have z2 := (k4.pull 1).cell 0
          have K3 := Lib.hid ((k4.pull 2).below)
          have hpt : pointOf ⟨th, sp, bg, en, 1, er, by_, op, ga, ms⟩ = lastOf ⟨th, sp, bg, en, 1, er, by_, op, ga, ms⟩ (sel false ms) := by simp [pointOf, hnil]
          clear k1 k2 k3 k4 h
          go_region
          all_goals
            go_wp2
            refine ⟨by simp, .inl ⟨_, _, rfl, run_takeDeferred hk3, ?_⟩⟩
            refine ⟨by simp, .inl ⟨_, _, rfl, run_takeDeferred kD1, ?_⟩⟩
            refine ⟨.tuple #[.int .i64 (lastOf ⟨th, sp, bg, en, 1, er, by_, op, ga, ms⟩ (sel false ms)).1, .int .i64 (lastOf ⟨th, sp, bg, en, 1, er, by_, op, ga, ms⟩ (sel false ms)).2], ?_, by rw [hpt], K3.out⟩
            simp [results, Try.results39, go_sem, z2, z3]
        case stop =>
          intro D pre W hD hp h hk2
          exact (Star.fact (L := [oldA w]) h).1.elim
  · have hff : (fa == 1) = false := by simpa using hf
    have h0 := (((Star.begin w).new (.cells #[.int .i64 th, .int .i64 sp, .int .i64 bg, .int .i64 en, .int .i64 fa, .int .i64 er, .int .i64 by_, .int .i64 op, .int .i64 ga, .slice A k c] 44)).new (.cells #[.int .i64 0] 3)).new (.cells #[.int .i64 0] 3)
    simp only [World.size_alloc] at h0
    go_wp2_with fail
    generalize ((w.alloc (.cells #[.int .i64 th, .int .i64 sp, .int .i64 bg, .int .i64 en, .int .i64 fa, .int .i64 er, .int .i64 by_, .int .i64 op, .int .i64 ga, .slice A k c] 44)).alloc (.cells #[.int .i64 0] 3)).alloc (.cells #[.int .i64 0] 3) = wE at h0 ⊢
    have e2 : wE.cell? ⟨w.heap.size, 2, none⟩ = some (.int .i64 bg) := (h0.pull 2).cell 2
    have e7 : wE.cell? ⟨w.heap.size, 7, none⟩ = some (.int .i64 op) := (h0.pull 2).cell 7
    go_region_held3 (fun w' => w'.cell? ⟨w.heap.size, 2, none⟩ = some (.int .i64 bg) ∧ w'.cell? ⟨w.heap.size, 7, none⟩ = some (.int .i64 op)) (go_keep) (fail)
    all_goals
      first
        | (show Exit.then _ _ _ _ (((wE.alloc (.cells #[.int .i64 op] 3)).alloc (.cells #[.int .i64 bg] 3)).drew)
           have h1 := ((h0.new (.cells #[.int .i64 op] 3)).new (.cells #[.int .i64 bg] 3)).drew.swap
           simp only [World.size_alloc] at h1
           generalize ((wE.alloc (.cells #[.int .i64 op] 3)).alloc (.cells #[.int .i64 bg] 3)).drew = wF at h1 ⊢
           generalize wE.heap.size + 1 = r5 at h1 ⊢
           generalize wE.heap.size = r4 at h1 ⊢)
        | (show Exit.then _ _ _ _ (((wE.alloc (.cells #[.int .i64 bg] 3)).alloc (.cells #[.int .i64 op] 3)).drew)
           have h1 := ((h0.new (.cells #[.int .i64 bg] 3)).new (.cells #[.int .i64 op] 3)).drew
           simp only [World.size_alloc] at h1
           generalize ((wE.alloc (.cells #[.int .i64 bg] 3)).alloc (.cells #[.int .i64 op] 3)).drew = wF at h1 ⊢
           generalize wE.heap.size + 1 = r4 at h1 ⊢
           generalize wE.heap.size = r5 at h1 ⊢)
      clear e2 e7 h0
      have f : ∀ j u, [Value.int .i64 th, .int .i64 sp, .int .i64 bg, .int .i64 en, .int .i64 fa, .int .i64 er, .int .i64 by_, .int .i64 op, .int .i64 ga, .slice A k c][j]? = some u → wF.cell? ⟨w.heap.size, j, none⟩ = some u := fun j u hu => by
        rw [(h1.pull 4).cell j]; simpa using hu
      have f0 := f 0 _ rfl
      have f1 := f 1 _ rfl
      have f2 := f 2 _ rfl
      have f3 := f 3 _ rfl
      have f4 := f 4 _ rfl
      have f5 := f 5 _ rfl
      have f6 := f 6 _ rfl
      have f7 := f 7 _ rfl
      have f8 := f 8 _ rfl
      have f9 := f 9 _ rfl
      clear f
      go_wp2_with fail
      refine (MV.out false _).mono ?_
      rintro e w' ⟨rfl, rfl⟩
      go_wp2_with fail
      have h2 := (h1.new (.cells #[.int .i64 th, .int .i64 sp, .int .i64 bg, .int .i64 en, .int .i64 fa, .int .i64 er, .int .i64 by_, .int .i64 op, .int .i64 ga, .slice A k c] 44)).new (.cells #[.bool false] 4)
      simp only [World.size_alloc] at h2
      generalize hwL : (wF.alloc (.cells #[.int .i64 th, .int .i64 sp, .int .i64 bg, .int .i64 en, .int .i64 fa, .int .i64 er, .int .i64 by_, .int .i64 op, .int .i64 ga, .slice A k c] 44)).alloc (.cells #[.bool false] 4) = wL at h2 ⊢
      have hsz : wL.heap.size = wF.heap.size + 1 + 1 := by rw [← hwL]; simp
      clear hwL f0 f1 f2 f3 f4 f5 f6 f7 f8 f9 h1
      generalize wF.heap.size = gS at h2 hsz ⊢
      have hs : wL.cell? ⟨gS, 9, none⟩ = some (.slice A k c) := (h2.pull 1).cell 9
      have hw : wL.cell? ⟨gS + 1, 0, none⟩ = some (.bool false) := h2.cell 0
      have hw0 : w.heap.size ≤ wL.heap.size := (h2.pull 7).oldSize
      refine (wpIn_wide (n := 10)).1 ?_
      refine wpIn_rangeStar (w0 := w) (sel false ms) (gS + 1) (.bool false) (by omega) rfl (by omega) (gf := 50) (lb := #[.pointer (some ⟨gS, 0, none⟩), .pointer (some ⟨gS + 1, 0, none⟩)]) rfl trivial (enters_of Try.func50 (by kernel_rfl) rfl)
        (moves_stops Fence.wide 9 trivial rfl (by omega) gS (gS + 1) w.heap.size false A k c ms hk (by omega) wL hs hw hw0 (hS.moved (h2.pull 7)) (old_lt hS)) rfl
        (fun pre => [cellsA r4 #[.int .i64 (lastOf ⟨th, sp, bg, en, fa, er, by_, op, ga, ms⟩ pre).1] 3, cellsA r5 #[.int .i64 (lastOf ⟨th, sp, bg, en, fa, er, by_, op, ga, ms⟩ pre).2] 3, cellsA (w.heap.size + 1 + 1) #[.int .i64 0] 3, cellsA (w.heap.size + 1) #[.int .i64 0] 3, cellsA (gS + 1) #[.bool false] 4]) (fun _ => [factA False])
        ?cg (by intro pre X hX; simp only [List.mem_cons, List.not_mem_nil, or_false] at hX; subst hX; exact cel_fact) (fun x Bx => { tmps := #[.agg #[.int .i64 th, .int .i64 sp, .int .i64 bg, .int .i64 en, .int .i64 fa, .int .i64 er, .int .i64 by_, .int .i64 op, .int .i64 ga, .slice A k c], .pointer (some ⟨w.heap.size, 0, none⟩), .pointer (some ⟨w.heap.size + 1, 0, none⟩), .pointer (some ⟨w.heap.size + 1 + 1, 0, none⟩), .pointer (some ⟨r4, 0, none⟩), .pointer (some ⟨r5, 0, none⟩), .pointer (some ⟨Bx, 0, none⟩), .pointer (some ⟨w.heap.size, 4, none⟩), .int .i64 fa, .bool false, undef, undef, undef, undef, undef, undef, undef, .pointer (some ⟨w.heap.size, 7, none⟩), .int .i64 op, .pointer (some ⟨w.heap.size, 2, none⟩), .int .i64 bg, .agg #[.int .i64 th, .int .i64 sp, .int .i64 bg, .int .i64 en, .int .i64 fa, .int .i64 er, .int .i64 by_, .int .i64 op, .int .i64 ga, .slice A k c], .func (.func 50) #[] #[.pointer (some ⟨gS, 0, none⟩), .pointer (some ⟨gS + 1, 0, none⟩)], .agg (mvC x).toArray, undef, undef, undef, undef, undef, undef], defers := [] }) true
        (fun pre W h => (h.pull 4).cell 0) (h2.pick 8 [2, 3, 4, 5, 0, 7]) ?assign ?body ?done ?stop
      case cg =>
        intro pre X hX
        simp only [List.mem_cons, List.not_mem_nil, or_false] at hX
        rcases hX with rfl | rfl | rfl | rfl | rfl <;> exact cel_cells (.inr (by decide))
      case assign =>
        intro l x W K hK _
        have HK := Lib.hid (hK rfl)
        clear hK
        dsimp only [mvC] at HK ⊢
        gi_wp2
        exact HK.out
      case body =>
        intro l pre x Bx W hR hBc hWs hlen
        obtain ⟨hB, hc⟩ := hBc rfl
        clear hsz
        have x5 : W.cell? ⟨Bx, 5, none⟩ = some (.int .i64 x.gate) := cell_of_row W Bx 5 (mvC x).toArray 46 (0, 0) hc
        have x0 : W.cell? ⟨Bx, 0, none⟩ = some (.int .i64 x.step) := cell_of_row W Bx 0 (mvC x).toArray 46 (0, 0) hc
        have hR1 := hR.pull 1
        have q4 := hR1.cell 0
        have p4 := hR1.frozen 0
        have hR2 := hR.pull 2
        have q5 := hR2.cell 0
        have p5 := hR2.frozen 0
        have hne : r4 ≠ r5 := Star.ne (hR.pick 3 [1, 2])
        have hne2 : r5 ≠ r4 := hne.symm
        have hB4 : Bx ≠ r4 := by
          rintro rfl
          have h9 := hR1.heap
          rw [hc] at h9
          simp at h9
        have hB5 : Bx ≠ r5 := by
          rintro rfl
          have h9 := hR2.heap
          rw [hc] at h9
          simp at h9
        dsimp only [mvC]
        gi_wp2
        have hmix : Try.prog.follows .mixedOrders = true := by kernel_rfl
        gi_region_with_o (fail)
        all_goals
          gi_wp2
          refine ⟨by simp, ?_⟩
          have k1 := ((hR1.set 0 (.int .i64 x.gate)).pull 2).set 0 (.int .i64 x.step)
          have k2 := (k1.pick 7 [2, 1, 0, 3, 4, 5, 6]).drew
          simp only [lastOf_snoc]
          exact k2
      case done =>
        intro D W hD h hk2
        have d4 := h.cell 0
        have d5 := (h.pull 1).cell 0
        have d3 := (h.pull 2).cell 0
        have p3 := (h.pull 2).frozen 0
        have d2 := (h.pull 3).cell 0
        have p2 := (h.pull 3).frozen 0
        have n1 : r4 ≠ w.heap.size + 1 := Star.ne (h.pick 6 [0, 3])
        have n2 : r5 ≠ w.heap.size + 1 := Star.ne (h.pick 6 [1, 3])
        have n3 : r4 ≠ w.heap.size + 1 + 1 := Star.ne (h.pick 6 [0, 2])
        have n4 : r5 ≠ w.heap.size + 1 + 1 := Star.ne (h.pick 6 [1, 2])
        go_wp2_with fail
        have k1 := ((h.pull 3).set 0 (.int .i64 (lastOf ⟨th, sp, bg, en, fa, er, by_, op, ga, ms⟩ (sel false ms)).1)).pull 3
        have k2 := k1.set 0 (.int .i64 (lastOf ⟨th, sp, bg, en, fa, er, by_, op, ga, ms⟩ (sel false ms)).2)
        have hk3 := (KeepsOthers.setCell (W.setCell ⟨w.heap.size + 1, 0, none⟩ (.int .i64 (lastOf ⟨th, sp, bg, en, fa, er, by_, op, ga, ms⟩ (sel false ms)).1)) ⟨w.heap.size + 1 + 1, 0, none⟩ (.int .i64 (lastOf ⟨th, sp, bg, en, fa, er, by_, op, ga, ms⟩ (sel false ms)).2)).same D _ ((KeepsOthers.setCell W ⟨w.heap.size + 1, 0, none⟩ (.int .i64 (lastOf ⟨th, sp, bg, en, fa, er, by_, op, ga, ms⟩ (sel false ms)).1)).same D _ hk2 rfl) rfl
        have k3 := k2.drew.putObj (o' := .deferred none) (B := wL.heap.size) (by
          intro X hX
          have hX : X ∈ [_, _, _, _, _, _] := hX
          simp only [List.mem_cons, List.not_mem_nil, or_false] at hX
          rcases hX with rfl | rfl | rfl | rfl | rfl | rfl
          · exact cel_cells (.inr (by decide))
          · exact cel_cells (.inr (by decide))
          · exact cel_cells (.inr (by decide))
          · exact cel_cells (.inr (by decide))
          · exact cel_cells (.inr (by decide))
          · exact cel_old hw0) hD hk3 rfl
        have z3 := k3.cell 0
        have z2 := (k3.pull 1).cell 0
        have K3 := Lib.hid ((k3.pull 5).below)
        have hpt : pointOf ⟨th, sp, bg, en, fa, er, by_, op, ga, ms⟩ = lastOf ⟨th, sp, bg, en, fa, er, by_, op, ga, ms⟩ (sel false ms) := by simp [pointOf, hf]
        clear k1 k2 k3 h
        go_region
        all_goals
          go_wp2
          refine ⟨by simp, .inl ⟨_, _, rfl, run_takeDeferred hk3, ?_⟩⟩
          refine ⟨.tuple #[.int .i64 (lastOf ⟨th, sp, bg, en, fa, er, by_, op, ga, ms⟩ (sel false ms)).1, .int .i64 (lastOf ⟨th, sp, bg, en, fa, er, by_, op, ga, ms⟩ (sel false ms)).2], ?_, by rw [hpt], K3.out⟩
          simp [results, Try.results39, go_sem, z2, z3]
      case stop =>
        intro D pre W hD hp h hk2
        exact (Star.fact (L := [oldA w]) h).1.elim
end Go.Proofs.Ytljdkfhkpjjfgaa
