/- Writes: lemmas for the laws of ghost. -/
import Derived.Test.YtljdkfhkpjjfgaaGh9
namespace Go.Proofs.Ytljdkfhkpjjfgaa
open Go.RowKit Go.Shelf
set_option linter.unusedVariables false
attribute [local go_sem] Oper.semAt_some

section
open Go.RowKit Go.MapKept
variable {κ : Type} {enc : κ → Value} {P : Program} {W w : World} {L : List HA} {b : Nat} {m : List (κ × Value)} {t kt et : TypeId} {d : TypeDesc}
variable [DecidableEq κ] (ht : P.underlying t = some (.map kt et)) (hd : P.underlying kt = some d) (hkey : ∀ x, IsKey d (enc x)) (hinj : ∀ x y, enc x = enc y → x = y)
include ht hd hkey hinj
theorem run_update_sz (h : Star W w (mapA enc b m :: L)) (k : κ) (v : Value) : ∃ w', (Instr.mapUpdate t (.map (some b)) (enc k) v).run P w = .ok () w' ∧ Star W w' (mapA enc b (updM m k v) :: L) ∧ w.heap.size ≤ w'.heap.size := by
  obtain ⟨es, clock, hb, hp⟩ := h.mapAt
  simp only [Instr.mapUpdate, Sem.run_bind, run_underlying ht, Result.andThen_ok, Go.MapKept.run_getObj_map hb, Go.MapKept.run_checkKey hd (hkey k) _ 9999]
  rcases findNow_pairs hkey hinj k es.toList m 0 hp with ⟨g1, g2, g3⟩ | ⟨j, v0, e', g1, g2, g3, g4, g5, _⟩
  · rw [Go.MapKept.run_findKey hd g2]
    simp only [Result.andThen_ok]
    refine ⟨_, Go.MapKept.run_setObj_map _ hb, h.mapPut ?_, by simp⟩
    rw [g3]
    simp only [Pairs, Array.toList_push, List.map_append, List.map_cons, List.map_nil]
    rw [hp]
  · rw [Go.MapKept.run_findKey hd g2]
    simp only [Result.andThen_ok, Nat.zero_add]
    have he : (es[j]?.map (·.key)).getD (enc k) = enc k := by
      rw [← Array.getElem?_toList, g3]; simp [g4]
    rw [he]
    simp only [Instr.keyThatStays, sameBits_key hkey k k rfl, if_true]
    refine ⟨_, Go.MapKept.run_setObj_map _ hb, h.mapPut ?_, by simp⟩
    rw [g5]
    have hlt : j < es.size := by
      have := (List.getElem?_eq_some_iff.1 g3).1
      simpa using this
    simp only [Pairs, Array.toList_modify]
    apply List.ext_getElem?
    intro i
    have hpi := congrArg (fun l => l[i]?) hp
    simp only [List.getElem?_map] at hpi
    simp only [List.getElem?_map, List.getElem?_modify, List.getElem?_set]
    by_cases hij : j = i
    · subst hij
      have hlm : j < m.length := by
        have := congrArg List.length hp
        simp at this; omega
      simp [g3, hlm]
    · simp only [hij, if_false]
      simpa using hpi
end
def ixOf (ps : List (Int × Int)) (c : Int) : Option Nat := (ps.map (·.1)).findIdx? fun d => d == c
def wrStep (ps : List (Int × Int)) (m : Mv) : List (Int × Int) := match ixOf ps m.cell with | some i => ps.set i (m.cell, m.x) | none => ps ++ [(m.cell, m.x)]
def writesOf (ms : List Mv) : List (Int × Int) := (sel true ms).foldl wrStep []
theorem ixOf_some {ps : List (Int × Int)} {c : Int} {i : Nat} (h : ixOf ps c = some i) : ∃ x, ps[i]? = some (c, x) := by
  obtain ⟨h1, h2, _⟩ := List.findIdx?_eq_some_iff_getElem.1 h
  have h3 : i < ps.length := by simpa using h1
  refine ⟨ps[i].2, ?_⟩
  rw [List.getElem?_eq_getElem h3]
  have h4 : ps[i].1 = c := by simpa using h2
  rw [← h4]
theorem keys_set {ps : List (Int × Int)} {c x : Int} {i : Nat} (h : ixOf ps c = some i) : (ps.set i (c, x)).map (·.1) = ps.map (·.1) := by
  obtain ⟨y, hy⟩ := ixOf_some h
  rw [List.map_set]
  exact set_same (by rw [List.getElem?_map, hy]; rfl)
/-- what the places' map holds -/
structure IxM (M : List (Int × Value)) (ps : List (Int × Int)) : Prop where
  nd : (M.map (·.1)).Nodup
  look : ∀ c, lookM M c = (ixOf ps c).map fun i : Nat => Value.int .i64 (i : Int)
theorem ixM_nil : IxM [] [] := ⟨by simp, fun c => rfl⟩
theorem ixM_add {M : List (Int × Value)} {ps : List (Int × Int)} {c x : Int} (h : IxM M ps) (hn : ixOf ps c = none) : IxM (updM M c (.int .i64 ps.length)) (ps ++ [(c, x)]) := by
  refine ⟨updM_nodup h.nd _ _, fun d => ?_⟩
  rw [lookM_updM, h.look]
  simp only [ixOf, List.map_append, List.map_cons, List.map_nil, List.findIdx?_append]
  by_cases hd : c = d
  · subst hd
    have : List.findIdx? (fun d => d == c) (ps.map (·.1)) = none := hn
    simp [this]
  · have : (c == d) = false := by simpa using hd
    simp [hd, List.findIdx?_cons, this]
theorem ixM_set {M : List (Int × Value)} {ps : List (Int × Int)} {c x : Int} {i : Nat} (h : IxM M ps) (hn : ixOf ps c = some i) : IxM M (ps.set i (c, x)) :=
  ⟨h.nd, fun d => by rw [h.look]; simp only [ixOf, keys_set hn]⟩
theorem pairsC_set {ps : List (Int × Int)} {c x : Int} {i : Nat} (h : ixOf ps c = some i) : (pairsC ps).set (i * 2 + 1) (.int .i64 x) = pairsC (ps.set i (c, x)) := by
  obtain ⟨y, hy⟩ := ixOf_some h
  rw [pairsC, flat_set (c := pairC (c, y)) _ pair_len (by rw [List.getElem?_map, hy]; rfl) (by omega), pairsC, List.map_set]
  rfl
theorem pairsC_last (ps : List (Int × Int)) (c x y : Int) : (pairsC ps ++ pairC (c, y)).set (ps.length * 2 + 1) (.int .i64 x) = pairsC (ps ++ [(c, x)]) := by
  rw [pairsC_snoc, List.set_append_right _ _ (by rw [pairsC_len]; omega), pairsC_len]
  have : ps.length * 2 + 1 - ps.length * 2 = 1 := by omega
  rw [this]
  rfl
theorem pairs_last (ps : List (Int × Int)) (c y : Int) : (pairsC ps ++ pairC (c, y))[ps.length * 2 + 1]? = some (.int .i64 y) := by
  rw [List.getElem?_append_right (by rw [pairsC_len]; omega), pairsC_len]
  have : ps.length * 2 + 1 - ps.length * 2 = 1 := by omega
  rw [this]
  rfl
theorem wrStep_len (ps : List (Int × Int)) (m : Mv) : (wrStep ps m).length ≤ ps.length + 1 := by
  unfold wrStep
  split <;> simp
theorem wr_len : ∀ (ms : List Mv) (ps : List (Int × Int)), (ms.foldl wrStep ps).length ≤ ps.length + ms.length
  | [], ps => by simp
  | m :: ms, ps => by
    have h1 := wr_len ms (wrStep ps m)
    have h2 := wrStep_len ps m
    simp only [List.foldl_cons, List.length_cons]
    omega

set_option maxRecDepth 100000 in
set_option maxHeartbeats 6400000 in
theorem writes_any (s : Sto) (A : Option Addr) (k c : Nat) (w : World) (hS : Sl w A k 6 (mvsC s.moves)) (hk : s.moves.length = k) (hbig : k * 48 ≤ 140737488355328) :
    Calls Try.prog 40 #[.agg (stoC s (.slice A k c)).toArray] w fun e w' => ∃ a c', e = .returned (.slice a (writesOf s.moves).length c') ∧ Star w w' [rowA 70 2 (.slice a (writesOf s.moves).length c') (writesOf s.moves).length (pairsC (writesOf s.moves)), oldA w] := by
  have hsl : (sel true s.moves).length ≤ k := by have := List.length_filter_le (fun m : Mv => decide (m.write = true) && (m.write || !m.own)) s.moves; rw [sel]; omega
  obtain ⟨i0, hi, hz0, hz1, hz2⟩ := info_parts Try.info70
  have hmm := @run_makeMap Try.prog
  obtain ⟨th, sp, bg, en, fa, er, by_, op, ga, ms⟩ := s
  dsimp only at hS hk hsl
  refine (callsIn_wide (n := 10)).1 ?_
  refine callsIn_of_wp_marks Try.func40 rfl trivial ?_ rfl
  refine wpIn_wide.2 ?_
  simp only [Try.ntmps40, stoC, List.size_toArray, List.length_cons, List.length_nil, Nat.reduceAdd, Nat.reduceSub, Array.replicate_succ, Array.replicate_zero, List.push_toArray, List.append_toArray, List.nil_append, List.cons_append]
  have mv := fun wx W => moves_any ⟨th, sp, bg, en, fa, er, by_, op, ga, ms⟩ (.slice A k c) wx W
  simp only [stoC] at mv
  have MV := Lib.hid mv
  clear mv
  go_wp2_with fail
  refine (MV.out true _).mono ?_
  rintro e w' ⟨rfl, rfl⟩
  go_wp2_with fail
  have h0 := ((Star.begin w).new (.cells #[.int .i64 th, .int .i64 sp, .int .i64 bg, .int .i64 en, .int .i64 fa, .int .i64 er, .int .i64 by_, .int .i64 op, .int .i64 ga, .slice A k c] 44)).new (.cells #[.slice none 0 0] 63)
  have h1 := (((h0.mapNew encI).new (.cells #[.map (some (w.heap.size + 1 + 1))] 85)).new (.cells #[.int .i64 th, .int .i64 sp, .int .i64 bg, .int .i64 en, .int .i64 fa, .int .i64 er, .int .i64 by_, .int .i64 op, .int .i64 ga, .slice A k c] 44)).new (.cells #[.bool true] 4)
  simp only [World.size_alloc] at h1
  clear h0
  generalize hwL : (((((w.alloc (.cells #[.int .i64 th, .int .i64 sp, .int .i64 bg, .int .i64 en, .int .i64 fa, .int .i64 er, .int .i64 by_, .int .i64 op, .int .i64 ga, .slice A k c] 44)).alloc (.cells #[.slice none 0 0] 63)).alloc (.map #[] 0)).alloc (.cells #[.map (some (w.heap.size + 1 + 1))] 85)).alloc (.cells #[.int .i64 th, .int .i64 sp, .int .i64 bg, .int .i64 en, .int .i64 fa, .int .i64 er, .int .i64 by_, .int .i64 op, .int .i64 ga, .slice A k c] 44)).alloc (.cells #[.bool true] 4) = wL at h1 ⊢
  have hsz : wL.heap.size = w.heap.size + 6 := by rw [← hwL]; simp
  clear hwL
  have hs : wL.cell? ⟨w.heap.size + 1 + 1 + 1 + 1, 9, none⟩ = some (.slice A k c) := (h1.pull 1).cell 9
  have hw : wL.cell? ⟨w.heap.size + 1 + 1 + 1 + 1 + 1, 0, none⟩ = some (.bool true) := h1.cell 0
  have hw0 : w.heap.size ≤ wL.heap.size := by omega
  refine (wpIn_wide (n := 10)).1 ?_
  refine wpIn_rangeStar (w0 := w) (sel true ms) (w.heap.size + 1 + 1 + 1 + 1 + 1) (.bool true) (by omega) rfl (by omega) (gf := 50) (lb := #[.pointer (some ⟨w.heap.size + 1 + 1 + 1 + 1, 0, none⟩), .pointer (some ⟨w.heap.size + 1 + 1 + 1 + 1 + 1, 0, none⟩)]) rfl trivial (enters_of Try.func50 (by kernel_rfl) rfl)
    (moves_stops Fence.wide 9 trivial rfl (by omega) (w.heap.size + 1 + 1 + 1 + 1) (w.heap.size + 1 + 1 + 1 + 1 + 1) w.heap.size true A k c ms hk (by omega) wL hs hw hw0 (hS.moved (h1.pull 6)) (old_lt hS)) rfl
    (fun pre => [exA fun v : Value => Holds [cellsA (w.heap.size + 1) #[v] 63, rowA 70 2 v (pre.foldl wrStep []).length (pairsC (pre.foldl wrStep []))], exA fun M : List (Int × Value) => Holds [factA (IxM M (pre.foldl wrStep [])), mapA encI (w.heap.size + 1 + 1) M], cellsA (w.heap.size + 1 + 1 + 1) #[.map (some (w.heap.size + 1 + 1))] 85, cellsA (w.heap.size + 1 + 1 + 1 + 1 + 1) #[.bool true] 4]) (fun _ => [factA False])
    ?cg (by intro pre X hX; simp only [List.mem_cons, List.not_mem_nil, or_false] at hX; subst hX; exact cel_fact) (fun x Bx => { tmps := #[.agg #[.int .i64 th, .int .i64 sp, .int .i64 bg, .int .i64 en, .int .i64 fa, .int .i64 er, .int .i64 by_, .int .i64 op, .int .i64 ga, .slice A k c], .pointer (some ⟨w.heap.size, 0, none⟩), .slice none 0 0, .pointer (some ⟨w.heap.size + 1, 0, none⟩), .pointer (some ⟨w.heap.size + 1 + 1 + 1, 0, none⟩), .pointer (some ⟨Bx, 0, none⟩), undef, undef, .map (some (w.heap.size + 1 + 1)), .agg #[.int .i64 th, .int .i64 sp, .int .i64 bg, .int .i64 en, .int .i64 fa, .int .i64 er, .int .i64 by_, .int .i64 op, .int .i64 ga, .slice A k c], .func (.func 50) #[] #[.pointer (some ⟨w.heap.size + 1 + 1 + 1 + 1, 0, none⟩), .pointer (some ⟨w.heap.size + 1 + 1 + 1 + 1 + 1, 0, none⟩)], .agg (mvC x).toArray, undef, undef, undef, undef, undef, undef, undef, undef, undef, undef, undef, undef, undef, undef, undef, undef, undef, undef, undef, undef, undef, undef, undef, undef, undef, undef, undef, undef], defers := [] }) true
    (fun pre W h => (h.pull 3).cell 0) ?h0 ?assign ?body ?done ?stop
  case cg =>
    intro pre X hX
    simp only [List.mem_cons, List.not_mem_nil, or_false] at hX
    rcases hX with rfl | rfl | rfl | rfl
    · exact cel_ex fun v => cel_holds (by
        intro Y hY
        simp only [List.mem_cons, List.not_mem_nil, or_false] at hY
        rcases hY with rfl | rfl
        · exact cel_cells (.inr (by decide))
        · exact cel_row (by decide))
    · exact cel_ex fun v => cel_holds (by
        intro Y hY
        simp only [List.mem_cons, List.not_mem_nil, or_false] at hY
        rcases hY with rfl | rfl
        · exact cel_fact
        · exact cel_map (by omega))
    · exact cel_cells (.inr (by decide))
    · exact cel_cells (.inr (by decide))
  case h0 =>
    have h2 := h1.pick 6 [4, 3, 2, 0]
    have h3 := (h2.rowNil 70 2).pick 6 [1, 0, 2, 3, 4, 5]
    have h4 : Star w _ (exA _ :: _) := Star.exI (f := fun v : Value => Holds [cellsA (w.heap.size + 1) #[v] 63, rowA 70 2 v 0 []]) (.slice none 0 0) (Star.fold (L := [_, _]) h3)
    have h5 : Star w _ (exA _ :: _) := Star.exI (f := fun M : List (Int × Value) => Holds [factA (IxM M []), mapA encI (w.heap.size + 1 + 1) M]) [] (Star.fold (L := [_, _]) (Star.factI ixM_nil (h4.pull 1)))
    exact h5.swap
  case assign =>
    intro l x W K hK _
    have HK := Lib.hid (hK rfl)
    clear hK
    dsimp only [mvC] at HK ⊢
    gi_wp2
    exact HK.out
  case body =>
    intro l pre x Bx W hR hBc hWs hlen
    obtain ⟨hB, hc⟩ := hBc rfl
    clear hsz
    have hps : (pre.foldl wrStep []).length ≤ pre.length := by have := wr_len pre []; simpa using this
    have hfold : (pre ++ [x]).foldl wrStep [] = wrStep (pre.foldl wrStep []) x := by simp
    generalize pre.foldl wrStep [] = ps at hR hps hfold
    have HF := Lib.hid hfold
    clear hfold
    have x2 : W.cell? ⟨Bx, 2, none⟩ = some (.int .i64 x.cell) := cell_of_row W Bx 2 (mvC x).toArray 46 (0, 0) hc
    have x3 : W.cell? ⟨Bx, 3, none⟩ = some (.int .i64 x.x) := cell_of_row W Bx 3 (mvC x).toArray 46 (0, 0) hc
    obtain ⟨v, h2⟩ := (hR.pull 1).ex
    obtain ⟨M, h3⟩ := (h2.flat.pull 3).ex
    obtain ⟨hM, h4⟩ := h3.flat.fact
    have HM := Lib.hid hM
    have h5 := h4.pick 7 [1, 2, 0, 4, 3, 5, 6]
    clear h2 h3 h4 hM hR
    obtain ⟨a0, q0, rfl⟩ := (h5.pull 1).form
    have c0 : W.cell? ⟨w.heap.size + 1, 0, none⟩ = some (.slice a0 ps.length q0) := h5.cell 0
    have m0 : W.cell? ⟨w.heap.size + 1 + 1 + 1, 0, none⟩ = some (.map (some (w.heap.size + 1 + 1))) := (h5.pull 3).cell 0
    have hlk := run_lookup_m Try.underlying85 Try.underlying3 encI_key encI_inj zero3 (h5.pull 2) x.cell true
    rw [HM.out.look, if_pos rfl, Option.isSome_map] at hlk
    have hlk : (Instr.lookup 85 (.map (some (w.heap.size + 1 + 1))) (.int .i64 x.cell) true).run Try.prog W = .ok (.tuple #[((ixOf ps x.cell).map fun i : Nat => Value.int .i64 (i : Int)).getD (.int .i64 0), .bool (ixOf ps x.cell).isSome]) W := hlk
    have H5 := Lib.hid h5
    clear h5
    dsimp only [mvC]
    cases hix : ixOf ps x.cell with
    | some i =>
      rw [hix] at hlk
      simp only [Option.map_some, Option.getD_some, Option.isSome_some] at hlk
      obtain ⟨y, hy⟩ := ixOf_some hix
      have hil : i < ps.length := (List.getElem?_eq_some_iff.1 hy).1
      obtain ⟨g2, rfl, hc1, hcm, hc2, hf2⟩ := (H5.out.pull 1).rowAt (by omega)
      have r1 : W.cell? ⟨g2, i * 2 + 1, none⟩ = some (.int .i64 y) := by
        rw [hc2 _ (by omega), pairsC_at hy (by omega)]; rfl
      have f1 := hf2 (i * 2 + 1)
      have hiz : (i : Int) < ps.length := by omega
      have hst : wrStep ps x = ps.set i (x.cell, x.x) := by simp [wrStep, hix]
      have HST := Lib.hid hst
      have HIX := Lib.hid hix
      clear hc2 hf2 hst hix hy
      gi_wp2
      refine ⟨by simp, ?_⟩
      have k1 := (H5.out.pull 1).rowSet (i * 2 + 1) (.int .i64 x.x)
      rw [pairsC_set HIX.out] at k1
      dsimp only
      rw [HF.out, HST.out, List.length_set]
      have k2 := k1.pick 7 [1, 0, 2, 3, 4, 5, 6]
      have k3 : Star w _ (exA _ :: _) := Star.exI (f := fun v : Value => Holds [cellsA (w.heap.size + 1) #[v] 63, rowA 70 2 v ps.length (pairsC (ps.set i (x.cell, x.x)))]) _ (Star.fold (L := [_, _]) k2)
      have k4 : Star w _ (exA _ :: _) := Star.exI (f := fun M : List (Int × Value) => Holds [factA (IxM M (ps.set i (x.cell, x.x))), mapA encI (w.heap.size + 1 + 1) M]) M (Star.fold (L := [_, _]) (Star.factI (ixM_set HM.out HIX.out) (k3.pull 1)))
      exact k4.pick 6 [3, 1, 0, 2, 4, 5]
    | none =>
      rw [hix] at hlk
      simp only [Option.map_none, Option.getD_none, Option.isSome_none] at hlk
      have hst : wrStep ps x = ps ++ [(x.cell, x.x)] := by simp [wrStep, hix]
      have HST := Lib.hid hst
      have HIX := Lib.hid hix
      obtain ⟨w1, hr, hU, hSZ⟩ := run_update_sz (P := Try.prog) (t := 85) (kt := 3) Try.underlying85 Try.underlying3 encI_key encI_inj (H5.out.pull 2) x.cell (.int .i64 ps.length)
      have hr : (Instr.mapUpdate 85 (.map (some (w.heap.size + 1 + 1))) (.int .i64 x.cell) (.int .i64 ps.length)).run Try.prog W = .ok () w1 := hr
      have hcB1 := (hU.pull 4).restAt hc hB rfl
      have y2 : w1.cell? ⟨Bx, 2, none⟩ = some (.int .i64 x.cell) := cell_of_row w1 Bx 2 (mvC x).toArray 46 (0, 0) hcB1
      have d0 : w1.cell? ⟨w.heap.size + 1, 0, none⟩ = some (.slice a0 ps.length q0) := (hU.pull 1).cell 0
      have hBl : Bx ≠ w.heap.size + 1 := by
        rintro rfl
        have h9 := (hU.pull 1).heap
        rw [hcB1] at h9
        simp at h9
      have hN := (hU.new (.cells (pairC (x.cell, 0)).toArray 70)).pull 3
      have hkk : ps.length < k := by omega
      have hlt1 : (ps.length : Int) < ps.length + 1 := by omega
      have hW1 := Lib.hid hSZ
      clear hSZ
      clear hst hix hU
      gi_wp2_with (gi_at_builtin; refine wpListIn_append_own_at _ rfl _ _ 63 rfl 0 70 i0 _ 2 16 Try.underlying63 hi hz0 hz1 hz2 rfl (by decide) _ _ _ rfl hN.owns ⟨w1.heap.size, 0, none⟩ 1 1 (pairC (x.cell, 0)) rfl rfl (cell_list_new _ _ rfl _ _) (by simp [pairC, Value.oneCell']) (by simp only [maxLen]; omega) (by omega) (Nat.zero_le _) ?_; intro v' w2 hown' hgrow hnil hat; have hS1 := hN.rowGrown hown' hgrow hat; have e0 : w2.cell? ⟨w.heap.size + 1, 0, none⟩ = some (.slice a0 ps.length q0) := (hS1.pull 3).cell 0; have f0 := (hS1.pull 3).frozen 0; obtain ⟨a', c', rfl⟩ := hS1.form; obtain ⟨g2, rfl, hc1, hcm, hc2, hf2⟩ := hS1.rowAt (by omega); have hgl : w.heap.size + 1 ≠ g2 := Star.rowNe (hS1.pull 3); have hgl2 := hgl.symm; have z3 : w2.cell? ⟨Bx, 3, none⟩ = some (.int .i64 x.x) := cell_of_row w2 Bx 3 (mvC x).toArray 46 (0, 0) ((hS1.pull 5).restAt hc hB rfl); have g1 : w2.cell? ⟨g2, ps.length * 2 + 1, none⟩ = some (.int .i64 0) := (hc2 _ (by omega)).trans (pairs_last ps x.cell 0); have f1 := hf2 (ps.length * 2 + 1); clear hc2 hf2)
      have hsz1 : W.heap.size ≤ w2.heap.size := Nat.le_trans hW1.out (Nat.le_trans (by simp) hgrow.size)
      refine ⟨by simpa using hsz1, ?_⟩
      have k1 := (((hS1.pull 3).set 0 (.slice (some ⟨g2, 0, none⟩) (ps.length + 1) c')).pull 1).rowSet (ps.length * 2 + 1) (.int .i64 x.x)
      rw [pairsC_last] at k1
      dsimp only
      rw [HF.out, HST.out, List.length_append]
      have k2 := k1.pick 8 [1, 0, 3, 4, 5, 6, 7]
      have k3 : Star w _ (exA _ :: _) := Star.exI (f := fun v : Value => Holds [cellsA (w.heap.size + 1) #[v] 63, rowA 70 2 v (ps.length + 1) (pairsC (ps ++ [(x.cell, x.x)]))]) _ (Star.fold (L := [_, _]) k2)
      have k4 : Star w _ (exA _ :: _) := Star.exI (f := fun M : List (Int × Value) => Holds [factA (IxM M (ps ++ [(x.cell, x.x)])), mapA encI (w.heap.size + 1 + 1) M]) (updM M x.cell (.int .i64 ps.length)) (Star.fold (L := [_, _]) (Star.factI (ixM_add HM.out HIX.out) (k3.pull 1)))
      exact k4.pick 6 [3, 1, 0, 2, 4, 5]
  case done =>
    intro D W hD h hk
    obtain ⟨v, h1⟩ := h.ex
    have h2 := h1.flat
    obtain ⟨a0, q0, rfl⟩ := h2.swap.form
    have c0 : W.cell? ⟨w.heap.size + 1, 0, none⟩ = some (.slice a0 ((sel true ms).foldl wrStep []).length q0) := h2.cell 0
    have h3 : Star w W [rowA 70 2 (.slice a0 ((sel true ms).foldl wrStep []).length q0) ((sel true ms).foldl wrStep []).length (pairsC ((sel true ms).foldl wrStep [])), oldA w] := h2.pick 6 [1, 5]
    have h4 := h3.putObj (B := wL.heap.size) (o' := .deferred none) (by
      intro X hX
      simp only [List.mem_cons, List.not_mem_nil, or_false] at hX
      rcases hX with rfl | rfl
      · exact cel_row (by decide)
      · exact cel_old (by omega)) hD hk rfl
    have H4 := Lib.hid h4
    clear h h1 h2 h3 h4
    go_wp2
    refine ⟨by simp, .inl ⟨_, _, rfl, run_takeDeferred hk, ?_⟩⟩
    refine ⟨_, results_tmp rfl _ _ _, a0, q0, rfl, H4.out⟩
  case stop =>
    intro D pre W hD hp h hk
    exact (Star.fact (L := [oldA w]) h).1.elim
end Go.Proofs.Ytljdkfhkpjjfgaa
