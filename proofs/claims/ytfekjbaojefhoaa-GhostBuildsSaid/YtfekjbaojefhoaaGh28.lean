/- GhostEnds, walked: lemmas for the laws of ghost. -/
import Derived.Test.YtfekjbaojefhoaaGh26
import Derived.Test.YtfekjbaojefhoaaGh27
import Derived.StillTailTactics
namespace Go.Proofs.Ytfekjbaojefhoaa
open Go.RowKit Go.Shelf
set_option linter.unusedVariables false

theorem Stories.after {w w' : World} {L : List HA} {B : Option Addr} {m : Nat} {sts : List Sto} {vs : List Value} (hT : Stories w B m sts vs) (h : Star w w' (oldA w :: L)) : Stories w' B m sts vs :=
  ⟨hT.row.after (by omega) h, hT.ns, hT.nv, fun i s v hs hv => by
    obtain ⟨A, k, c, e, hk, hms, hb⟩ := hT.mv i s v hs hv
    exact ⟨A, k, c, e, hk, hms.after (by omega) h, hb⟩⟩
theorem Stories.slices {w : World} {B : Option Addr} {m : Nat} {sts : List Sto} {vs : List Value} (hT : Stories w B m sts vs) : ∀ v ∈ vs, ∃ a k c, v = Value.slice a k c := by
  intro v hv
  obtain ⟨i, hi, rfl⟩ := List.mem_iff_getElem.1 hv
  obtain ⟨A, k, c, e, _⟩ := hT.mv i _ _ (List.getElem?_eq_getElem (by have := hT.ns; have := hT.nv; omega)) (List.getElem?_eq_getElem hi)
  exact ⟨A, k, c, e⟩
theorem intsC_append (a b : List Int) : intsC (a ++ b) = intsC a ++ intsC b := by rw [intsC, intsC, intsC, List.map_append]
theorem intsC_get {zs : List Int} {i : Nat} {z : Int} (h : zs[i]? = some z) : (intsC zs)[i]? = some (.int .i64 z) := by rw [intsC, List.getElem?_map, h]; rfl
set_option maxRecDepth 100000 in
set_option maxHeartbeats 12800000 in
theorem ends_walk (A : Option Addr) (n c : Nat) (zs : List Int) (B : Option Addr) (m d : Nat) (sts : List Sto) (vs : List Value) (w : World) (hS : Sl w A n 1 (intsC zs)) (hb : n * 8 ≤ 140737488351232) (hT : Stories w B m sts vs) (hbm : m * 96 ≤ 140737488355328) :
    Calls Try.prog 6 #[.slice A n c, .slice B m d] w fun e w' => e = .returned (.bool true) ∧ Below w.heap.size w w' := by
  have hzl : zs.length = n := by have := hS.1; rw [intsC_len] at this; omega
  have hm1 := make_ints 46 2 (.int .i64 0) 8 (n + 1) rfl Try.underlying46 Try.info2 (by omega) (by omega)
  simp only [Int.natCast_add, Int.natCast_one] at hm1
  have hs2 : (Try.prog.info? 2).map (·.size) = some 1 := by kernel_rfl
  obtain ⟨i0, hi, hz0, hz1, hz2⟩ := info_parts Try.info2
  have HS := Lib.hid hS
  have HT := Lib.hid hT
  have HZ := Lib.hid hzl
  clear hS hT hzl
  go_enter Try.func6, Try.ntmps6
  go_wp2_with fail
  refine (awake_any _).mono ?_
  rintro e' w1 ⟨rfl, hb1⟩
  have h1 := ((Star.begin w).of_below hb1).rowNew 2 1 (Array.replicate (n + 1) (.int .i64 0)) (n + 1) (by simp only [maxLen]; omega) (by simp)
  have hsl := HS.out.after (by omega) h1.swap
  clear hb1
  have e1 : intsC zs ++ List.drop (n * 1) (Array.replicate (n + 1) (Value.int .i64 0)).toList = intsC (zs ++ [0]) := by
    rw [intsC_append, Array.toList_replicate, List.drop_replicate, show n + 1 - n * 1 = 1 by omega]; rfl
  have e2 : (zs ++ [(0 : Int)])[n]? = some 0 := by rw [List.getElem?_append_right (by have := HZ.out; omega), show n - zs.length = 0 by have := HZ.out; omega]; rfl
  have e3 : (intsC (zs ++ [0])).set n (.int .i64 (-77)) = intsC (zs ++ [-77]) := by
    rw [intsC_append, List.set_append_right _ _ (by rw [intsC_len]; have := HZ.out; omega), intsC_append, intsC_len, show n - zs.length = 0 by have := HZ.out; omega]; rfl
  have E1 := Lib.hid e1
  have E2 := Lib.hid e2
  have E3 := Lib.hid e3
  clear e1 e2 e3
  go_wp2_with (with_reducible refine wpList_copy_star rfl (.tmp 18) (.tmp 19) 46 46 rfl 2 1 Try.underlying46 hs2 w1.heap.size (n + 1) (n + 1) _ rfl h1 A n c _ rfl (by omega) hsl (intsC_one zs) ?_; intro w2 h2; rw [E1.out] at h2; obtain ⟨k1, k2⟩ := row1_cell h2 (intsC_get E2.out); have h3 := h2.rowSet n (.int .i64 (-77)); rw [E3.out] at h3; have H3 := Lib.hid h3; clear h2 h3)
  have h3 := H3.out
  clear H3 k1 k2 h1 hsl
  generalize w2.setCell ⟨w1.heap.size, n, none⟩ (.int .i64 (-77)) = w3 at h3 ⊢
  generalize w1.heap.size = g0 at h3 ⊢
  have hsl3 : Sl w3 (some ⟨g0, 0, none⟩) n 1 (intsC zs) := by
    have h := (h3.rowCut n (by omega)).rowSl
    rw [intsC_append, List.take_append_of_le_length (by rw [intsC_len]; have := HZ.out; omega), List.take_of_length_le (by rw [intsC_len]; have := HZ.out; omega)] at h
    exact h
  have hT3 := HT.out.after h3.swap
  refine (final_any (some ⟨g0, 0, none⟩) n (n + 1) zs B m d sts vs (ordOf sts m) w3 hsl3 (by omega) hT3 hbm (sorts_to w3 B m d sts vs hT3 (by omega))).mono ?_
  rintro e' w4 ⟨oa, oc, rfl, h4⟩
  have h5 := h4.frame (L := [_]) h3
  have REF := Lib.hid (final_ref A n c zs B m d sts vs w4 (HS.out.after (by omega) (h5.pull 2)) (by omega) (HT.out.after (h5.pull 2)) hbm)
  have H5 := Lib.hid h5
  clear h3 h4 h5 hsl3 hT3
  go_wp2_with fail
  refine REF.out.mono ?_
  rintro e' w5 ⟨wa, wc, rfl, h6⟩
  have h7 := h6.frame (L := [_]) H5.out
  have hm : sts.length = m := HT.out.ns
  have hfin := final_is_ref sts zs
  rw [hm] at hfin
  rw [hfin] at h7
  have hfl : (finalOf sts (ordOf sts m) zs).length = n := by rw [final_len]; exact HZ.out
  have HFL := Lib.hid hfl
  clear h6 REF H5 hm hfin hfl
  generalize finalOf sts (ordOf sts m) zs = fin at h7 HFL
  have SAME := Lib.hid (sameCells_any fin oa wa n oc wc w5 (h7.pull 1).rowSl h7.rowSl (by omega))
  have H7 := Lib.hid h7
  clear h7
  go_wp2_with fail
  refine SAME.out.mono ?_
  rintro e' w6 ⟨rfl, q6, rfl⟩
  have h8 : ∃ xs : List Int, xs.length = n ∧ Star w (w5.drewN q6) [rowA 2 1 (.slice oa n oc) n (intsC xs), rowA 2 1 (.slice (some ⟨g0, 0, none⟩) (n + 1) (n + 1)) (n + 1) (intsC (zs ++ [-77])), oldA w] := ⟨fin, HFL.out, (H7.out.drewN q6).pick 4 [1, 2, 3]⟩
  clear SAME H7 HFL
  generalize w5.drewN q6 = w7 at h8 ⊢
  go_wp2_with fail
  go_loopw [10] (fun i wr => ∃ j : Nat, j ≤ n ∧ i = .int .i64 j ∧ ∃ xs : List Int, xs.length = n ∧ Star w wr [rowA 2 1 (.slice oa n oc) n (intsC xs), rowA 2 1 (.slice (some ⟨g0, 0, none⟩) (n + 1) (n + 1)) (n + 1) (intsC (zs ++ [-77])), oldA w]) (fun i _ => n - (intOf i).toNat)
  case atStart =>
    obtain ⟨xs, hx, h⟩ := h8
    exact ⟨0, Nat.zero_le _, rfl, xs, hx, h⟩
  case round =>
    clear h8
    obtain ⟨j, hj, rfl, xs, hxl, hR⟩ := hrel
    by_cases hlt : j < n
    · obtain ⟨x, hx⟩ : ∃ x, xs[j]? = some x := ⟨_, List.getElem?_eq_getElem (by omega)⟩
      obtain ⟨go, rfl, -⟩ := hR.rowAt (by omega)
      obtain ⟨k1, k2⟩ := row1_cell hR (intsC_get hx)
      have hS1 := hR.rowSet j (.int .i64 (-99))
      have e1 : (intsC xs).set j (.int .i64 (-99)) = intsC (xs.set j (-99)) := by rw [intsC, intsC, List.map_set]
      rw [e1] at hS1
      have HX := Lib.hid (show (xs.set j (-99)).length = n by rw [List.length_set]; exact hxl)
      have HS1 := Lib.hid hS1
      have hjz : (j : Int) < n := by omega
      clear hR hS1 e1 hx hxl
      go_wp2
      go_roundw
      case rel => exact ⟨j + 1, by omega, by go_num, _, HX.out, HS1.out⟩
      case measure => simp [intOf]; omega
    · have hjn : j = n := by omega
      subst hjn
      have hN := (hR.new (.cells #[.int .i64 (-98)] 2)).pull 1
      have hjz : ¬ (j : Int) < j := by omega
      have HXL := Lib.hid hxl
      clear hR hxl
      go_wp2_with (at_builtin; refine wpList_append_star rfl _ _ 46 rfl 2 i0 _ 1 8 Try.underlying46 hi hz0 hz1 hz2 rfl (by decide) _ j _ rfl hN ⟨wr.heap.size, 0, none⟩ 1 1 [.int .i64 (-98)] rfl rfl (cell_list_new _ _ rfl _ _) (by simp [Value.oneCell']) (by simp only [maxLen]; omega) (by omega) ?_; intro a' c' w8 h9)
      have h10 := h9.pick 4 [0, 2, 3]
      have KEPT := Lib.hid (sameCells_any zs (some ⟨g0, 0, none⟩) A j (j + 1) c w8 (by
        have h := ((h10.pull 1).rowCut j (by omega)).rowSl
        rw [intsC_append, List.take_append_of_le_length (by rw [intsC_len]; have := HZ.out; omega), List.take_of_length_le (by rw [intsC_len]; have := HZ.out; omega)] at h
        exact h) (HS.out.after (by omega) (h10.pull 2)) (by omega))
      have H10 := Lib.hid (h10.pick 3 [1, 2])
      clear h9 h10 hN hi hz0 hz1 hz2
      refine KEPT.out.mono ?_
      rintro e' w9 ⟨rfl, q9, rfl⟩
      have h11 := H10.out.drewN q9
      clear KEPT H10
      generalize w8.drewN q9 = w10 at h11 ⊢
      have CT := Lib.hid (count_any B m d sts vs w10 (HT.out.after h11.swap).row HT.out.ns HT.out.nv HT.out.slices (by omega))
      have H11 := Lib.hid h11
      clear h11
      go_wp2_with fail
      refine CT.out.mono ?_
      rintro e' w11 ⟨rfl, hb11⟩
      have h12 := H11.out.of_below hb11
      have REFC := Lib.hid fun W' (hW : Star w W' [oldA w]) => count_ref B m d sts vs W' (HT.out.after hW).row HT.out.ns HT.out.nv HT.out.slices (by omega)
      generalize talOf sts = tal at REFC ⊢
      obtain ⟨tl, tc, ta, td⟩ := tal
      have h13 := h12.new (.cells (talC ⟨tl, tc, ta, td⟩).toArray 50)
      have E77 := Lib.hid (intsC_get (zs := zs ++ [-77]) (i := j) (z := -77) (by rw [List.getElem?_append_right (by have := HZ.out; omega), show j - zs.length = 0 by have := HZ.out; omega]; rfl))
      have e0 : (w11.alloc (.cells (talC ⟨tl, tc, ta, td⟩).toArray 50)).cell? ⟨g0, j, none⟩ = some (.int .i64 (-77)) := (row1_cell (h13.pull 1) (intsC_get (z := -77) (by rw [List.getElem?_append_right (by have := HZ.out; omega), show j - zs.length = 0 by have := HZ.out; omega]; rfl))).1
      have t0 : (w11.alloc (.cells (talC ⟨tl, tc, ta, td⟩).toArray 50)).cell? ⟨w11.heap.size, 0, none⟩ = some (.int .i64 tl) := h13.cell 0
      have t1 : (w11.alloc (.cells (talC ⟨tl, tc, ta, td⟩).toArray 50)).cell? ⟨w11.heap.size, 1, none⟩ = some (.int .i64 tc) := h13.cell 1
      have t2 : (w11.alloc (.cells (talC ⟨tl, tc, ta, td⟩).toArray 50)).cell? ⟨w11.heap.size, 2, none⟩ = some (.int .i64 ta) := h13.cell 2
      have t3 : (w11.alloc (.cells (talC ⟨tl, tc, ta, td⟩).toArray 50)).cell? ⟨w11.heap.size, 3, none⟩ = some (.int .i64 td) := h13.cell 3
      have H13 := Lib.hid h13
      have hjj : (j : Int) < (j : Int) + 1 := by omega
      dsimp only [talC] at REFC t0 t1 t2 t3 e0 H13 ⊢
      have hq := fun w => tal_eql tl tc ta td w
      clear H11 hb11 h12 CT h13
      go_wp2_with fail
      generalize w11.alloc (.cells #[.int .i64 (tl : Int), .int .i64 (tc : Int), .int .i64 (ta : Int), .int .i64 (td : Int)] 50) = w12 at e0 t0 t1 t2 t3 H13 ⊢
      generalize w11.heap.size = gT at t0 t1 t2 t3 H13 ⊢
      go_region_held3 (fun w' => w'.cell? ⟨g0, j, none⟩ = some (.int .i64 (-77)) ∧ w'.cell? ⟨gT, 0, none⟩ = some (.int .i64 tl) ∧ w'.cell? ⟨gT, 1, none⟩ = some (.int .i64 tc) ∧ w'.cell? ⟨gT, 2, none⟩ = some (.int .i64 ta) ∧ w'.cell? ⟨gT, 3, none⟩ = some (.int .i64 td)) (go_keep) (
        (go_at_call 25; refine (REFC.out _ (H13.out.drew.pick 3 [2])).mono ?_; rintro e w1 ⟨rfl, hb1⟩; have k := H13.out.drew.of_below hb1; have q0 : w1.cell? ⟨gT, 0, none⟩ = some (.int .i64 tl) := k.cell 0; have q1 : w1.cell? ⟨gT, 1, none⟩ = some (.int .i64 tc) := k.cell 1; have q2 : w1.cell? ⟨gT, 2, none⟩ = some (.int .i64 ta) := k.cell 2; have q3 : w1.cell? ⟨gT, 3, none⟩ = some (.int .i64 td) := k.cell 3; have q4 := (row1_cell (k.pull 1) E77.out).1; have K := Lib.hid ((k.pull 2).below); clear k hb1))
      all_goals
        go_wp2
        go_ret
        exact ⟨rfl, K.out⟩
end Go.Proofs.Ytfekjbaojefhoaa
