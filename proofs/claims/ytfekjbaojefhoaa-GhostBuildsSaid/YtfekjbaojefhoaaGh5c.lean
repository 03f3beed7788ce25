/- Build, one kind of event: lemmas for the laws of ghost. Printed by gen_gh5.py. -/
import Derived.Test.YtfekjbaojefhoaaGh5
namespace Go.Proofs.Ytfekjbaojefhoaa
open Go.RowKit
set_option linter.unusedVariables false

set_option maxHeartbeats 16000000 in
set_option maxRecDepth 100000 in
theorem switch3 {w w2 : World} {mb gE : Nat} {s : St} {e : Ev} {k n : Nat} {a : Option Addr} {cc : Nat} {vs : List Value} {m : List (Int × Value)} {lk : Value} {c0 c1 c2 c3 c4 c8 c12 c13 c14 c15 c16 c17 c18 c19 c20 c21 c22 c23 c24 c25 c26 c27 c28 c29 c30 c31 c32 c33 c154 c155 v11 v35 v36 v37 v38 v39 v40 v41 v42 v43 v44 v45 v46 v47 v48 v49 v50 v51 v52 v53 v54 v55 v56 v57 v58 v59 v60 v61 v62 v63 v64 v65 v66 v67 v68 v69 v70 v71 v72 v73 v74 v75 v76 v77 v78 v79 v80 v81 v82 v83 v84 v85 v86 v87 v88 v89 v90 v91 v92 v93 v94 v95 v96 v97 v98 v99 v100 v101 v102 v103 v104 v105 v106 v107 v108 v109 v110 v111 v112 v113 v114 v115 v116 v117 v118 v119 v120 v121 v122 v123 v124 v125 v126 v127 v128 v129 v130 v131 v132 v133 v134 v135 v136 v137 v138 v139 v140 v141 v142 v143 v144 v145 v146 v147 v148 v149 v150 v151 v152 v153 : Value} {K : Act → World → Prop} (hkl : k < n) (hbig : n * 80 ≤ 140737488355328) (Hv : Hid (vs.length = s.sts.length)) (Ho : Hid (OpenM m s.opn)) (HI : Hid (BInv k s)) (HI2 : Hid (BInv (k + 1) (step1 s e))) {i : Nat} (hk3 : e.kind = 3) (ho : s.opn e.thread = some i)
    (H2 : Hid (Star w w2 [cellsA gE #[.int .i64 e.kind, .int .i64 e.step, .int .i64 e.thread, .int .i64 e.stamp, .int .i64 e.cell, .int .i64 e.x, .bool e.own, .int .i64 e.gate, .int .i64 e.e, .int .i64 e.by_] 26, mapA encI mb m, rowA 36 10 (.slice a s.sts.length cc) s.sts.length (stosC s.sts vs), Holds (movesL s.sts vs), oldA w]))
    (GO : Hid (∀ {n11 n35 n36 n37 n38 n39 n40 n41 n42 n43 n44 n45 n46 n47 n48 n49 n50 n51 n52 n53 n54 n55 n56 n57 n58 n59 n60 n61 n62 n63 n64 n65 n66 n67 n68 n69 n70 n71 n72 n73 n74 n75 n76 n77 n78 n79 n80 n81 n82 n83 n84 n85 n86 n87 n88 n89 n90 n91 n92 n93 n94 n95 n96 n97 n98 n99 n100 n101 n102 n103 n104 n105 n106 n107 n108 n109 n110 n111 n112 n113 n114 n115 n116 n117 n118 n119 n120 n121 n122 n123 n124 n125 n126 n127 n128 n129 n130 n131 n132 n133 n134 n135 n136 n137 n138 n139 n140 n141 n142 n143 n144 n145 n146 n147 n148 n149 n150 n151 n152 n153 : Value} (l : Value) (w3 : World) (a' : Option Addr) (cc' : Nat) (vs' : List Value) (m' : List (Int × Value)), l = .slice a' (step1 s e).sts.length cc' → vs'.length = (step1 s e).sts.length → OpenM m' (step1 s e).opn → Star w w3 [mapA encI mb m', rowA 36 10 (Value.slice a' (step1 s e).sts.length cc') (step1 s e).sts.length (stosC (step1 s e).sts vs'), Holds (movesL (step1 s e).sts vs'), oldA w] → K ⟨#[c0, c1, c2, c3, c4, l, .map (some mb), .int .i64 e.step, c8, .pointer (some ⟨gE, 0, none⟩), .int .i64 i, n11, c12, c13, c14, c15, c16, c17, c18, c19, c20, c21, c22, c23, c24, c25, c26, c27, c28, c29, c30, c31, c32, c33, .int .i64 3, n35, n36, n37, n38, n39, n40, n41, n42, n43, n44, n45, n46, n47, n48, n49, n50, n51, n52, n53, n54, n55, n56, n57, n58, n59, n60, n61, n62, n63, n64, n65, n66, n67, n68, n69, n70, n71, n72, n73, n74, n75, n76, n77, n78, n79, n80, n81, n82, n83, n84, n85, n86, n87, n88, n89, n90, n91, n92, n93, n94, n95, n96, n97, n98, n99, n100, n101, n102, n103, n104, n105, n106, n107, n108, n109, n110, n111, n112, n113, n114, n115, n116, n117, n118, n119, n120, n121, n122, n123, n124, n125, n126, n127, n128, n129, n130, n131, n132, n133, n134, n135, n136, n137, n138, n139, n140, n141, n142, n143, n144, n145, n146, n147, n148, n149, n150, n151, n152, n153, c154, c155], []⟩ w3)) :
    Code.wp Try.prog swCode (Exit.then K fun _ _ _ => False) ⟨#[c0, c1, c2, c3, c4, .slice a s.sts.length cc, .map (some mb), .int .i64 e.step, c8, .pointer (some ⟨gE, 0, none⟩), .int .i64 i, v11, c12, c13, c14, c15, c16, c17, c18, c19, c20, c21, c22, c23, c24, c25, c26, c27, c28, c29, c30, c31, c32, c33, .int .i64 3, v35, v36, v37, v38, v39, v40, v41, v42, v43, v44, v45, v46, v47, v48, v49, v50, v51, v52, v53, v54, v55, v56, v57, v58, v59, v60, v61, v62, v63, v64, v65, v66, v67, v68, v69, v70, v71, v72, v73, v74, v75, v76, v77, v78, v79, v80, v81, v82, v83, v84, v85, v86, v87, v88, v89, v90, v91, v92, v93, v94, v95, v96, v97, v98, v99, v100, v101, v102, v103, v104, v105, v106, v107, v108, v109, v110, v111, v112, v113, v114, v115, v116, v117, v118, v119, v120, v121, v122, v123, v124, v125, v126, v127, v128, v129, v130, v131, v132, v133, v134, v135, v136, v137, v138, v139, v140, v141, v142, v143, v144, v145, v146, v147, v148, v149, v150, v151, v152, v153, c154, c155], []⟩ w2 := by
  conv => arg 2; whnf
  have h2 := H2.out
  have y0 : w2.cell? ⟨gE, 0, none⟩ = some (.int .i64 e.kind) := h2.cell 0
  have y1 : w2.cell? ⟨gE, 1, none⟩ = some (.int .i64 e.step) := h2.cell 1
  have y2 : w2.cell? ⟨gE, 2, none⟩ = some (.int .i64 e.thread) := h2.cell 2
  have y3 : w2.cell? ⟨gE, 3, none⟩ = some (.int .i64 e.stamp) := h2.cell 3
  have y4 : w2.cell? ⟨gE, 4, none⟩ = some (.int .i64 e.cell) := h2.cell 4
  have y5 : w2.cell? ⟨gE, 5, none⟩ = some (.int .i64 e.x) := h2.cell 5
  have y6 : w2.cell? ⟨gE, 6, none⟩ = some (.bool e.own) := h2.cell 6
  have y7 : w2.cell? ⟨gE, 7, none⟩ = some (.int .i64 e.gate) := h2.cell 7
  have y8 : w2.cell? ⟨gE, 8, none⟩ = some (.int .i64 e.e) := h2.cell 8
  have y9 : w2.cell? ⟨gE, 9, none⟩ = some (.int .i64 e.by_) := h2.cell 9
  clear h2
  have hil := HI.out.lt _ _ ho
  have hn16 : e.kind ≠ 1 ∧ e.kind ≠ 6 := by omega
  obtain ⟨x, hx⟩ : ∃ x, s.sts[i]? = some x := ⟨_, List.getElem?_eq_getElem hil⟩
  obtain ⟨v, hvx⟩ : ∃ v, vs[i]? = some v := ⟨_, List.getElem?_eq_getElem (by rw [Hv.out]; exact hil)⟩
  have h2 := H2.out.pick 5 [2, 0, 1, 3, 4]
  obtain ⟨g2, rfl, hc1, hcm, hc2, hf2⟩ := h2.rowAt (by omega)
  have hsl : (stosC s.sts vs).length = s.sts.length * 10 := h2.rowLen
  have hrc : ∀ j u, (stoC x v)[j]? = some u → j < 10 → w2.cell? ⟨g2, i * 10 + j, none⟩ = some u := by
    intro j u hu hj
    rw [hc2 _ (by omega), stosC_at hx hvx hj]; exact hu
  have hiz : (i : Int) < s.sts.length := by omega
  have hlen : s.sts.length ≤ 9223372036854775807 := by have := HI.out.few; have := cnt_le s.opn; omega
  have HRC := Lib.hid hrc
  have HF2 := Lib.hid hf2
  have hst : step1 s e = ⟨s.sts.set i (upd e x), if e.kind = 4 ∨ e.kind = 5 then setO s.opn e.thread none else s.opn, e.step⟩ := by
    simp only [step1, if_neg hn16.1, ho]
    rw [modify_set _ hx]
  rw [hst] at GO
  clear hrc hc2 hf2 hst ho H2
  have hmv := HI.out.moves i x hx
  have hu : upd e x = { x with moves := x.moves ++ [writeM e] } := by simp [upd, hk3]
  rw [if_neg (by omega), hu] at GO
  rw [hk3] at y0
  obtain ⟨i0, hi, hz0, hz1, hz2⟩ := info_parts Try.info38
  have hF := (h2.pull 3).focus i (movesL_get hx hvx)
  obtain ⟨B, mc, rfl⟩ := hF.form
  have r9 : w2.cell? ⟨g2, i * 10 + 9, none⟩ = some (.slice B x.moves.length mc) := (row_cell h2 hx hvx (j := 9) rfl (by omega)).1
  have r9' : (w2.alloc (.cells #[.int .i64 e.step, .bool true, .int .i64 e.cell, .int .i64 e.x, .bool false, .int .i64 0] 38)).cell? ⟨g2, i * 10 + 9, none⟩ = some (.slice B x.moves.length mc) := (row_cell ((h2.new (.cells #[.int .i64 e.step, .bool true, .int .i64 e.cell, .int .i64 e.x, .bool false, .int .i64 0] 38)).pull 1) hx hvx (j := 9) rfl (by omega)).1
  have y1' : (w2.alloc (.cells #[.int .i64 e.step, .bool true, .int .i64 e.cell, .int .i64 e.x, .bool false, .int .i64 0] 38)).cell? ⟨gE, 1, none⟩ = some (.int .i64 e.step) := ((h2.new (.cells #[.int .i64 e.step, .bool true, .int .i64 e.cell, .int .i64 e.x, .bool false, .int .i64 0] 38)).pull 2).cell 1
  have y4' : (w2.alloc (.cells #[.int .i64 e.step, .bool true, .int .i64 e.cell, .int .i64 e.x, .bool false, .int .i64 0] 38)).cell? ⟨gE, 4, none⟩ = some (.int .i64 e.cell) := ((h2.new (.cells #[.int .i64 e.step, .bool true, .int .i64 e.cell, .int .i64 e.x, .bool false, .int .i64 0] 38)).pull 2).cell 4
  have y5' : (w2.alloc (.cells #[.int .i64 e.step, .bool true, .int .i64 e.cell, .int .i64 e.x, .bool false, .int .i64 0] 38)).cell? ⟨gE, 5, none⟩ = some (.int .i64 e.x) := ((h2.new (.cells #[.int .i64 e.step, .bool true, .int .i64 e.cell, .int .i64 e.x, .bool false, .int .i64 0] 38)).pull 2).cell 5
  have hP := (hF.drew.new (.cells (mvC (writeM e)).toArray 38)).pull 1
  clear h2 hF hn16 HI HI2 HRC HF2
  go_wp2
  go_region_law (refine step_append_star_any rfl (.tmp 91) (.tmp 99) 34 rfl 38 i0 _ 6 48 Try.underlying34 hi hz0 hz1 hz2 rfl (by decide) _ x.moves.length _ rfl hP (some ⟨w2.heap.size, 0, none⟩) 1 1 (mvC (writeM e)) rfl rfl (fun _ => ⟨_, rfl, cell_list_new _ _ rfl _ _⟩) (mvC_one _) (by simp only [maxLen]; omega) (by omega) ?_; intro B' c' w3 hS1; have hR3 := row_cell (hS1.pull 3) hx hvx (j := 9) rfl (by omega); have q9 : w3.cell? ⟨g2, i * 10 + 9, none⟩ = some (.slice B x.moves.length mc) := hR3.1; have f9 := hR3.2)
  all_goals
    go_wp2
    have h5 := (hS1.pull 3).rowSet (i * 10 + 9) (.slice B' (x.moves.length + 1) c')
    rw [stosC_set (s' := { x with moves := x.moves ++ [writeM e] }) (v' := .slice B' (x.moves.length + 1) c') hx hvx (by omega) rfl] at h5
    have h6 := (h5.pick 4 [1, 3, 0]).unfocus (by rw [movesL_len Hv.out]; exact hil)
    have h7 := (h6.pick 5 [3, 1, 0, 4])
    refine GO.out _ _ (some ⟨g2, 0, none⟩) cc (vs.set i (.slice B' (x.moves.length + 1) c')) m (by simp) (by simp [Hv.out]) Ho.out ?_
    rw [movesL_set hx hvx, List.length_set, mvsC_snoc, List.length_append]
    exact h7
end Go.Proofs.Ytfekjbaojefhoaa
