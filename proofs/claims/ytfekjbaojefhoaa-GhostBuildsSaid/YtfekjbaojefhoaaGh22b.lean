/- The document's Build, one kind of event: lemmas for the laws of ghost. Printed by gen_gh22.py. -/
import Derived.Test.YtfekjbaojefhoaaGh22
namespace Go.Proofs.Ytfekjbaojefhoaa
open Go.RowKit
set_option linter.unusedVariables false

set_option maxHeartbeats 16000000 in
set_option maxRecDepth 100000 in
theorem rw2 {w w2 : World} {go gE th : Nat} {s : St} {e : Ev} {k n : Nat} {a : Option Addr} {cc : Nat} {vs : List Value} {c0 c1 c2 c3 c4 c7 c10 c12 c13 c14 c15 c16 c17 c18 c19 c20 c21 c22 c23 c24 c25 c26 c27 c28 c29 c30 c31 c32 c33 c34 c35 c36 c37 c38 c39 c40 c41 c42 c43 c44 c45 c46 c47 c48 c49 c50 c51 c52 c53 c54 c55 c56 c57 c58 c59 c60 c61 c62 c63 c64 c65 c66 c67 c68 c69 c70 c71 c72 c73 c74 c75 c76 c77 c78 c79 c80 c81 c82 c83 c84 c85 c86 c87 c88 c89 c90 c91 c92 c93 c94 c95 c96 c97 c98 c99 c100 c101 c102 c103 c104 c105 c106 c229 v11 v108 v109 v110 v111 v112 v113 v114 v115 v116 v117 v118 v119 v120 v121 v122 v123 v124 v125 v126 v127 v128 v129 v130 v131 v132 v133 v134 v135 v136 v137 v138 v139 v140 v141 v142 v143 v144 v145 v146 v147 v148 v149 v150 v151 v152 v153 v154 v155 v156 v157 v158 v159 v160 v161 v162 v163 v164 v165 v166 v167 v168 v169 v170 v171 v172 v173 v174 v175 v176 v177 v178 v179 v180 v181 v182 v183 v184 v185 v186 v187 v188 v189 v190 v191 v192 v193 v194 v195 v196 v197 v198 v199 v200 v201 v202 v203 v204 v205 v206 v207 v208 v209 v210 v211 v212 v213 v214 v215 v216 v217 v218 v219 v220 v221 v222 v223 v224 v225 v226 v227 v228 : Value} {K : Act → World → Prop} (hkl : k < n) (hbig : n * 80 ≤ 140737488355328) (hth : e.thread = th) (hth9 : th < 9) (Hv : Hid (vs.length = s.sts.length)) (HI : Hid (BInv k s)) (HI2 : Hid (BInv (k + 1) (step1 s e))) {i : Nat} (hk2 : e.kind = 2) (ho : s.opn e.thread = some i)
    (H2 : Hid (Star w w2 [cellsA gE #[.int .i64 e.kind, .int .i64 e.step, .int .i64 e.thread, .int .i64 e.stamp, .int .i64 e.cell, .int .i64 e.x, .bool e.own, .int .i64 e.gate, .int .i64 e.e, .int .i64 e.by_] 26, cellsA go (opnC s.opn).toArray 3, rowA 36 10 (.slice a s.sts.length cc) s.sts.length (stosC s.sts vs), Holds (movesL s.sts vs), oldA w]))
    (GO : Hid (∀ {n11 n108 n109 n110 n111 n112 n113 n114 n115 n116 n117 n118 n119 n120 n121 n122 n123 n124 n125 n126 n127 n128 n129 n130 n131 n132 n133 n134 n135 n136 n137 n138 n139 n140 n141 n142 n143 n144 n145 n146 n147 n148 n149 n150 n151 n152 n153 n154 n155 n156 n157 n158 n159 n160 n161 n162 n163 n164 n165 n166 n167 n168 n169 n170 n171 n172 n173 n174 n175 n176 n177 n178 n179 n180 n181 n182 n183 n184 n185 n186 n187 n188 n189 n190 n191 n192 n193 n194 n195 n196 n197 n198 n199 n200 n201 n202 n203 n204 n205 n206 n207 n208 n209 n210 n211 n212 n213 n214 n215 n216 n217 n218 n219 n220 n221 n222 n223 n224 n225 n226 n227 n228 : Value} (l : Value) (w3 : World) (a' : Option Addr) (cc' : Nat) (vs' : List Value), l = .slice a' (step1 s e).sts.length cc' → vs'.length = (step1 s e).sts.length → Star w w3 [cellsA go (opnC (step1 s e).opn).toArray 3, rowA 36 10 (Value.slice a' (step1 s e).sts.length cc') (step1 s e).sts.length (stosC (step1 s e).sts vs'), Holds (movesL (step1 s e).sts vs'), oldA w] → K ⟨#[c0, c1, c2, c3, c4, l, .slice (some ⟨go, 0, none⟩) 9 9, c7, .pointer (some ⟨gE, 0, none⟩), .int .i64 i, c10, n11, c12, c13, c14, c15, c16, c17, c18, c19, c20, c21, c22, c23, c24, c25, c26, c27, c28, c29, c30, c31, c32, c33, c34, c35, c36, c37, c38, c39, c40, c41, c42, c43, c44, c45, c46, c47, c48, c49, c50, c51, c52, c53, c54, c55, c56, c57, c58, c59, c60, c61, c62, c63, c64, c65, c66, c67, c68, c69, c70, c71, c72, c73, c74, c75, c76, c77, c78, c79, c80, c81, c82, c83, c84, c85, c86, c87, c88, c89, c90, c91, c92, c93, c94, c95, c96, c97, c98, c99, c100, c101, c102, c103, c104, c105, c106, .int .i64 2, n108, n109, n110, n111, n112, n113, n114, n115, n116, n117, n118, n119, n120, n121, n122, n123, n124, n125, n126, n127, n128, n129, n130, n131, n132, n133, n134, n135, n136, n137, n138, n139, n140, n141, n142, n143, n144, n145, n146, n147, n148, n149, n150, n151, n152, n153, n154, n155, n156, n157, n158, n159, n160, n161, n162, n163, n164, n165, n166, n167, n168, n169, n170, n171, n172, n173, n174, n175, n176, n177, n178, n179, n180, n181, n182, n183, n184, n185, n186, n187, n188, n189, n190, n191, n192, n193, n194, n195, n196, n197, n198, n199, n200, n201, n202, n203, n204, n205, n206, n207, n208, n209, n210, n211, n212, n213, n214, n215, n216, n217, n218, n219, n220, n221, n222, n223, n224, n225, n226, n227, n228, c229], []⟩ w3)) :
    Code.wp Try.prog rwCode (Exit.then K fun _ _ _ => False) ⟨#[c0, c1, c2, c3, c4, .slice a s.sts.length cc, .slice (some ⟨go, 0, none⟩) 9 9, c7, .pointer (some ⟨gE, 0, none⟩), .int .i64 i, c10, v11, c12, c13, c14, c15, c16, c17, c18, c19, c20, c21, c22, c23, c24, c25, c26, c27, c28, c29, c30, c31, c32, c33, c34, c35, c36, c37, c38, c39, c40, c41, c42, c43, c44, c45, c46, c47, c48, c49, c50, c51, c52, c53, c54, c55, c56, c57, c58, c59, c60, c61, c62, c63, c64, c65, c66, c67, c68, c69, c70, c71, c72, c73, c74, c75, c76, c77, c78, c79, c80, c81, c82, c83, c84, c85, c86, c87, c88, c89, c90, c91, c92, c93, c94, c95, c96, c97, c98, c99, c100, c101, c102, c103, c104, c105, c106, .int .i64 2, v108, v109, v110, v111, v112, v113, v114, v115, v116, v117, v118, v119, v120, v121, v122, v123, v124, v125, v126, v127, v128, v129, v130, v131, v132, v133, v134, v135, v136, v137, v138, v139, v140, v141, v142, v143, v144, v145, v146, v147, v148, v149, v150, v151, v152, v153, v154, v155, v156, v157, v158, v159, v160, v161, v162, v163, v164, v165, v166, v167, v168, v169, v170, v171, v172, v173, v174, v175, v176, v177, v178, v179, v180, v181, v182, v183, v184, v185, v186, v187, v188, v189, v190, v191, v192, v193, v194, v195, v196, v197, v198, v199, v200, v201, v202, v203, v204, v205, v206, v207, v208, v209, v210, v211, v212, v213, v214, v215, v216, v217, v218, v219, v220, v221, v222, v223, v224, v225, v226, v227, v228, c229], []⟩ w2 := by
  conv => arg 2; whnf
  have h2 := H2.out
  have y0 : w2.cell? ⟨gE, 0, none⟩ = some (.int .i64 e.kind) := h2.cell 0
  have y1 : w2.cell? ⟨gE, 1, none⟩ = some (.int .i64 e.step) := h2.cell 1
  have y2 : w2.cell? ⟨gE, 2, none⟩ = some (.int .i64 e.thread) := h2.cell 2
  have y3 : w2.cell? ⟨gE, 3, none⟩ = some (.int .i64 e.stamp) := h2.cell 3
  have y4 : w2.cell? ⟨gE, 4, none⟩ = some (.int .i64 e.cell) := h2.cell 4
  have y5 : w2.cell? ⟨gE, 5, none⟩ = some (.int .i64 e.x) := h2.cell 5
  have y6 : w2.cell? ⟨gE, 6, none⟩ = some (.bool e.own) := h2.cell 6
  have y7 : w2.cell? ⟨gE, 7, none⟩ = some (.int .i64 e.gate) := h2.cell 7
  have y8 : w2.cell? ⟨gE, 8, none⟩ = some (.int .i64 e.e) := h2.cell 8
  have y9 : w2.cell? ⟨gE, 9, none⟩ = some (.int .i64 e.by_) := h2.cell 9
  rw [hth] at y2
  have o0 : w2.cell? ⟨go, th, none⟩ = some (.int .i64 (ixV (s.opn th))) := by rw [(h2.pull 1).cell th]; exact opn_get _ hth9
  have o1 := (h2.pull 1).frozen th
  have hthz : (th : Int) < 9 := by omega
  have HTH := Lib.hid hth
  clear h2 hth
  have hil := HI.out.lt _ _ ho
  have hn16 : e.kind ≠ 1 ∧ e.kind ≠ 6 := by omega
  obtain ⟨x, hx⟩ : ∃ x, s.sts[i]? = some x := ⟨_, List.getElem?_eq_getElem hil⟩
  obtain ⟨v, hvx⟩ : ∃ v, vs[i]? = some v := ⟨_, List.getElem?_eq_getElem (by rw [Hv.out]; exact hil)⟩
  have h2 := H2.out.pick 5 [2, 0, 1, 3, 4]
  obtain ⟨g2, rfl, hc1, hcm, hc2, hf2⟩ := h2.rowAt (by omega)
  have hsl : (stosC s.sts vs).length = s.sts.length * 10 := h2.rowLen
  have hrc : ∀ j u, (stoC x v)[j]? = some u → j < 10 → w2.cell? ⟨g2, i * 10 + j, none⟩ = some u := by
    intro j u hu hj
    rw [hc2 _ (by omega), stosC_at hx hvx hj]; exact hu
  have hiz : (i : Int) < s.sts.length := by omega
  have hlen : s.sts.length ≤ 9223372036854775807 := by have := HI.out.few; have := cnt_le s.opn; omega
  have HRC := Lib.hid hrc
  have HF2 := Lib.hid hf2
  have hst : step1 s e = ⟨s.sts.set i (upd e x), if e.kind = 4 ∨ e.kind = 5 then setO s.opn e.thread none else s.opn, e.step⟩ := by
    simp only [step1, if_neg hn16.1, ho]
    rw [modify_set _ hx]
  rw [hst] at GO
  clear hrc hc2 hf2 hst ho H2
  have hmv := HI.out.moves i x hx
  have hu : upd e x = { x with moves := x.moves ++ [readM e] } := by simp [upd, hk2]
  rw [if_neg (by omega), hu] at GO
  rw [hk2] at y0
  obtain ⟨i0, hi, hz0, hz1, hz2⟩ := info_parts Try.info38
  have hbM : ∃ bs, bs = mvC (readM e) := ⟨_, rfl⟩
  have h3 := h2.new (.cells #[.int .i64 e.step, .bool false, .int .i64 e.cell, .int .i64 e.x, .bool e.own, .int .i64 e.gate] 38)
  clear hn16 HI HI2 HRC HF2
  have u6 : (w2.alloc (.cells #[.int .i64 e.step, .bool false, .int .i64 e.cell, .int .i64 e.x, .bool e.own, .int .i64 e.gate] 38)).cell? ⟨gE, 6, none⟩ = some (.bool e.own) := (h3.pull 2).cell 6
  have u7 : (w2.alloc (.cells #[.int .i64 e.step, .bool false, .int .i64 e.cell, .int .i64 e.x, .bool e.own, .int .i64 e.gate] 38)).cell? ⟨gE, 7, none⟩ = some (.int .i64 e.gate) := (h3.pull 2).cell 7
  by_cases how : e.own = true
  · rw [how] at y6 u6 u7 h3
    have hrm : mvC (readM e) = [.int .i64 e.step, .bool false, .int .i64 e.cell, .int .i64 e.x, .bool true, .int .i64 0] := by simp [mvC, readM, how]
    have h4 := h2.new (.cells #[.int .i64 e.step, .bool false, .int .i64 e.cell, .int .i64 e.x, .bool true, .int .i64 0] 38)
    clear h3 h2
    go_wp2_with fail
    generalize w2.alloc (.cells #[.int .i64 e.step, .bool false, .int .i64 e.cell, .int .i64 e.x, .bool true, .int .i64 0] 38) = wM at h4 ⊢
    generalize w2.heap.size = gM at h4 ⊢
    have hF := (h4.pull 4).focus i (movesL_get hx hvx)
    obtain ⟨B, mc, rfl⟩ := hF.form
    have r9 : wM.cell? ⟨g2, i * 10 + 9, none⟩ = some (.slice B x.moves.length mc) := (row_cell (h4.pull 1) hx hvx (j := 9) rfl (by omega)).1
    have q0 : wM.cell? ⟨gM, 0, none⟩ = some (.int .i64 e.step) := h4.cell 0
    have q1 : wM.cell? ⟨gM, 1, none⟩ = some (.bool false) := h4.cell 1
    have q2 : wM.cell? ⟨gM, 2, none⟩ = some (.int .i64 e.cell) := h4.cell 2
    have q3 : wM.cell? ⟨gM, 3, none⟩ = some (.int .i64 e.x) := h4.cell 3
    have q4 : wM.cell? ⟨gM, 4, none⟩ = some (.bool true) := h4.cell 4
    have q5 : wM.cell? ⟨gM, 5, none⟩ = some (.int .i64 0) := h4.cell 5
    have r9' : (wM.alloc (.cells #[.int .i64 e.step, .bool false, .int .i64 e.cell, .int .i64 e.x, .bool true, .int .i64 0] 38)).cell? ⟨g2, i * 10 + 9, none⟩ = some (.slice B x.moves.length mc) := (row_cell ((h4.new (.cells #[.int .i64 e.step, .bool false, .int .i64 e.cell, .int .i64 e.x, .bool true, .int .i64 0] 38)).pull 2) hx hvx (j := 9) rfl (by omega)).1
    have hP := (hF.drew.new (.cells ([.int .i64 e.step, .bool false, .int .i64 e.cell, .int .i64 e.x, .bool true, .int .i64 0] : List Value).toArray 38)).pull 1
    clear h4 hF y0 y1 y2 y3 y4 y5 y6 y7 y8 y9 u6 u7
    go_region_law (refine step_append_star_any rfl (.tmp 150) (.tmp 152) 34 rfl 38 i0 _ 6 48 Try.underlying34 hi hz0 hz1 hz2 rfl (by decide) _ x.moves.length _ rfl hP (some ⟨wM.heap.size, 0, none⟩) 1 1 [.int .i64 e.step, .bool false, .int .i64 e.cell, .int .i64 e.x, .bool true, .int .i64 0] rfl rfl (fun _ => ⟨_, rfl, cell_list_new _ _ rfl _ _⟩) (by simp [Value.oneCell']) (by simp only [maxLen]; omega) (by omega) ?_; intro B' c' w3 hS1; have hR3 := row_cell (hS1.pull 4) hx hvx (j := 9) rfl (by omega); have q9 : w3.cell? ⟨g2, i * 10 + 9, none⟩ = some (.slice B x.moves.length mc) := hR3.1; have f9 := hR3.2)
    all_goals
      go_wp2
      have h5 := (hS1.pull 4).rowSet (i * 10 + 9) (.slice B' (x.moves.length + 1) c')
      rw [stosC_set (s' := { x with moves := x.moves ++ [readM e] }) (v' := .slice B' (x.moves.length + 1) c') hx hvx (by omega) rfl] at h5
      have h6 := (h5.pick 4 [1, 3, 0]).unfocus (by rw [movesL_len Hv.out]; exact hil)
      have h7 := (h6.pick 6 [4, 1, 0, 5])
      refine GO.out _ _ (some ⟨g2, 0, none⟩) cc (vs.set i (.slice B' (x.moves.length + 1) c')) (by simp) (by simp [Hv.out]) ?_
      rw [movesL_set hx hvx, List.length_set, mvsC_snoc, List.length_append, hrm]
      exact h7
  · have how : e.own = false := by simpa using how
    rw [how] at y6 u6 u7 h3
    have hrm : mvC (readM e) = [.int .i64 e.step, .bool false, .int .i64 e.cell, .int .i64 e.x, .bool false, .int .i64 e.gate] := by simp [mvC, readM, how]
    have h4 := h2.new (.cells #[.int .i64 e.step, .bool false, .int .i64 e.cell, .int .i64 e.x, .bool false, .int .i64 e.gate] 38)
    clear h3 h2
    go_wp2_with fail
    generalize w2.alloc (.cells #[.int .i64 e.step, .bool false, .int .i64 e.cell, .int .i64 e.x, .bool false, .int .i64 e.gate] 38) = wM at h4 ⊢
    generalize w2.heap.size = gM at h4 ⊢
    have hF := (h4.pull 4).focus i (movesL_get hx hvx)
    obtain ⟨B, mc, rfl⟩ := hF.form
    have r9 : wM.cell? ⟨g2, i * 10 + 9, none⟩ = some (.slice B x.moves.length mc) := (row_cell (h4.pull 1) hx hvx (j := 9) rfl (by omega)).1
    have q0 : wM.cell? ⟨gM, 0, none⟩ = some (.int .i64 e.step) := h4.cell 0
    have q1 : wM.cell? ⟨gM, 1, none⟩ = some (.bool false) := h4.cell 1
    have q2 : wM.cell? ⟨gM, 2, none⟩ = some (.int .i64 e.cell) := h4.cell 2
    have q3 : wM.cell? ⟨gM, 3, none⟩ = some (.int .i64 e.x) := h4.cell 3
    have q4 : wM.cell? ⟨gM, 4, none⟩ = some (.bool false) := h4.cell 4
    have q5 : wM.cell? ⟨gM, 5, none⟩ = some (.int .i64 e.gate) := h4.cell 5
    have r9' : (wM.alloc (.cells #[.int .i64 e.step, .bool false, .int .i64 e.cell, .int .i64 e.x, .bool false, .int .i64 e.gate] 38)).cell? ⟨g2, i * 10 + 9, none⟩ = some (.slice B x.moves.length mc) := (row_cell ((h4.new (.cells #[.int .i64 e.step, .bool false, .int .i64 e.cell, .int .i64 e.x, .bool false, .int .i64 e.gate] 38)).pull 2) hx hvx (j := 9) rfl (by omega)).1
    have hP := (hF.drew.new (.cells ([.int .i64 e.step, .bool false, .int .i64 e.cell, .int .i64 e.x, .bool false, .int .i64 e.gate] : List Value).toArray 38)).pull 1
    clear h4 hF y0 y1 y2 y3 y4 y5 y6 y7 y8 y9 u6 u7
    go_region_law (refine step_append_star_any rfl (.tmp 150) (.tmp 152) 34 rfl 38 i0 _ 6 48 Try.underlying34 hi hz0 hz1 hz2 rfl (by decide) _ x.moves.length _ rfl hP (some ⟨wM.heap.size, 0, none⟩) 1 1 [.int .i64 e.step, .bool false, .int .i64 e.cell, .int .i64 e.x, .bool false, .int .i64 e.gate] rfl rfl (fun _ => ⟨_, rfl, cell_list_new _ _ rfl _ _⟩) (by simp [Value.oneCell']) (by simp only [maxLen]; omega) (by omega) ?_; intro B' c' w3 hS1; have hR3 := row_cell (hS1.pull 4) hx hvx (j := 9) rfl (by omega); have q9 : w3.cell? ⟨g2, i * 10 + 9, none⟩ = some (.slice B x.moves.length mc) := hR3.1; have f9 := hR3.2)
    all_goals
      go_wp2
      have h5 := (hS1.pull 4).rowSet (i * 10 + 9) (.slice B' (x.moves.length + 1) c')
      rw [stosC_set (s' := { x with moves := x.moves ++ [readM e] }) (v' := .slice B' (x.moves.length + 1) c') hx hvx (by omega) rfl] at h5
      have h6 := (h5.pick 4 [1, 3, 0]).unfocus (by rw [movesL_len Hv.out]; exact hil)
      have h7 := (h6.pick 6 [4, 1, 0, 5])
      refine GO.out _ _ (some ⟨g2, 0, none⟩) cc (vs.set i (.slice B' (x.moves.length + 1) c')) (by simp) (by simp [Hv.out]) ?_
      rw [movesL_set hx hvx, List.length_set, mvsC_snoc, List.length_append, hrm]
      exact h7
end Go.Proofs.Ytfekjbaojefhoaa
