/- The document's Build, one kind of event: lemmas for the laws of ghost. Printed by gen_gh22.py. -/
import Derived.Test.YtfekjbaojefhoaaGh22
namespace Go.Proofs.Ytfekjbaojefhoaa
open Go.RowKit
set_option linter.unusedVariables false

set_option maxHeartbeats 16000000 in
set_option maxRecDepth 100000 in
theorem rw1 {w w2 : World} {go gE th : Nat} {s : St} {e : Ev} {k n : Nat} {a : Option Addr} {cc : Nat} {vs : List Value} {c0 c1 c2 c3 c4 c7 c10 c12 c13 c14 c15 c16 c17 c18 c19 c20 c21 c22 c23 c24 c25 c26 c27 c28 c29 c30 c31 c32 c33 c34 c35 c36 c37 c38 c39 c40 c41 c42 c43 c44 c45 c46 c47 c48 c49 c50 c51 c52 c53 c54 c55 c56 c57 c58 c59 c60 c61 c62 c63 c64 c65 c66 c67 c68 c69 c70 c71 c72 c73 c74 c75 c76 c77 c78 c79 c80 c81 c82 c83 c84 c85 c86 c87 c88 c89 c90 c91 c92 c93 c94 c95 c96 c97 c98 c99 c100 c101 c102 c103 c104 c105 c106 c229 v11 v108 v109 v110 v111 v112 v113 v114 v115 v116 v117 v118 v119 v120 v121 v122 v123 v124 v125 v126 v127 v128 v129 v130 v131 v132 v133 v134 v135 v136 v137 v138 v139 v140 v141 v142 v143 v144 v145 v146 v147 v148 v149 v150 v151 v152 v153 v154 v155 v156 v157 v158 v159 v160 v161 v162 v163 v164 v165 v166 v167 v168 v169 v170 v171 v172 v173 v174 v175 v176 v177 v178 v179 v180 v181 v182 v183 v184 v185 v186 v187 v188 v189 v190 v191 v192 v193 v194 v195 v196 v197 v198 v199 v200 v201 v202 v203 v204 v205 v206 v207 v208 v209 v210 v211 v212 v213 v214 v215 v216 v217 v218 v219 v220 v221 v222 v223 v224 v225 v226 v227 v228 : Value} {K : Act → World → Prop} (hkl : k < n) (hbig : n * 80 ≤ 140737488355328) (hth : e.thread = th) (hth9 : th < 9) (Hv : Hid (vs.length = s.sts.length)) (HI : Hid (BInv k s)) (HI2 : Hid (BInv (k + 1) (step1 s e))) (hk1 : e.kind = 1)
    (H2 : Hid (Star w w2 [cellsA gE #[.int .i64 e.kind, .int .i64 e.step, .int .i64 e.thread, .int .i64 e.stamp, .int .i64 e.cell, .int .i64 e.x, .bool e.own, .int .i64 e.gate, .int .i64 e.e, .int .i64 e.by_] 26, cellsA go (opnC s.opn).toArray 3, rowA 36 10 (.slice a s.sts.length cc) s.sts.length (stosC s.sts vs), Holds (movesL s.sts vs), oldA w]))
    (GO : Hid (∀ {n11 n108 n109 n110 n111 n112 n113 n114 n115 n116 n117 n118 n119 n120 n121 n122 n123 n124 n125 n126 n127 n128 n129 n130 n131 n132 n133 n134 n135 n136 n137 n138 n139 n140 n141 n142 n143 n144 n145 n146 n147 n148 n149 n150 n151 n152 n153 n154 n155 n156 n157 n158 n159 n160 n161 n162 n163 n164 n165 n166 n167 n168 n169 n170 n171 n172 n173 n174 n175 n176 n177 n178 n179 n180 n181 n182 n183 n184 n185 n186 n187 n188 n189 n190 n191 n192 n193 n194 n195 n196 n197 n198 n199 n200 n201 n202 n203 n204 n205 n206 n207 n208 n209 n210 n211 n212 n213 n214 n215 n216 n217 n218 n219 n220 n221 n222 n223 n224 n225 n226 n227 n228 : Value} (l : Value) (w3 : World) (a' : Option Addr) (cc' : Nat) (vs' : List Value), l = .slice a' (step1 s e).sts.length cc' → vs'.length = (step1 s e).sts.length → Star w w3 [cellsA go (opnC (step1 s e).opn).toArray 3, rowA 36 10 (Value.slice a' (step1 s e).sts.length cc') (step1 s e).sts.length (stosC (step1 s e).sts vs'), Holds (movesL (step1 s e).sts vs'), oldA w] → K ⟨#[c0, c1, c2, c3, c4, l, .slice (some ⟨go, 0, none⟩) 9 9, c7, .pointer (some ⟨gE, 0, none⟩), .int .i64 (-1), c10, n11, c12, c13, c14, c15, c16, c17, c18, c19, c20, c21, c22, c23, c24, c25, c26, c27, c28, c29, c30, c31, c32, c33, c34, c35, c36, c37, c38, c39, c40, c41, c42, c43, c44, c45, c46, c47, c48, c49, c50, c51, c52, c53, c54, c55, c56, c57, c58, c59, c60, c61, c62, c63, c64, c65, c66, c67, c68, c69, c70, c71, c72, c73, c74, c75, c76, c77, c78, c79, c80, c81, c82, c83, c84, c85, c86, c87, c88, c89, c90, c91, c92, c93, c94, c95, c96, c97, c98, c99, c100, c101, c102, c103, c104, c105, c106, .int .i64 1, n108, n109, n110, n111, n112, n113, n114, n115, n116, n117, n118, n119, n120, n121, n122, n123, n124, n125, n126, n127, n128, n129, n130, n131, n132, n133, n134, n135, n136, n137, n138, n139, n140, n141, n142, n143, n144, n145, n146, n147, n148, n149, n150, n151, n152, n153, n154, n155, n156, n157, n158, n159, n160, n161, n162, n163, n164, n165, n166, n167, n168, n169, n170, n171, n172, n173, n174, n175, n176, n177, n178, n179, n180, n181, n182, n183, n184, n185, n186, n187, n188, n189, n190, n191, n192, n193, n194, n195, n196, n197, n198, n199, n200, n201, n202, n203, n204, n205, n206, n207, n208, n209, n210, n211, n212, n213, n214, n215, n216, n217, n218, n219, n220, n221, n222, n223, n224, n225, n226, n227, n228, c229], []⟩ w3)) :
    Code.wp Try.prog rwCode (Exit.then K fun _ _ _ => False) ⟨#[c0, c1, c2, c3, c4, .slice a s.sts.length cc, .slice (some ⟨go, 0, none⟩) 9 9, c7, .pointer (some ⟨gE, 0, none⟩), .int .i64 (-1), c10, v11, c12, c13, c14, c15, c16, c17, c18, c19, c20, c21, c22, c23, c24, c25, c26, c27, c28, c29, c30, c31, c32, c33, c34, c35, c36, c37, c38, c39, c40, c41, c42, c43, c44, c45, c46, c47, c48, c49, c50, c51, c52, c53, c54, c55, c56, c57, c58, c59, c60, c61, c62, c63, c64, c65, c66, c67, c68, c69, c70, c71, c72, c73, c74, c75, c76, c77, c78, c79, c80, c81, c82, c83, c84, c85, c86, c87, c88, c89, c90, c91, c92, c93, c94, c95, c96, c97, c98, c99, c100, c101, c102, c103, c104, c105, c106, .int .i64 1, v108, v109, v110, v111, v112, v113, v114, v115, v116, v117, v118, v119, v120, v121, v122, v123, v124, v125, v126, v127, v128, v129, v130, v131, v132, v133, v134, v135, v136, v137, v138, v139, v140, v141, v142, v143, v144, v145, v146, v147, v148, v149, v150, v151, v152, v153, v154, v155, v156, v157, v158, v159, v160, v161, v162, v163, v164, v165, v166, v167, v168, v169, v170, v171, v172, v173, v174, v175, v176, v177, v178, v179, v180, v181, v182, v183, v184, v185, v186, v187, v188, v189, v190, v191, v192, v193, v194, v195, v196, v197, v198, v199, v200, v201, v202, v203, v204, v205, v206, v207, v208, v209, v210, v211, v212, v213, v214, v215, v216, v217, v218, v219, v220, v221, v222, v223, v224, v225, v226, v227, v228, c229], []⟩ w2 := by
  conv => arg 2; whnf
  have h2 := H2.out
  have y0 : w2.cell? ⟨gE, 0, none⟩ = some (.int .i64 e.kind) := h2.cell 0
  have y1 : w2.cell? ⟨gE, 1, none⟩ = some (.int .i64 e.step) := h2.cell 1
  have y2 : w2.cell? ⟨gE, 2, none⟩ = some (.int .i64 e.thread) := h2.cell 2
  have y3 : w2.cell? ⟨gE, 3, none⟩ = some (.int .i64 e.stamp) := h2.cell 3
  have y4 : w2.cell? ⟨gE, 4, none⟩ = some (.int .i64 e.cell) := h2.cell 4
  have y5 : w2.cell? ⟨gE, 5, none⟩ = some (.int .i64 e.x) := h2.cell 5
  have y6 : w2.cell? ⟨gE, 6, none⟩ = some (.bool e.own) := h2.cell 6
  have y7 : w2.cell? ⟨gE, 7, none⟩ = some (.int .i64 e.gate) := h2.cell 7
  have y8 : w2.cell? ⟨gE, 8, none⟩ = some (.int .i64 e.e) := h2.cell 8
  have y9 : w2.cell? ⟨gE, 9, none⟩ = some (.int .i64 e.by_) := h2.cell 9
  rw [hth] at y2
  have o0 : w2.cell? ⟨go, th, none⟩ = some (.int .i64 (ixV (s.opn th))) := by rw [(h2.pull 1).cell th]; exact opn_get _ hth9
  have o1 := (h2.pull 1).frozen th
  have hthz : (th : Int) < 9 := by omega
  have HTH := Lib.hid hth
  clear h2 hth
  obtain ⟨i0, hi, hz0, hz1, hz2⟩ := info_parts Try.info36
  have hs1 : step1 s e = ⟨s.sts ++ [newS e], setO s.opn e.thread (some s.sts.length), e.step⟩ := by simp [step1, hk1]
  have hfew : 2 * (s.sts.length + 1) ≤ n + 8 := by
    have h1 := HI2.out.few
    rw [hs1] at h1
    have h2 := cnt_le (setO s.opn e.thread (some s.sts.length))
    simp only [List.length_append, List.length_cons, List.length_nil] at h1
    omega
  rw [hs1] at GO
  rw [hk1] at y0
  have h4 := (H2.out.new (.cells (stoC (newS e) (.slice none 0 0)).toArray 36)).pull 3
  have hnew : stoC (newS e) (.slice none 0 0) = [.int .i64 (th : Int), .int .i64 e.stamp, .int .i64 e.step, .int .i64 0, .int .i64 0, .int .i64 0, .int .i64 0, .int .i64 e.gate, .int .i64 0, .slice none 0 0] := by simp [stoC, newS, HTH.out]
  rw [hnew] at h4
  have HNEW := Lib.hid hnew
  clear HI HI2 hs1 H2 hnew
  go_wp2_with (at_builtin; refine wpList_append_star rfl _ _ 27 rfl 36 i0 _ 10 96 Try.underlying27 hi hz0 hz1 hz2 rfl (by decide) _ s.sts.length _ rfl h4 ⟨w2.heap.size, 0, none⟩ 1 1 [.int .i64 (th : Int), .int .i64 e.stamp, .int .i64 e.step, .int .i64 0, .int .i64 0, .int .i64 0, .int .i64 0, .int .i64 e.gate, .int .i64 0, .slice none 0 0] rfl rfl (cell_list_new _ _ rfl _ _) (by intro u hu; simp only [List.mem_cons, List.not_mem_nil, or_false] at hu; rcases hu with rfl | rfl | rfl | rfl | rfl | rfl | rfl | rfl | rfl | rfl <;> rfl) (by simp only [maxLen]; omega) (by omega) ?_; intro a' c' w4 h5; have q2 : w4.cell? ⟨gE, 2, none⟩ = some (.int .i64 (th : Int)) := by { rw [← HTH.out]; exact (h5.pull 2).cell 2 }; have z0 : w4.cell? ⟨go, th, none⟩ = some (.int .i64 (ixV (s.opn th))) := by { rw [(h5.pull 3).cell th]; exact opn_get _ hth9 }; have z1 := (h5.pull 3).frozen th)
  have h6 := (h5.pull 3).set th (.int .i64 (ixV (some s.sts.length)))
  rw [opn_set _ hth9] at h6
  have h7 := ((((h6.pick 6 [0, 1, 4, 5]).pull 2).rowNil 38 6).snocA)
  have h8 := h7.pick 4 [1, 2, 0, 3]
  refine GO.out _ _ a' c' (vs ++ [.slice none 0 0]) (by simp) (by simp [Hv.out]) ?_
  rw [stosC_snoc Hv.out, movesL_snoc Hv.out, List.length_append, HNEW.out, HTH.out]
  exact h8
end Go.Proofs.Ytfekjbaojefhoaa
