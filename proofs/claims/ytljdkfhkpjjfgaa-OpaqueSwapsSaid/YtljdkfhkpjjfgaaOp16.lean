/- The head of each law: lemmas for the laws of layer 22. -/
import Derived.Test.YtljdkfhkpjjfgaaOp15
namespace Go.Proofs.Ytljdkfhkpjjfgaa
open Go.RowKit Go.Shelf
set_option linter.unusedVariables false

theorem Sl.nil (w : World) (size : Nat) : Sl w none 0 size [] := ⟨by simp, fun h => absurd h (by omega)⟩
theorem row3 (w : World) (x y z : Int) : Sl (w.alloc (.cells #[.int .i64 x, .int .i64 y, .int .i64 z] 3)) (some ⟨w.heap.size, 0, none⟩) 3 1 (intsC [x, y, z]) :=
  ((Star.begin w).rowNew 3 1 #[.int .i64 x, .int .i64 y, .int .i64 z] 3 (by simp [maxLen]) rfl).rowSl
theorem row3_star {W w : World} {L : List HA} (h : Star W w L) (x y z : Int) : Star W (w.alloc (.cells #[.int .i64 x, .int .i64 y, .int .i64 z] 3)) L := (h.new _).drop
theorem natsC_ints (l : List Nat) : natsC l = intsC (intsOf l) := by simp [natsC, intsC, intsOf]
theorem Star.under {W w w1 : World} (h : Star W w [oldA W]) (hb : Below w.heap.size w w1) : Star W w1 [oldA W] := h.of_below hb
theorem Stories.below {w w' : World} {B : Option Addr} {m : Nat} {sts : List Sto} {vs : List Value} (hT : Stories w B m sts vs) (h : Below w.heap.size w w') : Stories w' B m sts vs :=
  hT.after (L := []) ((Star.begin w).of_below h)
theorem Sl.below {w w' : World} {A : Option Addr} {k size : Nat} {xs : List Value} (hS : Sl w A k size xs) (hs : 0 < size) (h : Below w.heap.size w w') : Sl w' A k size xs :=
  hS.after (L := []) hs ((Star.begin w).of_below h)
theorem below_alloc (w : World) (o : Obj) : Below w.heap.size w (w.alloc o) := (((Star.begin w).new o).pull 1).below
theorem below_drew (w : World) (q : Nat) : Below w.heap.size w (w.drewN q) := ((Star.begin w).drewN q).below
theorem below_next {w w1 w2 : World} (h : Below w.heap.size w w1) (h2 : Below w1.heap.size w1 w2) : Below w.heap.size w w2 := ((Star.begin w).of_below h |>.of_below h2).below
set_option maxRecDepth 100000 in
set_option maxHeartbeats 6400000 in
theorem awake_any (w : World) : Calls Try.prog 10 #[] w fun e w' => e = .returned (.bool true) ∧ Below w.heap.size w w' := by
  go_enter Try.func10, Try.ntmps10
  go_wp2_with fail
  refine (three_any _).mono ?_
  rintro e' w1 ⟨a, vs, rfl, hT1, hb1⟩
  have HT1 := Lib.hid hT1
  have HB1 := Lib.hid hb1
  clear hT1 hb1
  go_wp2_with fail
  refine (order_any a 3 3 sts3 vs w1 HT1.out (by omega)).mono ?_
  rintro e' w2 ⟨b, c, rfl, h2⟩
  have hb2 : Below w1.heap.size w1 w2 := (h2.pull 1).below
  have hB2 := below_next HB1.out hb2
  have hT2 := HT1.out.below hb2
  rw [three_order, natsC_ints] at h2
  have hs2 := h2.rowSl.below (by omega) (below_alloc w2 (.cells #[.int .i64 2, .int .i64 0, .int .i64 1] 3))
  have S2 := Lib.hid (sameInts_any (intsOf [2, 0, 1]) [2, 0, 1] b (some ⟨w2.heap.size, 0, none⟩) 3 3 c 3 _ hs2 (row3 w2 2 0 1) (by omega))
  have HT2 := Lib.hid hT2
  have HB2 := Lib.hid hB2
  clear h2 hb2 hB2 hT2 HT1 HB1 hs2
  go_wp2_with fail
  refine S2.out.mono ?_
  rintro e' w3 ⟨rfl, q, rfl⟩
  have es : decide (intsOf [2, 0, 1] = [2, 0, 1]) = true := by decide
  rw [es]
  have hA := below_next (below_alloc w2 (.cells #[.int .i64 2, .int .i64 0, .int .i64 1] 3)) (below_drew _ q)
  have hT3 := HT2.out.below hA
  have hB3 := below_next HB2.out hA
  generalize (w2.alloc (.cells #[.int .i64 2, .int .i64 0, .int .i64 1] 3)).drewN q = w3 at hT3 hB3 ⊢
  have HT3 := Lib.hid hT3
  have HB3 := Lib.hid hB3
  clear hA hT3 hB3 HT2 HB2 S2 es
  go_wp2_with fail
  have hA := below_alloc w3 (.cells #[.int .i64 2, .int .i64 0, .int .i64 1] 3)
  refine (check_any none 0 0 [] a 3 3 sts3 vs (some ⟨w3.heap.size, 0, none⟩) 3 3 [2, 0, 1] _ (Sl.nil _ _) (by omega) (HT3.out.below hA) (by omega) (row3 w3 2 0 1) (by omega)).mono ?_
  rintro e' w4 ⟨rfl, hb4⟩
  rw [three_fine]
  have hC := below_next hA hb4
  have HT4 := Lib.hid (HT3.out.below hC)
  have HB4 := Lib.hid (below_next HB3.out hC)
  clear hA hb4 hC HT3 HB3
  go_wp2_with fail
  have hA := below_alloc w4 (.cells #[.int .i64 0, .int .i64 2, .int .i64 1] 3)
  refine (check_any none 0 0 [] a 3 3 sts3 vs (some ⟨w4.heap.size, 0, none⟩) 3 3 [0, 2, 1] _ (Sl.nil _ _) (by omega) (HT4.out.below hA) (by omega) (row3 w4 0 2 1) (by omega)).mono ?_
  rintro e' w5 ⟨rfl, hb5⟩
  rw [three_read]
  have hC := below_next hA hb5
  have HT5 := Lib.hid (HT4.out.below hC)
  have HB5 := Lib.hid (below_next HB4.out hC)
  clear hA hb5 hC HT4 HB4
  go_wp2_with fail
  have hA := below_alloc w5 (.cells #[.int .i64 1, .int .i64 0, .int .i64 2] 3)
  refine (check_any none 0 0 [] a 3 3 sts3 vs (some ⟨w5.heap.size, 0, none⟩) 3 3 [1, 0, 2] _ (Sl.nil _ _) (by omega) (HT5.out.below hA) (by omega) (row3 w5 1 0 2) (by omega)).mono ?_
  rintro e' w6 ⟨rfl, hb6⟩
  rw [three_time]
  have hC := below_next hA hb6
  have HT6 := Lib.hid (HT5.out.below hC)
  have HB6 := Lib.hid (below_next HB5.out hC)
  clear hA hb6 hC HT5 HB5
  go_wp2_with fail
  refine (search_any none 0 0 [] a 3 3 sts3 vs w6 (Sl.nil _ _) (by omega) HT6.out (by omega)).mono ?_
  rintro e' w7 h7
  rw [three_found, three_small] at h7
  obtain ⟨fa, fq, he, h7⟩ := h7
  have he : e' = .returned (.tuple #[.slice fa 3 fq, .bool true, .int .i64 0]) := he
  subst he
  have h7' : Star w6 w7 [rowA 3 1 (.slice fa 3 fq) 3 (intsC (intsOf [2, 0, 1])), oldA w6] := h7
  have hb7 : Below w6.heap.size w6 w7 := (h7'.pull 1).below
  have hs7 := h7'.rowSl.below (by omega) (below_alloc w7 (.cells #[.int .i64 2, .int .i64 0, .int .i64 1] 3))
  have S7 := Lib.hid (sameInts_any (intsOf [2, 0, 1]) [2, 0, 1] fa (some ⟨w7.heap.size, 0, none⟩) 3 3 fq 3 _ hs7 (row3 w7 2 0 1) (by omega))
  have HB7 := Lib.hid (below_next HB6.out hb7)
  clear h7 h7' hb7 hs7 HT6 HB6
  go_wp2_with fail
  refine S7.out.mono ?_
  rintro e' w8 ⟨rfl, q8, rfl⟩
  have es : decide (intsOf [2, 0, 1] = [2, 0, 1]) = true := by decide
  rw [es]
  have hA := below_next (below_alloc w7 (.cells #[.int .i64 2, .int .i64 0, .int .i64 1] 3)) (below_drew _ q8)
  have HB8 := Lib.hid (below_next HB7.out hA)
  clear hA S7 HB7 es
  go_wp2
  go_ret
  exact ⟨rfl, HB8.out⟩
/-- OpaqueNames -/
theorem names_any (w : World) : Calls Try.prog 3 #[] w fun e w' => e = .returned (.bool true) ∧ Below w.heap.size w w' := by
  go_enter Try.func3, Try.ntmps3
  go_wp2_with fail
  refine (awake_any _).mono ?_
  rintro e' w1 ⟨rfl, hb⟩
  have HB := Lib.hid hb
  clear hb
  go_wp2
  go_ret
  exact ⟨rfl, HB.out⟩
end Go.Proofs.Ytljdkfhkpjjfgaa
