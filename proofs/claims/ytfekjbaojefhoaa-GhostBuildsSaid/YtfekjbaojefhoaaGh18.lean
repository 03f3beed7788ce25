/- The example: lemmas for the laws of ghost. -/
import Derived.Test.YtfekjbaojefhoaaGh17
import Derived.Test.YtfekjbaojefhoaaGh5z
import Derived.KernelRfl
namespace Go.Proofs.Ytfekjbaojefhoaa
open Go.RowKit Go.Shelf
set_option linter.unusedVariables false

def runEvs : List Ev := [⟨1, 1, 1, 1, 0, 0, false, 2, 0, 0⟩, ⟨2, 2, 1, 1, 3, 7, false, 4, 0, 0⟩, ⟨3, 3, 1, 1, 3, 8, false, 0, 0, 0⟩, ⟨2, 4, 1, 1, 3, 8, true, 9, 0, 0⟩, ⟨4, 5, 1, 1, 0, 0, false, 5, 0, 0⟩]
def badEvs : List Ev := [⟨1, 1, 1, 1, 0, 0, false, 0, 0, 0⟩, ⟨6, 2, 1, 1, 0, 0, false, 0, 0, 0⟩]
def wantS : Sto := ⟨1, 1, 1, 5, 1, 0, 0, 2, 5, [⟨2, false, 3, 7, false, 4⟩, ⟨3, true, 3, 8, false, 0⟩, ⟨4, false, 3, 8, true, 0⟩]⟩
theorem bld_run : bldS runEvs = [wantS] ∧ bldAt runEvs = 0 ∧ bldCode runEvs = 0 := ⟨by kernel_rfl, by kernel_rfl, by kernel_rfl⟩
theorem bld_bad : bldS badEvs = [] ∧ bldAt badEvs = 1 ∧ bldCode badEvs = 210 := ⟨by kernel_rfl, by kernel_rfl, by kernel_rfl⟩
theorem want_reads : readsOf wantS.moves = [(3, 7)] := by kernel_rfl
theorem want_writes : writesOf wantS.moves = [(3, 8)] := by kernel_rfl
theorem want_point : pointOf wantS = (5, 5) := by
  have h : sel true wantS.moves = [⟨3, true, 3, 8, false, 0⟩] := by kernel_rfl
  rw [pointOf, if_pos ⟨rfl, by rw [h]; simp⟩]
  rfl
theorem want_final : finalOf [wantS] [0] [0, 0, 0, 7] = [0, 0, 0, 8] := by kernel_rfl
theorem want_by : byOf [wantS] 1 = [0] := by kernel_rfl
theorem want_tal : talOf [wantS] = ⟨0, 1, 0, 0⟩ := by kernel_rfl
theorem pair_eql (a b : Int) (w : World) : (binOp .eql 57 (.agg #[.int .i64 a, .int .i64 b]) (.agg #[.int .i64 a, .int .i64 b])).run Try.prog w = .ok (.bool true) w := by
  have hs : Try.prog.stoodInHeld 57 = false := by kernel_rfl
  simp only [go_sem]
  simp [go_sem, Op.eqFields]
theorem tal_eql (a b c d : Int) (w : World) : (binOp .eql 50 (.agg #[.int .i64 a, .int .i64 b, .int .i64 c, .int .i64 d]) (.agg #[.int .i64 a, .int .i64 b, .int .i64 c, .int .i64 d])).run Try.prog w = .ok (.bool true) w := by
  have hs : Try.prog.stoodInHeld 50 = false := by kernel_rfl
  simp only [go_sem]
  simp [go_sem, Op.eqFields]
set_option maxRecDepth 100000 in
theorem run_any (w : World) : Calls Try.prog 27 #[] w fun e w' => ∃ a, e = .returned (.slice a 5 5) ∧ Star w w' [rowA 26 10 (.slice a 5 5) 5 (evsC runEvs), oldA w] := by
  have h := (Star.begin w).rowNew 26 10 (evsC runEvs).toArray 5 (by simp [maxLen]) rfl
  have H := Lib.hid h
  clear h
  go_enter Try.func27, Try.ntmps27
  go_wp2
  go_ret
  exact ⟨_, rfl, H.out⟩
/-- what Build has laid, read as stories -/
theorem stories_read {W w : World} {L : List HA} {a : Option Addr} {n c : Nat} {sts : List Sto} (h : Star W w (storiesA (.slice a n c) sts :: L)) (hn : sts.length = n) (hb : ∀ s ∈ sts, s.moves.length * 48 ≤ 140737488355328) : ∃ vs, Stories w a n sts vs ∧ ∀ v ∈ vs, ∃ a m q, v = Value.slice a m q := by
  obtain ⟨vs, hvl, h1⟩ := stories_open h
  have hmv : ∀ (i : Nat) (s : Sto) (v : Value), sts[i]? = some s → vs[i]? = some v → ∃ A k c, v = Value.slice A k c ∧ s.moves.length = k ∧ Sl w A k 6 (mvsC s.moves) ∧ k * 48 ≤ 140737488355328 := by
    intro i s v hs hv
    have h2 := (h1.pull 1).focus i (movesL_get hs hv)
    obtain ⟨A, k, rfl⟩ := h2.form
    exact ⟨A, _, k, rfl, rfl, h2.rowSl, hb s (List.mem_of_getElem? hs)⟩
  subst hn
  refine ⟨vs, ⟨h1.rowSl, rfl, hvl, hmv⟩, fun v hv => ?_⟩
  obtain ⟨i, hi, rfl⟩ := List.mem_iff_getElem.1 hv
  obtain ⟨A, k, c, e, _⟩ := hmv i (sts[i]'(by omega)) vs[i] (List.getElem?_eq_getElem _) (List.getElem?_eq_getElem _)
  exact ⟨A, k, c, e⟩
set_option maxRecDepth 100000 in
set_option maxHeartbeats 6400000 in
theorem awake_any (w : World) : Calls Try.prog 9 #[] w fun e w' => e = .returned (.bool true) ∧ Below w.heap.size w w' := by
  go_enter Try.func9, Try.ntmps9
  go_wp2_with fail
  refine (run_any _).mono ?_
  rintro e' w1 ⟨a1, rfl, h1⟩
  go_wp2_with fail
  refine (build_any a1 5 5 runEvs w1 h1.rowSl rfl (by decide)).mono ?_
  rintro e' w2 ⟨a2, c2, rfl, h2⟩
  obtain ⟨b1, b2, b3⟩ := bld_run
  rw [b1] at h2
  rw [b1, b2, b3]
  have h3 := (h2.frame (L := [_]) h1).pick 3 [0, 2]
  have H3 := Lib.hid h3
  clear h1 h2 h3 b1 b2 b3
  go_wp2_with fail
  have h4 := H3.out.rowNew 26 10 (evsC badEvs).toArray 2 (by simp [maxLen]) rfl
  refine (build_any (some ⟨w2.heap.size, 0, none⟩) 2 2 badEvs (w2.alloc (.cells (evsC badEvs).toArray 26)) h4.rowSl rfl (by decide)).mono ?_
  rintro e' w3 ⟨a3, c3, rfl, h5⟩
  obtain ⟨b1, b2, b3⟩ := bld_bad
  rw [b1] at h5
  rw [b1, b2, b3]
  have h6 := (h5.frame (L := [_]) h4).pick 4 [2, 3]
  have hr := h6.pull 0
  have h7 := h6.rowNew 38 6 (mvsC wantS.moves).toArray 3 (by simp [maxLen]) rfl
  have h8 := h7.new (.cells (stoC wantS (.slice (some ⟨w3.heap.size, 0, none⟩) 3 3)).toArray 36)
  simp only [World.size_alloc] at h8
  clear H3 h4 h5 h6 h7 hr b1 b2 b3
  have H8 := Lib.hid h8
  clear h8
  go_wp2_with fail
  have h8 := H8.out
  change Code.wp _ _ _ _ ((w3.alloc (.cells (mvsC wantS.moves).toArray 38)).alloc (.cells (stoC wantS (.slice (some ⟨w3.heap.size, 0, none⟩) 3 3)).toArray 36))
  clear H8
  generalize (w3.alloc (.cells (mvsC wantS.moves).toArray 38)).alloc (.cells (stoC wantS (.slice (some ⟨w3.heap.size, 0, none⟩) 3 3)).toArray 36) = w4 at h8 ⊢
  obtain ⟨vs, hSt, hsl⟩ := stories_read (h8.pull 2) rfl (by intro s hs; simp at hs; subst hs; simp [wantS])
  obtain ⟨v0, rfl⟩ := List.length_eq_one_iff.1 hSt.nv
  obtain ⟨MA, mk, mc, rfl, hmk, hms, _⟩ := hSt.mv 0 wantS v0 rfl rfl
  have hmk : 3 = mk := hmk
  subst hmk
  obtain ⟨g, o, rfl, hg, ca0⟩ := hSt.row.row (k := 0) (by simp) (by simp)
  have ca : ∀ j u, (stoC wantS (.slice MA 3 mc))[j]? = some u → w4.cell? ⟨g, o + j, none⟩ = some u := by
    intro j u hu
    have hj : j < 10 := (List.getElem?_eq_some_iff.1 hu).1
    have := ca0 j u (by rw [stosC_at (i := 0) (s := wantS) (v := .slice MA 3 mc) rfl rfl hj]; exact hu)
    simpa using this
  have a0 : w4.cell? ⟨g, o, none⟩ = some (.int .i64 1) := ca 0 _ rfl
  have a1 : w4.cell? ⟨g, o + 1, none⟩ = some (.int .i64 1) := ca 1 _ rfl
  have a2 : w4.cell? ⟨g, o + 2, none⟩ = some (.int .i64 1) := ca 2 _ rfl
  have a3 : w4.cell? ⟨g, o + 3, none⟩ = some (.int .i64 5) := ca 3 _ rfl
  have a4 : w4.cell? ⟨g, o + 4, none⟩ = some (.int .i64 1) := ca 4 _ rfl
  have a5 : w4.cell? ⟨g, o + 5, none⟩ = some (.int .i64 0) := ca 5 _ rfl
  have a6 : w4.cell? ⟨g, o + 6, none⟩ = some (.int .i64 0) := ca 6 _ rfl
  have a7 : w4.cell? ⟨g, o + 7, none⟩ = some (.int .i64 2) := ca 7 _ rfl
  have a8 : w4.cell? ⟨g, o + 8, none⟩ = some (.int .i64 5) := ca 8 _ rfl
  have a9 : w4.cell? ⟨g, o + 9, none⟩ = some (.slice MA 3 mc) := ca 9 _ rfl
  have f0 : w4.cell? ⟨w3.heap.size + 1, 0, none⟩ = some (.int .i64 1) := h8.cell 0
  have f1 : w4.cell? ⟨w3.heap.size + 1, 1, none⟩ = some (.int .i64 1) := h8.cell 1
  have f2 : w4.cell? ⟨w3.heap.size + 1, 2, none⟩ = some (.int .i64 1) := h8.cell 2
  have f3 : w4.cell? ⟨w3.heap.size + 1, 3, none⟩ = some (.int .i64 5) := h8.cell 3
  have f4 : w4.cell? ⟨w3.heap.size + 1, 4, none⟩ = some (.int .i64 1) := h8.cell 4
  have f5 : w4.cell? ⟨w3.heap.size + 1, 5, none⟩ = some (.int .i64 0) := h8.cell 5
  have f6 : w4.cell? ⟨w3.heap.size + 1, 6, none⟩ = some (.int .i64 0) := h8.cell 6
  have f7 : w4.cell? ⟨w3.heap.size + 1, 7, none⟩ = some (.int .i64 2) := h8.cell 7
  have f8 : w4.cell? ⟨w3.heap.size + 1, 8, none⟩ = some (.int .i64 5) := h8.cell 8
  have f9 : w4.cell? ⟨w3.heap.size + 1, 9, none⟩ = some (.slice (some ⟨w3.heap.size, 0, none⟩) 3 3) := h8.cell 9
  have hwm : Sl w4 (some ⟨w3.heap.size, 0, none⟩) 3 6 (mvsC wantS.moves) := (h8.pull 1).rowSl
  have SAME := Lib.hid (same_any wantS MA (some ⟨w3.heap.size, 0, none⟩) 3 mc 3 w4.drew hms hwm rfl (by decide))
  have H8 := Lib.hid h8
  clear h8 hms hwm hSt hsl hg ca0 ca
  go_still_tail 4, (by kernel_rfl)
  change wpList _ _ _ _ _ w4.drew
  go_wp2_with fail
  refine SAME.out.mono ?_
  rintro e' w5 ⟨rfl, hb5⟩
  have h9 := H8.out.drew.of_below hb5
  clear SAME H8 hb5 a0 a1 a2 a3 a4 a5 a6 a7 a8 a9 f0 f1 f2 f3 f4 f5 f6 f7 f8 f9
  have f0 : w5.cell? ⟨w3.heap.size + 1, 0, none⟩ = some (.int .i64 1) := h9.cell 0
  have f1 : w5.cell? ⟨w3.heap.size + 1, 1, none⟩ = some (.int .i64 1) := h9.cell 1
  have f2 : w5.cell? ⟨w3.heap.size + 1, 2, none⟩ = some (.int .i64 1) := h9.cell 2
  have f3 : w5.cell? ⟨w3.heap.size + 1, 3, none⟩ = some (.int .i64 5) := h9.cell 3
  have f4 : w5.cell? ⟨w3.heap.size + 1, 4, none⟩ = some (.int .i64 1) := h9.cell 4
  have f5 : w5.cell? ⟨w3.heap.size + 1, 5, none⟩ = some (.int .i64 0) := h9.cell 5
  have f6 : w5.cell? ⟨w3.heap.size + 1, 6, none⟩ = some (.int .i64 0) := h9.cell 6
  have f7 : w5.cell? ⟨w3.heap.size + 1, 7, none⟩ = some (.int .i64 2) := h9.cell 7
  have f8 : w5.cell? ⟨w3.heap.size + 1, 8, none⟩ = some (.int .i64 5) := h9.cell 8
  have f9 : w5.cell? ⟨w3.heap.size + 1, 9, none⟩ = some (.slice (some ⟨w3.heap.size, 0, none⟩) 3 3) := h9.cell 9
  have RD := Lib.hid (reads_any wantS (some ⟨w3.heap.size, 0, none⟩) 3 3 w5 ((h9.pull 1).rowSl) rfl (by decide))
  have H9 := Lib.hid h9
  clear h9
  go_wp2_with fail
  refine RD.out.mono ?_
  rintro e' w6 ⟨ra, rc, rfl, hr⟩
  rw [want_reads] at hr
  rw [want_reads]
  have h10 := hr.frame (L := [_]) H9.out
  clear hr H9 RD f0 f1 f2 f3 f4 f5 f6 f7 f8 f9
  have f0 : w6.cell? ⟨w3.heap.size + 1, 0, none⟩ = some (.int .i64 1) := (h10.pull 1).cell 0
  have f1 : w6.cell? ⟨w3.heap.size + 1, 1, none⟩ = some (.int .i64 1) := (h10.pull 1).cell 1
  have f2 : w6.cell? ⟨w3.heap.size + 1, 2, none⟩ = some (.int .i64 1) := (h10.pull 1).cell 2
  have f3 : w6.cell? ⟨w3.heap.size + 1, 3, none⟩ = some (.int .i64 5) := (h10.pull 1).cell 3
  have f4 : w6.cell? ⟨w3.heap.size + 1, 4, none⟩ = some (.int .i64 1) := (h10.pull 1).cell 4
  have f5 : w6.cell? ⟨w3.heap.size + 1, 5, none⟩ = some (.int .i64 0) := (h10.pull 1).cell 5
  have f6 : w6.cell? ⟨w3.heap.size + 1, 6, none⟩ = some (.int .i64 0) := (h10.pull 1).cell 6
  have f7 : w6.cell? ⟨w3.heap.size + 1, 7, none⟩ = some (.int .i64 2) := (h10.pull 1).cell 7
  have f8 : w6.cell? ⟨w3.heap.size + 1, 8, none⟩ = some (.int .i64 5) := (h10.pull 1).cell 8
  have f9 : w6.cell? ⟨w3.heap.size + 1, 9, none⟩ = some (.slice (some ⟨w3.heap.size, 0, none⟩) 3 3) := (h10.pull 1).cell 9
  have WT := Lib.hid (writes_any wantS (some ⟨w3.heap.size, 0, none⟩) 3 3 w6 ((h10.pull 2).rowSl) rfl (by decide))
  have H10 := Lib.hid h10
  clear h10
  go_wp2_with fail
  refine WT.out.mono ?_
  rintro e' w7 ⟨wa, wc, rfl, hr⟩
  rw [want_writes] at hr
  rw [want_writes]
  have h11 := hr.frame (L := [_]) H10.out
  clear hr H10 WT f0 f1 f2 f3 f4 f5 f6 f7 f8 f9
  have f0 : w7.cell? ⟨w3.heap.size + 1, 0, none⟩ = some (.int .i64 1) := (h11.pull 2).cell 0
  have f1 : w7.cell? ⟨w3.heap.size + 1, 1, none⟩ = some (.int .i64 1) := (h11.pull 2).cell 1
  have f2 : w7.cell? ⟨w3.heap.size + 1, 2, none⟩ = some (.int .i64 1) := (h11.pull 2).cell 2
  have f3 : w7.cell? ⟨w3.heap.size + 1, 3, none⟩ = some (.int .i64 5) := (h11.pull 2).cell 3
  have f4 : w7.cell? ⟨w3.heap.size + 1, 4, none⟩ = some (.int .i64 1) := (h11.pull 2).cell 4
  have f5 : w7.cell? ⟨w3.heap.size + 1, 5, none⟩ = some (.int .i64 0) := (h11.pull 2).cell 5
  have f6 : w7.cell? ⟨w3.heap.size + 1, 6, none⟩ = some (.int .i64 0) := (h11.pull 2).cell 6
  have f7 : w7.cell? ⟨w3.heap.size + 1, 7, none⟩ = some (.int .i64 2) := (h11.pull 2).cell 7
  have f8 : w7.cell? ⟨w3.heap.size + 1, 8, none⟩ = some (.int .i64 5) := (h11.pull 2).cell 8
  have f9 : w7.cell? ⟨w3.heap.size + 1, 9, none⟩ = some (.slice (some ⟨w3.heap.size, 0, none⟩) 3 3) := (h11.pull 2).cell 9
  have PT := Lib.hid (point_any wantS (some ⟨w3.heap.size, 0, none⟩) 3 3 w7 ((h11.pull 3).rowSl) rfl (by decide))
  have H11 := Lib.hid h11
  clear h11
  go_wp2_with fail
  refine PT.out.mono ?_
  rintro e' w8 ⟨rfl, hb8⟩
  rw [want_point]
  have h12 := H11.out.of_below hb8
  clear H11 PT hb8 f0 f1 f2 f3 f4 f5 f6 f7 f8 f9
  have h13 := h12.rowNew 2 1 (intsC [0, 0, 0, 7]).toArray 4 (by simp [maxLen]) rfl
  have H13 := Lib.hid h13
  clear h12 h13
  go_wp2_with fail
  have h13 := H13.out
  change Calls _ _ _ (w8.alloc (.cells (intsC [0, 0, 0, 7]).toArray 2)) _
  obtain ⟨vs2, hSt, hsl⟩ := stories_read (h13.pull 5) rfl (by intro s hs; simp at hs; subst hs; simp [wantS])
  have hSo : SortsTo (w8.alloc (.cells (intsC [0, 0, 0, 7]).toArray 2)) (some ⟨g, o, none⟩) 1 c2 (byOf [wantS] 1) [0] := by
    rw [want_by]
    exact ⟨rfl, by simp, fun a q W L h => (sort_one a q _ W).mono (by rintro e w' ⟨rfl, rfl⟩; exact ⟨rfl, h⟩)⟩
  refine (final_any (some ⟨w8.heap.size, 0, none⟩) 4 4 [0, 0, 0, 7] (some ⟨g, o, none⟩) 1 c2 [wantS] vs2 [0] (w8.alloc (.cells (intsC [0, 0, 0, 7]).toArray 2)) h13.rowSl (by decide) hSt (by decide) hSo).mono ?_
  rintro e' w9 ⟨ea, ec, rfl, hr⟩
  rw [want_final] at hr
  have h14 := hr.frame (L := [_]) h13
  obtain ⟨vs3, hSt3, hsl3⟩ := stories_read (h14.pull 6) rfl (by intro s hs; simp at hs; subst hs; simp [wantS])
  have CT := Lib.hid (count_any (some ⟨g, o, none⟩) 1 c2 [wantS] vs3 w9 hSt3.row rfl hSt3.nv hsl3 (by decide))
  have H14 := Lib.hid h14
  clear h13 h14 hr hSt hSt3 hsl hsl3 hSo H13
  go_wp2_with fail
  refine CT.out.mono ?_
  rintro e' w10 ⟨rfl, hb10⟩
  rw [want_tal, show (talC ⟨0, 1, 0, 0⟩).toArray = #[.int .i64 0, .int .i64 1, .int .i64 0, .int .i64 0] from rfl]
  have h15 := (H14.out.of_below hb10).new (.cells #[.int .i64 0, .int .i64 1, .int .i64 0, .int .i64 0] 50)
  obtain ⟨ge, rfl, _, _, hec, _⟩ := (h15.pull 1).rowAt (by omega)
  obtain ⟨gw, rfl, _, _, hwc, _⟩ := (h15.pull 3).rowAt (by simp)
  obtain ⟨gr, rfl, _, _, hrc, _⟩ := (h15.pull 4).rowAt (by simp)
  have t0 : (w10.alloc (.cells #[.int .i64 0, .int .i64 1, .int .i64 0, .int .i64 0] 50)).cell? ⟨w10.heap.size, 0, none⟩ = some (.int .i64 0) := h15.cell 0
  have t1 : (w10.alloc (.cells #[.int .i64 0, .int .i64 1, .int .i64 0, .int .i64 0] 50)).cell? ⟨w10.heap.size, 1, none⟩ = some (.int .i64 1) := h15.cell 1
  have t2 : (w10.alloc (.cells #[.int .i64 0, .int .i64 1, .int .i64 0, .int .i64 0] 50)).cell? ⟨w10.heap.size, 2, none⟩ = some (.int .i64 0) := h15.cell 2
  have t3 : (w10.alloc (.cells #[.int .i64 0, .int .i64 1, .int .i64 0, .int .i64 0] 50)).cell? ⟨w10.heap.size, 3, none⟩ = some (.int .i64 0) := h15.cell 3
  have x3 : (w10.alloc (.cells #[.int .i64 0, .int .i64 1, .int .i64 0, .int .i64 0] 50)).cell? ⟨ge, 3, none⟩ = some (.int .i64 8) := hec 3 (by omega)
  have y0 : (w10.alloc (.cells #[.int .i64 0, .int .i64 1, .int .i64 0, .int .i64 0] 50)).cell? ⟨gw, 0, none⟩ = some (.int .i64 3) := hwc 0 (by simp)
  have y1 : (w10.alloc (.cells #[.int .i64 0, .int .i64 1, .int .i64 0, .int .i64 0] 50)).cell? ⟨gw, 1, none⟩ = some (.int .i64 8) := hwc 1 (by simp)
  have z0 : (w10.alloc (.cells #[.int .i64 0, .int .i64 1, .int .i64 0, .int .i64 0] 50)).cell? ⟨gr, 0, none⟩ = some (.int .i64 3) := hrc 0 (by simp)
  have z1 : (w10.alloc (.cells #[.int .i64 0, .int .i64 1, .int .i64 0, .int .i64 0] 50)).cell? ⟨gr, 1, none⟩ = some (.int .i64 7) := hrc 1 (by simp)
  have pe1 := fun w => pair_eql 3 7 w
  have pe2 := fun w => pair_eql 3 8 w
  have te := fun w => tal_eql 0 1 0 0 w
  have HB := Lib.hid ((h15.pick 9 [8]).below)
  clear h15 hec hwc hrc hb10 H14 CT
  go_wp2
  go_ret
  exact ⟨rfl, HB.out⟩
end Go.Proofs.Ytfekjbaojefhoaa
