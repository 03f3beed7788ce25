/- GhostTells, walked: lemmas for the laws of ghost. Printed by gen_gh20.py. -/
import Derived.Test.YtfekjbaojefhoaaGh18
namespace Go.Proofs.Ytfekjbaojefhoaa
open Go.RowKit Go.Shelf
set_option linter.unusedVariables false

set_option maxRecDepth 100000 in
set_option maxHeartbeats 6400000 in
theorem tells_walk (s : Sto) (A : Option Addr) (k c : Nat) (w : World) (hS : Sl w A k 6 (mvsC s.moves)) (hk : s.moves.length = k) (hbig : k * 48 ≤ 140737488355328) :
    Calls Try.prog 5 #[.agg (stoC s (.slice A k c)).toArray] w fun e w' => e = .returned (.bool true) ∧ Below w.heap.size w w' := by
  have RA := Lib.hid fun W h => reads_any s A k c W h hk hbig
  have WA := Lib.hid fun W h => writes_any s A k c W h hk hbig
  have PA := Lib.hid fun W h => point_any s A k c W h hk hbig
  have RR := Lib.hid fun W h => reads_ref s A k c W h hk hbig
  have WR := Lib.hid fun W h => writes_ref s A k c W h hk hbig
  have PR := Lib.hid fun W h => point_ref s A k c W h hk (by omega)
  have hrl := reads_len s.moves
  have hwl := writes_len s.moves
  have HS := Lib.hid hS
  have hr1 : (readsOf s.moves).length ≤ 9223372036854775807 := by omega
  have hw1 : (writesOf s.moves).length ≤ 9223372036854775807 := by rw [writesOf]; omega
  have HR1 := Lib.hid hr1
  have HW1 := Lib.hid hw1
  clear hS hk hrl hwl hr1 hw1
  generalize hrs : readsOf s.moves = rs at RA RR HR1
  generalize hws : writesOf s.moves = ws at WA WR HW1
  generalize hps : pointOf s = pt at PA PR
  clear hrs hws hps
  obtain ⟨p1, p2⟩ := pt
  obtain ⟨th, sp, bg, en, fa, er, by_, op, ga, ms⟩ := s
  dsimp only at HS PA PR
  dsimp only [stoC] at RA WA PA RR WR PR ⊢
  have h0 := (Star.begin w).new (.cells #[.int .i64 th, .int .i64 sp, .int .i64 bg, .int .i64 en, .int .i64 fa, .int .i64 er, .int .i64 by_, .int .i64 op, .int .i64 ga, .slice A k c] 36)
  have H0 := Lib.hid h0
  clear h0
  go_enter Try.func5, Try.ntmps5
  go_wp2_with fail
  refine (awake_any _).mono ?_
  rintro e' w1 ⟨rfl, hb⟩
  have h1 := H0.out.of_below hb
  clear hb H0
  have f0 : w1.cell? ⟨w.heap.size, 0, none⟩ = some (.int .i64 th) := h1.cell 0
  have f1 : w1.cell? ⟨w.heap.size, 1, none⟩ = some (.int .i64 sp) := h1.cell 1
  have f2 : w1.cell? ⟨w.heap.size, 2, none⟩ = some (.int .i64 bg) := h1.cell 2
  have f3 : w1.cell? ⟨w.heap.size, 3, none⟩ = some (.int .i64 en) := h1.cell 3
  have f4 : w1.cell? ⟨w.heap.size, 4, none⟩ = some (.int .i64 fa) := h1.cell 4
  have f5 : w1.cell? ⟨w.heap.size, 5, none⟩ = some (.int .i64 er) := h1.cell 5
  have f6 : w1.cell? ⟨w.heap.size, 6, none⟩ = some (.int .i64 by_) := h1.cell 6
  have f7 : w1.cell? ⟨w.heap.size, 7, none⟩ = some (.int .i64 op) := h1.cell 7
  have f8 : w1.cell? ⟨w.heap.size, 8, none⟩ = some (.int .i64 ga) := h1.cell 8
  have f9 : w1.cell? ⟨w.heap.size, 9, none⟩ = some (.slice A k c) := h1.cell 9
  have H1 := Lib.hid h1
  clear h1
  go_wp2_with fail
  refine (RA.out _ (HS.out.after (by omega) H1.out.swap)).mono ?_
  rintro e' w2 ⟨ra, rc, rfl, hr⟩
  have h2 := hr.frame (L := [_]) H1.out
  clear hr H1 f0 f1 f2 f3 f4 f5 f6 f7 f8 f9
  have f0 : w2.cell? ⟨w.heap.size, 0, none⟩ = some (.int .i64 th) := (h2.pull 1).cell 0
  have f1 : w2.cell? ⟨w.heap.size, 1, none⟩ = some (.int .i64 sp) := (h2.pull 1).cell 1
  have f2 : w2.cell? ⟨w.heap.size, 2, none⟩ = some (.int .i64 bg) := (h2.pull 1).cell 2
  have f3 : w2.cell? ⟨w.heap.size, 3, none⟩ = some (.int .i64 en) := (h2.pull 1).cell 3
  have f4 : w2.cell? ⟨w.heap.size, 4, none⟩ = some (.int .i64 fa) := (h2.pull 1).cell 4
  have f5 : w2.cell? ⟨w.heap.size, 5, none⟩ = some (.int .i64 er) := (h2.pull 1).cell 5
  have f6 : w2.cell? ⟨w.heap.size, 6, none⟩ = some (.int .i64 by_) := (h2.pull 1).cell 6
  have f7 : w2.cell? ⟨w.heap.size, 7, none⟩ = some (.int .i64 op) := (h2.pull 1).cell 7
  have f8 : w2.cell? ⟨w.heap.size, 8, none⟩ = some (.int .i64 ga) := (h2.pull 1).cell 8
  have f9 : w2.cell? ⟨w.heap.size, 9, none⟩ = some (.slice A k c) := (h2.pull 1).cell 9
  have H2 := Lib.hid h2
  clear h2
  go_wp2_with fail
  refine (WA.out _ (HS.out.after (by omega) (H2.out.pull 2))).mono ?_
  rintro e' w3 ⟨wa, wc, rfl, hr⟩
  have h3 := hr.frame (L := [_]) H2.out
  clear hr H2 f0 f1 f2 f3 f4 f5 f6 f7 f8 f9
  have f0 : w3.cell? ⟨w.heap.size, 0, none⟩ = some (.int .i64 th) := (h3.pull 2).cell 0
  have f1 : w3.cell? ⟨w.heap.size, 1, none⟩ = some (.int .i64 sp) := (h3.pull 2).cell 1
  have f2 : w3.cell? ⟨w.heap.size, 2, none⟩ = some (.int .i64 bg) := (h3.pull 2).cell 2
  have f3 : w3.cell? ⟨w.heap.size, 3, none⟩ = some (.int .i64 en) := (h3.pull 2).cell 3
  have f4 : w3.cell? ⟨w.heap.size, 4, none⟩ = some (.int .i64 fa) := (h3.pull 2).cell 4
  have f5 : w3.cell? ⟨w.heap.size, 5, none⟩ = some (.int .i64 er) := (h3.pull 2).cell 5
  have f6 : w3.cell? ⟨w.heap.size, 6, none⟩ = some (.int .i64 by_) := (h3.pull 2).cell 6
  have f7 : w3.cell? ⟨w.heap.size, 7, none⟩ = some (.int .i64 op) := (h3.pull 2).cell 7
  have f8 : w3.cell? ⟨w.heap.size, 8, none⟩ = some (.int .i64 ga) := (h3.pull 2).cell 8
  have f9 : w3.cell? ⟨w.heap.size, 9, none⟩ = some (.slice A k c) := (h3.pull 2).cell 9
  have H3 := Lib.hid h3
  clear h3
  go_wp2_with fail
  refine (PA.out _ (HS.out.after (by omega) (H3.out.pull 3))).mono ?_
  rintro e' w4 ⟨rfl, hb⟩
  have h4 := H3.out.of_below hb
  clear hb H3 f0 f1 f2 f3 f4 f5 f6 f7 f8 f9
  have f0 : w4.cell? ⟨w.heap.size, 0, none⟩ = some (.int .i64 th) := (h4.pull 2).cell 0
  have f1 : w4.cell? ⟨w.heap.size, 1, none⟩ = some (.int .i64 sp) := (h4.pull 2).cell 1
  have f2 : w4.cell? ⟨w.heap.size, 2, none⟩ = some (.int .i64 bg) := (h4.pull 2).cell 2
  have f3 : w4.cell? ⟨w.heap.size, 3, none⟩ = some (.int .i64 en) := (h4.pull 2).cell 3
  have f4 : w4.cell? ⟨w.heap.size, 4, none⟩ = some (.int .i64 fa) := (h4.pull 2).cell 4
  have f5 : w4.cell? ⟨w.heap.size, 5, none⟩ = some (.int .i64 er) := (h4.pull 2).cell 5
  have f6 : w4.cell? ⟨w.heap.size, 6, none⟩ = some (.int .i64 by_) := (h4.pull 2).cell 6
  have f7 : w4.cell? ⟨w.heap.size, 7, none⟩ = some (.int .i64 op) := (h4.pull 2).cell 7
  have f8 : w4.cell? ⟨w.heap.size, 8, none⟩ = some (.int .i64 ga) := (h4.pull 2).cell 8
  have f9 : w4.cell? ⟨w.heap.size, 9, none⟩ = some (.slice A k c) := (h4.pull 2).cell 9
  have H4 := Lib.hid h4
  clear h4
  go_wp2_with fail
  refine (PR.out _ (HS.out.after (by omega) (H4.out.pull 3))).mono ?_
  rintro e' w5 ⟨rfl, hb⟩
  have h5 := H4.out.of_below hb
  clear hb H4 f0 f1 f2 f3 f4 f5 f6 f7 f8 f9
  have f0 : w5.cell? ⟨w.heap.size, 0, none⟩ = some (.int .i64 th) := (h5.pull 2).cell 0
  have f1 : w5.cell? ⟨w.heap.size, 1, none⟩ = some (.int .i64 sp) := (h5.pull 2).cell 1
  have f2 : w5.cell? ⟨w.heap.size, 2, none⟩ = some (.int .i64 bg) := (h5.pull 2).cell 2
  have f3 : w5.cell? ⟨w.heap.size, 3, none⟩ = some (.int .i64 en) := (h5.pull 2).cell 3
  have f4 : w5.cell? ⟨w.heap.size, 4, none⟩ = some (.int .i64 fa) := (h5.pull 2).cell 4
  have f5 : w5.cell? ⟨w.heap.size, 5, none⟩ = some (.int .i64 er) := (h5.pull 2).cell 5
  have f6 : w5.cell? ⟨w.heap.size, 6, none⟩ = some (.int .i64 by_) := (h5.pull 2).cell 6
  have f7 : w5.cell? ⟨w.heap.size, 7, none⟩ = some (.int .i64 op) := (h5.pull 2).cell 7
  have f8 : w5.cell? ⟨w.heap.size, 8, none⟩ = some (.int .i64 ga) := (h5.pull 2).cell 8
  have f9 : w5.cell? ⟨w.heap.size, 9, none⟩ = some (.slice A k c) := (h5.pull 2).cell 9
  have H5 := Lib.hid h5
  clear h5
  go_wp2_with fail
  refine (RR.out _ (HS.out.after (by omega) (H5.out.pull 3))).mono ?_
  rintro e' w6 ⟨ra2, rc2, rfl, hr⟩
  have h6 := hr.frame (L := [_]) H5.out
  clear hr H5 f0 f1 f2 f3 f4 f5 f6 f7 f8 f9
  have H6 := Lib.hid h6
  clear h6
  go_wp2_with fail
  refine (samePairs_any rs ra ra2 rs.length rc rc2 w6 ((H6.out.pull 2).rowSl) H6.out.rowSl HR1.out).mono ?_
  rintro e' w7 ⟨rfl, q, rfl⟩
  have h7 := H6.out.drewN q
  clear H6
  generalize w6.drewN q = w7 at h7 ⊢
  have f0 : w7.cell? ⟨w.heap.size, 0, none⟩ = some (.int .i64 th) := (h7.pull 3).cell 0
  have f1 : w7.cell? ⟨w.heap.size, 1, none⟩ = some (.int .i64 sp) := (h7.pull 3).cell 1
  have f2 : w7.cell? ⟨w.heap.size, 2, none⟩ = some (.int .i64 bg) := (h7.pull 3).cell 2
  have f3 : w7.cell? ⟨w.heap.size, 3, none⟩ = some (.int .i64 en) := (h7.pull 3).cell 3
  have f4 : w7.cell? ⟨w.heap.size, 4, none⟩ = some (.int .i64 fa) := (h7.pull 3).cell 4
  have f5 : w7.cell? ⟨w.heap.size, 5, none⟩ = some (.int .i64 er) := (h7.pull 3).cell 5
  have f6 : w7.cell? ⟨w.heap.size, 6, none⟩ = some (.int .i64 by_) := (h7.pull 3).cell 6
  have f7 : w7.cell? ⟨w.heap.size, 7, none⟩ = some (.int .i64 op) := (h7.pull 3).cell 7
  have f8 : w7.cell? ⟨w.heap.size, 8, none⟩ = some (.int .i64 ga) := (h7.pull 3).cell 8
  have f9 : w7.cell? ⟨w.heap.size, 9, none⟩ = some (.slice A k c) := (h7.pull 3).cell 9
  have H7 := Lib.hid h7
  clear h7
  go_wp2_with fail
  refine (WR.out _ (HS.out.after (by omega) (H7.out.pull 4))).mono ?_
  rintro e' w8 ⟨wa2, wc2, rfl, hr⟩
  have h8 := hr.frame (L := [_]) H7.out
  clear hr H7 f0 f1 f2 f3 f4 f5 f6 f7 f8 f9
  have H8 := Lib.hid h8
  clear h8
  go_wp2_with fail
  refine (samePairs_any ws wa wa2 ws.length wc wc2 w8 ((H8.out.pull 2).rowSl) H8.out.rowSl HW1.out).mono ?_
  rintro e' w9 ⟨rfl, q', rfl⟩
  have HB := Lib.hid (((H8.out.drewN q').pick 6 [5]).below)
  clear H8
  go_wp2
  go_ret
  exact ⟨by simp, HB.out⟩
end Go.Proofs.Ytfekjbaojefhoaa
