/- cmp.Or of three, a story's point: lemmas for the laws of layer 22. -/
import Derived.Test.YtljdkfhkpjjfgaaGh28
import Derived.Test.YtljdkfhkpjjfgaaMem2
import Derived.Deep.DeepCutAuto
import Derived.Deep.CutBlock
namespace Go.Proofs.Ytljdkfhkpjjfgaa
open Go.RowKit Go.Shelf
set_option linter.unusedVariables false

def orI (a b c : Int) : Int := if a ≠ 0 then a else if b ≠ 0 then b else c
set_option maxRecDepth 100000 in
theorem or_any (g : Nat) (a b c : Int) (w : World) (h0 : w.cell? ⟨g, 0, none⟩ = some (.int .i64 a)) (h1 : w.cell? ⟨g, 1, none⟩ = some (.int .i64 b)) (h2 : w.cell? ⟨g, 2, none⟩ = some (.int .i64 c)) :
    Calls Try.prog 25 #[.slice (some ⟨g, 0, none⟩) 3 3] w fun e w' => e = .returned (.int .i64 (orI a b c)) ∧ w' = w := by
  go_enter Try.func25, Try.ntmps25
  go_wp2
  go_loopw [8] (fun i wr => ∃ k : Nat, k ≤ 3 ∧ i = .int .i64 k ∧ wr = w ∧ Hid (0 < k → a = 0) ∧ Hid (1 < k → b = 0) ∧ Hid (2 < k → c = 0)) (fun i _ => 3 - (intOf i).toNat)
  case atStart => exact ⟨0, Nat.zero_le _, rfl, rfl, fun h => absurd h (by omega), fun h => absurd h (by omega), fun h => absurd h (by omega)⟩
  case round =>
    obtain ⟨k, hk, rfl, rfl, q0, q1, q2⟩ := hrel
    have hk4 : k = 0 ∨ k = 1 ∨ k = 2 ∨ k = 3 := by omega
    rcases hk4 with rfl | rfl | rfl | rfl
    · -- 0
      by_cases hv : a = 0
      · have hvb : (a == 0) = true := by simpa using hv
        have hvn : (a != 0) = false := by simpa using hv
        have HV := Lib.hid hv
        clear hv
        go_wp2
        go_roundw
        case rel => exact ⟨1, by omega, by go_num, by first | rfl | trivial, fun h => HV.out, fun h => absurd h (by omega), fun h => absurd h (by omega)⟩
        case measure => simp [intOf]
      · have hvn : (a != 0) = true := by simpa using hv
        have e : orI a b c = a := by simp [orI, hv]
        have EE := Lib.hid e
        clear e hv
        go_wp2
        go_ret
        exact ⟨by rw [EE.out]; rfl, rfl⟩
    · -- 1
      by_cases hv : b = 0
      · have hvb : (b == 0) = true := by simpa using hv
        have hvn : (b != 0) = false := by simpa using hv
        have HV := Lib.hid hv
        clear hv
        go_wp2
        go_roundw
        case rel => exact ⟨2, by omega, by go_num, by first | rfl | trivial, fun h => q0 (by omega), fun h => HV.out, fun h => absurd h (by omega)⟩
        case measure => simp [intOf]
      · have hvn : (b != 0) = true := by simpa using hv
        have e : orI a b c = b := by have := q0.out (by omega); simp [orI, this, hv]
        have EE := Lib.hid e
        clear e hv
        go_wp2
        go_ret
        exact ⟨by rw [EE.out]; rfl, rfl⟩
    · -- 2
      by_cases hv : c = 0
      · have hvb : (c == 0) = true := by simpa using hv
        have hvn : (c != 0) = false := by simpa using hv
        have HV := Lib.hid hv
        clear hv
        go_wp2
        go_roundw
        case rel => exact ⟨3, by omega, by go_num, by first | rfl | trivial, fun h => q0 (by omega), fun h => q1 (by omega), fun h => HV.out⟩
        case measure => simp [intOf]
      · have hvn : (c != 0) = true := by simpa using hv
        have e : orI a b c = c := by have := q0.out (by omega); have := q1.out (by omega); simp [orI, *]
        have EE := Lib.hid e
        clear e hv
        go_wp2
        go_ret
        exact ⟨by rw [EE.out]; rfl, rfl⟩
    · have e : orI a b c = 0 := by
        have h1 := q0.out (by omega)
        have h2 := q1.out (by omega)
        have h3 := q2.out (by omega)
        simp [orI, h1, h2, h3]
      have EE := Lib.hid e
      clear e
      go_wp2
      go_ret
      exact ⟨by rw [EE.out]; rfl, rfl⟩
/-- a story's point -/
structure Pt where
  num : Int
  late : Int
  step : Int
def ptC (p : Pt) : List Value := [.int .i64 p.num, .int .i64 p.late, .int .i64 p.step]
def ptOf (s : Sto) : Pt := ⟨(pointOf s).1, if s.fate = 1 ∧ writesOf s.moves ≠ [] then 0 else 1, (pointOf s).2⟩
theorem Try.info53 : (Try.prog.info? 53).map (fun i => (i.zero, i.size, i.bytes)) = some (some (.agg #[.int .i64 0, .int .i64 0, .int .i64 0]), 3, 24) := by kernel_rfl
set_option maxRecDepth 100000 in
set_option maxHeartbeats 6400000 in
theorem of_any (s : Sto) (A : Option Addr) (k c : Nat) (w : World) (hS : Sl w A k 6 (mvsC s.moves)) (hk : s.moves.length = k) (hbig : k * 48 ≤ 140737488355328) :
    Calls Try.prog 22 #[.agg (stoC s (.slice A k c)).toArray] w fun e w' => e = .returned (.agg (ptC (ptOf s)).toArray) ∧ Below w.heap.size w w' := by
  have PA := Lib.hid fun W h => point_any s A k c W h hk hbig
  have WA := Lib.hid fun W h => writes_any s A k c W h hk hbig
  have hwl : (writesOf s.moves).length ≤ s.moves.length := writes_len s.moves
  have hp : ptOf s = ⟨(pointOf s).1, if s.fate = 1 ∧ writesOf s.moves ≠ [] then 0 else 1, (pointOf s).2⟩ := rfl
  have HP := Lib.hid hp
  clear hp
  have HS := Lib.hid hS
  generalize ptOf s = pt at HP ⊢
  generalize hps : pointOf s = po at PA HP
  generalize hws : writesOf s.moves = ws at WA HP hwl
  have hwk : ws.length ≤ k := by omega
  clear hS hk hps hws hwl
  obtain ⟨p1, p2⟩ := po
  obtain ⟨th, sp, bg, en, fa, er, by_, op, ga, ms⟩ := s
  dsimp only at HS PA WA HP
  dsimp only [stoC] at PA WA ⊢
  have h0 := (((Star.begin w).new (.cells #[.int .i64 th, .int .i64 sp, .int .i64 bg, .int .i64 en, .int .i64 fa, .int .i64 er, .int .i64 by_, .int .i64 op, .int .i64 ga, .slice A k c] 44)).new (.cells #[.int .i64 0, .int .i64 0, .int .i64 0] 53)).new (.cells #[.int .i64 0, .int .i64 1, .int .i64 0] 53)
  simp only [World.size_alloc] at h0
  go_enter Try.func22, Try.ntmps22
  go_wp2_with fail
  refine (PA.out _ (HS.out.after (by omega) (h0.pull 3))).mono ?_
  rintro e' w2 ⟨rfl, hb2⟩
  have h2 := h0.of_below hb2
  have d0 := h2.cell 0
  have d2 := (h2.set 0 (.int .i64 p1)).cell 2
  have ff := h2.frozen
  have q0 := ff 0
  have q2 := (h2.set 0 (.int .i64 p1)).frozen 2
  clear ff
  have h3 : Star w ((w2.setCell ⟨w.heap.size + 1 + 1, 0, none⟩ (.int .i64 p1)).setCell ⟨w.heap.size + 1 + 1, 2, none⟩ (.int .i64 p2)) [cellsA (w.heap.size + 1 + 1) #[.int .i64 p1, .int .i64 1, .int .i64 p2] 53, cellsA (w.heap.size + 1) #[.int .i64 0, .int .i64 0, .int .i64 0] 53, cellsA w.heap.size #[.int .i64 th, .int .i64 sp, .int .i64 bg, .int .i64 en, .int .i64 fa, .int .i64 er, .int .i64 by_, .int .i64 op, .int .i64 ga, .slice A k c] 44, oldA w] := (h2.set 0 (.int .i64 p1)).set 2 (.int .i64 p2)
  have H3 := Lib.hid h3
  clear h0 h2 hb2 PA h3
  go_upto_region 3 with fail
  have h3 := H3.out
  generalize (w2.setCell ⟨w.heap.size + 1 + 1, 0, none⟩ (.int .i64 p1)).setCell ⟨w.heap.size + 1 + 1, 2, none⟩ (.int .i64 p2) = w3 at h3 ⊢
  clear H3 d0 d2 q0 q2
  have f0 : w3.cell? ⟨w.heap.size, 0, none⟩ = some (.int .i64 th) := (h3.pull 2).cell 0
  have f1 : w3.cell? ⟨w.heap.size, 1, none⟩ = some (.int .i64 sp) := (h3.pull 2).cell 1
  have f2 : w3.cell? ⟨w.heap.size, 2, none⟩ = some (.int .i64 bg) := (h3.pull 2).cell 2
  have f3 : w3.cell? ⟨w.heap.size, 3, none⟩ = some (.int .i64 en) := (h3.pull 2).cell 3
  have f4 : w3.cell? ⟨w.heap.size, 4, none⟩ = some (.int .i64 fa) := (h3.pull 2).cell 4
  have f5 : w3.cell? ⟨w.heap.size, 5, none⟩ = some (.int .i64 er) := (h3.pull 2).cell 5
  have f6 : w3.cell? ⟨w.heap.size, 6, none⟩ = some (.int .i64 by_) := (h3.pull 2).cell 6
  have f7 : w3.cell? ⟨w.heap.size, 7, none⟩ = some (.int .i64 op) := (h3.pull 2).cell 7
  have f8 : w3.cell? ⟨w.heap.size, 8, none⟩ = some (.int .i64 ga) := (h3.pull 2).cell 8
  have f9 : w3.cell? ⟨w.heap.size, 9, none⟩ = some (.slice A k c) := (h3.pull 2).cell 9
  by_cases hf : fa = 1
  · subst hf
    have WR := Lib.hid (WA.out w3 (HS.out.after (by omega) (h3.pull 3)))
    have H3 := Lib.hid h3
    clear h3 WA
    go_wp2_with fail
    refine WR.out.mono ?_
    rintro e' w4 ⟨wa, wc, rfl, h4⟩
    have h5 := (h4.frame (L := [_]) H3.out).pick 5 [1, 2, 3, 4]
    clear WR H3 h4 f0 f1 f2 f3 f4 f5 f6 f7 f8 f9
    by_cases hw : ws = []
    · subst hw
      have ep : pt = ⟨p1, 1, p2⟩ := by rw [HP.out]; simp
      have EP := Lib.hid ep
      clear ep
      have g0 : w4.cell? ⟨w.heap.size + 1 + 1, 0, none⟩ = some (.int .i64 p1) := h5.cell 0
      have g1 : w4.cell? ⟨w.heap.size + 1 + 1, 1, none⟩ = some (.int .i64 1) := h5.cell 1
      have g2 : w4.cell? ⟨w.heap.size + 1 + 1, 2, none⟩ = some (.int .i64 p2) := h5.cell 2
      have r0 : w4.cell? ⟨w.heap.size + 1, 0, none⟩ = some (.int .i64 0) := (h5.pull 1).cell 0
      have r1 : w4.cell? ⟨w.heap.size + 1, 1, none⟩ = some (.int .i64 0) := (h5.pull 1).cell 1
      have r2 : w4.cell? ⟨w.heap.size + 1, 2, none⟩ = some (.int .i64 0) := (h5.pull 1).cell 2
      have ff := (h5.pull 1).frozen
      have q0 := ff 0
      have q1 := ff 1
      have q2 := ff 2
      clear ff
      have hz := (((h5.pull 1).set 0 (.int .i64 p1)).set 1 (.int .i64 1)).set 2 (.int .i64 p2)
      have z0 := hz.cell 0
      have z1 := hz.cell 1
      have z2 := hz.cell 2
      have HZ := Lib.hid ((hz.pull 3).below)
      clear hz
      go_wp2
      generalize (((w4.setCell ⟨w.heap.size + 1, 0, none⟩ (.int .i64 p1)).setCell ⟨w.heap.size + 1, 1, none⟩ (.int .i64 1)).setCell ⟨w.heap.size + 1, 2, none⟩ (.int .i64 p2)) = wZ at z0 z1 z2 HZ ⊢
      have z0 : wZ.cell? ⟨w.heap.size + 1, 0, none⟩ = some (.int .i64 p1) := z0
      have z1 : wZ.cell? ⟨w.heap.size + 1, 1, none⟩ = some (.int .i64 1) := z1
      have z2 : wZ.cell? ⟨w.heap.size + 1, 2, none⟩ = some (.int .i64 p2) := z2
      refine ⟨rfl, .agg #[.int .i64 p1, .int .i64 1, .int .i64 p2], ?_, by rw [EP.out]; rfl, HZ.out⟩
      simp [z0, z1, z2, results, Try.results22, go_sem]
    · have hlen : 0 < ws.length := List.length_pos_iff.2 hw
      have ep : pt = ⟨p1, 0, p2⟩ := by rw [HP.out]; simp [hw]
      have EP := Lib.hid ep
      have hgt : decide (0 < ws.length) = true := by simpa using hlen
      have hgz : (0 : Int) < ws.length := by omega
      have l1 := h5.cell 1
      have l2 := h5.frozen 1
      have h6 : Star w (w4.setCell ⟨w.heap.size + 1 + 1, 1, none⟩ (.int .i64 0)) [cellsA (w.heap.size + 1 + 1) #[.int .i64 p1, .int .i64 0, .int .i64 p2] 53, cellsA (w.heap.size + 1) #[.int .i64 0, .int .i64 0, .int .i64 0] 53, cellsA w.heap.size _ 44, oldA w] := h5.set 1 (.int .i64 0)
      have H6 := Lib.hid h6
      clear ep h5 h6 hw
      go_upto_region 5 with fail
      have h6 := H6.out
      generalize w4.setCell ⟨w.heap.size + 1 + 1, 1, none⟩ (.int .i64 0) = w5 at h6 ⊢
      clear H6 l1 l2
      have g0 : w5.cell? ⟨w.heap.size + 1 + 1, 0, none⟩ = some (.int .i64 p1) := h6.cell 0
      have g1 : w5.cell? ⟨w.heap.size + 1 + 1, 1, none⟩ = some (.int .i64 0) := h6.cell 1
      have g2 : w5.cell? ⟨w.heap.size + 1 + 1, 2, none⟩ = some (.int .i64 p2) := h6.cell 2
      have r0 : w5.cell? ⟨w.heap.size + 1, 0, none⟩ = some (.int .i64 0) := (h6.pull 1).cell 0
      have r1 : w5.cell? ⟨w.heap.size + 1, 1, none⟩ = some (.int .i64 0) := (h6.pull 1).cell 1
      have r2 : w5.cell? ⟨w.heap.size + 1, 2, none⟩ = some (.int .i64 0) := (h6.pull 1).cell 2
      have ff := (h6.pull 1).frozen
      have q0 := ff 0
      have q1 := ff 1
      have q2 := ff 2
      clear ff
      have hz := (((h6.pull 1).set 0 (.int .i64 p1)).set 1 (.int .i64 0)).set 2 (.int .i64 p2)
      have z0 := hz.cell 0
      have z1 := hz.cell 1
      have z2 := hz.cell 2
      have HZ := Lib.hid ((hz.pull 3).below)
      clear hz
      go_wp2
      generalize (((w5.setCell ⟨w.heap.size + 1, 0, none⟩ (.int .i64 p1)).setCell ⟨w.heap.size + 1, 1, none⟩ (.int .i64 0)).setCell ⟨w.heap.size + 1, 2, none⟩ (.int .i64 p2)) = wZ at z0 z1 z2 HZ ⊢
      have z0 : wZ.cell? ⟨w.heap.size + 1, 0, none⟩ = some (.int .i64 p1) := z0
      have z1 : wZ.cell? ⟨w.heap.size + 1, 1, none⟩ = some (.int .i64 0) := z1
      have z2 : wZ.cell? ⟨w.heap.size + 1, 2, none⟩ = some (.int .i64 p2) := z2
      refine ⟨rfl, .agg #[.int .i64 p1, .int .i64 0, .int .i64 p2], ?_, by rw [EP.out]; rfl, HZ.out⟩
      simp [z0, z1, z2, results, Try.results22, go_sem]
  · have hfb : (fa == 1) = false := by simpa using hf
    have ep : pt = ⟨p1, 1, p2⟩ := by rw [HP.out]; simp [hf]
    have EP := Lib.hid ep
    clear ep hf
    have g0 : w3.cell? ⟨w.heap.size + 1 + 1, 0, none⟩ = some (.int .i64 p1) := h3.cell 0
    have g1 : w3.cell? ⟨w.heap.size + 1 + 1, 1, none⟩ = some (.int .i64 1) := h3.cell 1
    have g2 : w3.cell? ⟨w.heap.size + 1 + 1, 2, none⟩ = some (.int .i64 p2) := h3.cell 2
    have r0 : w3.cell? ⟨w.heap.size + 1, 0, none⟩ = some (.int .i64 0) := (h3.pull 1).cell 0
    have r1 : w3.cell? ⟨w.heap.size + 1, 1, none⟩ = some (.int .i64 0) := (h3.pull 1).cell 1
    have r2 : w3.cell? ⟨w.heap.size + 1, 2, none⟩ = some (.int .i64 0) := (h3.pull 1).cell 2
    have ff := (h3.pull 1).frozen
    have q0 := ff 0
    have q1 := ff 1
    have q2 := ff 2
    clear ff
    have hz := (((h3.pull 1).set 0 (.int .i64 p1)).set 1 (.int .i64 1)).set 2 (.int .i64 p2)
    have z0 := hz.cell 0
    have z1 := hz.cell 1
    have z2 := hz.cell 2
    have HZ := Lib.hid ((hz.pull 3).below)
    clear hz
    go_wp2
    generalize (((w3.setCell ⟨w.heap.size + 1, 0, none⟩ (.int .i64 p1)).setCell ⟨w.heap.size + 1, 1, none⟩ (.int .i64 1)).setCell ⟨w.heap.size + 1, 2, none⟩ (.int .i64 p2)) = wZ at z0 z1 z2 HZ ⊢
    have z0 : wZ.cell? ⟨w.heap.size + 1, 0, none⟩ = some (.int .i64 p1) := z0
    have z1 : wZ.cell? ⟨w.heap.size + 1, 1, none⟩ = some (.int .i64 1) := z1
    have z2 : wZ.cell? ⟨w.heap.size + 1, 2, none⟩ = some (.int .i64 p2) := z2
    refine ⟨rfl, .agg #[.int .i64 p1, .int .i64 1, .int .i64 p2], ?_, by rw [EP.out]; rfl, HZ.out⟩
    simp [z0, z1, z2, results, Try.results22, go_sem]
end Go.Proofs.Ytljdkfhkpjjfgaa
