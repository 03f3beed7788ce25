/- The document's examples hold: awake, walked: a lemma for the laws of policy. -/
import Derived.Test.YtbfkjlkagkookaaPol6
namespace Go.Proofs.Ytbfkjlkagkookaa
open Go.RowKit
set_option linter.unusedVariables false

def biasC : Cfg := ⟨1, 1, 1, 2, 1, 2⟩
def agingC : Cfg := ⟨1, 1, 1, 3, 1, 2⟩
def twoV : List Vic := [(0, 0, 7, 0), (0, 0, 4, 0)]
set_option maxHeartbeats 1600000 in
theorem awake_any (R : List HA) (W w : World) (hS : Star W w R) : Calls Try.prog 7 #[] w fun e w' => e = .returned (.bool true) ∧ Star W w' R := by
  have h1 := hS.rowNew 33 4 #[.int .i64 0, .int .i64 0, .int .i64 7, .int .i64 0, .int .i64 0, .int .i64 0, .int .i64 4, .int .i64 0] 2 (by simp [maxLen]) rfl
  have hvs : ∀ {R' : List HA} {w' : World}, Star W w' (rowA 33 4 (.slice (some ⟨w.heap.size, 0, none⟩) 2 2) 2 (vrow twoV) :: R') → VSl w' (some ⟨w.heap.size, 0, none⟩) 2 twoV := fun h => h.rowSl.vsl
  have h1' : Star W (w.alloc (.cells #[.int .i64 0, .int .i64 0, .int .i64 7, .int .i64 0, .int .i64 0, .int .i64 0, .int .i64 4, .int .i64 0] 33)) (rowA 33 4 (.slice (some ⟨w.heap.size, 0, none⟩) 2 2) 2 (vrow twoV) :: R) := h1
  have hN : ∀ w0, Star W w0 (rowA 33 4 (.slice (some ⟨w.heap.size, 0, none⟩) 2 2) 2 (vrow twoV) :: R) → Calls Try.prog 12 #[.agg #[.int .i64 1, .int .i64 1, .int .i64 1, .int .i64 2, .int .i64 1, .int .i64 2]] w0 fun e w' => ∃ b, e = .returned (.tuple #[.pointer (some ⟨b, 0, none⟩), .int .i64 0]) ∧ Star W w' (judgeA 56 b biasC 0 :: rowA 33 4 (.slice (some ⟨w.heap.size, 0, none⟩) 2 2) 2 (vrow twoV) :: R) := fun w0 h => new_ok biasC _ W w0 (by rfl) h
  have hV1 : ∀ w0, VSl w0 (some ⟨w.heap.size, 0, none⟩) 2 twoV → Calls Try.prog 9 #[.agg #[.int .i64 1, .int .i64 1, .int .i64 1, .int .i64 3, .int .i64 1, .int .i64 2], .int .i64 5, .int .i64 0, .slice (some ⟨w.heap.size, 0, none⟩) 2 2] w0 fun e w' => e = .returned (.tuple #[.int .i64 3, .int .i64 0]) ∧ Below w0.heap.size w0 w' := fun w0 h => verdict_ok agingC 5 0 _ 2 2 twoV w0 (by rfl) (by decide) h (by decide)
  have hV2 : ∀ w0, VSl w0 (some ⟨w.heap.size, 0, none⟩) 2 twoV → Calls Try.prog 9 #[.agg #[.int .i64 1, .int .i64 1, .int .i64 1, .int .i64 3, .int .i64 1, .int .i64 2], .int .i64 4, .int .i64 0, .slice (some ⟨w.heap.size, 0, none⟩) 2 2] w0 fun e w' => e = .returned (.tuple #[.int .i64 1, .int .i64 0]) ∧ Below w0.heap.size w0 w' := fun w0 h => verdict_ok agingC 4 0 _ 2 2 twoV w0 (by rfl) (by decide) h (by decide)
  have hV3 : ∀ w0, Calls Try.prog 9 #[.agg #[.int .i64 1, .int .i64 1, .int .i64 1, .int .i64 3, .int .i64 1, .int .i64 2], .int .i64 4, .int .i64 (-1), .slice (some ⟨w.heap.size, 0, none⟩) 2 2] w0 fun e w' => e = .returned (.tuple #[.int .i64 0, .int .i64 1]) ∧ Below w0.heap.size w0 w' := fun w0 => verdict_bad agingC 4 (-1) _ 2 2 w0 (by right; decide)
  have hD : ∀ b d z d' w0, verd biasC 1 d 2 twoV = z → decD biasC 1 d 2 twoV = d' → 0 ≤ d → Star W w0 (judgeA 56 b biasC d :: rowA 33 4 (.slice (some ⟨w.heap.size, 0, none⟩) 2 2) 2 (vrow twoV) :: R) → Calls Try.prog 15 #[.pointer (some ⟨b, 0, none⟩), .int .i64 1, .slice (some ⟨w.heap.size, 0, none⟩) 2 2] w0 fun e w' => e = .returned (.int .i64 z) ∧ Star W w' (judgeA 56 b biasC d' :: rowA 33 4 (.slice (some ⟨w.heap.size, 0, none⟩) 2 2) 2 (vrow twoV) :: R) := fun b d z d' w0 e1 e2 hd h => by
    subst e1 e2
    exact decide_any biasC _ W w0 b d 1 _ 2 2 twoV h (by rfl) hd (hvs h.swap) (by decide)
  have H1 := Lib.hid h1'
  have HN := Lib.hid hN
  have HV1 := Lib.hid hV1
  have HV2 := Lib.hid hV2
  have HV3 := Lib.hid hV3
  have HD := Lib.hid hD
  have Hvs : ∀ {R' : List HA} {w' : World}, Hid (Star W w' (rowA 33 4 (.slice (some ⟨w.heap.size, 0, none⟩) 2 2) 2 (vrow twoV) :: R')) → Hid (VSl w' (some ⟨w.heap.size, 0, none⟩) 2 twoV) := fun h => hvs h.out
  clear hS h1 h1' hN hV1 hV2 hV3 hD hvs
  go_enter Try.func7, Try.ntmps7
  go_wp2_with fail
  refine (biased_any _ W _ H1.out).mono ?_
  rintro e w1 ⟨rfl, h2⟩
  go_wp2_with fail
  refine (HN.out _ h2).mono ?_
  rintro e w2 ⟨b, rfl, h3⟩
  go_wp2_with fail
  refine (HD.out b 0 2 1 _ (by rfl) (by rfl) (by decide) h3).mono ?_
  rintro e w3 ⟨rfl, h4⟩
  go_wp2_with fail
  refine (HD.out b 1 2 2 _ (by rfl) (by rfl) (by decide) h4).mono ?_
  rintro e w4 ⟨rfl, h5⟩
  go_wp2_with fail
  refine (HD.out b 2 1 2 _ (by rfl) (by rfl) (by decide) h5).mono ?_
  rintro e w5 ⟨rfl, h6⟩
  clear h2 h3 h4 h5
  go_wp2_with fail
  refine (biased_any _ W _ h6).mono ?_
  rintro e w6 ⟨rfl, h7⟩
  have h8 := h7.new (.cells #[.int .i64 1, .int .i64 1, .int .i64 1, .int .i64 3, .int .i64 1, .int .i64 2] 23)
  clear h6 h7
  have hvv := (Hvs (h8.pull 2)).out
  go_wp2_with fail
  refine (HV1.out _ hvv).mono ?_
  rintro e w7 ⟨rfl, hb7⟩
  have h9 := h8.of_below hb7
  have c10 : w7.cell? ⟨w6.heap.size, 0, none⟩ = some (.int .i64 1) := h9.cell 0
  have c11 : w7.cell? ⟨w6.heap.size, 1, none⟩ = some (.int .i64 1) := h9.cell 1
  have c12 : w7.cell? ⟨w6.heap.size, 2, none⟩ = some (.int .i64 1) := h9.cell 2
  have c13 : w7.cell? ⟨w6.heap.size, 3, none⟩ = some (.int .i64 3) := h9.cell 3
  have c14 : w7.cell? ⟨w6.heap.size, 4, none⟩ = some (.int .i64 1) := h9.cell 4
  have c15 : w7.cell? ⟨w6.heap.size, 5, none⟩ = some (.int .i64 2) := h9.cell 5
  clear h8 hb7 hvv
  have hvv := (Hvs (h9.pull 2)).out
  go_wp2_with fail
  refine (HV2.out _ hvv).mono ?_
  rintro e w8 ⟨rfl, hb8⟩
  have h10 := h9.of_below hb8
  have c20 : w8.cell? ⟨w6.heap.size, 0, none⟩ = some (.int .i64 1) := h10.cell 0
  have c21 : w8.cell? ⟨w6.heap.size, 1, none⟩ = some (.int .i64 1) := h10.cell 1
  have c22 : w8.cell? ⟨w6.heap.size, 2, none⟩ = some (.int .i64 1) := h10.cell 2
  have c23 : w8.cell? ⟨w6.heap.size, 3, none⟩ = some (.int .i64 3) := h10.cell 3
  have c24 : w8.cell? ⟨w6.heap.size, 4, none⟩ = some (.int .i64 1) := h10.cell 4
  have c25 : w8.cell? ⟨w6.heap.size, 5, none⟩ = some (.int .i64 2) := h10.cell 5
  clear h9 hb8 hvv c10 c11 c12 c13 c14 c15
  go_wp2_with fail
  refine (HV3.out _).mono ?_
  rintro e w9 ⟨rfl, hb9⟩
  have h11 := (h10.of_below hb9).drop
  clear h10 hb9 c20 c21 c22 c23 c24 c25
  go_wp2_with fail
  refine (defers_any biasC _ W _ b 2 h11).mono ?_
  rintro e w10 ⟨rfl, rfl⟩
  have hp : promV biasC 2 = true := by rfl
  go_wp2_with fail
  refine (prom_any biasC _ W _ b 2 h11).mono ?_
  rintro e w11 ⟨rfl, m, rfl⟩
  rw [hp]
  go_wp2
  go_ret
  exact ⟨rfl, (h11.drop.drop).drewN m⟩
end Go.Proofs.Ytbfkjlkagkookaa
