/- The log of texts under structs, call by call (At, Put, Drop): lemmas for the law RedoAny. -/
import Derived.Test.YtabpipdhoflgpaaRedK3
namespace Go.Proofs.Ytabpipdhoflgpaa
open Go.RowKit
set_option linter.unusedVariables false

section
variable (b : Nat) (most : Int) (kvs : List (Key × ByteArray)) (R : List HA) (W w : World)
set_option maxHeartbeats 1600000 in
set_option maxRecDepth 100000 in
theorem kat_ok (j : Nat) (k : Key) (v : ByteArray) (hS : Star W w (LK.A b most kvs :: R)) (hn : kvs.length ≤ 1000000) (hj : kvs[j]? = some (k, v)) :
    ∃ c, w.heap[c]? = some (.cells (pairC v) 9 (0, 0)) ∧ ∀ w1, Below w.heap.size w w1 → Calls Try.prog 12 #[.pointer (some ⟨b, 0, none⟩), .int .i64 j] w1 fun e w' => e = .returned (.tuple #[.agg #[.string k.1, .int .i64 k.2], .slice (some ⟨c, 0, none⟩) 2 2, .int .i64 0]) ∧ Below w1.heap.size w1 w' := by
  have hjk : (kvs.map (·.1))[j]? = some k := by rw [List.getElem?_map, hj]; rfl
  have hjl : j < kvs.length := (List.getElem?_eq_some_iff.1 hj).1
  obtain ⟨c, hc, hG⟩ := kget_hit b most kvs R W w k v hS (List.mem_of_getElem? hj)
  refine ⟨c, hc, fun w1 hb1 => ?_⟩
  obtain ⟨a, cc, mb, m, ho, h1⟩ := log_open hS
  have h2 := ((h1.of_below hb1).new (.cells #[.string ⟨#[]⟩, .int .i64 0] 29)).new (.cells #[.string ⟨#[]⟩, .int .i64 0] 29)
  have h0 := ((Star.begin w1).new (.cells #[.string ⟨#[]⟩, .int .i64 0] 29)).new (.cells #[.string ⟨#[]⟩, .int .i64 0] 29)
  obtain ⟨wO, hwO⟩ : ∃ wO, wO = (w1.alloc (.cells #[.string ⟨#[]⟩, .int .i64 0] 29)).alloc (.cells #[.string ⟨#[]⟩, .int .i64 0] 29) := ⟨_, rfl⟩
  rw [← hwO] at h2 h0
  rw [show (w1.alloc (.cells #[.string ⟨#[]⟩, .int .i64 0] 29)).heap.size = w1.heap.size + 1 by simp] at h0
  have hG1 := hG wO (hb1.trans ((h0.pull 2).below.mono hb1.size))
  have c1 : wO.cell? ⟨b, 1, none⟩ = some (.slice a kvs.length cc) := (h2.pull 2).cell 1
  have hR : Star W wO (rowA 29 2 (.slice a kvs.length cc) kvs.length (k2 (kvs.map (·.1))) :: _) := h2.pull 3
  obtain ⟨g, rfl, _, _, hck, _⟩ := hR.rowAt (by omega)
  obtain ⟨x1, x2⟩ := k2_at hjk
  have f1 : wO.cell? ⟨g, j * 2, none⟩ = some (.string k.1) := by rw [hck _ (by omega), x1]
  have f2 : wO.cell? ⟨g, j * 2 + 1, none⟩ = some (.int .i64 k.2) := by rw [hck _ (by omega), x2]
  have f1b := World.block_lt_of_cell? wO _ f1
  have c1b := World.block_lt_of_cell? wO _ c1
  have hjz : (j : Int) < kvs.length := by omega
  have HG := Lib.hid hG1
  clear hS h1 h2 hR hck hj hjk x1 x2 hG1 hG hc ho hb1
  subst hwO
  go_enter Try.func12, Try.ntmps12
  go_wp2_with fail
  refine HG.out.mono ?_
  rintro e w2 ⟨rfl, hb2⟩
  have h3 := h0.of_below hb2
  have d1 : w2.cell? ⟨b, 1, none⟩ = some (.slice (some ⟨g, 0, none⟩) kvs.length cc) := (hb2.cell c1b).trans c1
  have g1 : w2.cell? ⟨g, j * 2, none⟩ = some (.string k.1) := (hb2.cell f1b).trans f1
  have g2 : w2.cell? ⟨g, j * 2 + 1, none⟩ = some (.int .i64 k.2) := (hb2.cell f1b).trans f2
  have h4 := h3.swap
  have b0 : w2.cell? ⟨w1.heap.size, 0, none⟩ = some (.string ⟨#[]⟩) := h4.cell 0
  have b1 : w2.cell? ⟨w1.heap.size, 1, none⟩ = some (.int .i64 0) := h4.cell 1
  have b2 := h4.frozen
  have h5 := h4.set 0 (.string k.1)
  have h6 := h5.set 1 (.int .i64 k.2)
  have q0 : (w2.setCell ⟨w1.heap.size, 0, none⟩ (.string k.1)).cell? ⟨w1.heap.size, 0, none⟩ = some (.string k.1) := h5.cell 0
  have q1 : ((w2.setCell ⟨w1.heap.size, 0, none⟩ (.string k.1)).setCell ⟨w1.heap.size, 1, none⟩ (.int .i64 k.2)).cell? ⟨w1.heap.size, 1, none⟩ = some (.int .i64 k.2) := h6.cell 1
  have H5 := Lib.hid ((h6.pull 2).below)
  clear h5 h6
  clear c1 f1 f2 h0 h3 h4
  clear f1b c1b
  go_wp2
  refine bodyPost_ret (v := .tuple #[.agg #[.string k.1, .int .i64 k.2], .slice (some ⟨c, 0, none⟩) 2 2, .int .i64 0]) (by simp [results, Try.results12, go_sem, q0, q1]) rfl ⟨rfl, H5.out⟩
end
end Go.Proofs.Ytabpipdhoflgpaa
