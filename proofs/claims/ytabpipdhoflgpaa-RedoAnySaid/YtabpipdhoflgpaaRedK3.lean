/- The log of texts under structs, call by call: lemmas for the law RedoAny. -/
import Derived.Test.YtabpipdhoflgpaaRedK2
namespace Go.Proofs.Ytabpipdhoflgpaa
open Go.RowKit
set_option linter.unusedVariables false

/-- the text that lies behind each -/
def behind : ByteArray := ⟨#[98, 101, 104, 105, 110, 100]⟩
def pairC (v : ByteArray) : Array Value := #[.string v, .string behind]
def LK : LogT Key ByteArray where
  T := 69
  KT := 29
  ksz := 2
  krow := k2
  encK := encKey
  VP := fun v b p => ∃ c, p b = some (.cells #[.slice (some ⟨c, 0, none⟩) 2 2] 22 (0, 0)) ∧ p c = some (.cells (pairC v) 9 (0, 0))
  mono := fun v b p q h ⟨c, h1, h2⟩ => ⟨c, h _ _ h1, h _ _ h2⟩
section
variable (b : Nat) (most : Int) (kvs : List (Key × ByteArray)) (R : List HA) (W w : World)
set_option maxHeartbeats 400000 in
theorem knew_ok (hS : Star W w R) (h1 : 1 ≤ most) (h2 : most ≤ 4096) : Calls Try.prog 6 #[.int .i64 most] w fun e w' => ∃ b, e = .returned (.tuple #[.pointer (some ⟨b, 0, none⟩), .int .i64 0]) ∧ Star W w' (LK.A b most [] :: R) := by
  have hmm := @run_makeMap Try.prog
  have h3 := (hS.mapNew encKey).new (.cells #[.int .i64 most, .slice none 0 0, .map (some w.heap.size)] 69)
  rw [show (w.alloc (.map #[] 0)).heap.size = w.heap.size + 1 by simp] at h3
  have h4 := h3.pick 2 [0, 1]
  have h5 : Star W _ (valsA LK ([] : List (Key × Value)) [] :: _) := ⟨h4.1, noPart, _, (fun k v hm => by cases hm), h4.2, noPart_off _, noPart_le _, Part.le.refl _⟩
  have h6 := ((h5.rowNil 29 2).pick 4 [2, 0, 3, 1])
  have h7 : Star W _ (LK.A (w.heap.size + 1) most [] :: R) := log_shut (P := LK) (a := none) (c := 0) (kvs := []) mapOK_nil rfl rfl h6
  have H7 := Lib.hid h7
  clear hS h3 h4 h5 h6 h7
  go_enter Try.func6, Try.ntmps6
  go_wp2
  go_ret2
  exact ⟨_, rfl, H7.out⟩
set_option maxHeartbeats 400000 in
theorem klen_any (hS : Star W w (LK.A b most kvs :: R)) : Calls Try.prog 10 #[.pointer (some ⟨b, 0, none⟩)] w fun e w' => e = .returned (.int .i64 kvs.length) ∧ w = w' := by
  obtain ⟨a, c, mb, m, ho, h1⟩ := log_open hS
  have c1 : w.cell? ⟨b, 1, none⟩ = some (.slice a kvs.length c) := h1.cell 1
  clear hS h1
  go_enter Try.func10, Try.ntmps10
  go_wp2
  go_ret
  exact ⟨rfl, rfl⟩
set_option maxHeartbeats 800000 in
theorem kkeys_any (hS : Star W w (LK.A b most kvs :: R)) (hn : kvs.length ≤ 1000000) :
    Calls Try.prog 9 #[.pointer (some ⟨b, 0, none⟩)] w fun e w' => ∃ a c, e = .returned (.slice a kvs.length c) ∧ Star W w' (rowA 29 2 (.slice a kvs.length c) kvs.length (k2 (kvs.map (·.1))) :: LK.A b most kvs :: R) := by
  obtain ⟨i3, hi3, hy0, hy1, hy2⟩ := info_parts Try.info29
  obtain ⟨a, c, mb, m, ho, h1⟩ := log_open hS
  have c1 : w.cell? ⟨b, 1, none⟩ = some (.slice a kvs.length c) := h1.cell 1
  have hb := h1.lt
  have hN := (h1.rowNew 29 2 #[] 0 (by simp [maxLen]) rfl)
  have hR : Star W _ (rowA 29 2 (.slice a kvs.length c) kvs.length (k2 (kvs.map (·.1))) :: _) := hN.pull 2
  have hsrc := hR.rowSrc
  clear hS hR
  go_enter Try.func9, Try.ntmps9
  go_wp2_with (at_builtin; refine wpList_append_star_any rfl _ _ 30 rfl 29 i3 _ 2 24 Try.underlying30 hi3 hy0 hy1 hy2 rfl (by decide) _ _ _ rfl hN a kvs.length c (k2 (kvs.map (·.1))) rfl (by simp [k2_len]) hsrc (k2_one _) (by simp only [maxLen]; omega) (by omega) ?_; intro a' c' w1 hS1)
  go_ret
  simp only [Nat.zero_add, List.nil_append] at hS1
  refine ⟨a', c', rfl, ?_⟩
  exact (log_shut (P := LK) ho rfl rfl (hS1.pick 5 [1, 2, 3, 4, 0])).swap
set_option maxHeartbeats 800000 in
theorem kget_hit (k : Key) (v : ByteArray) (hS0 : Star W w (LK.A b most kvs :: R)) (hk : (k, v) ∈ kvs) :
    ∃ c, w.heap[c]? = some (.cells (pairC v) 9 (0, 0)) ∧ ∀ w1, Below w.heap.size w w1 → Calls Try.prog 11 #[.pointer (some ⟨b, 0, none⟩), .agg #[.string k.1, .int .i64 k.2]] w1 fun e w' => e = .returned (.tuple #[.slice (some ⟨c, 0, none⟩) 2 2, .bool true]) ∧ Below w1.heap.size w1 w' := by
  obtain ⟨a, c, mb, m, ho, h1'⟩ := log_open hS0
  obtain ⟨bk, hl, cc, hb', hv⟩ := vals_get (h1'.pull 3) hk
  refine ⟨cc, hv, fun w1 hbel => ?_⟩
  have h1 := h1'.of_below hbel
  have c2 : w1.cell? ⟨b, 2, none⟩ = some (.map (some mb)) := h1.cell 2
  obtain ⟨bk2, hl2, cc2, hb2, hv2⟩ := vals_get (h1.pull 3) hk
  have hb : w1.heap[bk]? = some (.cells #[.slice (some ⟨cc, 0, none⟩) 2 2] 22 (0, 0)) := by
    have := hbel.block bk (Array.getElem?_eq_some_iff.1 hb').1
    exact this.trans hb'
  have hN := h1.new (.cells #[.string k.1, .int .i64 k.2] 29)
  have h0 := (Star.begin w1).new (.cells #[.string k.1, .int .i64 k.2] 29)
  obtain ⟨wO, hwO⟩ : ∃ wO, wO = w1.alloc (.cells #[.string k.1, .int .i64 k.2] 29) := ⟨_, rfl⟩
  have hbw : w1.cell? ⟨bk, 0, none⟩ = some (.slice (some ⟨cc, 0, none⟩) 2 2) := cell_of_row w1 bk 0 #[.slice (some ⟨cc, 0, none⟩) 2 2] 22 (0, 0) hb
  have hc : wO.cell? ⟨bk, 0, none⟩ = some (.slice (some ⟨cc, 0, none⟩) 2 2) := by rw [hwO, h0.swap.oldCell (World.block_lt_of_cell? w1 _ hbw)]; exact hbw
  have d2 : wO.cell? ⟨b, 2, none⟩ = some (.map (some mb)) := by rw [hwO, h0.swap.oldCell (World.block_lt_of_cell? w1 _ c2)]; exact c2
  rw [← hwO] at hN h0
  have e0 : wO.cell? ⟨w1.heap.size, 0, none⟩ = some (.string k.1) := h0.cell 0
  have e1 : wO.cell? ⟨w1.heap.size, 1, none⟩ = some (.int .i64 k.2) := h0.cell 1
  have hlk : ∀ n, (Instr.lookup 67 (.map (some mb)) (.agg #[.string k.1, .int .i64 k.2]) false).run Try.prog (wO.drewN n) = .ok (.slice (some ⟨bk, 0, none⟩) 1 1) (wO.drewN n) := by
    intro n
    have := run_lookup_k keyOK Try.underlying67 zero72 ((hN.drewN n).pull 3) k false
    rw [hl] at this
    exact this
  have H0 := Lib.hid h0
  have HV := Lib.hid hv
  clear hS0 h1 hb hl hN h0 hv c2 hbw h1' hb' hbel hl2 hb2 hv2
  go_enter Try.func11, Try.ntmps11
  go_wp2_with fail
  rw [← hwO]
  clear hwO
  go_quiet (fail)
  go_wp2
  go_ret2
  exact ⟨rfl, ((H0.out.drewN _).pull 1).below⟩
end
end Go.Proofs.Ytabpipdhoflgpaa
