/- Contracts of the logs by numbers, walked: lemmas for the laws of redo. Printed by gen_redo.py. -/
import Derived.Test.YtabpipdhoflgpaaRed4
namespace Go.Proofs.Ytabpipdhoflgpaa
open Go.RowKit
set_option linter.unusedVariables false

theorem miss_of {α : Type} [DecidableEq α] {ks : List α} {k : α} (h : placeZ ks k = -1) : k ∉ ks := by
  intro hm
  rw [placeZ, if_pos hm] at h
  omega
theorem wf_ref {b : Nat} {t : TypeId} {w : World} {L : List HA} {W : World} {cs : Array Value} (h : Star W w (cellsA b cs t :: L)) : b < w.heap.size := h.lt


def LI : LogT Int Int where
  T := 75
  KT := 3
  ksz := 1
  krow := ints
  encK := encI
  VP := fun v b p => p b = some (.cells #[.int .i64 v] 2 (0, 0))
  mono := fun v b p q h hp => h _ _ hp
theorem zero51 (w : World) : (zeroValue 51).run Try.prog w = .ok (.slice none 0 0) w := by kernel_rfl
section
variable (b : Nat) (most : Int) (kvs : List (Int × Int)) (R : List HA) (W w : World)
set_option maxHeartbeats 400000 in
theorem inew_bad (h : most < 1 ∨ 4096 < most) : Calls Try.prog 13 #[.int .i64 most] w fun e w' => e = .returned (.tuple #[.pointer none, .int .i64 1]) ∧ w = w' := by
  by_cases h1 : most < 1
  · go_enter Try.func13, Try.ntmps13
    go_wp2
    go_ret2
    exact ⟨rfl, rfl⟩
  · have h2 : 4096 < most := by omega
    go_enter Try.func13, Try.ntmps13
    go_wp2
    go_ret2
    exact ⟨rfl, rfl⟩
set_option maxHeartbeats 400000 in
theorem inew_ok (hS : Star W w R) (h1 : 1 ≤ most) (h2 : most ≤ 4096) : Calls Try.prog 13 #[.int .i64 most] w fun e w' => ∃ b, e = .returned (.tuple #[.pointer (some ⟨b, 0, none⟩), .int .i64 0]) ∧ Star W w' (LI.A b most [] :: R) := by
  have hmm := @run_makeMap Try.prog
  have h3 := (hS.mapNew encI).new (.cells #[.int .i64 most, .slice none 0 0, .map (some w.heap.size)] 75)
  rw [show (w.alloc (.map #[] 0)).heap.size = w.heap.size + 1 by simp] at h3
  have h4 := h3.pick 2 [0, 1]
  have h5 : Star W _ (valsA LI ([] : List (Int × Value)) [] :: _) := ⟨h4.1, noPart, _, (fun k v hm => by cases hm), h4.2, noPart_off _, noPart_le _, Part.le.refl _⟩
  have h6 := ((h5.rowNil 3 1).pick 4 [2, 0, 3, 1])
  have h7 : Star W _ (LI.A (w.heap.size + 1) most [] :: R) := log_shut (P := LI) (a := none) (c := 0) (kvs := []) mapOK_nil rfl rfl h6
  have H7 := Lib.hid h7
  clear hS h3 h4 h5 h6 h7
  go_enter Try.func13, Try.ntmps13
  go_wp2
  go_ret2
  exact ⟨_, rfl, H7.out⟩
set_option maxHeartbeats 400000 in
theorem ilen_any (hS : Star W w (LI.A b most kvs :: R)) : Calls Try.prog 16 #[.pointer (some ⟨b, 0, none⟩)] w fun e w' => e = .returned (.int .i64 kvs.length) ∧ w = w' := by
  obtain ⟨a, c, mb, m, ho, h1⟩ := log_open hS
  have c1 : w.cell? ⟨b, 1, none⟩ = some (.slice a kvs.length c) := h1.cell 1
  clear hS h1
  go_enter Try.func16, Try.ntmps16
  go_wp2
  go_ret
  exact ⟨rfl, rfl⟩
set_option maxHeartbeats 800000 in
theorem iget_hit (k : Int) (v : Int) (hS : Star W w (LI.A b most kvs :: R)) (hk : (k, v) ∈ kvs) :
    Calls Try.prog 29 #[.pointer (some ⟨b, 0, none⟩), .int .i64 k] w fun e w' => e = .returned (.tuple #[.int .i64 v, .bool true]) ∧ w = w' := by
  obtain ⟨a, c, mb, m, ho, h1⟩ := log_open hS
  have c2 : w.cell? ⟨b, 2, none⟩ = some (.map (some mb)) := h1.cell 2
  obtain ⟨bk, hl, hb⟩ := vals_get (h1.pull 3) hk
  have hc : w.cell? ⟨bk, 0, none⟩ = some (.int .i64 v) := cell_of_row w bk 0 #[.int .i64 v] 2 (0, 0) hb
  have hlk : (Instr.lookup 73 (.map (some mb)) (.int .i64 k) false).run Try.prog w = .ok (.slice (some ⟨bk, 0, none⟩) 1 1) w := by
    have := run_lookup_m Try.underlying73 Try.underlying3 encI_key encI_inj zero51 (h1.pull 2) k false
    rw [hl] at this
    exact this
  clear hS h1 hb hl
  go_enter Try.func29, Try.ntmps29
  go_wp2
  go_ret2
  exact ⟨rfl, rfl⟩
set_option maxHeartbeats 800000 in
theorem iget_miss (k : Int) (hS : Star W w (LI.A b most kvs :: R)) (hk : k ∉ kvs.map (·.1)) :
    Calls Try.prog 29 #[.pointer (some ⟨b, 0, none⟩), .int .i64 k] w fun e w' => e = .returned (.tuple #[.int .i64 0, .bool false]) ∧ w = w' := by
  obtain ⟨a, c, mb, m, ho, h1⟩ := log_open hS
  have c2 : w.cell? ⟨b, 2, none⟩ = some (.map (some mb)) := h1.cell 2
  have hl := ho.out k hk
  have hlk : (Instr.lookup 73 (.map (some mb)) (.int .i64 k) false).run Try.prog w = .ok (.slice none 0 0) w := by
    have := run_lookup_m Try.underlying73 Try.underlying3 encI_key encI_inj zero51 (h1.pull 2) k false
    rw [hl] at this
    exact this
  clear hS h1 hl ho hk
  go_enter Try.func29, Try.ntmps29
  go_wp2
  go_ret2
  exact ⟨rfl, rfl⟩
set_option maxHeartbeats 800000 in
theorem iat_bad (i : Int) (hS : Star W w (LI.A b most kvs :: R)) (hi : i < 0 ∨ (kvs.length : Int) ≤ i) :
    Calls Try.prog 17 #[.pointer (some ⟨b, 0, none⟩), .int .i64 i] w fun e w' => e = .returned (.tuple #[.int .i64 0, .int .i64 0, .int .i64 2]) ∧ w = w' := by
  obtain ⟨a, c, mb, m, ho, h1⟩ := log_open hS
  have c1 : w.cell? ⟨b, 1, none⟩ = some (.slice a kvs.length c) := h1.cell 1
  clear hS h1
  by_cases h0 : i < 0
  · go_enter Try.func17, Try.ntmps17
    go_wp2
    go_ret3
    exact ⟨rfl, rfl⟩
  · have hi2 : (kvs.length : Int) ≤ i := by omega
    go_enter Try.func17, Try.ntmps17
    go_wp2
    go_ret3
    exact ⟨rfl, rfl⟩
set_option maxHeartbeats 800000 in
theorem iat_ok (j : Nat) (k : Int) (v : Int) (hS : Star W w (LI.A b most kvs :: R)) (hn : kvs.length ≤ 1000000) (hj : kvs[j]? = some (k, v)) :
    Calls Try.prog 17 #[.pointer (some ⟨b, 0, none⟩), .int .i64 j] w fun e w' => e = .returned (.tuple #[.int .i64 k, .int .i64 v, .int .i64 0]) ∧ w = w' := by
  have hG := iget_hit b most kvs R W w k v hS (List.mem_of_getElem? hj)
  obtain ⟨a, c, mb, m, ho, h1⟩ := log_open hS
  have hjl : j < kvs.length := (List.getElem?_eq_some_iff.1 hj).1
  have c1 : w.cell? ⟨b, 1, none⟩ = some (.slice a kvs.length c) := h1.cell 1
  have h2 : Star W w (rowA 3 1 (.slice a kvs.length c) kvs.length (ints (kvs.map (·.1))) :: _) := h1.pull 1
  obtain ⟨g, rfl, _, _, hck, _⟩ := h2.rowAt (by omega)
  have hcj := hck j (by omega)
  simp only [ints, List.getElem?_map, hj, Option.map_some] at hcj
  have hjz : (j : Int) < kvs.length := by omega
  have HG := Lib.hid hG
  clear hS h1 h2 hck hj hG ho
  go_enter Try.func17, Try.ntmps17
  go_wp2_with fail
  refine HG.out.mono ?_
  rintro e w1 ⟨rfl, rfl⟩
  go_wp2
  go_ret3
  exact ⟨rfl, rfl⟩
set_option maxHeartbeats 800000 in
theorem iput_full (k : Int) (v : Int) (hS : Star W w (LI.A b most kvs :: R)) (hk : k ∉ kvs.map (·.1)) (hf : most ≤ kvs.length) :
    Calls Try.prog 27 #[.pointer (some ⟨b, 0, none⟩), .int .i64 k, .int .i64 v] w fun e w' => e = .returned (.int .i64 11) ∧ ∃ m, w' = w.drewN m := by
  obtain ⟨a, c, mb, m, ho, h1⟩ := log_open hS
  have c0 : w.cell? ⟨b, 0, none⟩ = some (.int .i64 most) := h1.cell 0
  have c1 : w.cell? ⟨b, 1, none⟩ = some (.slice a kvs.length c) := h1.cell 1
  have c2 : w.cell? ⟨b, 2, none⟩ = some (.map (some mb)) := h1.cell 2
  have hl := ho.out k hk
  have hlk : (Instr.lookup 73 (.map (some mb)) (.int .i64 k) false).run Try.prog w = .ok (.slice none 0 0) w := by
    have := run_lookup_m Try.underlying73 Try.underlying3 encI_key encI_inj zero51 (h1.pull 2) k false
    rw [hl] at this
    exact this
  clear hS h1 hl ho hk
  go_enter Try.func27, Try.ntmps27
  go_wp2
  go_quiet (fail)
  go_wp2
  go_ret
  exact ⟨rfl, _, rfl⟩
set_option maxHeartbeats 800000 in
theorem iput_hit (k : Int) (v v0 : Int) (j : Nat) (hS : Star W w (LI.A b most kvs :: R)) (hj : kvs[j]? = some (k, v0)) :
    Calls Try.prog 27 #[.pointer (some ⟨b, 0, none⟩), .int .i64 k, .int .i64 v] w fun e w' => e = .returned (.int .i64 0) ∧ Star W w' (LI.A b most (kvs.set j (k, v)) :: R) := by
  have hjk : (kvs.map (·.1))[j]? = some k := by rw [List.getElem?_map, hj]; rfl
  obtain ⟨a, c, mb, m, ho, h1⟩ := log_open hS
  have c2 : w.cell? ⟨b, 2, none⟩ = some (.map (some mb)) := h1.cell 2
  obtain ⟨bk, hl, hb⟩ := vals_get (h1.pull 3) (List.mem_of_getElem? hj)
  have hlk : (Instr.lookup 73 (.map (some mb)) (.int .i64 k) false).run Try.prog w = .ok (.slice (some ⟨bk, 0, none⟩) 1 1) w := by
    have := run_lookup_m Try.underlying73 Try.underlying3 encI_key encI_inj zero51 (h1.pull 2) k false
    rw [hl] at this
    exact this
  have h2 := (h1.new (.cells #[.int .i64 v] 2)).pick 4 [3, 1, 2, 0]
  clear hS hb hl hj
  go_enter Try.func27, Try.ntmps27
  go_wp2_with (refine wpList_update_star rfl _ _ _ 73 rfl Try.underlying73 Try.underlying3 encI_key encI_inj rfl k rfl _ rfl h2 ?_; intro w2 h3)
  go_ret
  refine ⟨rfl, ?_⟩
  have h4 := vals_put (P := LI) (m := m) (kvs := kvs) (k := k) (v := v) (bk := w.heap.size) (h3.pick 5 [3, 4, 1, 2, 0]) (fun p hp => hp) (set_mem ho.nd2 hjk)
  refine log_shut (P := LI) (mapOK_set ho hjk) (by simp) ?_ (h4.pick 4 [1, 2, 3, 0])
  rw [List.map_set, set_same hjk]
set_option maxHeartbeats 800000 in
theorem iput_room (k : Int) (v : Int) (hS : Star W w (LI.A b most kvs :: R)) (hn : kvs.length ≤ 1000000) (hk : k ∉ kvs.map (·.1)) (hf : (kvs.length : Int) < most) :
    Calls Try.prog 27 #[.pointer (some ⟨b, 0, none⟩), .int .i64 k, .int .i64 v] w fun e w' => e = .returned (.int .i64 0) ∧ Star W w' (LI.A b most (kvs ++ [(k, v)]) :: R) := by
  obtain ⟨i3, hi3, hy0, hy1, hy2⟩ := info_parts Try.info3
  obtain ⟨a, c, mb, m, ho, h1⟩ := log_open hS
  have c0 : w.cell? ⟨b, 0, none⟩ = some (.int .i64 most) := h1.cell 0
  have c1 : w.cell? ⟨b, 1, none⟩ = some (.slice a kvs.length c) := h1.cell 1
  have c2 : w.cell? ⟨b, 2, none⟩ = some (.map (some mb)) := h1.cell 2
  have hb := h1.lt
  have hl := ho.out k hk
  have hlk : (Instr.lookup 73 (.map (some mb)) (.int .i64 k) false).run Try.prog w = .ok (.slice none 0 0) w := by
    have := run_lookup_m Try.underlying73 Try.underlying3 encI_key encI_inj zero51 (h1.pull 2) k false
    rw [hl] at this
    exact this
  have h1' : Star W w (rowA 3 1 (.slice a kvs.length c) kvs.length (ints (kvs.map (·.1))) :: _) := h1.pull 1
  clear hS hl
  have tok1 : True := trivial
  go_enter Try.func27, Try.ntmps27
  go_wp2
  go_quiet (fail)
  go_wp2_with (first
    | (at_builtin; have _t := tok1; refine wpList_append_star rfl _ _ 50 rfl 3 i3 _ 1 8 Try.underlying50 hi3 hy0 hy1 hy2 rfl (by decide) _ _ _ rfl (((h1'.drewN _).new _).pull 1) ⟨w.heap.size, 0, none⟩ 1 1 [.int .i64 k] rfl rfl (cell_one_new _ _ _) (by simp [Value.oneCell']) (by simp only [maxLen]; omega) (by omega) ?_; intro a' c' w1 hS1; have hS1' := (hS1.pick 3 [2, 0]).set 1 (.slice a' (kvs.length + 1) c'); have d1 : w1.cell? ⟨b, 1, none⟩ = some (.slice a kvs.length c) := (hS1.pull 2).cell 1; have d1f := (hS1.pull 2).frozen 1; have d2 : (w1.setCell ⟨b, 1, none⟩ (.slice a' (kvs.length + 1) c')).cell? ⟨b, 2, none⟩ = some (.map (some mb)) := hS1'.cell 2; have h5 := (hS1'.new (.cells #[.int .i64 v] 2)).pick 4 [3, 1, 2, 0]; rw [show (w1.setCell ⟨b, 1, none⟩ (.slice a' (kvs.length + 1) c')).heap.size = w1.heap.size by simp] at h5; clear tok1)
    | (refine wpList_update_star rfl _ _ _ 73 rfl Try.underlying73 Try.underlying3 encI_key encI_inj rfl k rfl _ rfl h5 ?_; intro w2 h3))
  go_ret
  refine ⟨rfl, ?_⟩
  have h4 := vals_put (P := LI) (m := m) (kvs := kvs) (k := k) (v := v) (bk := w1.heap.size) (h3.pick 5 [3, 4, 1, 2, 0]) (fun p hp => hp) (add_mem hk)
  refine log_shut (P := LI) (mapOK_add ho hk) (by simp) ?_ (h4.pick 4 [1, 2, 3, 0])
  simp [LI, ints]
end


def LS : LogT Int ByteArray where
  T := 82
  KT := 3
  ksz := 1
  krow := ints
  encK := encI
  VP := fun v b p => p b = some (.cells #[.string v] 9 (0, 0))
  mono := fun v b p q h hp => h _ _ hp
theorem zero22 (w : World) : (zeroValue 22).run Try.prog w = .ok (.slice none 0 0) w := by kernel_rfl
section
variable (b : Nat) (most : Int) (kvs : List (Int × ByteArray)) (R : List HA) (W w : World)
set_option maxHeartbeats 400000 in
theorem snew_bad (h : most < 1 ∨ 4096 < most) : Calls Try.prog 20 #[.int .i64 most] w fun e w' => e = .returned (.tuple #[.pointer none, .int .i64 1]) ∧ w = w' := by
  by_cases h1 : most < 1
  · go_enter Try.func20, Try.ntmps20
    go_wp2
    go_ret2
    exact ⟨rfl, rfl⟩
  · have h2 : 4096 < most := by omega
    go_enter Try.func20, Try.ntmps20
    go_wp2
    go_ret2
    exact ⟨rfl, rfl⟩
set_option maxHeartbeats 400000 in
theorem snew_ok (hS : Star W w R) (h1 : 1 ≤ most) (h2 : most ≤ 4096) : Calls Try.prog 20 #[.int .i64 most] w fun e w' => ∃ b, e = .returned (.tuple #[.pointer (some ⟨b, 0, none⟩), .int .i64 0]) ∧ Star W w' (LS.A b most [] :: R) := by
  have hmm := @run_makeMap Try.prog
  have h3 := (hS.mapNew encI).new (.cells #[.int .i64 most, .slice none 0 0, .map (some w.heap.size)] 82)
  rw [show (w.alloc (.map #[] 0)).heap.size = w.heap.size + 1 by simp] at h3
  have h4 := h3.pick 2 [0, 1]
  have h5 : Star W _ (valsA LS ([] : List (Int × Value)) [] :: _) := ⟨h4.1, noPart, _, (fun k v hm => by cases hm), h4.2, noPart_off _, noPart_le _, Part.le.refl _⟩
  have h6 := ((h5.rowNil 3 1).pick 4 [2, 0, 3, 1])
  have h7 : Star W _ (LS.A (w.heap.size + 1) most [] :: R) := log_shut (P := LS) (a := none) (c := 0) (kvs := []) mapOK_nil rfl rfl h6
  have H7 := Lib.hid h7
  clear hS h3 h4 h5 h6 h7
  go_enter Try.func20, Try.ntmps20
  go_wp2
  go_ret2
  exact ⟨_, rfl, H7.out⟩
set_option maxHeartbeats 400000 in
theorem slen_any (hS : Star W w (LS.A b most kvs :: R)) : Calls Try.prog 24 #[.pointer (some ⟨b, 0, none⟩)] w fun e w' => e = .returned (.int .i64 kvs.length) ∧ w = w' := by
  obtain ⟨a, c, mb, m, ho, h1⟩ := log_open hS
  have c1 : w.cell? ⟨b, 1, none⟩ = some (.slice a kvs.length c) := h1.cell 1
  clear hS h1
  go_enter Try.func24, Try.ntmps24
  go_wp2
  go_ret
  exact ⟨rfl, rfl⟩
set_option maxHeartbeats 800000 in
theorem sget_hit (k : Int) (v : ByteArray) (hS : Star W w (LS.A b most kvs :: R)) (hk : (k, v) ∈ kvs) :
    Calls Try.prog 22 #[.pointer (some ⟨b, 0, none⟩), .int .i64 k] w fun e w' => e = .returned (.tuple #[.string v, .bool true]) ∧ w = w' := by
  obtain ⟨a, c, mb, m, ho, h1⟩ := log_open hS
  have c2 : w.cell? ⟨b, 2, none⟩ = some (.map (some mb)) := h1.cell 2
  obtain ⟨bk, hl, hb⟩ := vals_get (h1.pull 3) hk
  have hc : w.cell? ⟨bk, 0, none⟩ = some (.string v) := cell_of_row w bk 0 #[.string v] 9 (0, 0) hb
  have hlk : (Instr.lookup 80 (.map (some mb)) (.int .i64 k) false).run Try.prog w = .ok (.slice (some ⟨bk, 0, none⟩) 1 1) w := by
    have := run_lookup_m Try.underlying80 Try.underlying3 encI_key encI_inj zero22 (h1.pull 2) k false
    rw [hl] at this
    exact this
  clear hS h1 hb hl
  go_enter Try.func22, Try.ntmps22
  go_wp2
  go_ret2
  exact ⟨rfl, rfl⟩
set_option maxHeartbeats 800000 in
theorem sget_miss (k : Int) (hS : Star W w (LS.A b most kvs :: R)) (hk : k ∉ kvs.map (·.1)) :
    Calls Try.prog 22 #[.pointer (some ⟨b, 0, none⟩), .int .i64 k] w fun e w' => e = .returned (.tuple #[.string ⟨#[]⟩, .bool false]) ∧ w = w' := by
  obtain ⟨a, c, mb, m, ho, h1⟩ := log_open hS
  have c2 : w.cell? ⟨b, 2, none⟩ = some (.map (some mb)) := h1.cell 2
  have hl := ho.out k hk
  have hlk : (Instr.lookup 80 (.map (some mb)) (.int .i64 k) false).run Try.prog w = .ok (.slice none 0 0) w := by
    have := run_lookup_m Try.underlying80 Try.underlying3 encI_key encI_inj zero22 (h1.pull 2) k false
    rw [hl] at this
    exact this
  clear hS h1 hl ho hk
  go_enter Try.func22, Try.ntmps22
  go_wp2
  go_ret2
  exact ⟨rfl, rfl⟩
set_option maxHeartbeats 800000 in
theorem sat_bad (i : Int) (hS : Star W w (LS.A b most kvs :: R)) (hi : i < 0 ∨ (kvs.length : Int) ≤ i) :
    Calls Try.prog 23 #[.pointer (some ⟨b, 0, none⟩), .int .i64 i] w fun e w' => e = .returned (.tuple #[.int .i64 0, .string ⟨#[]⟩, .int .i64 2]) ∧ w = w' := by
  obtain ⟨a, c, mb, m, ho, h1⟩ := log_open hS
  have c1 : w.cell? ⟨b, 1, none⟩ = some (.slice a kvs.length c) := h1.cell 1
  clear hS h1
  by_cases h0 : i < 0
  · go_enter Try.func23, Try.ntmps23
    go_wp2
    go_ret3
    exact ⟨rfl, rfl⟩
  · have hi2 : (kvs.length : Int) ≤ i := by omega
    go_enter Try.func23, Try.ntmps23
    go_wp2
    go_ret3
    exact ⟨rfl, rfl⟩
set_option maxHeartbeats 800000 in
theorem sat_ok (j : Nat) (k : Int) (v : ByteArray) (hS : Star W w (LS.A b most kvs :: R)) (hn : kvs.length ≤ 1000000) (hj : kvs[j]? = some (k, v)) :
    Calls Try.prog 23 #[.pointer (some ⟨b, 0, none⟩), .int .i64 j] w fun e w' => e = .returned (.tuple #[.int .i64 k, .string v, .int .i64 0]) ∧ w = w' := by
  have hG := sget_hit b most kvs R W w k v hS (List.mem_of_getElem? hj)
  obtain ⟨a, c, mb, m, ho, h1⟩ := log_open hS
  have hjl : j < kvs.length := (List.getElem?_eq_some_iff.1 hj).1
  have c1 : w.cell? ⟨b, 1, none⟩ = some (.slice a kvs.length c) := h1.cell 1
  have h2 : Star W w (rowA 3 1 (.slice a kvs.length c) kvs.length (ints (kvs.map (·.1))) :: _) := h1.pull 1
  obtain ⟨g, rfl, _, _, hck, _⟩ := h2.rowAt (by omega)
  have hcj := hck j (by omega)
  simp only [ints, List.getElem?_map, hj, Option.map_some] at hcj
  have hjz : (j : Int) < kvs.length := by omega
  have HG := Lib.hid hG
  clear hS h1 h2 hck hj hG ho
  go_enter Try.func23, Try.ntmps23
  go_wp2_with fail
  refine HG.out.mono ?_
  rintro e w1 ⟨rfl, rfl⟩
  go_wp2
  go_ret3
  exact ⟨rfl, rfl⟩
set_option maxHeartbeats 800000 in
theorem sput_full (k : Int) (v : ByteArray) (hS : Star W w (LS.A b most kvs :: R)) (hk : k ∉ kvs.map (·.1)) (hf : most ≤ kvs.length) :
    Calls Try.prog 21 #[.pointer (some ⟨b, 0, none⟩), .int .i64 k, .string v] w fun e w' => e = .returned (.int .i64 11) ∧ ∃ m, w' = w.drewN m := by
  obtain ⟨a, c, mb, m, ho, h1⟩ := log_open hS
  have c0 : w.cell? ⟨b, 0, none⟩ = some (.int .i64 most) := h1.cell 0
  have c1 : w.cell? ⟨b, 1, none⟩ = some (.slice a kvs.length c) := h1.cell 1
  have c2 : w.cell? ⟨b, 2, none⟩ = some (.map (some mb)) := h1.cell 2
  have hl := ho.out k hk
  have hlk : (Instr.lookup 80 (.map (some mb)) (.int .i64 k) false).run Try.prog w = .ok (.slice none 0 0) w := by
    have := run_lookup_m Try.underlying80 Try.underlying3 encI_key encI_inj zero22 (h1.pull 2) k false
    rw [hl] at this
    exact this
  clear hS h1 hl ho hk
  go_enter Try.func21, Try.ntmps21
  go_wp2
  go_quiet (fail)
  go_wp2
  go_ret
  exact ⟨rfl, _, rfl⟩
set_option maxHeartbeats 800000 in
theorem sput_hit (k : Int) (v v0 : ByteArray) (j : Nat) (hS : Star W w (LS.A b most kvs :: R)) (hj : kvs[j]? = some (k, v0)) :
    Calls Try.prog 21 #[.pointer (some ⟨b, 0, none⟩), .int .i64 k, .string v] w fun e w' => e = .returned (.int .i64 0) ∧ Star W w' (LS.A b most (kvs.set j (k, v)) :: R) := by
  have hjk : (kvs.map (·.1))[j]? = some k := by rw [List.getElem?_map, hj]; rfl
  obtain ⟨a, c, mb, m, ho, h1⟩ := log_open hS
  have c2 : w.cell? ⟨b, 2, none⟩ = some (.map (some mb)) := h1.cell 2
  obtain ⟨bk, hl, hb⟩ := vals_get (h1.pull 3) (List.mem_of_getElem? hj)
  have hlk : (Instr.lookup 80 (.map (some mb)) (.int .i64 k) false).run Try.prog w = .ok (.slice (some ⟨bk, 0, none⟩) 1 1) w := by
    have := run_lookup_m Try.underlying80 Try.underlying3 encI_key encI_inj zero22 (h1.pull 2) k false
    rw [hl] at this
    exact this
  have h2 := (h1.new (.cells #[.string v] 9)).pick 4 [3, 1, 2, 0]
  clear hS hb hl hj
  go_enter Try.func21, Try.ntmps21
  go_wp2_with (refine wpList_update_star rfl _ _ _ 80 rfl Try.underlying80 Try.underlying3 encI_key encI_inj rfl k rfl _ rfl h2 ?_; intro w2 h3)
  go_ret
  refine ⟨rfl, ?_⟩
  have h4 := vals_put (P := LS) (m := m) (kvs := kvs) (k := k) (v := v) (bk := w.heap.size) (h3.pick 5 [3, 4, 1, 2, 0]) (fun p hp => hp) (set_mem ho.nd2 hjk)
  refine log_shut (P := LS) (mapOK_set ho hjk) (by simp) ?_ (h4.pick 4 [1, 2, 3, 0])
  rw [List.map_set, set_same hjk]
set_option maxHeartbeats 800000 in
theorem sput_room (k : Int) (v : ByteArray) (hS : Star W w (LS.A b most kvs :: R)) (hn : kvs.length ≤ 1000000) (hk : k ∉ kvs.map (·.1)) (hf : (kvs.length : Int) < most) :
    Calls Try.prog 21 #[.pointer (some ⟨b, 0, none⟩), .int .i64 k, .string v] w fun e w' => e = .returned (.int .i64 0) ∧ Star W w' (LS.A b most (kvs ++ [(k, v)]) :: R) := by
  obtain ⟨i3, hi3, hy0, hy1, hy2⟩ := info_parts Try.info3
  obtain ⟨a, c, mb, m, ho, h1⟩ := log_open hS
  have c0 : w.cell? ⟨b, 0, none⟩ = some (.int .i64 most) := h1.cell 0
  have c1 : w.cell? ⟨b, 1, none⟩ = some (.slice a kvs.length c) := h1.cell 1
  have c2 : w.cell? ⟨b, 2, none⟩ = some (.map (some mb)) := h1.cell 2
  have hb := h1.lt
  have hl := ho.out k hk
  have hlk : (Instr.lookup 80 (.map (some mb)) (.int .i64 k) false).run Try.prog w = .ok (.slice none 0 0) w := by
    have := run_lookup_m Try.underlying80 Try.underlying3 encI_key encI_inj zero22 (h1.pull 2) k false
    rw [hl] at this
    exact this
  have h1' : Star W w (rowA 3 1 (.slice a kvs.length c) kvs.length (ints (kvs.map (·.1))) :: _) := h1.pull 1
  clear hS hl
  have tok1 : True := trivial
  go_enter Try.func21, Try.ntmps21
  go_wp2
  go_quiet (fail)
  go_wp2_with (first
    | (at_builtin; have _t := tok1; refine wpList_append_star rfl _ _ 50 rfl 3 i3 _ 1 8 Try.underlying50 hi3 hy0 hy1 hy2 rfl (by decide) _ _ _ rfl (((h1'.drewN _).new _).pull 1) ⟨w.heap.size, 0, none⟩ 1 1 [.int .i64 k] rfl rfl (cell_one_new _ _ _) (by simp [Value.oneCell']) (by simp only [maxLen]; omega) (by omega) ?_; intro a' c' w1 hS1; have hS1' := (hS1.pick 3 [2, 0]).set 1 (.slice a' (kvs.length + 1) c'); have d1 : w1.cell? ⟨b, 1, none⟩ = some (.slice a kvs.length c) := (hS1.pull 2).cell 1; have d1f := (hS1.pull 2).frozen 1; have d2 : (w1.setCell ⟨b, 1, none⟩ (.slice a' (kvs.length + 1) c')).cell? ⟨b, 2, none⟩ = some (.map (some mb)) := hS1'.cell 2; have h5 := (hS1'.new (.cells #[.string v] 9)).pick 4 [3, 1, 2, 0]; rw [show (w1.setCell ⟨b, 1, none⟩ (.slice a' (kvs.length + 1) c')).heap.size = w1.heap.size by simp] at h5; clear tok1)
    | (refine wpList_update_star rfl _ _ _ 80 rfl Try.underlying80 Try.underlying3 encI_key encI_inj rfl k rfl _ rfl h5 ?_; intro w2 h3))
  go_ret
  refine ⟨rfl, ?_⟩
  have h4 := vals_put (P := LS) (m := m) (kvs := kvs) (k := k) (v := v) (bk := w1.heap.size) (h3.pick 5 [3, 4, 1, 2, 0]) (fun p hp => hp) (add_mem hk)
  refine log_shut (P := LS) (mapOK_add ho hk) (by simp) ?_ (h4.pick 4 [1, 2, 3, 0])
  simp [LS, ints]
end

end Go.Proofs.Ytabpipdhoflgpaa
