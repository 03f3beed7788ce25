/- Contracts of the document's log, walked: lemmas for the laws of redo. -/
import Derived.Test.YtabpipdhoflgpaaRed2
import Derived.OwnWalk
namespace Go.Proofs.Ytabpipdhoflgpaa
open Go.RowKit
set_option linter.unusedVariables false

theorem idxOf_get {α : Type} [DecidableEq α] : ∀ {ks : List α} {k : α}, k ∈ ks → ks[ks.idxOf k]? = some k
  | x :: ks, k, h => by
    by_cases hx : x = k
    · subst hx; simp
    · have hb : (x == k) = false := by simpa using hx
      have hm : k ∈ ks := by
        rcases List.mem_cons.1 h with h | h
        · exact absurd h.symm hx
        · exact h
      rw [List.idxOf_cons, hb]
      exact idxOf_get hm
theorem placeZ_at {α : Type} [DecidableEq α] {ks : List α} {k : α} {j : Nat} (h : placeZ ks k = (j : Int)) : ks[j]? = some k := by
  simp only [placeZ] at h
  split at h
  · rename_i hm
    have : ks.idxOf k = j := by omega
    rw [← this]; exact idxOf_get hm
  · omega
theorem placeZ_cases {α : Type} [DecidableEq α] (ks : List α) (k : α) : placeZ ks k = -1 ∨ ∃ j : Nat, placeZ ks k = j ∧ j < ks.length := by
  simp only [placeZ]
  split
  · rename_i hm
    exact .inr ⟨_, rfl, List.idxOf_lt_length_iff.2 hm⟩
  · exact .inl rfl
theorem set_same {α : Type} {ks : List α} {k : α} {j : Nat} (h : ks[j]? = some k) : ks.set j k = ks := by
  obtain ⟨hj, rfl⟩ := List.getElem?_eq_some_iff.1 h
  simp
theorem cell_one_new (w : World) (v : Value) (t : TypeId) : ∀ j u, [v][j]? = some u → (w.alloc (.cells #[v] t)).cell? ((⟨w.heap.size, 0, none⟩ : Addr).add j) = some u := by
  intro j u hu
  have hadd : (⟨w.heap.size, 0, none⟩ : Addr).add j = ⟨w.heap.size, j, none⟩ := by unfold Addr.add; split <;> simp_all
  rw [hadd, ((Star.begin w).new (.cells #[v] t)).cell j]
  simpa using hu

section
variable (b : Nat) (most : Int) (kvs : List (Int × Int)) (R : List HA) (W w : World)
set_option maxHeartbeats 400000 in
theorem rnew_bad (h : most < 1 ∨ 4096 < most) : Calls Try.prog 14 #[.int .i64 most] w fun e w' => e = .returned (.tuple #[.pointer none, .int .i64 1]) ∧ w = w' := by
  by_cases h1 : most < 1
  · go_enter Try.func14, Try.ntmps14
    go_wp2
    go_ret2
    exact ⟨rfl, rfl⟩
  · have h2 : 4096 < most := by omega
    go_enter Try.func14, Try.ntmps14
    go_wp2
    go_ret2
    exact ⟨rfl, rfl⟩
set_option maxHeartbeats 400000 in
theorem rnew_ok (hS : Star W w R) (h1 : 1 ≤ most) (h2 : most ≤ 4096) : Calls Try.prog 14 #[.int .i64 most] w fun e w' => ∃ b, e = .returned (.tuple #[.pointer (some ⟨b, 0, none⟩), .int .i64 0]) ∧ Star W w' (rlogA b most [] :: R) := by
  have h3 := hS.new (.cells #[.int .i64 most, .slice none 0 0, .slice none 0 0] 53)
  clear hS
  go_enter Try.func14, Try.ntmps14
  go_wp2
  go_ret2
  exact ⟨_, rfl, rlog_shut (kvs := []) (a := none) (a2 := none) (c := 0) (c2 := 0) (((h3.rowNil 3 1).rowNil 2 1).pick 3 [2, 1, 0])⟩

set_option maxHeartbeats 800000 in
theorem rput_hit (k v : Int) (j : Nat) (hS : Star W w (rlogA b most kvs :: R)) (hn : kvs.length ≤ 1000000) (hp : placeZ (kvs.map (·.1)) k = j) :
    Calls Try.prog 28 #[.pointer (some ⟨b, 0, none⟩), .int .i64 k, .int .i64 v] w fun e w' => e = .returned (.int .i64 0) ∧ Star W w' (rlogA b most (kvs.set j (k, v)) :: R) := by
  have hF := find_any b most kvs k R W w hS hn
  rw [hp] at hF
  have hk := placeZ_at hp
  have hj : j < kvs.length := by have := (List.getElem?_eq_some_iff.1 hk).1; simpa using this
  obtain ⟨a, c, a2, c2, h1⟩ := rlog_open hS
  have c2' : w.cell? ⟨b, 2, none⟩ = some (.slice a2 kvs.length c2) := h1.cell 2
  have hv := h1.pull 2
  obtain ⟨g, rfl, _, _, hcv, hfv⟩ := hv.rowAt (by omega)
  have hcj := hcv j (by omega)
  obtain ⟨x, hx⟩ : ∃ x, (kvs.map (·.2))[j]? = some x := ⟨_, List.getElem?_eq_getElem (by simpa using hj)⟩
  rw [ints, List.getElem?_map, hx] at hcj
  simp only [Option.map_some] at hcj
  have hfj := hfv j
  have hS2 : Star W (w.setCell ⟨g, j, none⟩ (.int .i64 v)) (rlogA b most (kvs.set j (k, v)) :: R) := by
    have h2 := ((hv.rowSet j (.int .i64 v)).pick 3 [1, 2, 0])
    refine rlog_shut (a := a) (c := c) (a2 := some ⟨g, 0, none⟩) (c2 := c2) ?_
    have e1 : (kvs.set j (k, v)).map (·.1) = kvs.map (·.1) := by rw [List.map_set]; exact set_same hk
    have e2 : ints ((kvs.set j (k, v)).map (·.2)) = (ints (kvs.map (·.2))).set j (.int .i64 v) := by rw [List.map_set, ints, List.map_set]; rfl
    rw [e1, e2, List.length_set]
    exact h2
  have HF := Lib.hid hF
  have hjl : (j : Int) < kvs.length := by omega
  clear hS h1 hv hcv hfv hF hp hk hx
  go_enter Try.func28, Try.ntmps28
  go_wp2_with fail
  refine HF.out.mono ?_
  rintro e w1 ⟨rfl, rfl⟩
  go_wp2
  go_ret
  exact ⟨rfl, hS2⟩
set_option maxHeartbeats 800000 in
theorem rput_full (k v : Int) (hS : Star W w (rlogA b most kvs :: R)) (hn : kvs.length ≤ 1000000) (hp : placeZ (kvs.map (·.1)) k = -1) (hf : most ≤ kvs.length) :
    Calls Try.prog 28 #[.pointer (some ⟨b, 0, none⟩), .int .i64 k, .int .i64 v] w fun e w' => e = .returned (.int .i64 11) ∧ Star W w' (rlogA b most kvs :: R) := by
  have hF := find_any b most kvs k R W w hS hn
  rw [hp] at hF
  obtain ⟨a, c, a2, c2, h1⟩ := rlog_open hS
  have c0' : w.cell? ⟨b, 0, none⟩ = some (.int .i64 most) := h1.cell 0
  have c1' : w.cell? ⟨b, 1, none⟩ = some (.slice a kvs.length c) := h1.cell 1
  have HF := Lib.hid hF
  have HS := Lib.hid hS
  clear hS h1 hF hp
  go_enter Try.func28, Try.ntmps28
  go_wp2_with fail
  refine HF.out.mono ?_
  rintro e w1 ⟨rfl, rfl⟩
  go_wp2
  go_quiet (fail)
  go_wp2
  go_ret
  exact ⟨rfl, HS.out.drewN _⟩
set_option maxHeartbeats 1600000 in
theorem rput_room (k v : Int) (hS : Star W w (rlogA b most kvs :: R)) (hn : kvs.length ≤ 1000000) (hp : placeZ (kvs.map (·.1)) k = -1) (hf : (kvs.length : Int) < most) :
    Calls Try.prog 28 #[.pointer (some ⟨b, 0, none⟩), .int .i64 k, .int .i64 v] w fun e w' => e = .returned (.int .i64 0) ∧ Star W w' (rlogA b most (kvs ++ [(k, v)]) :: R) := by
  have hF := find_any b most kvs k R W w hS hn
  rw [hp] at hF
  obtain ⟨i3, hi3, hy0, hy1, hy2⟩ := info_parts Try.info3
  obtain ⟨i2, hi2, hz0, hz1, hz2⟩ := info_parts Try.info2
  obtain ⟨a, c, a2, c2, h1⟩ := rlog_open hS
  have c0' : w.cell? ⟨b, 0, none⟩ = some (.int .i64 most) := h1.cell 0
  have c1' : w.cell? ⟨b, 1, none⟩ = some (.slice a kvs.length c) := h1.cell 1
  have hb := h1.lt
  have HF := Lib.hid hF
  clear hS hF hp
  have tok1 : True := trivial
  go_enter Try.func28, Try.ntmps28
  go_wp2_with fail
  refine HF.out.mono ?_
  rintro e w1 ⟨rfl, rfl⟩
  go_wp2
  go_quiet (fail)
  go_wp2_with (at_builtin; first
    | (have _t := tok1; refine wpList_append_star rfl _ _ 50 rfl 3 i3 _ 1 8 Try.underlying50 hi3 hy0 hy1 hy2 rfl (by decide) _ _ _ rfl (((h1.drewN _).new _).pull 2) ⟨w.heap.size, 0, none⟩ 1 1 [.int .i64 k] rfl rfl (cell_one_new _ _ _) (by simp [Value.oneCell']) (by simp only [maxLen]; omega) (by omega) ?_; intro a' c' w1 hS1; have hS1' := (hS1.pick 3 [2, 0]).set 1 (.slice a' (kvs.length + 1) c'); have d1 : w1.cell? ⟨b, 1, none⟩ = some (.slice a kvs.length c) := (hS1.pull 2).cell 1; have d1f := (hS1.pull 2).frozen 1; have d2 : (w1.setCell ⟨b, 1, none⟩ (.slice a' (kvs.length + 1) c')).cell? ⟨b, 2, none⟩ = some (.slice a2 kvs.length c2) := hS1'.cell 2; have d2f := hS1'.frozen 2; have hbl := hS1'.lt; clear tok1)
    | (refine wpList_append_star rfl _ _ 51 rfl 2 i2 _ 1 8 Try.underlying51 hi2 hz0 hz1 hz2 rfl (by decide) _ _ _ rfl ((hS1'.new _).pull 3) ⟨w1.heap.size, 0, none⟩ 1 1 [.int .i64 v] rfl rfl (by simpa using cell_one_new (w1.setCell ⟨b, 1, none⟩ (.slice a' (kvs.length + 1) c')) (.int .i64 v) 2) (by simp [Value.oneCell']) (by simp only [maxLen]; omega) (by omega) ?_; intro a3 c3 w2 hS2; have e2 : w2.cell? ⟨b, 2, none⟩ = some (.slice a2 kvs.length c2) := (hS2.pull 2).cell 2; have e2f := (hS2.pull 2).frozen 2))
  go_ret
  refine ⟨rfl, rlog_shut (a := a') (c := c') (a2 := a3) (c2 := c3) ?_⟩
  have h4 := (hS2.pick 4 [2, 3, 0]).set 2 (.slice a3 (kvs.length + 1) c3)
  simpa [ints] using h4
set_option maxHeartbeats 800000 in
theorem rget_hit (k v : Int) (j : Nat) (hS : Star W w (rlogA b most kvs :: R)) (hn : kvs.length ≤ 1000000) (hp : placeZ (kvs.map (·.1)) k = j) (hv : (kvs.map (·.2))[j]? = some v) :
    Calls Try.prog 30 #[.pointer (some ⟨b, 0, none⟩), .int .i64 k] w fun e w' => e = .returned (.tuple #[.int .i64 v, .bool true]) ∧ w = w' := by
  have hF := find_any b most kvs k R W w hS hn
  rw [hp] at hF
  have hj : j < kvs.length := by have := (List.getElem?_eq_some_iff.1 hv).1; simpa using this
  obtain ⟨a, c, a2, c2, h1⟩ := rlog_open hS
  have c2' : w.cell? ⟨b, 2, none⟩ = some (.slice a2 kvs.length c2) := h1.cell 2
  obtain ⟨g, rfl, _, _, hcv, hfv⟩ := (h1.pull 2).rowAt (by omega)
  have hcj := hcv j (by omega)
  rw [ints, List.getElem?_map, hv] at hcj
  simp only [Option.map_some] at hcj
  have HF := Lib.hid hF
  have hjl : (j : Int) < kvs.length := by omega
  clear hS h1 hcv hfv hF hp hv
  go_enter Try.func30, Try.ntmps30
  go_wp2_with fail
  refine HF.out.mono ?_
  rintro e w1 ⟨rfl, rfl⟩
  go_wp2
  go_ret2
  exact ⟨rfl, rfl⟩
set_option maxHeartbeats 800000 in
theorem rget_miss (k : Int) (hS : Star W w (rlogA b most kvs :: R)) (hn : kvs.length ≤ 1000000) (hp : placeZ (kvs.map (·.1)) k = -1) :
    Calls Try.prog 30 #[.pointer (some ⟨b, 0, none⟩), .int .i64 k] w fun e w' => e = .returned (.tuple #[.int .i64 0, .bool false]) ∧ w = w' := by
  have hF := find_any b most kvs k R W w hS hn
  rw [hp] at hF
  have HF := Lib.hid hF
  clear hS hF hp
  go_enter Try.func30, Try.ntmps30
  go_wp2_with fail
  refine HF.out.mono ?_
  rintro e w1 ⟨rfl, rfl⟩
  go_wp2
  go_ret2
  exact ⟨rfl, rfl⟩
set_option maxHeartbeats 800000 in
theorem rat_bad (i : Int) (hS : Star W w (rlogA b most kvs :: R)) (hi : i < 0 ∨ (kvs.length : Int) ≤ i) :
    Calls Try.prog 31 #[.pointer (some ⟨b, 0, none⟩), .int .i64 i] w fun e w' => e = .returned (.tuple #[.int .i64 0, .int .i64 0, .int .i64 2]) ∧ ∃ m, w' = w.drewN m := by
  obtain ⟨a, c, a2, c2, h1⟩ := rlog_open hS
  have c1' : w.cell? ⟨b, 1, none⟩ = some (.slice a kvs.length c) := h1.cell 1
  clear hS h1
  by_cases h0 : i < 0
  · go_enter Try.func31, Try.ntmps31
    go_wp2
    go_ret3
    exact ⟨rfl, 0, rfl⟩
  · have hi2 : (kvs.length : Int) ≤ i := by omega
    go_enter Try.func31, Try.ntmps31
    go_wp2
    go_ret3
    exact ⟨rfl, 0, rfl⟩
set_option maxHeartbeats 800000 in
theorem rat_ok (j : Nat) (k v : Int) (hS : Star W w (rlogA b most kvs :: R)) (hn : kvs.length ≤ 1000000) (hj : kvs[j]? = some (k, v)) :
    Calls Try.prog 31 #[.pointer (some ⟨b, 0, none⟩), .int .i64 j] w fun e w' => e = .returned (.tuple #[.int .i64 k, .int .i64 v, .int .i64 0]) ∧ ∃ m, w' = w.drewN m := by
  obtain ⟨a, c, a2, c2, h1⟩ := rlog_open hS
  have hjl : j < kvs.length := (List.getElem?_eq_some_iff.1 hj).1
  have c1' : w.cell? ⟨b, 1, none⟩ = some (.slice a kvs.length c) := h1.cell 1
  have c2' : w.cell? ⟨b, 2, none⟩ = some (.slice a2 kvs.length c2) := h1.cell 2
  obtain ⟨g, rfl, _, _, hck, _⟩ := (h1.pull 1).rowAt (by omega)
  obtain ⟨g2, rfl, _, _, hcv, _⟩ := (h1.pull 2).rowAt (by omega)
  have hcj := hck j (by omega)
  have hcj2 := hcv j (by omega)
  simp only [ints, List.getElem?_map, hj, Option.map_some] at hcj hcj2
  have hjz : (j : Int) < kvs.length := by omega
  clear hS h1 hck hcv hj
  go_enter Try.func31, Try.ntmps31
  go_wp2
  go_quiet (fail)
  go_wp2
  go_ret3
  exact ⟨rfl, _, rfl⟩
set_option maxHeartbeats 800000 in
theorem rclear_any (hS : Star W w (rlogA b most kvs :: R)) :
    Calls Try.prog 35 #[.pointer (some ⟨b, 0, none⟩)] w fun e w' => e = .returned (.tuple #[]) ∧ Star W w' (rlogA b most [] :: R) := by
  obtain ⟨a, c, a2, c2, h1⟩ := rlog_open hS
  have c1' : w.cell? ⟨b, 1, none⟩ = some (.slice a kvs.length c) := h1.cell 1
  have f1 := h1.frozen 1
  have h2 := h1.set 1 (.slice none 0 0)
  have c2' : (w.setCell ⟨b, 1, none⟩ (.slice none 0 0)).cell? ⟨b, 2, none⟩ = some (.slice a2 kvs.length c2) := h2.cell 2
  have f2 := h2.frozen 2
  have h3 := (h2.set 2 (.slice none 0 0)).pick 3 [0]
  have h4 := rlog_shut (kvs := []) (most := most) (b := b) (a := none) (a2 := none) (c := 0) (c2 := 0) (((h3.rowNil 3 1).rowNil 2 1).pick 3 [2, 1, 0])
  have H4 := Lib.hid h4
  clear hS h1 h2 h3 h4
  go_enter Try.func35, Try.ntmps35
  go_wp2
  go_end0
  exact ⟨rfl, H4.out⟩
set_option maxHeartbeats 800000 in
theorem rdrop_miss (k : Int) (hS : Star W w (rlogA b most kvs :: R)) (hn : kvs.length ≤ 1000000) (hp : placeZ (kvs.map (·.1)) k = -1) :
    Calls Try.prog 33 #[.pointer (some ⟨b, 0, none⟩), .int .i64 k] w fun e w' => e = .returned (.bool false) ∧ w = w' := by
  have hF := find_any b most kvs k R W w hS hn
  rw [hp] at hF
  have HF := Lib.hid hF
  clear hS hF hp
  go_enter Try.func33, Try.ntmps33
  go_wp2_with fail
  refine HF.out.mono ?_
  rintro e w1 ⟨rfl, rfl⟩
  go_wp2
  go_ret
  exact ⟨rfl, rfl⟩
theorem erase_step {α : Type} {l : List α} {m j : Nat} {x : α} (h : l[m]? = some x) (hm : m ≠ j) : (l.take (m + 1)).eraseIdx j = (l.take m).eraseIdx j ++ [x] := by
  have hl : (l.take m).length = m := by have := (List.getElem?_eq_some_iff.1 h).1; rw [List.length_take]; omega
  rw [take_snoc h]
  by_cases hj : j < m
  · rw [List.eraseIdx_append_of_lt_length (by omega)]
  · rw [List.eraseIdx_append_of_length_le (by omega), hl, List.eraseIdx_of_length_le (l := [x]) (by simp; omega)]
    rw [List.eraseIdx_of_length_le (l := l.take m) (by omega)]
theorem erase_skip {α : Type} {l : List α} {j : Nat} {x : α} (h : l[j]? = some x) : (l.take (j + 1)).eraseIdx j = (l.take j).eraseIdx j := by
  have hl : (l.take j).length = j := by have := (List.getElem?_eq_some_iff.1 h).1; rw [List.length_take]; omega
  rw [take_snoc h, List.eraseIdx_append_of_length_le (by omega), hl, Nat.sub_self, List.eraseIdx_of_length_le (l := l.take j) (by omega)]
  simp
set_option maxHeartbeats 3200000 in
theorem rdrop_hit (k : Int) (j : Nat) (hS : Star W w (rlogA b most kvs :: R)) (hn : kvs.length ≤ 1000000) (hp : placeZ (kvs.map (·.1)) k = j) :
    Calls Try.prog 33 #[.pointer (some ⟨b, 0, none⟩), .int .i64 k] w fun e w' => e = .returned (.bool true) ∧ Star W w' (rlogA b most (kvs.eraseIdx j) :: R) := by
  have hF := find_any b most kvs k R W w hS hn
  rw [hp] at hF
  have hk := placeZ_at hp
  have hj : j < kvs.length := by have := (List.getElem?_eq_some_iff.1 hk).1; simpa using this
  obtain ⟨i3, hi3, hy0, hy1, hy2⟩ := info_parts Try.info3
  obtain ⟨i2, hi2, hz0, hz1, hz2⟩ := info_parts Try.info2
  obtain ⟨a, c, a2, c2, h1⟩ := rlog_open hS
  have HF := Lib.hid hF
  clear hS hF hp hk
  have h0 := ((h1.rowNil 2 1).rowNil 3 1)
  clear h1
  go_enter Try.func33, Try.ntmps33
  go_wp2_with fail
  refine HF.out.mono ?_
  rintro e w1 ⟨rfl, rfl⟩
  go_wp2
  go_loopw [6, 7, 8] (fun v6 v7 i wr => ∃ m : Nat, m ≤ kvs.length ∧ i = .int .i64 m ∧ ∃ a3 c3 a4 c4 D, Hid (D = (kvs.take m).eraseIdx j) ∧ v6 = .slice a3 D.length c3 ∧ v7 = .slice a4 D.length c4 ∧ Star W wr (rowA 3 1 (.slice a3 D.length c3) D.length (ints (D.map (·.1))) :: rowA 2 1 (.slice a4 D.length c4) D.length (ints (D.map (·.2))) :: cellsA b #[.int .i64 most, .slice a kvs.length c, .slice a2 kvs.length c2] 53 :: rowA 3 1 (.slice a kvs.length c) kvs.length (ints (kvs.map (·.1))) :: rowA 2 1 (.slice a2 kvs.length c2) kvs.length (ints (kvs.map (·.2))) :: R)) (fun _ _ i _ => kvs.length - (intOf i).toNat)
  case atStart => exact ⟨0, Nat.zero_le _, rfl, none, 0, none, 0, [], by simp [Hid], rfl, rfl, h0⟩
  case round =>
    obtain ⟨m, hm, rfl, a3, c3, a4, c4, D, hD, rfl, rfl, hR⟩ := hrel
    clear h0 HF
    have c1' : wr.cell? ⟨b, 1, none⟩ = some (.slice a kvs.length c) := (hR.pull 2).cell 1
    have c2' : wr.cell? ⟨b, 2, none⟩ = some (.slice a2 kvs.length c2) := (hR.pull 2).cell 2
    have f1 := (hR.pull 2).frozen 1
    have hDl : D.length ≤ kvs.length := by
      have h1 := List.length_eraseIdx_le (kvs.take m) j
      have h2 : (kvs.take m).length ≤ kvs.length := by rw [List.length_take]; omega
      rw [hD.out]; omega
    by_cases hml : m < kvs.length
    · by_cases hmj : m = j
      · subst hmj
        have hD2 : Hid (D = (kvs.take (m + 1)).eraseIdx m) := by rw [erase_skip (List.getElem?_eq_getElem hml)]; exact hD
        have hmm : ((m : Int) != m) = false := by simp
        clear hD
        go_wp2
        go_roundw
        case rel => exact ⟨m + 1, by omega, by go_num, a3, c3, a4, c4, D, hD2, rfl, rfl, hR⟩
        case measure => simp [intOf]; omega
      · obtain ⟨⟨x, y⟩, hxy⟩ : ∃ p, kvs[m]? = some p := ⟨_, List.getElem?_eq_getElem hml⟩
        have hD2 : Hid (D ++ [(x, y)] = (kvs.take (m + 1)).eraseIdx j) := by rw [erase_step hxy hmj, hD.out]; rfl
        have hmm : ((m : Int) != j) = true := by simp; omega
        obtain ⟨g, rfl, _, _, hck, _⟩ := (hR.pull 3).rowAt (by omega)
        obtain ⟨g2, rfl, _, _, hcv, _⟩ := (hR.pull 4).rowAt (by omega)
        have hcj := hck m (by omega)
        simp only [ints, List.getElem?_map, hxy, Option.map_some] at hcj
        have hmz : (m : Int) < kvs.length := by omega
        clear hck hcv hD hmj
        have tok1 : True := trivial
        go_wp2_with (at_builtin; first
          | (have _t := tok1; refine wpList_append_star rfl _ _ 50 rfl 3 i3 _ 1 8 Try.underlying50 hi3 hy0 hy1 hy2 rfl (by decide) _ _ _ rfl ((hR.new _).pull 1) ⟨wr.heap.size, 0, none⟩ 1 1 [.int .i64 x] rfl rfl (cell_one_new _ _ _) (by simp [Value.oneCell']) (by simp only [maxLen]; omega) (by omega) ?_; intro a5 c5 w1 hS1; have d2 : w1.cell? ⟨b, 2, none⟩ = some (.slice (some ⟨g2, 0, none⟩) kvs.length c2) := (hS1.pull 3).cell 2; obtain ⟨g3, hg3, _, _, hcv3, _⟩ := (hS1.pull 5).rowAt (by omega); injection hg3 with hg3; injection hg3 with hg3; subst hg3; have hcj3 := hcv3 m (by omega); simp only [ints, List.getElem?_map, hxy, Option.map_some] at hcj3; clear tok1 hcv3)
          | (refine wpList_append_star rfl _ _ 51 rfl 2 i2 _ 1 8 Try.underlying51 hi2 hz0 hz1 hz2 rfl (by decide) _ _ _ rfl ((hS1.new _).pull 3) ⟨w1.heap.size, 0, none⟩ 1 1 [.int .i64 y] rfl rfl (cell_one_new _ _ _) (by simp [Value.oneCell']) (by simp only [maxLen]; omega) (by omega) ?_; intro a6 c6 w2 hS2))
        have h9 : Star W w2 (rowA 3 1 (.slice a5 (D.length + 1) c5) (D.length + 1) (ints (D.map (·.1)) ++ [.int .i64 x]) :: rowA 2 1 (.slice a6 (D.length + 1) c6) (D.length + 1) (ints (D.map (·.2)) ++ [.int .i64 y]) :: _) := hS2.pick 4 [2, 0]
        go_roundw
        case rel => exact ⟨m + 1, by omega, by go_num, a5, c5, a6, c6, D ++ [(x, y)], hD2, by simp, by simp, by simpa [ints] using h9⟩
        case measure => simp [intOf]; omega
    · have hDk : kvs.eraseIdx j = D := by
        have := hD.out
        rw [List.take_of_length_le (by omega)] at this
        exact this.symm
      have h2 := (hR.pull 2).set 1 (.slice a3 D.length c3)
      have d2 : (wr.setCell ⟨b, 1, none⟩ (.slice a3 D.length c3)).cell? ⟨b, 2, none⟩ = some (.slice a2 kvs.length c2) := h2.cell 2
      have f2 := h2.frozen 2
      have h3 := rlog_shut (kvs := D) (most := most) (b := b) ((h2.set 2 (.slice a4 D.length c4)).pick 5 [0, 1, 2])
      have H3 := Lib.hid h3
      have HDk := Lib.hid hDk
      clear hR h2 h3 hD hDk
      go_wp2
      go_ret
      exact ⟨rfl, by rw [HDk.out]; exact H3.out⟩
end
end Go.Proofs.Ytabpipdhoflgpaa
