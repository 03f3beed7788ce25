/- Keys, Drop, Clear of the log by numbers, and the examples, walked: lemmas for the laws of redo. -/
import Derived.Test.YtabpipdhoflgpaaRed5
namespace Go.Proofs.Ytabpipdhoflgpaa
open Go.RowKit
set_option linter.unusedVariables false

section
variable (b : Nat) (most : Int) (kvs : List (Int × Int)) (R : List HA) (W w : World)
set_option maxHeartbeats 800000 in
theorem ikeys_any (hS : Star W w (LI.A b most kvs :: R)) (hn : kvs.length ≤ 1000000) :
    Calls Try.prog 19 #[.pointer (some ⟨b, 0, none⟩)] w fun e w' => ∃ a c, e = .returned (.slice a kvs.length c) ∧ Star W w' (rowA 3 1 (.slice a kvs.length c) kvs.length (ints (kvs.map (·.1))) :: LI.A b most kvs :: R) := by
  obtain ⟨i3, hi3, hy0, hy1, hy2⟩ := info_parts Try.info3
  obtain ⟨a, c, mb, m, ho, h1⟩ := log_open hS
  have c1 : w.cell? ⟨b, 1, none⟩ = some (.slice a kvs.length c) := h1.cell 1
  have hb := h1.lt
  have hN := (h1.rowNew 3 1 #[] 0 (by simp [maxLen]) rfl)
  have hR : Star W _ (rowA 3 1 (.slice a kvs.length c) kvs.length (ints (kvs.map (·.1))) :: _) := hN.pull 2
  have hsrc := hR.rowSrc
  clear hS hR
  go_enter Try.func19, Try.ntmps19
  go_wp2_with (at_builtin; refine wpList_append_star_any rfl _ _ 50 rfl 3 i3 _ 1 8 Try.underlying50 hi3 hy0 hy1 hy2 rfl (by decide) _ _ _ rfl hN a kvs.length c (ints (kvs.map (·.1))) rfl (by simp [ints]) hsrc (ints_one _) (by simp only [maxLen]; omega) (by omega) ?_; intro a' c' w1 hS1)
  go_ret
  simp only [Nat.zero_add, List.nil_append] at hS1
  refine ⟨a', c', rfl, ?_⟩
  exact (log_shut (P := LI) ho rfl rfl (hS1.pick 5 [1, 2, 3, 4, 0])).swap
set_option maxHeartbeats 800000 in
theorem idrop_miss (k : Int) (hS : Star W w (LI.A b most kvs :: R)) (hn : kvs.length ≤ 1000000) (hk : k ∉ kvs.map (·.1)) :
    Calls Try.prog 32 #[.pointer (some ⟨b, 0, none⟩), .int .i64 k] w fun e w' => e = .returned (.bool false) ∧ w = w' := by
  obtain ⟨a, c, mb, m, ho, h1⟩ := log_open hS
  have c1 : w.cell? ⟨b, 1, none⟩ = some (.slice a kvs.length c) := h1.cell 1
  have hR : Star W _ (rowA 3 1 (.slice a kvs.length c) kvs.length (ints (kvs.map (·.1))) :: _) := h1.pull 1
  have hI := index_int a kvs.length c (kvs.map (·.1)) k w hR.rowSl (by omega)
  rw [placeZ_miss hk] at hI
  have HI := Lib.hid hI
  clear hS h1 hR hI hk ho
  go_enter Try.func32, Try.ntmps32
  go_wp2_with fail
  refine HI.out.mono ?_
  rintro e w1 ⟨rfl, rfl⟩
  go_wp2
  go_ret
  exact ⟨rfl, rfl⟩
set_option maxHeartbeats 1600000 in
theorem idrop_hit (k : Int) (j : Nat) (hS : Star W w (LI.A b most kvs :: R)) (hn : kvs.length ≤ 1000000) (hp : placeZ (kvs.map (·.1)) k = j) :
    Calls Try.prog 32 #[.pointer (some ⟨b, 0, none⟩), .int .i64 k] w fun e w' => e = .returned (.bool true) ∧ Star W w' (LI.A b most (kvs.eraseIdx j) :: R) := by
  have hk := placeZ_at hp
  have hj : j < kvs.length := by have := (List.getElem?_eq_some_iff.1 hk).1; simpa using this
  obtain ⟨n, hnk⟩ : ∃ n, kvs.length = n + 1 := ⟨kvs.length - 1, by omega⟩
  obtain ⟨a, c, mb, m, ho, h1⟩ := log_open hS
  have c1 : w.cell? ⟨b, 1, none⟩ = some (.slice a kvs.length c) := h1.cell 1
  have hR : Star W w (rowA 3 1 (.slice a kvs.length c) kvs.length (ints (kvs.map (·.1))) :: _) := h1.pull 1
  have hI := index_int a kvs.length c (kvs.map (·.1)) k w hR.rowSl (by omega)
  rw [hp] at hI
  rw [hnk] at hI hR c1
  have hDl := del_int a n c j (ints (kvs.map (·.1))) _ W w hR (by omega) (ints_one _)
  have HI := Lib.hid hI
  have HD := Lib.hid hDl
  have hnz : (kvs.eraseIdx j).length = n := by rw [List.length_eraseIdx]; split <;> omega
  have Hk := Lib.hid hk
  clear hS h1 hR hI hDl hk hp
  go_enter Try.func32, Try.ntmps32
  go_wp2_with fail
  refine HI.out.mono ?_
  rintro e w1 ⟨rfl, rfl⟩
  go_wp2_with fail
  refine HD.out.mono ?_
  rintro e w2 ⟨rfl, h2⟩
  have h3 : Star W w2 (cellsA b #[.int .i64 most, .slice a (n + 1) c, .map (some mb)] 75 :: _) := h2.pull 1
  have d1 : w2.cell? ⟨b, 1, none⟩ = some (.slice a (n + 1) c) := h3.cell 1
  have f1 := h3.frozen 1
  have h4 := h3.set 1 (.slice a n c)
  have d2 : (w2.setCell ⟨b, 1, none⟩ (.slice a n c)).cell? ⟨b, 2, none⟩ = some (.map (some mb)) := h4.cell 2
  have h5 : Star W _ (mapA encI mb m :: _) := h4.pull 2
  clear h2 h3 h4
  have ⟨w3, hr, h6⟩ := run_delete_m (P := Try.prog) (t := 73) (kt := 3) (ty := 0) Try.underlying73 Try.underlying3 encI_key encI_inj h5 k
  have hr' : (Builtin.delete_ #[73, 3] 0 #[.map (some mb), .int .i64 k]).run Try.prog (w2.setCell ⟨b, 1, none⟩ (.slice a n c)) = .ok (.tuple #[]) w3 := hr
  clear hr h5
  go_wp2
  go_ret
  refine ⟨rfl, ?_⟩
  -- [map, cells, row, vals]
  have h7 : Star W w3 (valsA LI m kvs :: _) := h6.pull 3
  have h8 := vals_del (P := LI) (k := k) ho.nd1 h7 (del_mem ho.nd2 Hk.out)
  refine log_shut (P := LI) (mapOK_del ho Hk.out) hnz.symm ?_ (h8.pick 4 [2, 3, 1, 0])
  simp only [LI, ints]
  rw [← map_eraseIdx', ← map_eraseIdx']
set_option maxHeartbeats 800000 in
theorem iclear_any (hS : Star W w (LI.A b most kvs :: R)) :
    Calls Try.prog 34 #[.pointer (some ⟨b, 0, none⟩)] w fun e w' => e = .returned (.tuple #[]) ∧ Star W w' (LI.A b most [] :: R) := by
  have hmm := @run_makeMap Try.prog
  obtain ⟨a, c, mb, m, ho, h1⟩ := log_open hS
  have c1 : w.cell? ⟨b, 1, none⟩ = some (.slice a kvs.length c) := h1.cell 1
  have f1 := h1.frozen 1
  have hb := h1.lt
  have h2 := ((h1.pick 4 [0]).set 1 (.slice none 0 0)).mapNew encI
  have h3 := h2.swap
  have d2 : ((w.setCell ⟨b, 1, none⟩ (.slice none 0 0)).alloc (.map #[] 0)).cell? ⟨b, 2, none⟩ = some (.map (some mb)) := h3.cell 2
  have f2 := h3.frozen 2
  have h4 := ((((h1.pick 4 [0]).set 1 (.slice none 0 0)).set 2 (.map (some w.heap.size))).mapNew encI).swap
  rw [show ((w.setCell ⟨b, 1, none⟩ (.slice none 0 0)).setCell ⟨b, 2, none⟩ (.map (some w.heap.size))).heap.size = w.heap.size by simp] at h4
  have h5 : Star W _ (valsA LI ([] : List (Int × Value)) [] :: _) := ⟨h4.1, noPart, _, (fun k v hm => by cases hm), h4.2, noPart_off _, noPart_le _, Part.le.refl _⟩
  have h6 := ((h5.rowNil 3 1).pick 4 [2, 0, 3, 1])
  have h7 : Star W _ (LI.A b most [] :: R) := log_shut (P := LI) (a := none) (c := 0) (kvs := []) mapOK_nil rfl rfl h6
  have H7 := Lib.hid h7
  clear hS h1 h2 h3 h4 h5 h6 h7
  go_enter Try.func34, Try.ntmps34
  go_wp2
  go_end0
  exact ⟨rfl, H7.out⟩
end
end Go.Proofs.Ytabpipdhoflgpaa
