/- The log of texts under structs, Drop: lemmas for the law RedoAny. -/
import Derived.Test.YtabpipdhoflgpaaRedK5
namespace Go.Proofs.Ytabpipdhoflgpaa
open Go.RowKit
set_option linter.unusedVariables false

section
variable (b : Nat) (most : Int) (kvs : List (Key × ByteArray)) (R : List HA) (W w : World) (k : Key)
set_option maxHeartbeats 1600000 in
set_option maxRecDepth 100000 in
theorem kdrop_miss (hS : Star W w (LK.A b most kvs :: R)) (hn : kvs.length ≤ 1000000) (hk : k ∉ kvs.map (·.1)) :
    Calls Try.prog 7 #[.pointer (some ⟨b, 0, none⟩), .agg #[.string k.1, .int .i64 k.2]] w fun e w' => e = .returned (.bool false) ∧ Star W w' (LK.A b most kvs :: R) := by
  have hF := (hS.new (.cells #[.string k.1, .int .i64 k.2] 29))
  obtain ⟨a, cc, mb, m, ho, h1⟩ := log_open hS
  have hN := h1.new (.cells #[.string k.1, .int .i64 k.2] 29)
  obtain ⟨wO, hwO⟩ : ∃ wO, wO = w.alloc (.cells #[.string k.1, .int .i64 k.2] 29) := ⟨_, rfl⟩
  rw [← hwO] at hN hF
  have HF := Lib.hid hF
  have e0 : wO.cell? ⟨w.heap.size, 0, none⟩ = some (.string k.1) := hN.cell 0
  have e1 : wO.cell? ⟨w.heap.size, 1, none⟩ = some (.int .i64 k.2) := hN.cell 1
  have d1 : wO.cell? ⟨b, 1, none⟩ = some (.slice a kvs.length cc) := (hN.pull 1).cell 1
  have hR : Star W wO (rowA 29 2 (.slice a kvs.length cc) kvs.length (k2 (kvs.map (·.1))) :: _) := hN.pull 2
  have HI := Lib.hid (index_key a kvs.length cc (kvs.map (·.1)) k wO.drew hR.drew.rowSl (by omega))
  rw [placeZ_miss hk] at HI
  clear hS h1 hN hR hF hk ho
  go_enter Try.func7, Try.ntmps7
  go_wp2_with fail
  rw [← hwO]
  clear hwO
  go_region_held3 (fun w' => w'.cell? ⟨b, 1, none⟩ = some (.slice a kvs.length cc) ∧ w'.cell? ⟨w.heap.size, 0, none⟩ = some (.string k.1) ∧ w'.cell? ⟨w.heap.size, 1, none⟩ = some (.int .i64 k.2)) (go_keep) (first | (go_at_call 25; refine HI.out.mono ?_; rintro e w1 ⟨rfl, hb1⟩; have f1 : w1.cell? ⟨b, 1, none⟩ = some (.slice a kvs.length cc) := (hb1.cell (World.block_lt_of_cell? _ _ d1)).trans d1; have f2 : w1.cell? ⟨w.heap.size, 0, none⟩ = some (.string k.1) := (hb1.cell (World.block_lt_of_cell? _ _ e0)).trans e0; have f3 : w1.cell? ⟨w.heap.size, 1, none⟩ = some (.int .i64 k.2) := (hb1.cell (World.block_lt_of_cell? _ _ e1)).trans e1; have F1 := HF.out.drew.of_below hb1))
  all_goals
    go_wp2
    go_ret
    exact ⟨rfl, F1.drop⟩
set_option maxHeartbeats 3200000 in
set_option maxRecDepth 100000 in
theorem kdrop_hit (j : Nat) (hS : Star W w (LK.A b most kvs :: R)) (hn : kvs.length ≤ 1000000) (hp : placeZ (kvs.map (·.1)) k = j) :
    Calls Try.prog 7 #[.pointer (some ⟨b, 0, none⟩), .agg #[.string k.1, .int .i64 k.2]] w fun e w' => e = .returned (.bool true) ∧ Star W w' (LK.A b most (kvs.eraseIdx j) :: R) := by
  have hjk := placeZ_at hp
  have hj : j < kvs.length := by have := (List.getElem?_eq_some_iff.1 hjk).1; simpa using this
  obtain ⟨n, hnk⟩ : ∃ n, kvs.length = n + 1 := ⟨kvs.length - 1, by omega⟩
  have hnz : (kvs.eraseIdx j).length = n := by rw [List.length_eraseIdx]; split <;> omega
  obtain ⟨a, cc, mb, m, ho, h1⟩ := log_open hS
  have hN := h1.new (.cells #[.string k.1, .int .i64 k.2] 29)
  obtain ⟨wO, hwO⟩ : ∃ wO, wO = w.alloc (.cells #[.string k.1, .int .i64 k.2] 29) := ⟨_, rfl⟩
  rw [← hwO, hnk] at hN
  have e0 : wO.cell? ⟨w.heap.size, 0, none⟩ = some (.string k.1) := hN.cell 0
  have e1 : wO.cell? ⟨w.heap.size, 1, none⟩ = some (.int .i64 k.2) := hN.cell 1
  have d1 : wO.cell? ⟨b, 1, none⟩ = some (.slice a (n + 1) cc) := (hN.pull 1).cell 1
  have hR : Star W wO (rowA 29 2 (.slice a (n + 1) cc) (n + 1) (k2 (kvs.map (·.1))) :: _) := hN.pull 2
  have HI := Lib.hid (index_key a (n + 1) cc (kvs.map (·.1)) k wO.drew hR.drew.rowSl (by omega))
  rw [hp] at HI
  have HR := Lib.hid hR
  have Hk := Lib.hid hjk
  have Hp := Lib.hid hp
  have Ho := Lib.hid ho
  have hjn : j ≤ n := by omega
  clear hS h1 hN hR hp hjk ho
  go_enter Try.func7, Try.ntmps7
  go_wp2_with fail
  rw [← hwO]
  clear hwO
  go_region_held3 (fun w' => w'.cell? ⟨b, 1, none⟩ = some (.slice a (n + 1) cc) ∧ w'.cell? ⟨w.heap.size, 0, none⟩ = some (.string k.1) ∧ w'.cell? ⟨w.heap.size, 1, none⟩ = some (.int .i64 k.2)) (go_keep) (first | (go_at_call 25; refine HI.out.mono ?_; rintro e w1 ⟨rfl, hb1⟩; have f1 : w1.cell? ⟨b, 1, none⟩ = some (.slice a (n + 1) cc) := (hb1.cell (World.block_lt_of_cell? _ _ d1)).trans d1; have f2 : w1.cell? ⟨w.heap.size, 0, none⟩ = some (.string k.1) := (hb1.cell (World.block_lt_of_cell? _ _ e0)).trans e0; have f3 : w1.cell? ⟨w.heap.size, 1, none⟩ = some (.int .i64 k.2) := (hb1.cell (World.block_lt_of_cell? _ _ e1)).trans e1; have F1 := HR.out.drew.of_below hb1))
  all_goals
    have DK := Lib.hid (del_key a n cc j (kvs.map (·.1)) _ W w1 F1 hjn)
    clear F1 HI HR e0 e1 d1
    go_wp2_with fail
    refine DK.out.mono ?_
    rintro e w2 ⟨rfl, h2⟩
    have h3 : Star W w2 (cellsA b #[.int .i64 most, .slice a (n + 1) cc, .map (some mb)] 69 :: _) := h2.pull 2
    have g1 : w2.cell? ⟨b, 1, none⟩ = some (.slice a (n + 1) cc) := h3.cell 1
    have gf := h3.frozen
    have h4 := h3.set 1 (.slice a n cc)
    have h5 := h4.pick 5 [2, 0, 1, 3, 4]
    generalize hw3 : w2.setCell ⟨b, 1, none⟩ (.slice a n cc) = w3 at h5
    have g2 : w3.cell? ⟨b, 2, none⟩ = some (.map (some mb)) := (h5.pull 1).cell 2
    have g3 : w3.cell? ⟨w.heap.size, 0, none⟩ = some (.string k.1) := h5.cell 0
    have g4 : w3.cell? ⟨w.heap.size, 1, none⟩ = some (.int .i64 k.2) := h5.cell 1
    obtain ⟨w4, hr, h6⟩ := run_delete_k (P := Try.prog) (ty := 0) keyOK Try.underlying67 (h5.drew.pull 3) k
    have hr' : (Builtin.delete_ #[67, 29] 0 #[.map (some mb), .agg #[.string k.1, .int .i64 k.2]]).run Try.prog w3.drew = .ok (.tuple #[]) w4 := hr
    have H6 := Lib.hid h6
    clear hr h6 h5 h4 h3 h2 DK f2 f3
    go_wp2_with fail
    go_region
    all_goals
      go_wp2
      go_ret
      refine ⟨rfl, ?_⟩
      have h7 : Star W w4 (valsA LK m kvs :: _) := H6.out.pull 4
      have h8 := vals_del (P := LK) (k := k) Ho.out.nd1 h7 (del_mem Ho.out.nd2 Hk.out)
      refine log_shut (P := LK) (mapOK_del Ho.out Hk.out) hnz.symm ?_ (h8.pick 5 [3, 4, 1, 0])
      simp only [LK]
      rw [← map_eraseIdx']
end
end Go.Proofs.Ytabpipdhoflgpaa
