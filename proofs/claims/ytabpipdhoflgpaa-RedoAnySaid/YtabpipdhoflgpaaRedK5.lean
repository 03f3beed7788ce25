/- The log of texts under structs, call by call (Put, Drop): lemmas for the law RedoAny. -/
import Derived.Test.YtabpipdhoflgpaaRedK4
namespace Go.Proofs.Ytabpipdhoflgpaa
open Go.RowKit
set_option linter.unusedVariables false

theorem cell_two_at (w : World) (g : Nat) (hg : w.heap.size = g) (x y : Value) (t : TypeId) : ∀ j u, [x, y][j]? = some u → (w.alloc (.cells #[x, y] t)).cell? ((⟨g, 0, none⟩ : Addr).add j) = some u := by
  subst hg
  intro j u hj
  match j, hj with
  | 0, hj => simp at hj; subst hj; simp [Addr.add]
  | 1, hj => simp at hj; subst hj; simp [Addr.add]
theorem vp_of {v : ByteArray} {bk c : Nat} : ∀ p, Holds [cellsA bk #[.slice (some ⟨c, 0, none⟩) 2 2] 22, cellsA c (pairC v) 9] p → LK.VP v bk p := by
  rintro p ⟨a, q, h1, ⟨a2, q2, h2, _, _, h3, _⟩, _, h4, h5⟩
  exact ⟨c, h4 _ _ h1, h5 _ _ (h3 _ _ h2)⟩

section
variable (b : Nat) (most : Int) (kvs : List (Key × ByteArray)) (R : List HA) (W w : World) (c : Nat) (k : Key) (v : ByteArray)
set_option maxHeartbeats 1600000 in
set_option maxRecDepth 100000 in
theorem kput_full (hS : Star W w (LK.A b most kvs :: R)) (hk : k ∉ kvs.map (·.1)) (hf : most ≤ kvs.length) :
    Calls Try.prog 8 #[.pointer (some ⟨b, 0, none⟩), .agg #[.string k.1, .int .i64 k.2], .slice (some ⟨c, 0, none⟩) 2 2] w fun e w' => e = .returned (.int .i64 11) ∧ Star W w' (LK.A b most kvs :: R) := by
  have HF := Lib.hid (hS.new (.cells #[.string k.1, .int .i64 k.2] 29))
  obtain ⟨a, cc, mb, m, ho, h1⟩ := log_open hS
  have hl := ho.out k hk
  have hN := h1.new (.cells #[.string k.1, .int .i64 k.2] 29)
  obtain ⟨wO, hwO⟩ : ∃ wO, wO = w.alloc (.cells #[.string k.1, .int .i64 k.2] 29) := ⟨_, rfl⟩
  rw [← hwO] at hN HF
  have e0 : wO.cell? ⟨w.heap.size, 0, none⟩ = some (.string k.1) := hN.cell 0
  have e1 : wO.cell? ⟨w.heap.size, 1, none⟩ = some (.int .i64 k.2) := hN.cell 1
  have d0 : wO.cell? ⟨b, 0, none⟩ = some (.int .i64 most) := (hN.pull 1).cell 0
  have d1 : wO.cell? ⟨b, 1, none⟩ = some (.slice a kvs.length cc) := (hN.pull 1).cell 1
  have d2 : wO.cell? ⟨b, 2, none⟩ = some (.map (some mb)) := (hN.pull 1).cell 2
  have hlk : ∀ n, (Instr.lookup 67 (.map (some mb)) (.agg #[.string k.1, .int .i64 k.2]) false).run Try.prog (wO.drewN n) = .ok (.slice none 0 0) (wO.drewN n) := by
    intro n
    have := run_lookup_k keyOK Try.underlying67 zero72 ((hN.drewN n).pull 3) k false
    rw [hl] at this
    exact this
  clear hS h1 hl ho hk hN
  go_enter Try.func8, Try.ntmps8
  go_wp2_with fail
  rw [← hwO]
  clear hwO
  go_quiet (fail)
  go_wp2
  go_quiet (fail)
  go_wp2
  go_ret
  exact ⟨rfl, ((HF.out.drewN _).drewN _).drop⟩
set_option maxHeartbeats 1600000 in
set_option maxRecDepth 100000 in
theorem kput_hit (j : Nat) (v0 : ByteArray) (hS : Star W w (LK.A b most kvs :: cellsA c (pairC v) 9 :: R)) (hj : kvs[j]? = some (k, v0)) :
    Calls Try.prog 8 #[.pointer (some ⟨b, 0, none⟩), .agg #[.string k.1, .int .i64 k.2], .slice (some ⟨c, 0, none⟩) 2 2] w fun e w' => e = .returned (.int .i64 0) ∧ Star W w' (LK.A b most (kvs.set j (k, v)) :: R) := by
  have hjk : (kvs.map (·.1))[j]? = some k := by rw [List.getElem?_map, hj]; rfl
  obtain ⟨a, cc, mb, m, ho, h1⟩ := log_open hS
  obtain ⟨bk, hl, cv, hb, hcv⟩ := vals_get (h1.pull 3) (List.mem_of_getElem? hj)
  have hN := h1.new (.cells #[.string k.1, .int .i64 k.2] 29)
  obtain ⟨wO, hwO⟩ : ∃ wO, wO = w.alloc (.cells #[.string k.1, .int .i64 k.2] 29) := ⟨_, rfl⟩
  have hgO : wO.heap.size = w.heap.size + 1 := by rw [hwO]; simp
  rw [← hwO] at hN
  have e0 : wO.cell? ⟨w.heap.size, 0, none⟩ = some (.string k.1) := hN.cell 0
  have e1 : wO.cell? ⟨w.heap.size, 1, none⟩ = some (.int .i64 k.2) := hN.cell 1
  have d2 : wO.cell? ⟨b, 2, none⟩ = some (.map (some mb)) := (hN.pull 1).cell 2
  have hlk : ∀ n, (Instr.lookup 67 (.map (some mb)) (.agg #[.string k.1, .int .i64 k.2]) false).run Try.prog (wO.drewN n) = .ok (.slice (some ⟨bk, 0, none⟩) 1 1) (wO.drewN n) := by
    intro n
    have := run_lookup_k keyOK Try.underlying67 zero72 ((hN.drewN n).pull 3) k false
    rw [hl] at this
    exact this
  clear hS h1 hl hb hcv hgO
  go_enter Try.func8, Try.ntmps8
  go_wp2_with fail
  rw [← hwO]
  clear hwO
  go_quiet (fail)
  go_wp2
  have hM := hN.drewN nq
  generalize wO.drewN nq = w1 at hM ⊢
  clear hlk e0 e1 d2 hN
  have e0 : w1.cell? ⟨w.heap.size, 0, none⟩ = some (.string k.1) := hM.cell 0
  have e1 : w1.cell? ⟨w.heap.size, 1, none⟩ = some (.int .i64 k.2) := hM.cell 1
  have d2 : w1.cell? ⟨b, 2, none⟩ = some (.map (some mb)) := (hM.pull 1).cell 2
  have hP := hM.new (.cells #[.slice (some ⟨c, 0, none⟩) 2 2] 22)
  have e0' : (w1.alloc (.cells #[.slice (some ⟨c, 0, none⟩) 2 2] 22)).cell? ⟨w.heap.size, 0, none⟩ = some (.string k.1) := (hP.pull 1).cell 0
  have e1' : (w1.alloc (.cells #[.slice (some ⟨c, 0, none⟩) 2 2] 22)).cell? ⟨w.heap.size, 1, none⟩ = some (.int .i64 k.2) := (hP.pull 1).cell 1
  have d2' : (w1.alloc (.cells #[.slice (some ⟨c, 0, none⟩) 2 2] 22)).cell? ⟨b, 2, none⟩ = some (.map (some mb)) := (hP.pull 2).cell 2
  have hP := hP.drew
  obtain ⟨w3, hr, h6⟩ := run_update_k keyOK Try.underlying67 (hP.pull 4) k (one1 w1.heap.size)
  have hr' : (Instr.mapUpdate 67 (.map (some mb)) (.agg #[.string k.1, .int .i64 k.2]) (.slice (some ⟨w1.heap.size, 0, none⟩) 1 1)).run Try.prog (w1.alloc (.cells #[.slice (some ⟨c, 0, none⟩) 2 2] 22)).drew = .ok () w3 := hr
  have H6 := Lib.hid h6
  clear hr h6 hP hM
  go_region
  all_goals
    go_wp2
    go_ret
    refine ⟨rfl, ?_⟩
    have h7 : Star W w3 (Holds [cellsA w1.heap.size #[.slice (some ⟨c, 0, none⟩) 2 2] 22, cellsA c (pairC v) 9] :: _) := (H6.out.pick 7 [1, 6, 5, 0, 3, 4]).fold (L := [_, _])
    have h8 := vals_put (P := LK) (m := m) (kvs := kvs) (k := k) (v := v) (bk := w1.heap.size) h7 vp_of (set_mem ho.nd2 hjk)
    refine log_shut (P := LK) (mapOK_set ho hjk) (by simp) ?_ (h8.pick 4 [2, 3, 1, 0])
    rw [List.map_set, set_same hjk]
set_option maxHeartbeats 1600000 in
set_option maxRecDepth 100000 in
theorem kput_room (hS : Star W w (LK.A b most kvs :: cellsA c (pairC v) 9 :: R)) (hn : kvs.length ≤ 1000000) (hk : k ∉ kvs.map (·.1)) (hf : (kvs.length : Int) < most) :
    Calls Try.prog 8 #[.pointer (some ⟨b, 0, none⟩), .agg #[.string k.1, .int .i64 k.2], .slice (some ⟨c, 0, none⟩) 2 2] w fun e w' => e = .returned (.int .i64 0) ∧ Star W w' (LK.A b most (kvs ++ [(k, v)]) :: R) := by
  obtain ⟨i0, hi, hz0, hz1, hz2⟩ := info_parts Try.info29
  obtain ⟨a, cc, mb, m, ho, h1⟩ := log_open hS
  have hl := ho.out k hk
  have hN := h1.new (.cells #[.string k.1, .int .i64 k.2] 29)
  obtain ⟨wO, hwO⟩ : ∃ wO, wO = w.alloc (.cells #[.string k.1, .int .i64 k.2] 29) := ⟨_, rfl⟩
  rw [← hwO] at hN
  have e0 : wO.cell? ⟨w.heap.size, 0, none⟩ = some (.string k.1) := hN.cell 0
  have e1 : wO.cell? ⟨w.heap.size, 1, none⟩ = some (.int .i64 k.2) := hN.cell 1
  have d0 : wO.cell? ⟨b, 0, none⟩ = some (.int .i64 most) := (hN.pull 1).cell 0
  have d1 : wO.cell? ⟨b, 1, none⟩ = some (.slice a kvs.length cc) := (hN.pull 1).cell 1
  have d2 : wO.cell? ⟨b, 2, none⟩ = some (.map (some mb)) := (hN.pull 1).cell 2
  have hlk : ∀ n, (Instr.lookup 67 (.map (some mb)) (.agg #[.string k.1, .int .i64 k.2]) false).run Try.prog (wO.drewN n) = .ok (.slice none 0 0) (wO.drewN n) := by
    intro n
    have := run_lookup_k keyOK Try.underlying67 zero72 ((hN.drewN n).pull 3) k false
    rw [hl] at this
    exact this
  clear hS h1 hl
  go_enter Try.func8, Try.ntmps8
  go_wp2_with fail
  rw [← hwO]
  clear hwO
  go_quiet (fail)
  have hM := hN.drewN nq
  generalize wO.drewN nq = w1 at hM ⊢
  clear hlk e0 e1 d0 d1 d2 hN
  have d0 : w1.cell? ⟨b, 0, none⟩ = some (.int .i64 most) := (hM.pull 1).cell 0
  have d1 : w1.cell? ⟨b, 1, none⟩ = some (.slice a kvs.length cc) := (hM.pull 1).cell 1
  go_wp2
  go_quiet (fail)
  have hM2 := hM.drewN nq
  generalize w1.drewN nq = w2 at hM2 ⊢
  clear d0 d1 hM
  have e0 : w2.cell? ⟨w.heap.size, 0, none⟩ = some (.string k.1) := hM2.cell 0
  have e1 : w2.cell? ⟨w.heap.size, 1, none⟩ = some (.int .i64 k.2) := hM2.cell 1
  have d1 : w2.cell? ⟨b, 1, none⟩ = some (.slice a kvs.length cc) := (hM2.pull 1).cell 1
  have hP := hM2.drew.new (.cells #[.string k.1, .int .i64 k.2] 29)
  have hP2 : Star W _ (rowA 29 2 (.slice a kvs.length cc) kvs.length (k2 (kvs.map (·.1))) :: _) := hP.pull 3
  have hb := (hM2.pull 1).lt
  clear hP
  go_wp2
  go_region_law (refine step_append_star_any rfl (.tmp 29) (.tmp 31) 30 rfl 29 i0 _ 2 24 Try.underlying30 hi hz0 hz1 hz2 rfl (by decide) (.slice a kvs.length cc) kvs.length (k2 (kvs.map (·.1))) rfl hP2 (some ⟨w2.heap.size, 0, none⟩) 1 1 [.string k.1, .int .i64 k.2] rfl rfl (fun _ => ⟨_, rfl, cell_two_at _ _ rfl _ _ _⟩) (by simp [Value.oneCell']) (by simp only [maxLen]; omega) (by omega) ?_; intro a' c' w3 hS1; have c1' : w3.cell? ⟨b, 1, none⟩ = some (.slice a kvs.length cc) := (hS1.pull 3).cell 1; have f1' := (hS1.pull 3).frozen)
  all_goals
    have hS2 := (hS1.pull 3).set 1 (.slice a' (kvs.length + 1) c')
    have hM := hS2.pick 7 [3, 0, 1, 4, 5, 6]
    generalize w3.setCell ⟨b, 1, none⟩ (.slice a' (kvs.length + 1) c') = w1 at hM ⊢
    clear hS2 hS1 c1' f1' hP2 hM2 e0 e1 d1
    have e0 : w1.cell? ⟨w.heap.size, 0, none⟩ = some (.string k.1) := hM.cell 0
    have e1 : w1.cell? ⟨w.heap.size, 1, none⟩ = some (.int .i64 k.2) := hM.cell 1
    have d2 : w1.cell? ⟨b, 2, none⟩ = some (.map (some mb)) := (hM.pull 1).cell 2
    have hP := hM.new (.cells #[.slice (some ⟨c, 0, none⟩) 2 2] 22)
    have e0' : (w1.alloc (.cells #[.slice (some ⟨c, 0, none⟩) 2 2] 22)).cell? ⟨w.heap.size, 0, none⟩ = some (.string k.1) := (hP.pull 1).cell 0
    have e1' : (w1.alloc (.cells #[.slice (some ⟨c, 0, none⟩) 2 2] 22)).cell? ⟨w.heap.size, 1, none⟩ = some (.int .i64 k.2) := (hP.pull 1).cell 1
    have d2' : (w1.alloc (.cells #[.slice (some ⟨c, 0, none⟩) 2 2] 22)).cell? ⟨b, 2, none⟩ = some (.map (some mb)) := (hP.pull 2).cell 2
    have hP := hP.drew
    obtain ⟨w4, hr, h6⟩ := run_update_k keyOK Try.underlying67 (hP.pull 4) k (one1 w1.heap.size)
    have hr' : (Instr.mapUpdate 67 (.map (some mb)) (.agg #[.string k.1, .int .i64 k.2]) (.slice (some ⟨w1.heap.size, 0, none⟩) 1 1)).run Try.prog (w1.alloc (.cells #[.slice (some ⟨c, 0, none⟩) 2 2] 22)).drew = .ok () w4 := hr
    have H6 := Lib.hid h6
    clear hr h6 hP hM
    go_wp2
    go_region
    all_goals
      go_wp2
      go_ret
      refine ⟨rfl, ?_⟩
      have h7 : Star W w4 (Holds [cellsA w1.heap.size #[.slice (some ⟨c, 0, none⟩) 2 2] 22, cellsA c (pairC v) 9] :: _) := (H6.out.pick 7 [1, 6, 5, 0, 3, 4]).fold (L := [_, _])
      have h8 := vals_put (P := LK) (m := m) (kvs := kvs) (k := k) (v := v) (bk := w1.heap.size) h7 vp_of (add_mem hk)
      refine log_shut (P := LK) (mapOK_add ho hk) (by simp) ?_ (h8.pick 4 [2, 3, 1, 0])
      simp [LK, k2_app, k2]
end
end Go.Proofs.Ytabpipdhoflgpaa
