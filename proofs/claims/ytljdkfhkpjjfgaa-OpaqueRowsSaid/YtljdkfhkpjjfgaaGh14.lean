/- The document's Writes: lemmas for the laws of ghost. Printed by gen_gh14.py. -/
import Derived.Test.YtljdkfhkpjjfgaaGh13
namespace Go.Proofs.Ytljdkfhkpjjfgaa
open Go.RowKit Go.Shelf
set_option linter.unusedVariables false

theorem ixOf_at {ps : List (Int × Int)} {c y : Int} {t : Nat} (h : ps[t]? = some (c, y)) (hb : ∀ (u : Nat) (p : Int × Int), u < t → ps[u]? = some p → p.1 ≠ c) : ixOf ps c = some t := by
  have hl := (List.getElem?_eq_some_iff.1 h).1
  refine List.findIdx?_eq_some_iff_getElem.2 ⟨by simpa using hl, ?_, fun u hu => ?_⟩
  · have := (List.getElem?_eq_some_iff.1 h).2
    simp [this]
  · have h1 := hb u (ps[u]'(by omega)) hu (List.getElem?_eq_getElem _)
    simpa using h1
theorem ixOf_none {ps : List (Int × Int)} {c : Int} (hb : ∀ (u : Nat) (p : Int × Int), ps[u]? = some p → p.1 ≠ c) : ixOf ps c = none := by
  refine List.findIdx?_eq_none_iff.2 fun d hd => ?_
  obtain ⟨p, hp, rfl⟩ := List.mem_map.1 hd
  obtain ⟨u, hu, he⟩ := List.mem_iff_getElem.1 hp
  have h1 := hb u p (by rw [List.getElem?_eq_getElem hu, he])
  simpa using h1
theorem writes_len (ms : List Mv) : ((sel true ms).foldl wrStep []).length ≤ ms.length := by
  have h1 := wr_len (sel true ms) []
  have h2 : (sel true ms).length ≤ ms.length := List.length_filter_le _ _
  simp only [List.length_nil] at h1
  omega
set_option maxRecDepth 100000 in
set_option maxHeartbeats 6400000 in
theorem writes_ref (s : Sto) (A : Option Addr) (k c : Nat) (w : World) (hS : Sl w A k 6 (mvsC s.moves)) (hk : s.moves.length = k) (hbig : k * 48 ≤ 140737488355328) :
    Calls Try.prog 44 #[.agg (stoC s (.slice A k c)).toArray] w fun e w' => ∃ a c', e = .returned (.slice a (writesOf s.moves).length c') ∧ Star w w' [rowA 70 2 (.slice a (writesOf s.moves).length c') (writesOf s.moves).length (pairsC (writesOf s.moves)), oldA w] := by
  obtain ⟨i0, hi, hz0, hz1, hz2⟩ := info_parts Try.info70
  obtain ⟨th, sp, bg, en, fa, er, by_, op, ga, ms⟩ := s
  dsimp only at hS hk ⊢
  dsimp only [stoC]
  have h0 := (Star.begin w).new (.cells #[.int .i64 th, .int .i64 sp, .int .i64 bg, .int .i64 en, .int .i64 fa, .int .i64 er, .int .i64 by_, .int .i64 op, .int .i64 ga, .slice A k c] 44)
  have HS := Lib.hid hS
  have HK := Lib.hid hk
  clear hS hk
  go_enter Try.func44, Try.ntmps44
  go_wp2_with fail
  go_loopw [3, 4] (fun l i wr => ∃ j : Nat, j ≤ k ∧ i = .int .i64 j ∧ ∃ a cc, l = .slice a ((sel true (ms.take j)).foldl wrStep []).length cc ∧ Star w wr [rowA 70 2 (.slice a ((sel true (ms.take j)).foldl wrStep []).length cc) ((sel true (ms.take j)).foldl wrStep []).length (pairsC ((sel true (ms.take j)).foldl wrStep [])), cellsA w.heap.size #[.int .i64 th, .int .i64 sp, .int .i64 bg, .int .i64 en, .int .i64 fa, .int .i64 er, .int .i64 by_, .int .i64 op, .int .i64 ga, .slice A k c] 44, oldA w]) (fun _ i _ => k - (intOf i).toNat)
  case atStart => exact ⟨0, Nat.zero_le _, rfl, none, 0, rfl, by simpa [sel, pairsC] using h0.rowNil 70 2⟩
  case round =>
    clear h0
    obtain ⟨j, hj, rfl, a, cc, rfl, hR⟩ := hrel
    have hrl := writes_len (ms.take j)
    have hrl : ((sel true (ms.take j)).foldl wrStep []).length ≤ j := by rw [List.length_take] at hrl; omega
    by_cases hlt : j < k
    · obtain ⟨m, hm⟩ : ∃ m, ms[j]? = some m := ⟨_, List.getElem?_eq_getElem (by have := HK.out; omega)⟩
      obtain ⟨g, o, rfl, hg, ca⟩ := HS.out.row hlt (by omega)
      have fm : ∀ i u, (mvC m)[i]? = some u → i < 6 → wr.cell? ⟨g, o + j * 6 + i, none⟩ = some u := fun i u hu hi => ((hR.pull 2).oldCell hg).trans (ca i u (by rw [mvsC_at hm hi]; exact hu))
      have a0 := fm 0 _ rfl (by omega)
      have a1 := fm 1 _ rfl (by omega)
      have a2 := fm 2 _ rfl (by omega)
      have a3 := fm 3 _ rfl (by omega)
      have a4 := fm 4 _ rfl (by omega)
      have a5 := fm 5 _ rfl (by omega)
      simp only [Nat.add_zero] at a0
      have hjz : (j : Int) < k := by omega
      have HM := Lib.hid (take_succ hm)
      clear fm ca hm
      obtain ⟨st, wt, ce, x, ow, gt⟩ := m
      dsimp only at a0 a1 a2 a3 a4 a5
      have e9 : wr.cell? ⟨w.heap.size, 9, none⟩ = some (.slice (some ⟨g, o, none⟩) k c) := (hR.pull 1).cell 9
      cases wt with
      | false =>
        have h1 : sel true (ms.take (j + 1)) = sel true (ms.take j) := by rw [HM.out, sel_snoc]; simp
        have H1 := Lib.hid h1
        have h2 := (hR.new (.cells #[.int .i64 st, .bool false, .int .i64 ce, .int .i64 x, .bool ow, .int .i64 gt] 46)).drop
        have e1 : (wr.alloc (.cells #[.int .i64 st, .bool false, .int .i64 ce, .int .i64 x, .bool ow, .int .i64 gt] 46)).cell? ⟨wr.heap.size, 1, none⟩ = some (.bool false) := (hR.new _).cell 1
        clear h1 hR
        go_wp2
        go_roundw
        case rel => exact ⟨j + 1, by omega, by go_num, a, cc, by rw [H1.out], by rw [H1.out]; exact h2⟩
        case measure => simp [intOf]; omega
      | true =>
        have h1 : (sel true (ms.take (j + 1))).foldl wrStep [] = wrStep ((sel true (ms.take j)).foldl wrStep []) ⟨st, true, ce, x, ow, gt⟩ := by rw [HM.out, sel_snoc]; simp
        have H1 := Lib.hid h1
        clear h1
        generalize hps : (sel true (ms.take j)).foldl wrStep [] = ps at hR hrl H1
        clear hps
        have h2 := hR.new (.cells #[.int .i64 st, .bool true, .int .i64 ce, .int .i64 x, .bool ow, .int .i64 gt] 46)
        have e1 : (wr.alloc (.cells #[.int .i64 st, .bool true, .int .i64 ce, .int .i64 x, .bool ow, .int .i64 gt] 46)).cell? ⟨wr.heap.size, 1, none⟩ = some (.bool true) := (hR.new _).cell 1
        clear hR
        go_wp2_with fail
        generalize wr.alloc (.cells #[.int .i64 st, .bool true, .int .i64 ce, .int .i64 x, .bool ow, .int .i64 gt] 46) = wB at h2 ⊢
        generalize wr.heap.size = gB at h2 ⊢
        clear a0 a1 a2 a3 a4 a5 e9 e1
        go_loopw [6] (fun t w3 => ∃ u : Nat, u ≤ ps.length ∧ t = .int .i64 u ∧ (∃ q, w3 = wB.drewN q) ∧ Hid (∀ (v : Nat) (p : Int × Int), v < u → ps[v]? = some p → p.1 ≠ ce)) (fun t _ => ps.length - (intOf t).toNat)
        case atStart => exact ⟨0, Nat.zero_le _, rfl, ⟨0, rfl⟩, fun v p hv => absurd hv (Nat.not_lt_zero _)⟩
        case round =>
          obtain ⟨u, hu, rfl, ⟨q, rfl⟩, hq⟩ := hrel
          have b2 : wB.cell? ⟨gB, 2, none⟩ = some (.int .i64 ce) := h2.cell 2
          by_cases hlt2 : u < ps.length
          · obtain ⟨⟨pc, px⟩, hp⟩ : ∃ p, ps[u]? = some p := ⟨_, List.getElem?_eq_getElem hlt2⟩
            obtain ⟨g2, rfl, hc1, hcm, hc2, hf2⟩ := (h2.pull 1).rowAt (by omega)
            have r0 : wB.cell? ⟨g2, u * 2, none⟩ = some (.int .i64 pc) := by have := hc2 (u * 2 + 0) (by omega); rw [pairsC_at hp (by omega)] at this; exact this
            have r1 : wB.cell? ⟨g2, u * 2 + 1, none⟩ = some (.int .i64 px) := by rw [hc2 _ (by omega), pairsC_at hp (by omega)]; rfl
            have f1 : wB.frozen? ⟨g2, u * 2 + 1, none⟩ = false := hf2 _
            have HP := Lib.hid hp
            have hu2 : (u : Int) < ps.length := by omega
            have hu3 : (u : Int) ≠ ps.length := by omega
            have b3 : wB.cell? ⟨gB, 3, none⟩ = some (.int .i64 x) := h2.cell 3
            have H2 := Lib.hid h2
            clear hc2 hf2 hp h2
            by_cases hpc : pc = ce
            · subst hpc
              have hix := ixOf_at HP.out hq.out
              have HIX := Lib.hid hix
              have hst : wrStep ps ⟨st, true, pc, x, ow, gt⟩ = ps.set u (pc, x) := by simp [wrStep, hix]
              have HST := Lib.hid hst
              clear hix hst
              go_wp2
              go_quiet (fail)
              go_wp2
              go_roundw
              case rel =>
                have k1 := fun qq => ((H2.out.drewN qq).pull 1).rowSet (u * 2 + 1) (.int .i64 x)
                rw [pairsC_set HIX.out] at k1
                refine ⟨j + 1, by omega, by go_num, some ⟨g2, 0, none⟩, cc, by rw [H1.out, HST.out]; simp, ?_⟩
                rw [H1.out, HST.out, List.length_set]
                exact (k1 _).pick 4 [0, 2, 3]
              case measure => simp [intOf]; omega
            · have hpc2 : (pc != ce) = true := by simpa using hpc
              go_wp2
              go_quiet (fail)
              go_wp2
              go_roundw
              case rel =>
                refine ⟨u + 1, by omega, by go_num, ⟨_, rfl⟩, fun v p hv hp => ?_⟩
                by_cases hvu : v = u
                · subst hvu
                  rw [HP.out] at hp
                  injection hp with hp
                  subst hp
                  exact hpc
                · exact hq.out v p (by omega) hp
              case measure => simp [intOf]; omega
          · have hul : u = ps.length := by omega
            subst hul
            have hix : ixOf ps ce = none := ixOf_none fun v p hp => hq.out v p (List.getElem?_eq_some_iff.1 hp).1 hp
            have HIX := Lib.hid hix
            have hst : wrStep ps ⟨st, true, ce, x, ow, gt⟩ = ps ++ [(ce, x)] := by simp [wrStep, hix]
            have HST := Lib.hid hst
            have hul2 : ¬ (ps.length : Int) < ps.length := by omega
            clear hix hst
            go_wp2
            go_quiet (fail)
            have h3 := (h2.drewN q).drewN nq
            generalize (wB.drewN q).drewN nq = wC at h3 ⊢
            have b2 : wC.cell? ⟨gB, 2, none⟩ = some (.int .i64 ce) := h3.cell 2
            have hN := (h3.new (.cells (pairC (ce, 0)).toArray 70)).pull 2
            have hlt3 : (ps.length : Int) < ps.length + 1 := by omega
            clear h2 h3 hul2
            go_wp2_with (at_builtin; refine wpList_append_star rfl _ _ 63 rfl 70 i0 _ 2 16 Try.underlying63 hi hz0 hz1 hz2 rfl (by decide) _ ps.length _ rfl hN ⟨wC.heap.size, 0, none⟩ 1 1 (pairC (ce, 0)) rfl rfl (cell_list_new _ _ rfl _ _) (by simp [pairC, Value.oneCell']) (by simp only [maxLen]; omega) (by omega) ?_; intro a' c' w4 h5; obtain ⟨g2, rfl, hc1, hcm, hc2, hf2⟩ := h5.rowAt (by omega); have z3 : w4.cell? ⟨gB, 3, none⟩ = some (.int .i64 x) := (h5.pull 2).cell 3; have g1 : w4.cell? ⟨g2, ps.length * 2 + 1, none⟩ = some (.int .i64 0) := (hc2 _ (by omega)).trans (pairs_last ps ce 0); have f1 := hf2 (ps.length * 2 + 1); clear hc2 hf2)
            go_roundw
            case rel =>
              have k1 := h5.rowSet (ps.length * 2 + 1) (.int .i64 x)
              rw [pairsC_last] at k1
              refine ⟨j + 1, by omega, by go_num, some ⟨g2, 0, none⟩, c', by rw [H1.out, HST.out]; simp, ?_⟩
              rw [H1.out, HST.out, List.length_append]
              exact k1.pick 5 [0, 3, 4]
            case measure => simp [intOf]; omega
    · have hkn : j = k := by omega
      subst hkn
      have e9 : wr.cell? ⟨w.heap.size, 9, none⟩ = some (.slice A j c) := (hR.pull 1).cell 9
      have h1 : ms.take j = ms := List.take_of_length_le (by have := HK.out; omega)
      rw [h1] at hR ⊢
      have h2 := hR.pick 3 [0, 2]
      have H2 := Lib.hid h2
      clear hR h2 h1 hrl
      go_wp2
      go_ret
      exact ⟨a, cc, rfl, H2.out⟩
end Go.Proofs.Ytljdkfhkpjjfgaa
