/- The law PolicyOrder, walked. -/
import Derived.Test.YtbfkjlkagkookaaPol8
namespace Go.Proofs.Ytbfkjlkagkookaa
open Go.RowKit
set_option linter.unusedVariables false

theorem lessV_stamps (vs : List Vic) (s : Int) : lessV vs s = (vs.map (·.2.2.1)).any (fun x => decide (x < s)) := by
  simp only [lessV, List.any_map]; rfl
theorem lessV_back {us vs : List Vic} {s : Int} (h : us.map (·.2.2.1) = (vs.map (·.2.2.1)).reverse) : lessV us s = lessV vs s := by
  rw [lessV_stamps, lessV_stamps, h, List.any_reverse]
theorem verd_back (c : Cfg) (s d : Int) (n : Nat) {us vs : List Vic} (h : us.map (·.2.2.1) = (vs.map (·.2.2.1)).reverse) : verd c s d n us = verd c s d n vs := by
  simp only [verd, rule3V, lessV_back h]
theorem verd_more (c : Cfg) (s d : Int) (n : Nat) (us : List Vic) (v : Vic) : verd c s d n us = verd c s d (n + 1) (us ++ [v]) ∨ verd c s d n us = 1 := by
  simp only [verd]
  split
  · simp only [rule2V]
    split
    · rw [if_pos (by omega)]; exact .inl rfl
    · exact .inr rfl
  · split
    · simp only [rule3V]
      cases h : lessV us s
      · exact .inr rfl
      · have : lessV (us ++ [v]) s = true := by simp only [lessV, List.any_append] at h ⊢; rw [h]; rfl
        rw [this]; exact .inl rfl
    · exact .inl rfl

set_option maxHeartbeats 3200000 in
theorem order_walk (c : Cfg) (stamp defers : Int) (A : Option Addr) (n cap : Nat) (vs : List Vic) (m : Vic) (w : World) (hv : VSl w A n vs) (hb : (n + 1) * 32 ≤ 140737488355328) :
    Calls Try.prog 4 #[.agg c.cs.toArray, .int .i64 stamp, .int .i64 defers, .slice A n cap, .agg (vcells m).toArray] w fun e w' => e = .returned (.bool true) ∧ Below w.heap.size w w' := by
  have hn : n + 1 ≤ 9223372036854775807 := by omega
  obtain ⟨i0, hi, hz0, hz1, hz2⟩ := info_parts Try.info33
  obtain ⟨z, z2, ec, hzz, hV, hV2⟩ : ∃ z z2 ec : Int, (z = z2 ∨ z = 1) ∧ (∀ A cap us w0, us.map (·.2.2.1) = (vs.map (·.2.2.1)).reverse ∨ us = vs → VSl w0 A n us → Calls Try.prog 9 #[.agg c.cs.toArray, .int .i64 stamp, .int .i64 defers, .slice A n cap] w0 fun e w' => e = .returned (.tuple #[.int .i64 z, .int .i64 ec]) ∧ Below w0.heap.size w0 w') ∧ (∀ A cap us w0, us.map (·.2.2.1) = (vs.map (·.2.2.1)).reverse → VSl w0 A (n + 1) (us ++ [m]) → Calls Try.prog 9 #[.agg c.cs.toArray, .int .i64 stamp, .int .i64 defers, .slice A (n + 1) cap] w0 fun e w' => e = .returned (.tuple #[.int .i64 z2, .int .i64 ec]) ∧ Below w0.heap.size w0 w') := by
    by_cases ho : okC c = false ∨ defers < 0
    · exact ⟨0, 0, 1, .inl rfl, fun A cap us w0 _ _ => verdict_bad c stamp defers A n cap w0 ho, fun A cap us w0 _ _ => verdict_bad c stamp defers A (n + 1) cap w0 ho⟩
    · have h1 : okC c = true := by cases h : okC c; (· exact absurd (.inl h) ho); rfl
      have h2 : 0 ≤ defers := by omega
      have hl : lessV vs.reverse stamp = lessV vs stamp := by simp [lessV]
      refine ⟨verd c stamp defers n vs, verd c stamp defers (n + 1) (vs ++ [m]), 0, verd_more c stamp defers n vs m, fun A cap us w0 hu hv => ?_, fun A cap us w0 hu hv => ?_⟩
      · have he : verd c stamp defers n us = verd c stamp defers n vs := by
          rcases hu with hu | rfl
          · exact verd_back c stamp defers n hu
          · rfl
        rw [← he]
        exact verdict_ok c stamp defers A n cap us w0 h1 h2 hv (by omega)
      · have he : verd c stamp defers (n + 1) (us ++ [m]) = verd c stamp defers (n + 1) (vs ++ [m]) := by
          have hle : lessV (us ++ [m]) stamp = lessV (vs ++ [m]) stamp := by
            have := lessV_back (s := stamp) hu
            simp only [lessV, List.any_append] at this ⊢
            rw [this]
          simp only [verd, rule3V, hle]
        rw [← he]
        exact verdict_ok c stamp defers A (n + 1) cap (us ++ [m]) w0 h1 h2 hv (by omega)
  obtain ⟨x1, x2, x3, x4, x5, x6⟩ := c
  obtain ⟨m1, m2, m3, m4⟩ := m
  have HV : Hid (∀ A cap us w0, us.map (·.2.2.1) = (vs.map (·.2.2.1)).reverse ∨ us = vs → VSl w0 A n us → Calls Try.prog 9 #[.agg #[.int .i64 x1, .int .i64 x2, .int .i64 x3, .int .i64 x4, .int .i64 x5, .int .i64 x6], .int .i64 stamp, .int .i64 defers, .slice A n cap] w0 fun e w' => e = .returned (.tuple #[.int .i64 z, .int .i64 ec]) ∧ Below w0.heap.size w0 w') := hV
  have HV2 : Hid (∀ A cap us w0, us.map (·.2.2.1) = (vs.map (·.2.2.1)).reverse → VSl w0 A (n + 1) (us ++ [(m1, m2, m3, m4)]) → Calls Try.prog 9 #[.agg #[.int .i64 x1, .int .i64 x2, .int .i64 x3, .int .i64 x4, .int .i64 x5, .int .i64 x6], .int .i64 stamp, .int .i64 defers, .slice A (n + 1) cap] w0 fun e w' => e = .returned (.tuple #[.int .i64 z2, .int .i64 ec]) ∧ Below w0.heap.size w0 w') := hV2
  show Calls Try.prog 4 #[.agg #[.int .i64 x1, .int .i64 x2, .int .i64 x3, .int .i64 x4, .int .i64 x5, .int .i64 x6], .int .i64 stamp, .int .i64 defers, .slice A n cap, .agg #[.int .i64 m1, .int .i64 m2, .int .i64 m3, .int .i64 m4]] w _
  have h1 := ((Star.begin w).new (.cells #[.int .i64 x1, .int .i64 x2, .int .i64 x3, .int .i64 x4, .int .i64 x5, .int .i64 x6] 23)).new (.cells #[.int .i64 m1, .int .i64 m2, .int .i64 m3, .int .i64 m4] 33)
  rw [show (w.alloc (.cells #[.int .i64 x1, .int .i64 x2, .int .i64 x3, .int .i64 x4, .int .i64 x5, .int .i64 x6] 23)).heap.size = w.heap.size + 1 by simp] at h1
  have hvl := hv.1
  have Hv := Lib.hid hv
  have Hzz := Lib.hid hzz
  clear hv hV hV2 hzz
  go_enter Try.func4, Try.ntmps4
  go_wp2_with fail
  refine (awake_any _ w _ h1).mono ?_
  rintro e w1 ⟨rfl, h2⟩
  clear h1
  have c0 : w1.cell? ⟨w.heap.size, 0, none⟩ = some (.int .i64 x1) := h2.swap.cell 0
  have c1 : w1.cell? ⟨w.heap.size, 1, none⟩ = some (.int .i64 x2) := h2.swap.cell 1
  have c2 : w1.cell? ⟨w.heap.size, 2, none⟩ = some (.int .i64 x3) := h2.swap.cell 2
  have c3 : w1.cell? ⟨w.heap.size, 3, none⟩ = some (.int .i64 x4) := h2.swap.cell 3
  have c4 : w1.cell? ⟨w.heap.size, 4, none⟩ = some (.int .i64 x5) := h2.swap.cell 4
  have c5 : w1.cell? ⟨w.heap.size, 5, none⟩ = some (.int .i64 x6) := h2.swap.cell 5
  go_wp2_with fail
  refine (HV.out _ _ _ _ (.inr rfl) (Hv.out.below (h2.pull 2).below)).mono ?_
  rintro e w2 ⟨rfl, b2⟩
  have h3 := (h2.of_below b2).rowNil 33 4
  clear h2 b2 c0 c1 c2 c3 c4 c5
  go_wp2
  go_loopw [14, 15] (fun v i wr => ∃ k : Nat, k ≤ n ∧ i = .int .i64 ((k : Int) - 1) ∧ ∃ a cb us, v = .slice a (n - k) cb ∧ Hid (us.map (·.2.2.1) = ((vs.drop k).map (·.2.2.1)).reverse) ∧ Star w wr [rowA 33 4 (.slice a (n - k) cb) (n - k) (vrow us), cellsA (w.heap.size + 1) #[.int .i64 m1, .int .i64 m2, .int .i64 m3, .int .i64 m4] 33, cellsA w.heap.size #[.int .i64 x1, .int .i64 x2, .int .i64 x3, .int .i64 x4, .int .i64 x5, .int .i64 x6] 23, oldA w]) (fun _ i _ => (intOf i + 1).toNat)
  case atStart => exact ⟨n, Nat.le_refl _, rfl, none, 0, [], by simp, by simp [Hid, hvl], by rw [Nat.sub_self]; exact h3⟩
  case round =>
    obtain ⟨k, hk, rfl, a, cb, us, rfl, hus, hR⟩ := hrel
    clear h3
    by_cases hk0 : k = 0
    · subst hk0
      have hus' : Hid (us.map (·.2.2.1) = (vs.map (·.2.2.1)).reverse) := hus
      rw [Nat.sub_zero] at hR
      clear hus hk
      have hul : VSl wr a n us := hR.rowSl.vsl
      have c0 : wr.cell? ⟨w.heap.size, 0, none⟩ = some (.int .i64 x1) := (hR.pull 2).cell 0
      have c1 : wr.cell? ⟨w.heap.size, 1, none⟩ = some (.int .i64 x2) := (hR.pull 2).cell 1
      have c2 : wr.cell? ⟨w.heap.size, 2, none⟩ = some (.int .i64 x3) := (hR.pull 2).cell 2
      have c3 : wr.cell? ⟨w.heap.size, 3, none⟩ = some (.int .i64 x4) := (hR.pull 2).cell 3
      have c4 : wr.cell? ⟨w.heap.size, 4, none⟩ = some (.int .i64 x5) := (hR.pull 2).cell 4
      have c5 : wr.cell? ⟨w.heap.size, 5, none⟩ = some (.int .i64 x6) := (hR.pull 2).cell 5
      go_wp2_with fail
      refine (HV.out _ _ us _ (.inl hus'.out) hul).mono ?_
      rintro e w3 ⟨rfl, b3⟩
      have h4 := hR.of_below b3
      clear hR hul b3 c0 c1 c2 c3 c4 c5
      have c0 : w3.cell? ⟨w.heap.size, 0, none⟩ = some (.int .i64 x1) := (h4.pull 2).cell 0
      have c1 : w3.cell? ⟨w.heap.size, 1, none⟩ = some (.int .i64 x2) := (h4.pull 2).cell 1
      have c2 : w3.cell? ⟨w.heap.size, 2, none⟩ = some (.int .i64 x3) := (h4.pull 2).cell 2
      have c3 : w3.cell? ⟨w.heap.size, 3, none⟩ = some (.int .i64 x4) := (h4.pull 2).cell 3
      have c4 : w3.cell? ⟨w.heap.size, 4, none⟩ = some (.int .i64 x5) := (h4.pull 2).cell 4
      have c5 : w3.cell? ⟨w.heap.size, 5, none⟩ = some (.int .i64 x6) := (h4.pull 2).cell 5
      have d0 : w3.cell? ⟨w.heap.size + 1, 0, none⟩ = some (.int .i64 m1) := (h4.pull 1).cell 0
      have d1 : w3.cell? ⟨w.heap.size + 1, 1, none⟩ = some (.int .i64 m2) := (h4.pull 1).cell 1
      have d2 : w3.cell? ⟨w.heap.size + 1, 2, none⟩ = some (.int .i64 m3) := (h4.pull 1).cell 2
      have d3 : w3.cell? ⟨w.heap.size + 1, 3, none⟩ = some (.int .i64 m4) := (h4.pull 1).cell 3
      go_wp2
      go_region_held3 (fun w' => w'.cell? ⟨w.heap.size, 0, none⟩ = some (.int .i64 x1) ∧ w'.cell? ⟨w.heap.size, 1, none⟩ = some (.int .i64 x2) ∧ w'.cell? ⟨w.heap.size, 2, none⟩ = some (.int .i64 x3) ∧ w'.cell? ⟨w.heap.size, 3, none⟩ = some (.int .i64 x4) ∧ w'.cell? ⟨w.heap.size, 4, none⟩ = some (.int .i64 x5) ∧ w'.cell? ⟨w.heap.size, 5, none⟩ = some (.int .i64 x6) ∧ w'.cell? ⟨w.heap.size + 1, 0, none⟩ = some (.int .i64 m1) ∧ w'.cell? ⟨w.heap.size + 1, 1, none⟩ = some (.int .i64 m2) ∧ w'.cell? ⟨w.heap.size + 1, 2, none⟩ = some (.int .i64 m3) ∧ w'.cell? ⟨w.heap.size + 1, 3, none⟩ = some (.int .i64 m4)) (go_keep) (first
        | (refine step_append_star_any rfl (.tmp 60) (.tmp 62) 24 rfl 33 i0 _ 4 32 Try.underlying24 hi hz0 hz1 hz2 rfl (by decide) (.slice a n cb) n (vrow us) rfl ((h4.drew.new _).pull 1) (some ⟨w3.heap.size, 0, none⟩) 1 1 [.int .i64 m1, .int .i64 m2, .int .i64 m3, .int .i64 m4] rfl rfl (fun _ => ⟨_, rfl, cell_four_new _ _ _ _ _ _⟩) (by simp [Value.oneCell']) (by simp only [maxLen]; omega) (by omega) ?_; intro a' c' w4 hS4; have hS5 : Star w w4 (rowA 33 4 (.slice a' (n + 1) c') (n + 1) (vrow (us ++ [(m1, m2, m3, m4)])) :: _) := (by simpa [vrow_append, vrow, vcells] using hS4); have e0 := (hS5.pull 3).cell 0; have e1 := (hS5.pull 3).cell 1; have e2 := (hS5.pull 3).cell 2; have e3 := (hS5.pull 3).cell 3; have e4 := (hS5.pull 3).cell 4; have e5 := (hS5.pull 3).cell 5; have f0 := (hS5.pull 2).cell 0; have f1 := (hS5.pull 2).cell 1; have f2 := (hS5.pull 2).cell 2; have f3 := (hS5.pull 2).cell 3)
        | (go_at_call 9; refine (HV2.out _ _ us _ hus'.out hS5.rowSl.vsl).mono ?_; rintro e w5 ⟨rfl, b5⟩; have hS6 := hS5.of_below b5; have p0 := (hS6.pull 3).cell 0; have p1 := (hS6.pull 3).cell 1; have p2 := (hS6.pull 3).cell 2; have p3 := (hS6.pull 3).cell 3; have p4 := (hS6.pull 3).cell 4; have p5 := (hS6.pull 3).cell 5; have q0 := (hS6.pull 2).cell 0; have q1 := (hS6.pull 2).cell 1; have q2 := (hS6.pull 2).cell 2; have q3 := (hS6.pull 2).cell 3))
      all_goals
        have hB := (hS6.pull 4).below
        clear hS6
        by_cases hz : z = z2
        · subst hz
          go_wp2
          go_ret
          exact ⟨by simp, hB⟩
        · obtain rfl : z = 1 := by rcases Hzz.out with h | h; (· exact absurd h hz); exact h
          have hzb : ((1 : Int) == z2) = false := by simpa using hz
          go_wp2
          go_ret
          exact ⟨by simp, hB⟩
    · obtain ⟨j, rfl⟩ : ∃ j, k = j + 1 := ⟨k - 1, by omega⟩
      obtain ⟨v, hvj⟩ : ∃ v, vs[j]? = some v := ⟨_, List.getElem?_eq_getElem (by omega)⟩
      obtain ⟨g, o, rfl, c0, c1, c2, c3⟩ := Hv.out.2 j v hvj
      have hg : g < w.heap.size := World.block_lt_of_cell? w _ c0
      have ho := fun i => (hR.pull 3).oldCell (p := ⟨g, i, none⟩) hg
      rw [← ho] at c2
      have hstep : Hid ((us ++ [((j : Int), -(j : Int), v.2.2.1, (0 : Int))]).map (·.2.2.1) = ((vs.drop j).map (·.2.2.1)).reverse) := by
        have : vs.drop j = v :: vs.drop (j + 1) := by
          obtain ⟨hj, rfl⟩ := List.getElem?_eq_some_iff.1 hvj
          exact List.drop_eq_getElem_cons hj
        refine Lib.hid ?_
        rw [this, List.map_append, hus.out]
        simp
      obtain ⟨v1, v2, v3, v4⟩ := v
      have hnj : n - (j + 1) + 1 = n - j := by omega
      clear ho c0 c1 c3 hvj hus
      go_wp2_with (at_builtin; refine wpList_append_star rfl _ _ 24 rfl 33 i0 _ 4 32 Try.underlying24 hi hz0 hz1 hz2 rfl (by decide) _ _ _ rfl ((hR.new _).pull 1) ⟨wr.heap.size, 0, none⟩ 1 1 [.int .i64 j, .int .i64 (-(j : Int)), .int .i64 v3, .int .i64 0] rfl rfl (cell_four_new _ _ _ _ _ _) (by simp [Value.oneCell']) (by simp only [maxLen]; omega) (by omega) ?_; intro a2 c2 w2 hS2)
      go_roundw
      case rel => exact ⟨j, by omega, by go_num, a2, _, _, rfl, hstep, by rw [← hnj]; simpa [vrow_append, vrow, vcells] using (hS2.pull 1).drop⟩
      case measure => simp [intOf]
end Go.Proofs.Ytbfkjlkagkookaa
