/- The document's Reads, Writer and Point: lemmas for the laws of ghost. Printed by gen_gh13.py. -/
import Derived.Test.YtljdkfhkpjjfgaaGh12
namespace Go.Proofs.Ytljdkfhkpjjfgaa
open Go.RowKit Go.Shelf
set_option linter.unusedVariables false

theorem take_succ {α : Type} {l : List α} {k : Nat} {x : α} (h : l[k]? = some x) : l.take (k + 1) = l.take k ++ [x] := by rw [List.take_add_one, h]; rfl
theorem sel_snoc (w : Bool) (ms : List Mv) (m : Mv) : sel w (ms ++ [m]) = sel w ms ++ (if decide (m.write = w) && (m.write || !m.own) then [m] else []) := by
  rw [sel, List.filter_append, sel]
  congr 1
  cases h : decide (m.write = w) && (m.write || !m.own) <;> simp [h]
theorem reads_snoc (ms : List Mv) (m : Mv) : readsOf (ms ++ [m]) = readsOf ms ++ (if !m.write && !m.own then [(m.cell, m.x)] else []) := by
  rw [readsOf, sel_snoc, List.map_append, readsOf]
  congr 1
  cases m.write <;> cases m.own <;> rfl
theorem reads_len (ms : List Mv) : (readsOf ms).length ≤ ms.length := by rw [readsOf, List.length_map]; exact List.length_filter_le _ _
set_option maxRecDepth 100000 in
set_option maxHeartbeats 3200000 in
theorem writer_ref (s : Sto) (A : Option Addr) (k c : Nat) (w : World) (hS : Sl w A k 6 (mvsC s.moves)) (hk : s.moves.length = k) (hb : k ≤ 9223372036854775807) :
    Calls Try.prog 49 #[.agg (stoC s (.slice A k c)).toArray] w fun e w' => e = .returned (.bool (decide (s.fate = 1 ∧ sel true s.moves ≠ []))) ∧ Below w.heap.size w w' := by
  obtain ⟨th, sp, bg, en, fa, er, by_, op, ga, ms⟩ := s
  dsimp only at hS hk ⊢
  dsimp only [stoC]
  have h0 := (Star.begin w).new (.cells #[.int .i64 th, .int .i64 sp, .int .i64 bg, .int .i64 en, .int .i64 fa, .int .i64 er, .int .i64 by_, .int .i64 op, .int .i64 ga, .slice A k c] 44)
  have HS := Lib.hid hS
  have HK := Lib.hid hk
  clear hS hk
  go_enter Try.func49, Try.ntmps49
  go_wp2_with fail
  generalize hwA : w.alloc (.cells #[.int .i64 th, .int .i64 sp, .int .i64 bg, .int .i64 en, .int .i64 fa, .int .i64 er, .int .i64 by_, .int .i64 op, .int .i64 ga, .slice A k c] 44) = wA at h0 ⊢
  go_loopw [3] (fun i wr => ∃ j : Nat, j ≤ k ∧ i = .int .i64 j ∧ wr = wA ∧ Hid (sel true (ms.take j) = [])) (fun i _ => k - (intOf i).toNat)
  case atStart => exact ⟨0, Nat.zero_le _, rfl, rfl, rfl⟩
  case round =>
    obtain ⟨j, hj, rfl, rfl, hq⟩ := hrel
    have hR := h0
    by_cases hlt : j < k
    · obtain ⟨m, hm⟩ : ∃ m, ms[j]? = some m := ⟨_, List.getElem?_eq_getElem (by have := HK.out; omega)⟩
      obtain ⟨g, o, rfl, hg, ca⟩ := HS.out.row hlt (by omega)
      have fm : ∀ i u, (mvC m)[i]? = some u → i < 6 → wr.cell? ⟨g, o + j * 6 + i, none⟩ = some u := fun i u hu hi => ((hR.pull 1).oldCell hg).trans (ca i u (by rw [mvsC_at hm hi]; exact hu))
      have a0 := fm 0 _ rfl (by omega)
      have a1 := fm 1 _ rfl (by omega)
      have a2 := fm 2 _ rfl (by omega)
      have a3 := fm 3 _ rfl (by omega)
      have a4 := fm 4 _ rfl (by omega)
      have a5 := fm 5 _ rfl (by omega)
      simp only [Nat.add_zero] at a0
      have hjz : (j : Int) < k := by omega
      have HM := Lib.hid (take_succ hm)
      clear fm ca hm
      obtain ⟨st, wt, ce, x, ow, gt⟩ := m
      dsimp only at a0 a1 a2 a3 a4 a5
      have e9 : wr.cell? ⟨w.heap.size, 9, none⟩ = some (.slice (some ⟨g, o, none⟩) k c) := h0.cell 9
      have e4 : wr.cell? ⟨w.heap.size, 4, none⟩ = some (.int .i64 fa) := h0.cell 4
      clear hR
      cases wt with
      | false =>
        have h1 : sel true (ms.take (j + 1)) = [] := by rw [HM.out, sel_snoc, hq.out]; simp
        have H1 := Lib.hid h1
        clear h1
        go_wp2
        go_roundw
        case rel => exact ⟨j + 1, by omega, by go_num, by simp, H1⟩
        case measure => simp [intOf]; omega
      | true =>
        have h1 : sel true ms ≠ [] := by
          intro e
          have h2 : sel true (ms.take (j + 1)) = [] := by
            have h3 : sel true (ms.take (j + 1) ++ ms.drop (j + 1)) = [] := by rw [List.take_append_drop]; exact e
            rw [sel, List.filter_append] at h3
            exact (List.append_eq_nil_iff.1 h3).1
          rw [HM.out, sel_snoc] at h2
          simp at h2
        have h2 : decide (fa = 1 ∧ sel true ms ≠ []) = (fa == 1) := by
          by_cases h : fa = 1 <;> simp [h, h1]
        have H2 := Lib.hid h2
        have H3 := Lib.hid ((h0.pull 1).below)
        clear h0 h1 h2
        go_wp2
        go_ret
        exact ⟨by rw [H2.out]; rfl, H3.out⟩
    · have hkn : j = k := by omega
      subst hkn
      have e9 : wr.cell? ⟨w.heap.size, 9, none⟩ = some (.slice A j c) := h0.cell 9
      have h1 : ms.take j = ms := List.take_of_length_le (by have := HK.out; omega)
      have h3 := hq.out
      rw [h1] at h3
      have h2 : decide (fa = 1 ∧ sel true ms ≠ []) = false := by simp [h3]
      have H2 := Lib.hid h2
      have H3 := Lib.hid ((h0.pull 1).below)
      clear h0 h1 h2 h3 hR
      go_wp2
      go_ret
      exact ⟨by rw [H2.out]; rfl, H3.out⟩
theorem lastOf_read {s : Sto} {ms : List Mv} {j : Nat} {m : Mv} (hm : ms[j]? = some m) (hd : sel false (ms.drop (j + 1)) = []) (h : m.write = false) (h' : m.own = false) : lastOf s (sel false ms) = (m.gate, m.step) := by
  have e : ms = (ms.take j ++ [m]) ++ ms.drop (j + 1) := by rw [← take_succ hm, List.take_append_drop]
  rw [e, sel, List.filter_append]
  rw [sel] at hd
  rw [hd, List.append_nil]
  have h2 := sel_snoc false (ms.take j) m
  rw [sel] at h2
  rw [h2, h, h']
  simp [lastOf]
theorem sel_drop {ms : List Mv} {j : Nat} {m : Mv} (hm : ms[j]? = some m) (hd : sel false (ms.drop (j + 1)) = []) (h : (!m.write && !m.own) = false) : sel false (ms.drop j) = [] := by
  have hl := (List.getElem?_eq_some_iff.1 hm).1
  have e : ms.drop j = m :: ms.drop (j + 1) := by
    rw [List.drop_eq_getElem_cons hl]
    have := (List.getElem?_eq_some_iff.1 hm).2
    rw [this]
  rw [e, sel, List.filter_cons]
  rw [sel] at hd
  rw [hd]
  cases hw : m.write <;> cases ho : m.own <;> simp_all
set_option maxRecDepth 100000 in
set_option maxHeartbeats 3200000 in
theorem point_ref (s : Sto) (A : Option Addr) (k c : Nat) (w : World) (hS : Sl w A k 6 (mvsC s.moves)) (hk : s.moves.length = k) (hb : k ≤ 9223372036854775807) :
    Calls Try.prog 48 #[.agg (stoC s (.slice A k c)).toArray] w fun e w' => e = .returned (.tuple #[.int .i64 (pointOf s).1, .int .i64 (pointOf s).2]) ∧ Below w.heap.size w w' := by
  have WR := Lib.hid fun W hW => writer_ref s A k c W hW hk hb
  obtain ⟨th, sp, bg, en, fa, er, by_, op, ga, ms⟩ := s
  dsimp only at hS hk ⊢
  dsimp only [stoC]
  have h0 := (Star.begin w).new (.cells #[.int .i64 th, .int .i64 sp, .int .i64 bg, .int .i64 en, .int .i64 fa, .int .i64 er, .int .i64 by_, .int .i64 op, .int .i64 ga, .slice A k c] 44)
  have HS := Lib.hid hS
  have HK := Lib.hid hk
  clear hS hk
  go_enter Try.func48, Try.ntmps48
  go_wp2_with fail
  have f : ∀ j u, [Value.int .i64 th, .int .i64 sp, .int .i64 bg, .int .i64 en, .int .i64 fa, .int .i64 er, .int .i64 by_, .int .i64 op, .int .i64 ga, .slice A k c][j]? = some u → (w.alloc (.cells #[.int .i64 th, .int .i64 sp, .int .i64 bg, .int .i64 en, .int .i64 fa, .int .i64 er, .int .i64 by_, .int .i64 op, .int .i64 ga, .slice A k c] 44)).cell? ⟨w.heap.size, j, none⟩ = some u := fun j u hu => by
    rw [h0.cell j]; simpa using hu
  have f0 := f 0 _ rfl
  have f1 := f 1 _ rfl
  have f2 := f 2 _ rfl
  have f3 := f 3 _ rfl
  have f4 := f 4 _ rfl
  have f5 := f 5 _ rfl
  have f6 := f 6 _ rfl
  have f7 := f 7 _ rfl
  have f8 := f 8 _ rfl
  have f9 := f 9 _ rfl
  clear f
  go_wp2_with fail
  refine (WR.out _ (HS.out.moved h0.swap)).mono ?_
  rintro e' w1 ⟨rfl, hB⟩
  have h1 := h0.of_below hB
  clear f0 f1 f2 f3 f4 f5 f6 f7 f8 f9 hB h0
  have g2 : w1.cell? ⟨w.heap.size, 2, none⟩ = some (.int .i64 bg) := h1.cell 2
  have g3 : w1.cell? ⟨w.heap.size, 3, none⟩ = some (.int .i64 en) := h1.cell 3
  have g7 : w1.cell? ⟨w.heap.size, 7, none⟩ = some (.int .i64 op) := h1.cell 7
  have g8 : w1.cell? ⟨w.heap.size, 8, none⟩ = some (.int .i64 ga) := h1.cell 8
  have g9 : w1.cell? ⟨w.heap.size, 9, none⟩ = some (.slice A k c) := h1.cell 9
  have HB := Lib.hid fun q => ((h1.drewN q).pull 1).below
  dsimp only
  by_cases hw : fa = 1 ∧ sel true ms ≠ []
  · have hp : pointOf ⟨th, sp, bg, en, fa, er, by_, op, ga, ms⟩ = (ga, en) := by simp only [pointOf, if_pos hw]
    have HP := Lib.hid hp
    have hd : decide (fa = 1 ∧ sel true ms ≠ []) = true := by simpa using hw
    rw [hd]
    clear hp hd hw h1
    go_wp2
    go_quiet (fail)
    go_wp2
    go_ret2
    exact ⟨by rw [HP.out]; rfl, HB.out _⟩
  · have hp : pointOf ⟨th, sp, bg, en, fa, er, by_, op, ga, ms⟩ = lastOf ⟨th, sp, bg, en, fa, er, by_, op, ga, ms⟩ (sel false ms) := by simp only [pointOf, if_neg hw]
    have HP := Lib.hid hp
    have hd : decide (fa = 1 ∧ sel true ms ≠ []) = false := by simpa using hw
    rw [hd]
    have hdr : sel false (ms.drop k) = [] := by rw [List.drop_eq_nil_of_le (by have := HK.out; omega)]; rfl
    have HD := Lib.hid hdr
    clear hp hd hw hdr
    go_wp2_with fail
    go_loopw [5] (fun i wr => ∃ j : Nat, j ≤ k ∧ i = .int .i64 ((j : Int) - 1) ∧ wr = w1 ∧ Hid (sel false (ms.drop j) = [])) (fun i _ => (intOf i + 1).toNat)
    case atStart => exact ⟨k, Nat.le_refl _, by go_num, rfl, HD⟩
    case round =>
      obtain ⟨j', hj, rfl, rfl, hq⟩ := hrel
      by_cases hlt0 : 0 < j'
      · obtain ⟨j, rfl⟩ : ∃ j, j' = j + 1 := ⟨j' - 1, by omega⟩
        have hlt : j < k := by omega
        have hR := h1
        obtain ⟨m, hm0⟩ : ∃ m, ms[j]? = some m := ⟨_, List.getElem?_eq_getElem (by have := HK.out; omega)⟩
        obtain ⟨g, o, rfl, hg, ca⟩ := HS.out.row hlt (by omega)
        have fm : ∀ i u, (mvC m)[i]? = some u → i < 6 → wr.cell? ⟨g, o + j * 6 + i, none⟩ = some u := fun i u hu hi => ((hR.pull 1).oldCell hg).trans (ca i u (by rw [mvsC_at hm0 hi]; exact hu))
        have a0 := fm 0 _ rfl (by omega)
        have a1 := fm 1 _ rfl (by omega)
        have a4 := fm 4 _ rfl (by omega)
        have a5 := fm 5 _ rfl (by omega)
        simp only [Nat.add_zero] at a0
        have hjz : (j : Int) < k := by omega
        have hj1 : ((j + 1 : Nat) : Int) - 1 = j := by omega
        rw [hj1]
        have HM := Lib.hid hm0
        clear fm ca hm0 hR hj1
        by_cases hc : (!m.write && !m.own) = true
        · simp only [Bool.and_eq_true, Bool.not_eq_true'] at hc
          obtain ⟨c1, c2⟩ := hc
          have hl := lastOf_read (s := ⟨th, sp, bg, en, fa, er, by_, op, ga, ms⟩) HM.out hq.out c1 c2
          have HL := Lib.hid hl
          rw [c1] at a1
          rw [c2] at a4
          clear hl h1 c1 c2
          go_wp2
          go_quiet (fail)
          go_wp2
          go_ret2
          exact ⟨by rw [HP.out, HL.out]; rfl, HB.out _⟩
        · have hc : (!m.write && !m.own) = false := by simpa using hc
          have hs := sel_drop HM.out hq.out hc
          have HS2 := Lib.hid hs
          clear hs
          cases hw : m.write with
          | true =>
            rw [hw] at a1
            clear hw hc
            go_wp2
            go_roundw
            case rel => exact ⟨j, by omega, by simp, by simp, HS2⟩
            case measure => simp [intOf]
          | false =>
            have ho : m.own = true := by rw [hw] at hc; simpa using hc
            rw [hw] at a1
            rw [ho] at a4
            clear hw hc ho
            go_wp2
            go_roundw
            case rel => exact ⟨j, by omega, by simp, by simp, HS2⟩
            case measure => simp [intOf]
      · have hj0 : j' = 0 := by omega
        subst hj0
        have h2 := hq.out
        rw [List.drop_zero] at h2
        have hl : lastOf ⟨th, sp, bg, en, fa, er, by_, op, ga, ms⟩ (sel false ms) = (op, bg) := by rw [h2]; rfl
        have HL := Lib.hid hl
        clear hl h2 h1
        go_wp2
        go_quiet (fail)
        go_wp2
        go_ret2
        exact ⟨by rw [HP.out, HL.out]; rfl, HB.out _⟩
end Go.Proofs.Ytljdkfhkpjjfgaa
