/- One thread's events, and events without EventSlots, in plain Lean: lemmas for the laws of ghost. -/
import Derived.Test.YtfekjbaojefhoaaGr1
namespace Go.Proofs.Ytfekjbaojefhoaa
set_option linter.unusedVariables false

theorem back_ind {α : Type} {P : List α → Prop} (h0 : P []) (h1 : ∀ l a, P l → P (l ++ [a])) : ∀ l, P l := by
  intro l
  have : ∀ n, ∀ l : List α, l.length = n → P l := by
    intro n
    induction n with
    | zero => intro l hl; rw [List.eq_nil_of_length_eq_zero hl]; exact h0
    | succ n ih =>
      intro l hl
      have hne : l ≠ [] := by intro e; subst e; simp at hl
      rw [← List.dropLast_concat_getLast hne]
      exact h1 _ _ (ih _ (by rw [List.length_dropLast, hl]; rfl))
  exact this _ l rfl
theorem run_snoc_some {l : List Ev} {e : Ev} {t : St} (h : runE (l ++ [e]) = some t) : ∃ s, runE l = some s ∧ stepE s e = some t := by
  rw [runE_snoc] at h
  cases hr : runE l with
  | none => rw [hr] at h; cases h
  | some s => rw [hr] at h; exact ⟨s, rfl, h⟩
theorem okHead_le {a b : Int} {e : Ev} (h : okHead b e = true) (hab : a ≤ b) : okHead a e = true := by
  rw [okHead_iff] at h ⊢
  omega
def notSlots (e : Ev) : Bool := decide (e.kind ≠ 6)
theorem quiet_run : ∀ (evs : List Ev) (s : St), runE evs = some s → ∃ s', runE (evs.filter notSlots) = some s' ∧ s'.sts = s.sts ∧ s'.opn = s.opn ∧ s'.step ≤ s.step := by
  refine back_ind (fun s h => ⟨s, h, rfl, rfl, Int.le_refl _⟩) fun l e ih t ht => ?_
  obtain ⟨s, hs, he⟩ := run_snoc_some ht
  obtain ⟨s', q1, q2, q3, q4⟩ := ih s hs
  obtain ⟨h1, h2, rfl⟩ := stepE_some he
  have hh := okHead_iff.1 h1
  rw [List.filter_append]
  by_cases h6 : e.kind = 6
  · have e1 : List.filter notSlots [e] = [] := by simp [notSlots, h6]
    rw [e1, List.append_nil]
    have hn : s.opn e.thread = none := by
      unfold okTail at h2
      cases ho : s.opn e.thread with
      | none => rfl
      | some i => rw [ho] at h2; simp [first, h6] at h2
    have e2 : step1 s e = ⟨s.sts, s.opn, e.step⟩ := by
      unfold step1
      rw [if_neg (by omega), hn]
    rw [e2]
    exact ⟨s', q1, q2, q3, by show s'.step ≤ e.step; omega⟩
  · have e1 : List.filter notSlots [e] = [e] := by simp [notSlots, h6]
    rw [e1, runE_snoc, q1]
    have ht' : okTail s' e = okTail s e := by unfold okTail; rw [q2, q3]
    have hst : stepE s' e = some (step1 s' e) := by unfold stepE; rw [okHead_le h1 q4, ht', h2]; rfl
    refine ⟨step1 s' e, hst, ?_, ?_, ?_⟩
    · unfold step1; rw [q2, q3]
    · unfold step1; rw [q2, q3]
    · unfold step1
      rw [q2, q3]
      (repeat' split) <;> exact Int.le_refl _

/-! one thread -/
def ofT (t : Int) (x : Sto) : Bool := decide (x.thread = t)
def evT (t : Int) (e : Ev) : Bool := decide (e.thread = t)
theorem mod_mid {α : Type} (f : α → α) (x : α) (B : List α) : ∀ A : List α, (A ++ x :: B).modify A.length f = A ++ f x :: B
  | [] => rfl
  | a :: A => by
    rw [List.cons_append, List.length_cons, List.modify_succ_cons, mod_mid f x B A, List.cons_append]
theorem get_mid {l : List Sto} {i : Nat} {x : Sto} (h : l[i]? = some x) : ∃ A B, l = A ++ x :: B ∧ A.length = i := by
  obtain ⟨hi, rfl⟩ := List.getElem?_eq_some_iff.1 h
  refine ⟨l.take i, l.drop (i + 1), ?_, by rw [List.length_take]; omega⟩
  rw [← List.drop_eq_getElem_cons hi, List.take_append_drop]
theorem ofT_upd (t : Int) (e : Ev) (x : Sto) : ofT t (upd e x) = ofT t x := by unfold ofT; rw [upd_thread]
theorem cnt_mod (t : Int) (e : Ev) (l : List Sto) (i j : Nat) : (((l.modify i (upd e)).take j).filter (ofT t)).length = ((l.take j).filter (ofT t)).length := by
  have hc : ∀ m : List Sto, (m.filter (ofT t)).length = ((m.map (·.thread)).filter (fun s => decide (s = t))).length := by
    intro m
    rw [List.filter_map, List.length_map]
    rfl
  rw [hc, hc]
  congr 2
  rw [List.map_take, List.map_take]
  congr 1
  apply List.ext_getElem?
  intro k
  rw [List.getElem?_map, List.getElem?_map, List.getElem?_modify]
  cases l[k]? with
  | none => rfl
  | some y =>
    by_cases h : i = k
    · simp [h, upd_thread]
    · simp [h]
/-- what one thread's run knows of the whole one -/
structure MR (t : Int) (s s' : St) : Prop where
  sts : s'.sts = s.sts.filter (ofT t)
  step : s'.step ≤ s.step
  opn : s'.opn t = (s.opn t).map fun i => ((s.sts.take i).filter (ofT t)).length
theorem mine_step {t : Int} {s s' : St} {e : Ev} {u : St} (h : MR t s s') (hg : GI s) (he : stepE s e = some u) : if e.thread = t then ∃ u', stepE s' e = some u' ∧ MR t u u' else MR t u s' := by
  obtain ⟨h1, h2, rfl⟩ := stepE_some he
  have hh := okHead_iff.1 h1
  have hstep : s.step ≤ e.step := by omega
  have hlt : ∀ i, s.opn t = some i → i < s.sts.length := fun i hi => by
    obtain ⟨x, q, _⟩ := hg.opn _ _ hi
    exact (List.getElem?_eq_some_iff.1 q).1
  split
  · rename_i hte
    subst hte
    have hopn := h.opn
    have htail : okTail s' e = okTail s e := by
      unfold okTail
      rw [hopn]
      cases ho : s.opn e.thread with
      | none => rfl
      | some i =>
        obtain ⟨x, q1, q2, q3⟩ := hg.opn _ _ ho
        obtain ⟨A, B, hl, hA⟩ := get_mid q1
        have e1 : s.sts.take i = A := by rw [hl]; exact List.take_left' hA
        have e2 : s'.sts[(A.filter (ofT e.thread)).length]? = some x := by
          rw [h.sts, hl, List.filter_append, List.filter_cons, if_pos (by simp [ofT, q3]), List.getElem?_append_right (Nat.le_refl _), Nat.sub_self]; rfl
        simp only [Option.map_some, e1]
        rw [e2, q1]
    have hst : stepE s' e = some (step1 s' e) := by unfold stepE; rw [okHead_le h1 h.step, htail, h2]; rfl
    refine ⟨_, hst, ?_⟩
    unfold step1
    by_cases hk1 : e.kind = 1
    · rw [if_pos hk1, if_pos hk1]
      refine ⟨?_, Int.le_refl _, ?_⟩
      · show s'.sts ++ [newS e] = (s.sts ++ [newS e]).filter (ofT e.thread)
        rw [List.filter_append, h.sts]
        congr 1
        simp [ofT, newS]
      · show setO s'.opn e.thread (some s'.sts.length) e.thread = (setO s.opn e.thread (some s.sts.length) e.thread).map _
        simp only [setO, if_true, Option.map_some]
        rw [List.take_append_of_le_length (Nat.le_refl _), List.take_of_length_le (Nat.le_refl _), h.sts]
    · rw [if_neg hk1, if_neg hk1, hopn]
      cases ho : s.opn e.thread with
      | none => exact ⟨h.sts, Int.le_refl _, by show s'.opn e.thread = _; rw [hopn]⟩
      | some i =>
        obtain ⟨x, q1, q2, q3⟩ := hg.opn _ _ ho
        obtain ⟨A, B, hl, hA⟩ := get_mid q1
        have e1 : s.sts.take i = A := by rw [hl]; exact List.take_left' hA
        refine ⟨?_, Int.le_refl _, ?_⟩
        · show s'.sts.modify ((s.sts.take i).filter (ofT e.thread)).length (upd e) = (s.sts.modify i (upd e)).filter (ofT e.thread)
          rw [e1, h.sts, hl, ← hA, mod_mid, List.filter_append, List.filter_append, List.filter_cons, if_pos (by simp [ofT, q3]), mod_mid, List.filter_cons, if_pos (by rw [ofT_upd]; simp [ofT, q3])]
        · show (if e.kind = 4 ∨ e.kind = 5 then setO s'.opn e.thread none else s'.opn) e.thread = ((if e.kind = 4 ∨ e.kind = 5 then setO s.opn e.thread none else s.opn) e.thread).map _
          by_cases h45 : e.kind = 4 ∨ e.kind = 5
          · rw [if_pos h45, if_pos h45]; simp [setO]
          · rw [if_neg h45, if_neg h45, hopn, ho]
            simp only [Option.map_some, cnt_mod]
  · rename_i hte
    unfold step1
    by_cases hk1 : e.kind = 1
    · rw [if_pos hk1]
      refine ⟨?_, by show s'.step ≤ e.step; have := h.step; omega, ?_⟩
      · show s'.sts = (s.sts ++ [newS e]).filter (ofT t)
        rw [List.filter_append, h.sts, List.filter_cons, if_neg (by simp [ofT, newS, hte]), List.filter_nil, List.append_nil]
      · show s'.opn t = (setO s.opn e.thread (some s.sts.length) t).map _
        rw [h.opn]
        simp only [setO, if_neg hte]
        cases ho : s.opn t with
        | none => rfl
        | some i =>
          simp only [Option.map_some]
          rw [List.take_append_of_le_length (by have := hlt i ho; omega)]
    · rw [if_neg hk1]
      cases ho : s.opn e.thread with
      | none => exact ⟨h.sts, by show s'.step ≤ e.step; have := h.step; omega, h.opn⟩
      | some i0 =>
        obtain ⟨x, q1, q2, q3⟩ := hg.opn _ _ ho
        obtain ⟨A, B, hl, hA⟩ := get_mid q1
        refine ⟨?_, by show s'.step ≤ e.step; have := h.step; omega, ?_⟩
        · show s'.sts = (s.sts.modify i0 (upd e)).filter (ofT t)
          rw [h.sts, hl, ← hA, mod_mid, List.filter_append, List.filter_append, List.filter_cons, if_neg (by simp [ofT, q3, hte]), List.filter_cons, if_neg (by rw [ofT_upd]; simp [ofT, q3, hte])]
        · show s'.opn t = ((if e.kind = 4 ∨ e.kind = 5 then setO s.opn e.thread none else s.opn) t).map _
          have e1 : (if e.kind = 4 ∨ e.kind = 5 then setO s.opn e.thread none else s.opn) t = s.opn t := by
            split
            · simp only [setO, if_neg hte]
            · rfl
          rw [e1, h.opn]
          cases s.opn t with
          | none => rfl
          | some i => simp only [Option.map_some, cnt_mod]
theorem mine_run (t : Int) : ∀ (evs : List Ev) (s : St), runE evs = some s → ∃ s', runE (evs.filter (evT t)) = some s' ∧ MR t s s' := by
  refine back_ind (fun s h => ?_) fun l e ih u hu => ?_
  · have : s = st0 := by injection h with h; exact h.symm
    subst this
    exact ⟨st0, rfl, rfl, Int.le_refl _, rfl⟩
  · obtain ⟨s, hs, he⟩ := run_snoc_some hu
    obtain ⟨s', q1, q2⟩ := ih s hs
    have hm := mine_step q2 (gi_run hs) he
    rw [List.filter_append]
    by_cases hte : e.thread = t
    · rw [if_pos hte] at hm
      obtain ⟨u', k1, k2⟩ := hm
      have e1 : List.filter (evT t) [e] = [e] := by simp [evT, hte]
      rw [e1, runE_snoc, q1]
      exact ⟨u', k1, k2⟩
    · rw [if_neg hte] at hm
      have e1 : List.filter (evT t) [e] = [] := by simp [evT, hte]
      rw [e1, List.append_nil]
      exact ⟨s', q1, hm⟩
theorem apart_mine {evs : List Ev} (t : Int) (h : bldOk evs = true) : bldOk (evs.filter (evT t)) = true ∧ bldS (evs.filter (evT t)) = (bldS evs).filter (ofT t) := by
  cases hr : runE evs with
  | none => rw [bldOk, hr] at h; cases h
  | some s =>
    obtain ⟨s', q1, q2⟩ := mine_run t evs s hr
    rw [bldOk, bldS, bldS, q1, hr]
    exact ⟨rfl, q2.sts⟩
theorem apart_quiet {evs : List Ev} (h : bldOk evs = true) : bldOk (evs.filter notSlots) = true ∧ bldS (evs.filter notSlots) = bldS evs := by
  cases hr : runE evs with
  | none => rw [bldOk, hr] at h; cases h
  | some s =>
    obtain ⟨s', q1, q2, _⟩ := quiet_run evs s hr
    rw [bldOk, bldS, bldS, q1, hr]
    exact ⟨rfl, q2⟩
end Go.Proofs.Ytfekjbaojefhoaa
