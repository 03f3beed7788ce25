/- Beginnings and threads apart, in plain Lean: lemmas for the laws of ghost. -/
import Derived.Test.YtfekjbaojefhoaaGh1
namespace Go.Proofs.Ytfekjbaojefhoaa
set_option linter.unusedVariables false

theorem badFrom_get : ∀ (evs : List Ev) (s : St) (k0 j : Nat), badFrom evs s k0 = some j → ∃ (i : Nat) (e : Ev) (s' : St), j = k0 + i ∧ evs[i]? = some e ∧ (evs.take i).foldlM stepE s = some s' ∧ stepE s' e = none
  | [], s, k0, j, h => by simp [badFrom] at h
  | a :: r, s, k0, j, h => by
    simp only [badFrom] at h
    cases hs : stepE s a with
    | none =>
      rw [hs] at h
      injection h with h
      exact ⟨0, a, s, by omega, rfl, rfl, hs⟩
    | some s1 =>
      rw [hs] at h
      obtain ⟨i, e, s', h1, h2, h3, h4⟩ := badFrom_get r s1 (k0 + 1) j h
      refine ⟨i + 1, e, s', by omega, by simpa using h2, ?_, h4⟩
      simp only [List.take_succ_cons, List.foldlM_cons, hs]
      exact h3
theorem bad_where {evs : List Ev} (h : bldOk evs = false) : ∃ (e : Ev) (s : St), evs[bldAt evs]? = some e ∧ runE (evs.take (bldAt evs)) = some s ∧ stepE s e = none := by
  have h1 := badFrom_run evs st0 0
  have h2 : (evs.foldlM stepE st0).isNone = true := by
    have h' : (runE evs).isSome = false := h
    unfold runE at h'
    cases hr : evs.foldlM stepE st0 with
    | none => rfl
    | some s => rw [hr] at h'; cases h'
  rw [h2] at h1
  cases hb : badFrom evs st0 0 with
  | none => rw [hb] at h1; cases h1
  | some j =>
    obtain ⟨i, e, s', k1, k2, k3, k4⟩ := badFrom_get evs st0 0 j hb
    have e1 : bldAt evs = i := by rw [bldAt, hb]; simp; omega
    rw [e1]
    exact ⟨e, s', k2, k3, k4⟩
theorem run_prefix {evs : List Ev} {k : Nat} {s : St} (h : runE evs = some s) : ∃ s0, runE (evs.take k) = some s0 ∧ (evs.drop k).foldlM stepE s0 = some s := by
  have e : evs = evs.take k ++ evs.drop k := (List.take_append_drop _ _).symm
  unfold runE at h ⊢
  rw [e, List.foldlM_append] at h
  cases hr : List.foldlM stepE st0 (evs.take k) with
  | none => rw [hr] at h; cases h
  | some s0 => rw [hr] at h; exact ⟨s0, rfl, h⟩
/-- events that are wrong at a place: what a beginning says -/
theorem grows_bad {evs : List Ev} {k : Nat} (h : bldOk evs = false) (hk : k ≤ evs.length) : bldAt evs < evs.length ∧ (bldAt evs < k → bldOk (evs.take k) = false ∧ bldAt (evs.take k) = bldAt evs) ∧ (k ≤ bldAt evs → bldOk (evs.take k) = true) := by
  obtain ⟨e, s, h1, h2, h3⟩ := bad_where h
  have hl := (List.getElem?_eq_some_iff.1 h1).1
  refine ⟨hl, fun hlt => ?_, fun hle => ?_⟩
  · have e1 : (evs.take k)[bldAt evs]? = some e := by rw [List.getElem?_take, if_pos hlt]; exact h1
    have e2 : runE ((evs.take k).take (bldAt evs)) = some s := by rw [List.take_take, Nat.min_eq_left (by omega)]; exact h2
    obtain ⟨q1, q2, _⟩ := bad_at e1 e2 h3
    exact ⟨q2, q1⟩
  · obtain ⟨s0, q, _⟩ := run_prefix (k := k) h2
    rw [List.take_take, Nat.min_eq_left hle] at q
    rw [bldOk, q]; rfl
/-- a story as far as it had come -/
structure Within (a b : Sto) : Prop where
  th : a.thread = b.thread
  st : a.stamp = b.stamp
  bg : a.begin_ = b.begin_
  op : a.opens = b.opens
  mv : ∃ r, b.moves = a.moves ++ r
  live : a.fate = 0 → a.end_ = 0 ∧ a.gate = 0 ∧ a.e = 0 ∧ a.by_ = 0
  done : a.fate ≠ 0 → a = b
structure GI (s : St) : Prop where
  opn : ∀ t i, s.opn t = some i → ∃ x, s.sts[i]? = some x ∧ x.fate = 0 ∧ x.thread = t
  live : ∀ (i : Nat) (x : Sto), s.sts[i]? = some x → x.fate = 0 → x.end_ = 0 ∧ x.gate = 0 ∧ x.e = 0 ∧ x.by_ = 0
theorem gi_0 : GI st0 := ⟨fun t i h => by simp [st0] at h, fun i x h => by simp [st0] at h⟩
theorem upd_thread (e : Ev) (x : Sto) : (upd e x).thread = x.thread := by
  unfold upd
  repeat' split
  all_goals rfl
theorem upd_live {e : Ev} {x : Sto} (h : (upd e x).fate = 0) (hx : x.end_ = 0 ∧ x.gate = 0 ∧ x.e = 0 ∧ x.by_ = 0) : (upd e x).end_ = 0 ∧ (upd e x).gate = 0 ∧ (upd e x).e = 0 ∧ (upd e x).by_ = 0 := by
  unfold upd at h ⊢
  split
  · exact hx
  · rename_i h2
    rw [if_neg h2] at h
    split
    · exact hx
    · rename_i h3
      rw [if_neg h3] at h
      split
      · rename_i h4; rw [if_pos h4] at h; cases h
      · rename_i h4
        rw [if_neg h4] at h
        split
        · rename_i h5; rw [if_pos h5] at h; cases h
        · exact hx
theorem upd_fate {e : Ev} {x : Sto} (h4 : e.kind ≠ 4) (h5 : e.kind ≠ 5) : (upd e x).fate = x.fate := by
  unfold upd
  rw [if_neg h4, if_neg h5]
  repeat' split
  all_goals rfl
theorem gi_step {s s' : St} {e : Ev} (hg : GI s) (h : stepE s e = some s') : GI s' := by
  obtain ⟨_, ht, rfl⟩ := stepE_some h
  unfold step1
  by_cases h1 : e.kind = 1
  · rw [if_pos h1]
    refine ⟨fun t i hi => ?_, fun i x hx hf => ?_⟩
    · dsimp only at hi ⊢
      unfold setO at hi
      split at hi
      · rename_i hte
        injection hi with hi
        subst hi
        exact ⟨newS e, by simp, rfl, hte.symm ▸ rfl⟩
      · obtain ⟨x, q1, q2, q3⟩ := hg.opn t i hi
        exact ⟨x, by rw [List.getElem?_append_left (List.getElem?_eq_some_iff.1 q1).1]; exact q1, q2, q3⟩
    · dsimp only at hx
      rw [List.getElem?_append] at hx
      split at hx
      · exact hg.live i x hx hf
      · have : x = newS e := by
          rcases Nat.eq_zero_or_pos (i - s.sts.length) with h0 | h0
          · rw [h0] at hx; simpa using hx.symm
          · rw [List.getElem?_eq_none (by simp; omega)] at hx; cases hx
        subst this
        exact ⟨rfl, rfl, rfl, rfl⟩
  · rw [if_neg h1]
    cases ho : s.opn e.thread with
    | none => exact ⟨hg.opn, hg.live⟩
    | some i0 =>
      obtain ⟨x0, q1, q2, q3⟩ := hg.opn _ _ ho
      refine ⟨fun t i hi => ?_, fun i x hx hf => ?_⟩
      · dsimp only at hi ⊢
        have hold : t ≠ e.thread → s.opn t = some i → ∃ x, (s.sts.modify i0 (upd e))[i]? = some x ∧ x.fate = 0 ∧ x.thread = t := by
          intro hne hi'
          obtain ⟨x, p1, p2, p3⟩ := hg.opn t i hi'
          have hii : i0 ≠ i := by
            rintro rfl
            rw [q1] at p1
            injection p1 with p1
            exact hne (by rw [← p3, ← p1, q3])
          exact ⟨x, by rw [List.getElem?_modify, p1]; simp [hii], p2, p3⟩
        by_cases h45 : e.kind = 4 ∨ e.kind = 5
        · rw [if_pos h45] at hi
          unfold setO at hi
          split at hi
          · cases hi
          · rename_i hne
            exact hold (fun h => hne h.symm) hi
        · rw [if_neg h45] at hi
          by_cases hte : t = e.thread
          · subst hte
            rw [ho] at hi
            injection hi with hi
            subst hi
            refine ⟨upd e x0, by rw [List.getElem?_modify, q1]; simp, ?_, by rw [upd_thread]; exact q3⟩
            rw [upd_fate (fun h => h45 (.inl h)) (fun h => h45 (.inr h))]; exact q2
          · exact hold hte hi
      · dsimp only at hx
        rw [List.getElem?_modify] at hx
        cases hy : s.sts[i]? with
        | none => rw [hy] at hx; simp at hx
        | some y =>
          rw [hy] at hx
          simp only [Option.map_eq_map, Option.map_some, Option.some.injEq] at hx
          split at hx
          · rename_i hii
            subst hii
            rw [q1] at hy
            injection hy with hy
            subst hy hx
            exact upd_live hf (hg.live i0 x0 q1 q2)
          · subst hx; exact hg.live i y hy hf
def Ext (s t : St) : Prop := s.sts.length ≤ t.sts.length ∧ ∀ (i : Nat) (x : Sto), s.sts[i]? = some x → ∃ y, t.sts[i]? = some y ∧ Within x y
theorem ext_refl {s : St} (h : GI s) : Ext s s := ⟨Nat.le_refl _, fun i x hx => ⟨x, hx, rfl, rfl, rfl, rfl, ⟨[], by simp⟩, h.live i x hx, fun _ => rfl⟩⟩
theorem within_upd {e : Ev} {x y : Sto} (h : Within x y) (hy : y.fate = 0) : Within x (upd e y) := by
  have hx : x.fate = 0 := Classical.byContradiction fun hf => hf (by rw [h.done hf]; exact hy)
  have hm : ∃ r, (upd e y).moves = x.moves ++ r := by
    obtain ⟨r, hr⟩ := h.mv
    unfold upd
    split
    · exact ⟨r ++ [readM e], by simp [hr]⟩
    · split
      · exact ⟨r ++ [writeM e], by simp [hr]⟩
      · split
        · exact ⟨r, hr⟩
        · split
          · exact ⟨r, hr⟩
          · exact ⟨r, hr⟩
  have hs : (upd e y).stamp = y.stamp ∧ (upd e y).begin_ = y.begin_ ∧ (upd e y).opens = y.opens := by
    unfold upd
    repeat' split
    all_goals exact ⟨rfl, rfl, rfl⟩
  exact ⟨by rw [upd_thread]; exact h.th, by rw [hs.1]; exact h.st, by rw [hs.2.1]; exact h.bg, by rw [hs.2.2]; exact h.op, hm, h.live, fun hf => absurd hx hf⟩
theorem ext_step {s t t' : St} {e : Ev} (h : Ext s t) (hg : GI t) (hs : stepE t e = some t') : Ext s t' := by
  obtain ⟨_, _, rfl⟩ := stepE_some hs
  unfold step1
  by_cases h1 : e.kind = 1
  · rw [if_pos h1]
    refine ⟨by have := h.1; simp; omega, fun i x hx => ?_⟩
    obtain ⟨y, hy, hw⟩ := h.2 i x hx
    exact ⟨y, by rw [List.getElem?_append_left (List.getElem?_eq_some_iff.1 hy).1]; exact hy, hw⟩
  · rw [if_neg h1]
    cases ho : t.opn e.thread with
    | none => exact h
    | some i0 =>
      obtain ⟨x0, q1, q2, q3⟩ := hg.opn _ _ ho
      refine ⟨by have := h.1; simp; omega, fun i x hx => ?_⟩
      obtain ⟨y, hy, hw⟩ := h.2 i x hx
      by_cases hii : i0 = i
      · subst hii
        rw [q1] at hy
        injection hy with hy
        subst hy
        exact ⟨upd e x0, by rw [List.getElem?_modify, q1]; simp, within_upd hw q2⟩
      · exact ⟨y, by rw [List.getElem?_modify, hy]; simp [hii], hw⟩
theorem ext_run : ∀ (es : List Ev) {s t t' : St}, Ext s t → GI t → es.foldlM stepE t = some t' → Ext s t' ∧ GI t'
  | [], s, t, t', h, hg, hr => by injection hr with hr; subst hr; exact ⟨h, hg⟩
  | e :: es, s, t, t', h, hg, hr => by
    rw [List.foldlM_cons] at hr
    cases h1 : stepE t e with
    | none => rw [h1] at hr; cases hr
    | some t1 =>
      rw [h1] at hr
      exact ext_run es (ext_step h hg h1) (gi_step hg h1) hr
theorem gi_run {evs : List Ev} {s : St} (h : runE evs = some s) : GI s := (ext_run evs (ext_refl gi_0) gi_0 h).2
/-- events that are right: a beginning is, and its stories lie within -/
theorem grows_ok {evs : List Ev} (k : Nat) (h : bldOk evs = true) : bldOk (evs.take k) = true ∧ (bldS (evs.take k)).length ≤ (bldS evs).length ∧ ∀ (i : Nat) (x : Sto), (bldS (evs.take k))[i]? = some x → ∃ y, (bldS evs)[i]? = some y ∧ Within x y := by
  cases hr : runE evs with
  | none => rw [bldOk, hr] at h; cases h
  | some t =>
    obtain ⟨s, hs, hd⟩ := run_prefix (k := k) hr
    have hE := (ext_run _ (ext_refl (gi_run hs)) (gi_run hs) hd).1
    rw [bldOk, hs, bldS, hs, bldS, hr]
    exact ⟨rfl, hE⟩
end Go.Proofs.Ytfekjbaojefhoaa
namespace Go.Proofs.Ytfekjbaojefhoaa
set_option linter.unusedVariables false

theorem back_ind {α : Type} {P : List α → Prop} (h0 : P []) (h1 : ∀ l a, P l → P (l ++ [a])) : ∀ l, P l := by
  intro l
  have : ∀ n, ∀ l : List α, l.length = n → P l := by
    intro n
    induction n with
    | zero => intro l hl; rw [List.eq_nil_of_length_eq_zero hl]; exact h0
    | succ n ih =>
      intro l hl
      have hne : l ≠ [] := by intro e; subst e; simp at hl
      rw [← List.dropLast_concat_getLast hne]
      exact h1 _ _ (ih _ (by rw [List.length_dropLast, hl]; rfl))
  exact this _ l rfl
theorem run_snoc_some {l : List Ev} {e : Ev} {t : St} (h : runE (l ++ [e]) = some t) : ∃ s, runE l = some s ∧ stepE s e = some t := by
  rw [runE_snoc] at h
  cases hr : runE l with
  | none => rw [hr] at h; cases h
  | some s => rw [hr] at h; exact ⟨s, rfl, h⟩
theorem okHead_le {a b : Int} {e : Ev} (h : okHead b e = true) (hab : a ≤ b) : okHead a e = true := by
  rw [okHead_iff] at h ⊢
  omega
def notSlots (e : Ev) : Bool := decide (e.kind ≠ 6)
theorem quiet_run : ∀ (evs : List Ev) (s : St), runE evs = some s → ∃ s', runE (evs.filter notSlots) = some s' ∧ s'.sts = s.sts ∧ s'.opn = s.opn ∧ s'.step ≤ s.step := by
  refine back_ind (fun s h => ⟨s, h, rfl, rfl, Int.le_refl _⟩) fun l e ih t ht => ?_
  obtain ⟨s, hs, he⟩ := run_snoc_some ht
  obtain ⟨s', q1, q2, q3, q4⟩ := ih s hs
  obtain ⟨h1, h2, rfl⟩ := stepE_some he
  have hh := okHead_iff.1 h1
  rw [List.filter_append]
  by_cases h6 : e.kind = 6
  · have e1 : List.filter notSlots [e] = [] := by simp [notSlots, h6]
    rw [e1, List.append_nil]
    have hn : s.opn e.thread = none := by
      unfold okTail at h2
      cases ho : s.opn e.thread with
      | none => rfl
      | some i => rw [ho] at h2; simp [first, h6] at h2
    have e2 : step1 s e = ⟨s.sts, s.opn, e.step⟩ := by
      unfold step1
      rw [if_neg (by omega), hn]
    rw [e2]
    exact ⟨s', q1, q2, q3, by show s'.step ≤ e.step; omega⟩
  · have e1 : List.filter notSlots [e] = [e] := by simp [notSlots, h6]
    rw [e1, runE_snoc, q1]
    have ht' : okTail s' e = okTail s e := by unfold okTail; rw [q2, q3]
    have hst : stepE s' e = some (step1 s' e) := by unfold stepE; rw [okHead_le h1 q4, ht', h2]; rfl
    refine ⟨step1 s' e, hst, ?_, ?_, ?_⟩
    · unfold step1; rw [q2, q3]
    · unfold step1; rw [q2, q3]
    · unfold step1
      rw [q2, q3]
      (repeat' split) <;> exact Int.le_refl _

/-! one thread -/
def ofT (t : Int) (x : Sto) : Bool := decide (x.thread = t)
def evT (t : Int) (e : Ev) : Bool := decide (e.thread = t)
theorem mod_mid {α : Type} (f : α → α) (x : α) (B : List α) : ∀ A : List α, (A ++ x :: B).modify A.length f = A ++ f x :: B
  | [] => rfl
  | a :: A => by
    rw [List.cons_append, List.length_cons, List.modify_succ_cons, mod_mid f x B A, List.cons_append]
theorem get_mid {l : List Sto} {i : Nat} {x : Sto} (h : l[i]? = some x) : ∃ A B, l = A ++ x :: B ∧ A.length = i := by
  obtain ⟨hi, rfl⟩ := List.getElem?_eq_some_iff.1 h
  refine ⟨l.take i, l.drop (i + 1), ?_, by rw [List.length_take]; omega⟩
  rw [← List.drop_eq_getElem_cons hi, List.take_append_drop]
theorem ofT_upd (t : Int) (e : Ev) (x : Sto) : ofT t (upd e x) = ofT t x := by unfold ofT; rw [upd_thread]
theorem cnt_mod (t : Int) (e : Ev) (l : List Sto) (i j : Nat) : (((l.modify i (upd e)).take j).filter (ofT t)).length = ((l.take j).filter (ofT t)).length := by
  have hc : ∀ m : List Sto, (m.filter (ofT t)).length = ((m.map (·.thread)).filter (fun s => decide (s = t))).length := by
    intro m
    rw [List.filter_map, List.length_map]
    rfl
  rw [hc, hc]
  congr 2
  rw [List.map_take, List.map_take]
  congr 1
  apply List.ext_getElem?
  intro k
  rw [List.getElem?_map, List.getElem?_map, List.getElem?_modify]
  cases l[k]? with
  | none => rfl
  | some y =>
    by_cases h : i = k
    · simp [h, upd_thread]
    · simp [h]
/-- what one thread's run knows of the whole one -/
structure MR (t : Int) (s s' : St) : Prop where
  sts : s'.sts = s.sts.filter (ofT t)
  step : s'.step ≤ s.step
  opn : s'.opn t = (s.opn t).map fun i => ((s.sts.take i).filter (ofT t)).length
theorem mine_step {t : Int} {s s' : St} {e : Ev} {u : St} (h : MR t s s') (hg : GI s) (he : stepE s e = some u) : if e.thread = t then ∃ u', stepE s' e = some u' ∧ MR t u u' else MR t u s' := by
  obtain ⟨h1, h2, rfl⟩ := stepE_some he
  have hh := okHead_iff.1 h1
  have hstep : s.step ≤ e.step := by omega
  have hlt : ∀ i, s.opn t = some i → i < s.sts.length := fun i hi => by
    obtain ⟨x, q, _⟩ := hg.opn _ _ hi
    exact (List.getElem?_eq_some_iff.1 q).1
  split
  · rename_i hte
    subst hte
    have hopn := h.opn
    have htail : okTail s' e = okTail s e := by
      unfold okTail
      rw [hopn]
      cases ho : s.opn e.thread with
      | none => rfl
      | some i =>
        obtain ⟨x, q1, q2, q3⟩ := hg.opn _ _ ho
        obtain ⟨A, B, hl, hA⟩ := get_mid q1
        have e1 : s.sts.take i = A := by rw [hl]; exact List.take_left' hA
        have e2 : s'.sts[(A.filter (ofT e.thread)).length]? = some x := by
          rw [h.sts, hl, List.filter_append, List.filter_cons, if_pos (by simp [ofT, q3]), List.getElem?_append_right (Nat.le_refl _), Nat.sub_self]; rfl
        simp only [Option.map_some, e1]
        rw [e2, q1]
    have hst : stepE s' e = some (step1 s' e) := by unfold stepE; rw [okHead_le h1 h.step, htail, h2]; rfl
    refine ⟨_, hst, ?_⟩
    unfold step1
    by_cases hk1 : e.kind = 1
    · rw [if_pos hk1, if_pos hk1]
      refine ⟨?_, Int.le_refl _, ?_⟩
      · show s'.sts ++ [newS e] = (s.sts ++ [newS e]).filter (ofT e.thread)
        rw [List.filter_append, h.sts]
        congr 1
        simp [ofT, newS]
      · show setO s'.opn e.thread (some s'.sts.length) e.thread = (setO s.opn e.thread (some s.sts.length) e.thread).map _
        simp only [setO, if_true, Option.map_some]
        rw [List.take_append_of_le_length (Nat.le_refl _), List.take_of_length_le (Nat.le_refl _), h.sts]
    · rw [if_neg hk1, if_neg hk1, hopn]
      cases ho : s.opn e.thread with
      | none => exact ⟨h.sts, Int.le_refl _, by show s'.opn e.thread = _; rw [hopn]⟩
      | some i =>
        obtain ⟨x, q1, q2, q3⟩ := hg.opn _ _ ho
        obtain ⟨A, B, hl, hA⟩ := get_mid q1
        have e1 : s.sts.take i = A := by rw [hl]; exact List.take_left' hA
        refine ⟨?_, Int.le_refl _, ?_⟩
        · show s'.sts.modify ((s.sts.take i).filter (ofT e.thread)).length (upd e) = (s.sts.modify i (upd e)).filter (ofT e.thread)
          rw [e1, h.sts, hl, ← hA, mod_mid, List.filter_append, List.filter_append, List.filter_cons, if_pos (by simp [ofT, q3]), mod_mid, List.filter_cons, if_pos (by rw [ofT_upd]; simp [ofT, q3])]
        · show (if e.kind = 4 ∨ e.kind = 5 then setO s'.opn e.thread none else s'.opn) e.thread = ((if e.kind = 4 ∨ e.kind = 5 then setO s.opn e.thread none else s.opn) e.thread).map _
          by_cases h45 : e.kind = 4 ∨ e.kind = 5
          · rw [if_pos h45, if_pos h45]; simp [setO]
          · rw [if_neg h45, if_neg h45, hopn, ho]
            simp only [Option.map_some, cnt_mod]
  · rename_i hte
    unfold step1
    by_cases hk1 : e.kind = 1
    · rw [if_pos hk1]
      refine ⟨?_, by show s'.step ≤ e.step; have := h.step; omega, ?_⟩
      · show s'.sts = (s.sts ++ [newS e]).filter (ofT t)
        rw [List.filter_append, h.sts, List.filter_cons, if_neg (by simp [ofT, newS, hte]), List.filter_nil, List.append_nil]
      · show s'.opn t = (setO s.opn e.thread (some s.sts.length) t).map _
        rw [h.opn]
        simp only [setO, if_neg hte]
        cases ho : s.opn t with
        | none => rfl
        | some i =>
          simp only [Option.map_some]
          rw [List.take_append_of_le_length (by have := hlt i ho; omega)]
    · rw [if_neg hk1]
      cases ho : s.opn e.thread with
      | none => exact ⟨h.sts, by show s'.step ≤ e.step; have := h.step; omega, h.opn⟩
      | some i0 =>
        obtain ⟨x, q1, q2, q3⟩ := hg.opn _ _ ho
        obtain ⟨A, B, hl, hA⟩ := get_mid q1
        refine ⟨?_, by show s'.step ≤ e.step; have := h.step; omega, ?_⟩
        · show s'.sts = (s.sts.modify i0 (upd e)).filter (ofT t)
          rw [h.sts, hl, ← hA, mod_mid, List.filter_append, List.filter_append, List.filter_cons, if_neg (by simp [ofT, q3, hte]), List.filter_cons, if_neg (by rw [ofT_upd]; simp [ofT, q3, hte])]
        · show s'.opn t = ((if e.kind = 4 ∨ e.kind = 5 then setO s.opn e.thread none else s.opn) t).map _
          have e1 : (if e.kind = 4 ∨ e.kind = 5 then setO s.opn e.thread none else s.opn) t = s.opn t := by
            split
            · simp only [setO, if_neg hte]
            · rfl
          rw [e1, h.opn]
          cases s.opn t with
          | none => rfl
          | some i => simp only [Option.map_some, cnt_mod]
theorem mine_run (t : Int) : ∀ (evs : List Ev) (s : St), runE evs = some s → ∃ s', runE (evs.filter (evT t)) = some s' ∧ MR t s s' := by
  refine back_ind (fun s h => ?_) fun l e ih u hu => ?_
  · have : s = st0 := by injection h with h; exact h.symm
    subst this
    exact ⟨st0, rfl, rfl, Int.le_refl _, rfl⟩
  · obtain ⟨s, hs, he⟩ := run_snoc_some hu
    obtain ⟨s', q1, q2⟩ := ih s hs
    have hm := mine_step q2 (gi_run hs) he
    rw [List.filter_append]
    by_cases hte : e.thread = t
    · rw [if_pos hte] at hm
      obtain ⟨u', k1, k2⟩ := hm
      have e1 : List.filter (evT t) [e] = [e] := by simp [evT, hte]
      rw [e1, runE_snoc, q1]
      exact ⟨u', k1, k2⟩
    · rw [if_neg hte] at hm
      have e1 : List.filter (evT t) [e] = [] := by simp [evT, hte]
      rw [e1, List.append_nil]
      exact ⟨s', q1, hm⟩
theorem apart_mine {evs : List Ev} (t : Int) (h : bldOk evs = true) : bldOk (evs.filter (evT t)) = true ∧ bldS (evs.filter (evT t)) = (bldS evs).filter (ofT t) := by
  cases hr : runE evs with
  | none => rw [bldOk, hr] at h; cases h
  | some s =>
    obtain ⟨s', q1, q2⟩ := mine_run t evs s hr
    rw [bldOk, bldS, bldS, q1, hr]
    exact ⟨rfl, q2.sts⟩
theorem apart_quiet {evs : List Ev} (h : bldOk evs = true) : bldOk (evs.filter notSlots) = true ∧ bldS (evs.filter notSlots) = bldS evs := by
  cases hr : runE evs with
  | none => rw [bldOk, hr] at h; cases h
  | some s =>
    obtain ⟨s', q1, q2, _⟩ := quiet_run evs s hr
    rw [bldOk, bldS, bldS, q1, hr]
    exact ⟨rfl, q2⟩
end Go.Proofs.Ytfekjbaojefhoaa
