/- Beginnings of events, in plain Lean: lemmas for the laws of ghost. -/
import Derived.Test.YtfekjbaojefhoaaGh1
namespace Go.Proofs.Ytfekjbaojefhoaa
set_option linter.unusedVariables false

theorem badFrom_get : ∀ (evs : List Ev) (s : St) (k0 j : Nat), badFrom evs s k0 = some j → ∃ (i : Nat) (e : Ev) (s' : St), j = k0 + i ∧ evs[i]? = some e ∧ (evs.take i).foldlM stepE s = some s' ∧ stepE s' e = none
  | [], s, k0, j, h => by simp [badFrom] at h
  | a :: r, s, k0, j, h => by
    simp only [badFrom] at h
    cases hs : stepE s a with
    | none =>
      rw [hs] at h
      injection h with h
      exact ⟨0, a, s, by omega, rfl, rfl, hs⟩
    | some s1 =>
      rw [hs] at h
      obtain ⟨i, e, s', h1, h2, h3, h4⟩ := badFrom_get r s1 (k0 + 1) j h
      refine ⟨i + 1, e, s', by omega, by simpa using h2, ?_, h4⟩
      simp only [List.take_succ_cons, List.foldlM_cons, hs]
      exact h3
theorem bad_where {evs : List Ev} (h : bldOk evs = false) : ∃ (e : Ev) (s : St), evs[bldAt evs]? = some e ∧ runE (evs.take (bldAt evs)) = some s ∧ stepE s e = none := by
  have h1 := badFrom_run evs st0 0
  have h2 : (evs.foldlM stepE st0).isNone = true := by
    have h' : (runE evs).isSome = false := h
    unfold runE at h'
    cases hr : evs.foldlM stepE st0 with
    | none => rfl
    | some s => rw [hr] at h'; cases h'
  rw [h2] at h1
  cases hb : badFrom evs st0 0 with
  | none => rw [hb] at h1; cases h1
  | some j =>
    obtain ⟨i, e, s', k1, k2, k3, k4⟩ := badFrom_get evs st0 0 j hb
    have e1 : bldAt evs = i := by rw [bldAt, hb]; simp; omega
    rw [e1]
    exact ⟨e, s', k2, k3, k4⟩
theorem run_prefix {evs : List Ev} {k : Nat} {s : St} (h : runE evs = some s) : ∃ s0, runE (evs.take k) = some s0 ∧ (evs.drop k).foldlM stepE s0 = some s := by
  have e : evs = evs.take k ++ evs.drop k := (List.take_append_drop _ _).symm
  unfold runE at h ⊢
  rw [e, List.foldlM_append] at h
  cases hr : List.foldlM stepE st0 (evs.take k) with
  | none => rw [hr] at h; cases h
  | some s0 => rw [hr] at h; exact ⟨s0, rfl, h⟩
/-- events that are wrong at a place: what a beginning says -/
theorem grows_bad {evs : List Ev} {k : Nat} (h : bldOk evs = false) (hk : k ≤ evs.length) : bldAt evs < evs.length ∧ (bldAt evs < k → bldOk (evs.take k) = false ∧ bldAt (evs.take k) = bldAt evs) ∧ (k ≤ bldAt evs → bldOk (evs.take k) = true) := by
  obtain ⟨e, s, h1, h2, h3⟩ := bad_where h
  have hl := (List.getElem?_eq_some_iff.1 h1).1
  refine ⟨hl, fun hlt => ?_, fun hle => ?_⟩
  · have e1 : (evs.take k)[bldAt evs]? = some e := by rw [List.getElem?_take, if_pos hlt]; exact h1
    have e2 : runE ((evs.take k).take (bldAt evs)) = some s := by rw [List.take_take, Nat.min_eq_left (by omega)]; exact h2
    obtain ⟨q1, q2, _⟩ := bad_at e1 e2 h3
    exact ⟨q2, q1⟩
  · obtain ⟨s0, q, _⟩ := run_prefix (k := k) h2
    rw [List.take_take, Nat.min_eq_left hle] at q
    rw [bldOk, q]; rfl
/-- a story as far as it had come -/
structure Within (a b : Sto) : Prop where
  th : a.thread = b.thread
  st : a.stamp = b.stamp
  bg : a.begin_ = b.begin_
  op : a.opens = b.opens
  mv : ∃ r, b.moves = a.moves ++ r
  live : a.fate = 0 → a.end_ = 0 ∧ a.gate = 0 ∧ a.e = 0 ∧ a.by_ = 0
  done : a.fate ≠ 0 → a = b
structure GI (s : St) : Prop where
  opn : ∀ t i, s.opn t = some i → ∃ x, s.sts[i]? = some x ∧ x.fate = 0 ∧ x.thread = t
  live : ∀ (i : Nat) (x : Sto), s.sts[i]? = some x → x.fate = 0 → x.end_ = 0 ∧ x.gate = 0 ∧ x.e = 0 ∧ x.by_ = 0
theorem gi_0 : GI st0 := ⟨fun t i h => by simp [st0] at h, fun i x h => by simp [st0] at h⟩
theorem upd_thread (e : Ev) (x : Sto) : (upd e x).thread = x.thread := by
  unfold upd
  repeat' split
  all_goals rfl
theorem upd_live {e : Ev} {x : Sto} (h : (upd e x).fate = 0) (hx : x.end_ = 0 ∧ x.gate = 0 ∧ x.e = 0 ∧ x.by_ = 0) : (upd e x).end_ = 0 ∧ (upd e x).gate = 0 ∧ (upd e x).e = 0 ∧ (upd e x).by_ = 0 := by
  unfold upd at h ⊢
  split
  · exact hx
  · rename_i h2
    rw [if_neg h2] at h
    split
    · exact hx
    · rename_i h3
      rw [if_neg h3] at h
      split
      · rename_i h4; rw [if_pos h4] at h; cases h
      · rename_i h4
        rw [if_neg h4] at h
        split
        · rename_i h5; rw [if_pos h5] at h; cases h
        · exact hx
theorem upd_fate {e : Ev} {x : Sto} (h4 : e.kind ≠ 4) (h5 : e.kind ≠ 5) : (upd e x).fate = x.fate := by
  unfold upd
  rw [if_neg h4, if_neg h5]
  repeat' split
  all_goals rfl
theorem gi_step {s s' : St} {e : Ev} (hg : GI s) (h : stepE s e = some s') : GI s' := by
  obtain ⟨_, ht, rfl⟩ := stepE_some h
  unfold step1
  by_cases h1 : e.kind = 1
  · rw [if_pos h1]
    refine ⟨fun t i hi => ?_, fun i x hx hf => ?_⟩
    · dsimp only at hi ⊢
      unfold setO at hi
      split at hi
      · rename_i hte
        injection hi with hi
        subst hi
        exact ⟨newS e, by simp, rfl, hte.symm ▸ rfl⟩
      · obtain ⟨x, q1, q2, q3⟩ := hg.opn t i hi
        exact ⟨x, by rw [List.getElem?_append_left (List.getElem?_eq_some_iff.1 q1).1]; exact q1, q2, q3⟩
    · dsimp only at hx
      rw [List.getElem?_append] at hx
      split at hx
      · exact hg.live i x hx hf
      · have : x = newS e := by
          rcases Nat.eq_zero_or_pos (i - s.sts.length) with h0 | h0
          · rw [h0] at hx; simpa using hx.symm
          · rw [List.getElem?_eq_none (by simp; omega)] at hx; cases hx
        subst this
        exact ⟨rfl, rfl, rfl, rfl⟩
  · rw [if_neg h1]
    cases ho : s.opn e.thread with
    | none => exact ⟨hg.opn, hg.live⟩
    | some i0 =>
      obtain ⟨x0, q1, q2, q3⟩ := hg.opn _ _ ho
      refine ⟨fun t i hi => ?_, fun i x hx hf => ?_⟩
      · dsimp only at hi ⊢
        have hold : t ≠ e.thread → s.opn t = some i → ∃ x, (s.sts.modify i0 (upd e))[i]? = some x ∧ x.fate = 0 ∧ x.thread = t := by
          intro hne hi'
          obtain ⟨x, p1, p2, p3⟩ := hg.opn t i hi'
          have hii : i0 ≠ i := by
            rintro rfl
            rw [q1] at p1
            injection p1 with p1
            exact hne (by rw [← p3, ← p1, q3])
          exact ⟨x, by rw [List.getElem?_modify, p1]; simp [hii], p2, p3⟩
        by_cases h45 : e.kind = 4 ∨ e.kind = 5
        · rw [if_pos h45] at hi
          unfold setO at hi
          split at hi
          · cases hi
          · rename_i hne
            exact hold (fun h => hne h.symm) hi
        · rw [if_neg h45] at hi
          by_cases hte : t = e.thread
          · subst hte
            rw [ho] at hi
            injection hi with hi
            subst hi
            refine ⟨upd e x0, by rw [List.getElem?_modify, q1]; simp, ?_, by rw [upd_thread]; exact q3⟩
            rw [upd_fate (fun h => h45 (.inl h)) (fun h => h45 (.inr h))]; exact q2
          · exact hold hte hi
      · dsimp only at hx
        rw [List.getElem?_modify] at hx
        cases hy : s.sts[i]? with
        | none => rw [hy] at hx; simp at hx
        | some y =>
          rw [hy] at hx
          simp only [Option.map_eq_map, Option.map_some, Option.some.injEq] at hx
          split at hx
          · rename_i hii
            subst hii
            rw [q1] at hy
            injection hy with hy
            subst hy hx
            exact upd_live hf (hg.live i0 x0 q1 q2)
          · subst hx; exact hg.live i y hy hf
def Ext (s t : St) : Prop := s.sts.length ≤ t.sts.length ∧ ∀ (i : Nat) (x : Sto), s.sts[i]? = some x → ∃ y, t.sts[i]? = some y ∧ Within x y
theorem ext_refl {s : St} (h : GI s) : Ext s s := ⟨Nat.le_refl _, fun i x hx => ⟨x, hx, rfl, rfl, rfl, rfl, ⟨[], by simp⟩, h.live i x hx, fun _ => rfl⟩⟩
theorem within_upd {e : Ev} {x y : Sto} (h : Within x y) (hy : y.fate = 0) : Within x (upd e y) := by
  have hx : x.fate = 0 := Classical.byContradiction fun hf => hf (by rw [h.done hf]; exact hy)
  have hm : ∃ r, (upd e y).moves = x.moves ++ r := by
    obtain ⟨r, hr⟩ := h.mv
    unfold upd
    split
    · exact ⟨r ++ [readM e], by simp [hr]⟩
    · split
      · exact ⟨r ++ [writeM e], by simp [hr]⟩
      · split
        · exact ⟨r, hr⟩
        · split
          · exact ⟨r, hr⟩
          · exact ⟨r, hr⟩
  have hs : (upd e y).stamp = y.stamp ∧ (upd e y).begin_ = y.begin_ ∧ (upd e y).opens = y.opens := by
    unfold upd
    repeat' split
    all_goals exact ⟨rfl, rfl, rfl⟩
  exact ⟨by rw [upd_thread]; exact h.th, by rw [hs.1]; exact h.st, by rw [hs.2.1]; exact h.bg, by rw [hs.2.2]; exact h.op, hm, h.live, fun hf => absurd hx hf⟩
theorem ext_step {s t t' : St} {e : Ev} (h : Ext s t) (hg : GI t) (hs : stepE t e = some t') : Ext s t' := by
  obtain ⟨_, _, rfl⟩ := stepE_some hs
  unfold step1
  by_cases h1 : e.kind = 1
  · rw [if_pos h1]
    refine ⟨by have := h.1; simp; omega, fun i x hx => ?_⟩
    obtain ⟨y, hy, hw⟩ := h.2 i x hx
    exact ⟨y, by rw [List.getElem?_append_left (List.getElem?_eq_some_iff.1 hy).1]; exact hy, hw⟩
  · rw [if_neg h1]
    cases ho : t.opn e.thread with
    | none => exact h
    | some i0 =>
      obtain ⟨x0, q1, q2, q3⟩ := hg.opn _ _ ho
      refine ⟨by have := h.1; simp; omega, fun i x hx => ?_⟩
      obtain ⟨y, hy, hw⟩ := h.2 i x hx
      by_cases hii : i0 = i
      · subst hii
        rw [q1] at hy
        injection hy with hy
        subst hy
        exact ⟨upd e x0, by rw [List.getElem?_modify, q1]; simp, within_upd hw q2⟩
      · exact ⟨y, by rw [List.getElem?_modify, hy]; simp [hii], hw⟩
theorem ext_run : ∀ (es : List Ev) {s t t' : St}, Ext s t → GI t → es.foldlM stepE t = some t' → Ext s t' ∧ GI t'
  | [], s, t, t', h, hg, hr => by injection hr with hr; subst hr; exact ⟨h, hg⟩
  | e :: es, s, t, t', h, hg, hr => by
    rw [List.foldlM_cons] at hr
    cases h1 : stepE t e with
    | none => rw [h1] at hr; cases hr
    | some t1 =>
      rw [h1] at hr
      exact ext_run es (ext_step h hg h1) (gi_step hg h1) hr
theorem gi_run {evs : List Ev} {s : St} (h : runE evs = some s) : GI s := (ext_run evs (ext_refl gi_0) gi_0 h).2
/-- events that are right: a beginning is, and its stories lie within -/
theorem grows_ok {evs : List Ev} (k : Nat) (h : bldOk evs = true) : bldOk (evs.take k) = true ∧ (bldS (evs.take k)).length ≤ (bldS evs).length ∧ ∀ (i : Nat) (x : Sto), (bldS (evs.take k))[i]? = some x → ∃ y, (bldS evs)[i]? = some y ∧ Within x y := by
  cases hr : runE evs with
  | none => rw [bldOk, hr] at h; cases h
  | some t =>
    obtain ⟨s, hs, hd⟩ := run_prefix (k := k) hr
    have hE := (ext_run _ (ext_refl (gi_run hs)) (gi_run hs) hd).1
    rw [bldOk, hs, bldS, hs, bldS, hr]
    exact ⟨rfl, hE⟩
end Go.Proofs.Ytfekjbaojefhoaa
