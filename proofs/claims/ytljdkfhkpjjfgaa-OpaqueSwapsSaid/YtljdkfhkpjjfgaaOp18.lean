/- Check and Search agree, plain: lemmas for the laws of layer 22. -/
import Derived.Test.YtljdkfhkpjjfgaaOp17
namespace Go.Proofs.Ytljdkfhkpjjfgaa
set_option linter.unusedVariables false

theorem nodup_len : ∀ (n : Nat) (l : List Nat), l.Nodup → (∀ i ∈ l, i < n) → l.length ≤ n
  | 0, l, _, h => by
    cases l with
    | nil => simp
    | cons a l => exact absurd (h a (by simp)) (by omega)
  | n + 1, l, hd, h => by
    have h1 := nodup_len n (l.erase n) (hd.erase n) (fun i hi => by
      have h2 := h i (List.mem_of_mem_erase hi)
      have h3 : i ≠ n := fun e => by subst e; exact hd.not_mem_erase hi
      omega)
    have h2 := List.length_erase_add_one_ge n l
    omega
where
  List.length_erase_add_one_ge (n : Nat) (l : List Nat) : l.length ≤ (l.erase n).length + 1 := by
    rw [List.length_erase]
    split <;> omega
theorem nodup_cover (n : Nat) (l : List Nat) (hd : l.Nodup) (h : ∀ i ∈ l, i < n) (hl : l.length = n) (k : Nat) (hk : k < n) : k ∈ l := by
  apply Classical.byContradiction
  intro hn
  have := nodup_len n (k :: l) (List.nodup_cons.2 ⟨hn, hd⟩) (fun i hi => by
    rcases List.mem_cons.1 hi with rfl | hi
    · exact hk
    · exact h i hi)
  simp at this
  omega
theorem evP_shape {n : Nat} : ∀ (zs : List Int) (ord : List Nat), evP n (intsOf ord) zs = true → ord.Nodup → ∃ t : List Nat, zs = intsOf t ∧ (∀ i ∈ t, i < n) ∧ (ord ++ t).Nodup ∧ ord.length + t.length = n
  | [], ord, h, hd => ⟨[], rfl, by simp, by simpa using hd, by rw [evP] at h; simpa [intsOf] using h⟩
  | z :: zs, ord, h, hd => by
    rw [evP] at h
    by_cases hc : 0 ≤ z ∧ z < n ∧ z ∉ intsOf ord
    · rw [if_pos hc] at h
      obtain ⟨i, rfl⟩ : ∃ i : Nat, z = i := ⟨z.toNat, by omega⟩
      have hio : i ∉ ord := fun hm => hc.2.2 (mem_intsOf.2 hm)
      have e : intsOf ord ++ [(i : Int)] = intsOf (ord ++ [i]) := by simp [intsOf]
      rw [e] at h
      obtain ⟨t, rfl, h1, h2, h3⟩ := evP_shape zs (ord ++ [i]) h (by rw [List.nodup_append]; exact ⟨hd, by simp, by intro a ha b hb; rw [List.mem_singleton.1 hb]; exact fun e => hio (e ▸ ha)⟩)
      refine ⟨i :: t, rfl, fun k hk => ?_, by simpa using h2, by simp at h3 ⊢; omega⟩
      rcases List.mem_cons.1 hk with rfl | hk
      · omega
      · exact h1 k hk
    · rw [if_neg hc] at h
      cases h
theorem evP_of {n : Nat} : ∀ (t : List Nat) (ord : List Nat), (∀ i ∈ t, i < n) → (ord ++ t).Nodup → ord.length + t.length = n → evP n (intsOf ord) (intsOf t) = true
  | [], ord, _, _, hl => by rw [show intsOf [] = [] from rfl, evP]; simpa [intsOf] using hl
  | i :: t, ord, h, hd, hl => by
    rw [show intsOf (i :: t) = (i : Int) :: intsOf t from rfl, evP]
    have hio : i ∉ ord := fun hm => (List.nodup_append.1 hd).2.2 i hm i (by simp) rfl
    rw [if_pos ⟨by omega, by have := h i (by simp); omega, fun hm => hio (mem_intsOf.1 hm)⟩]
    have e : intsOf ord ++ [(i : Int)] = intsOf (ord ++ [i]) := by simp [intsOf]
    rw [e]
    exact evP_of t (ord ++ [i]) (fun k hk => h k (by simp [hk])) (by simpa using hd) (by simp at hl ⊢; omega)
/-- b stands behind a although it ended ahead of a's begin -/
def Against (sts : List Sto) (a b : Int) : Prop := (stAt sts b).end_ ≠ 0 ∧ (stAt sts b).end_ < (stAt sts a).begin_
def readN (sts : List Sto) : Cells → List Int → Bool
  | _, [] => true
  | f, i :: r => explS f (fun _ => none) (stAt sts i).moves && readN sts (putsF f (leftOf (stAt sts i))) r
theorem readP_none (sts : List Sto) : ∀ (zs : List Int) (k : Nat) (f : Cells), readP sts k f zs = none ↔ readN sts f zs = true
  | [], k, f => by rw [readP, readN]; simp
  | i :: r, k, f => by
    rw [readP, readN, Bool.and_eq_true, ← readP_none sts r (k + 1)]
    cases explS f (fun _ => none) (stAt sts i).moves <;> simp
theorem timeP_late (sts : List Sto) : ∀ (zs : List Int) (k : Nat) (late : Int), 0 < k → (timeP sts k late zs = none ↔ (∀ b ∈ zs, ¬((stAt sts b).end_ ≠ 0 ∧ (stAt sts b).end_ < late)) ∧ zs.Pairwise fun a b => ¬ Against sts a b)
  | [], k, late, hk => by rw [timeP]; simp
  | i :: r, k, late, hk => by
    rw [timeP]
    by_cases hc : (stAt sts i).end_ ≠ 0 ∧ (stAt sts i).end_ < late
    · rw [if_pos ⟨hk, hc⟩]
      constructor
      · intro h; cases h
      · intro h; exact absurd hc (h.1 i (by simp))
    · rw [if_neg (fun h => hc h.2), timeP_late sts r (k + 1) _ (by omega), List.pairwise_cons]
      have hk0 : ¬ k = 0 := by omega
      by_cases hl : late < (stAt sts i).begin_
      · rw [if_pos (Or.inr hl)]
        constructor
        · rintro ⟨h1, h2⟩
          refine ⟨fun b hb => ?_, fun b hb => h1 b hb, h2⟩
          rcases List.mem_cons.1 hb with rfl | hb
          · exact hc
          · exact fun h => h1 b hb ⟨h.1, by omega⟩
        · rintro ⟨h1, h2, h3⟩
          exact ⟨fun b hb => h2 b hb, h3⟩
      · rw [if_neg (by omega)]
        constructor
        · rintro ⟨h1, h2⟩
          refine ⟨fun b hb => ?_, fun b hb h => h1 b hb ⟨h.1, by have := h.2; omega⟩, h2⟩
          rcases List.mem_cons.1 hb with rfl | hb
          · exact hc
          · exact h1 b hb
        · rintro ⟨h1, h2, h3⟩
          exact ⟨fun b hb => h1 b (by simp [hb]), h3⟩
theorem timeP_none (sts : List Sto) (zs : List Int) : timeP sts 0 0 zs = none ↔ zs.Pairwise fun a b => ¬ Against sts a b := by
  cases zs with
  | nil => rw [timeP]; simp
  | cons i r =>
    rw [timeP, if_neg (fun h => absurd h.1 (by omega)), if_pos (Or.inl rfl), timeP_late sts r 1 _ (by omega), List.pairwise_cons]
    exact Iff.rfl
theorem block_false (sts : List Sto) (n : Nat) (ord t : List Nat) (i : Nat) (hn : ∀ k ∈ i :: t, k < n) (hd : (ord ++ i :: t).Nodup) (hc : ∀ k, k < n → k ∈ ord ++ i :: t) :
    blockP sts n ord i = false ↔ ∀ b ∈ intsOf t, ¬ Against sts i b := by
  rw [blockP, List.any_eq_false]
  constructor
  · intro h b hb
    obtain ⟨k, hk, rfl⟩ := List.mem_map.1 hb
    have h1 := h k (List.mem_range.2 (hn k (by simp [hk])))
    have hko : k ∉ ord := fun hm => (List.nodup_append.1 hd).2.2 k hm k (by simp [hk]) rfl
    have hki : k ≠ i := fun e => by
      subst e
      exact (List.nodup_cons.1 (List.nodup_append.1 hd).2.1).1 hk
    intro ha
    apply h1
    simp [hko, hki, ha.1, ha.2]
  · intro h k hk
    have hk := List.mem_range.1 hk
    simp only [Bool.and_eq_true, Bool.not_eq_true', decide_eq_false_iff_not, bne_iff_ne, ne_eq, decide_eq_true_eq, not_and]
    intro h1 h2
    have hm := hc k hk
    simp only [List.mem_append, List.mem_cons] at hm
    rcases hm with hm | hm | hm
    · exact absurd hm h1.1.1
    · exact absurd hm h1.1.2
    · exact h k (mem_intsOf.2 hm) ⟨h1.2, h2⟩
theorem okT_iff (sts : List Sto) (n : Nat) : ∀ (t : List Nat) (f : Cells) (ord : List Nat), (∀ k ∈ t, k < n) → (ord ++ t).Nodup → (∀ k, k < n → k ∈ ord ++ t) →
    (okT sts n f ord t = true ↔ readN sts f (intsOf t) = true ∧ (intsOf t).Pairwise fun a b => ¬ Against sts a b)
  | [], f, ord, _, _, _ => by rw [okT, show intsOf [] = [] from rfl, readN]; simp
  | i :: t, f, ord, hn, hd, hc => by
    have hio : i ∉ ord := fun hm => (List.nodup_append.1 hd).2.2 i hm i (by simp) rfl
    have hb := block_false sts n ord t i hn hd hc
    rw [okT, Bool.and_eq_true, Bool.and_eq_true, okT_iff sts n t _ (ord ++ [i]) (fun k hk => hn k (by simp [hk])) (by simpa using hd) (by simpa using hc), show intsOf (i :: t) = (i : Int) :: intsOf t from rfl, readN, List.pairwise_cons, Bool.and_eq_true, mayP]
    simp only [hio, decide_false, Bool.not_false, Bool.true_and, Bool.and_eq_true, Bool.not_eq_true', decide_eq_true_eq]
    rw [hb]
    have := hn i (by simp)
    constructor
    · rintro ⟨⟨h0, h1, h2⟩, h3, h4⟩
      exact ⟨⟨h1, h3⟩, h2, h4⟩
    · rintro ⟨⟨h1, h3⟩, h2, h4⟩
      exact ⟨⟨this, h1, h2⟩, h3, h4⟩
theorem okT_nodup (sts : List Sto) (n : Nat) : ∀ (t : List Nat) (f : Cells) (ord : List Nat), ord.Nodup → okT sts n f ord t = true → (ord ++ t).Nodup ∧ ∀ k ∈ t, k < n
  | [], f, ord, hd, _ => ⟨by simpa using hd, by simp⟩
  | i :: t, f, ord, hd, h => by
    rw [okT, Bool.and_eq_true, Bool.and_eq_true, decide_eq_true_eq, mayP, Bool.and_eq_true, Bool.and_eq_true] at h
    obtain ⟨⟨hi, ⟨h1, _⟩, _⟩, ht⟩ := h
    have hio : i ∉ ord := by simpa using h1
    obtain ⟨h2, h3⟩ := okT_nodup sts n t _ (ord ++ [i]) (by rw [List.nodup_append]; exact ⟨hd, by simp, by intro a ha b hb; rw [List.mem_singleton.1 hb]; exact fun e => hio (e ▸ ha)⟩) ht
    refine ⟨by simpa using h2, fun k hk => ?_⟩
    rcases List.mem_cons.1 hk with rfl | hk
    · exact hi
    · exact h3 k hk
theorem check_ok (st : List Int) (sts : List Sto) (zs : List Int) : checkP st sts zs = (0, 0) ↔ evP sts.length [] zs = true ∧ readN sts (begF st) zs = true ∧ zs.Pairwise fun a b => ¬ Against sts a b := by
  rw [checkP]
  cases hev : evP sts.length [] zs with
  | false => simp
  | true =>
    simp only [if_true, true_and]
    rw [← timeP_none, ← readP_none sts zs 0]
    cases timeP sts 0 0 zs with
    | some k => simp
    | none =>
      cases readP sts 0 (begF st) zs with
      | some k => simp
      | none => simp
theorem check_okT (st : List Int) (sts : List Sto) (o : List Nat) (h : okT sts sts.length (begF st) [] o = true) (hl : o.length = sts.length) : checkP st sts (intsOf o) = (0, 0) := by
  obtain ⟨hd, hn⟩ := okT_nodup sts sts.length o (begF st) [] (by simp) h
  have hd' : o.Nodup := by simpa using hd
  have hc := nodup_cover sts.length o hd' hn hl
  rw [check_ok]
  have := (okT_iff sts sts.length o (begF st) [] hn hd (by simpa using hc)).1 h
  exact ⟨evP_of o [] hn hd (by simpa using hl), this.1, this.2⟩
theorem okT_check (st : List Int) (sts : List Sto) (zs : List Int) (h : checkP st sts zs = (0, 0)) : ∃ o : List Nat, zs = intsOf o ∧ o.length = sts.length ∧ okT sts sts.length (begF st) [] o = true := by
  rw [check_ok] at h
  obtain ⟨hev, h2, h3⟩ := h
  obtain ⟨o, rfl, hn, hd, hl⟩ := evP_shape zs [] hev (by simp)
  have hd' : o.Nodup := by simpa using hd
  have hl' : o.length = sts.length := by simpa using hl
  have hc := nodup_cover sts.length o hd' hn hl'
  exact ⟨o, rfl, hl', (okT_iff sts sts.length o (begF st) [] hn hd (by simpa using hc)).2 ⟨h2, h3⟩⟩
/-- P22.5: what Check takes Search finds, or one that is less -/
theorem found_of (st : List Int) (sts : List Sto) (zs : List Int) (h : checkP st sts zs = (0, 0)) (h7 : sts.length ≤ 7) : ∃ o o' : List Nat, zs = intsOf o ∧ o.length = sts.length ∧ srchP st sts = some o' ∧ o'.length = sts.length ∧ checkP st sts (intsOf o') = (0, 0) ∧ LexLe o' o := by
  obtain ⟨o, rfl, hl, hok⟩ := okT_check st sts zs h
  obtain ⟨o', h1, h2⟩ := tryQ_least sts sts.length sts.length (begF st) [] o hl hok
  obtain ⟨t, ht, he, hok'⟩ := tryQ_sound sts sts.length _ _ _ _ h1
  have : t = o' := by simpa using he.symm
  subst this
  refine ⟨o, t, rfl, hl, ?_, ht, check_okT st sts t hok' ht, h2⟩
  rw [srchP, if_pos h7, try_q, h1]
  rfl
end Go.Proofs.Ytljdkfhkpjjfgaa
