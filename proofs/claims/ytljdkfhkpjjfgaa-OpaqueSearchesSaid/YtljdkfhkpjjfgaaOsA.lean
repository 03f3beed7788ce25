/- The next order, the document s Search, plain: lemmas for the laws of layer 22. -/
import Derived.Test.YtljdkfhkpjjfgaaOrC
namespace Go.Proofs.Ytljdkfhkpjjfgaa
set_option linter.unusedVariables false

/-- less, as texts are -/
def lexLt : List Nat → List Nat → Prop
  | x :: a, y :: b => x < y ∨ (x = y ∧ lexLt a b)
  | _, _ => False
theorem lex_of_le : ∀ (a b : List Nat), a.length = b.length → LexLe a b → a = b ∨ lexLt a b
  | [], [], _, _ => .inl rfl
  | [], _ :: _, h, _ => by simp at h
  | _ :: _, [], h, _ => by simp at h
  | x :: a, y :: b, h, hl => by
    by_cases hxy : x = y
    · subst hxy
      have hl' : LexLe a b := fun k hj hk => by
        have := hl (k + 1) (fun j hjk => by
          cases j with
          | zero => rfl
          | succ j => simpa using hj j (by omega)) (by simpa using hk)
        simpa using this
      rcases lex_of_le a b (by simpa using h) hl' with h1 | h1
      · exact .inl (by rw [h1])
      · exact .inr (.inr ⟨rfl, h1⟩)
    · obtain ⟨u, v, h1, h2, h3⟩ := hl 0 (fun j hj => absurd hj (by omega)) (by simpa using hxy)
      simp at h1 h2
      exact .inr (.inl (by omega))
theorem lex_tri : ∀ (a b : List Nat), a.length = b.length → a = b ∨ lexLt a b ∨ lexLt b a
  | [], [], _ => .inl rfl
  | [], _ :: _, h => by simp at h
  | _ :: _, [], h => by simp at h
  | x :: a, y :: b, h => by
    rcases Nat.lt_trichotomy x y with h1 | h1 | h1
    · exact .inr (.inl (.inl h1))
    · subst h1
      rcases lex_tri a b (by simpa using h) with h2 | h2 | h2
      · exact .inl (by rw [h2])
      · exact .inr (.inl (.inr ⟨rfl, h2⟩))
      · exact .inr (.inr (.inr ⟨rfl, h2⟩))
    · exact .inr (.inr (.inl h1))
theorem lex_irr : ∀ (a : List Nat), ¬ lexLt a a
  | [] => fun h => h
  | x :: a => by
    rintro (h | ⟨_, h⟩)
    · omega
    · exact lex_irr a h
theorem lex_asym : ∀ (a b : List Nat), lexLt a b → ¬ lexLt b a
  | [], _, h => by cases h
  | _ :: _, [], h => by cases h
  | x :: a, y :: b, h => by
    rintro (h2 | ⟨h1, h2⟩)
    · rcases h with h | ⟨h, _⟩ <;> omega
    · rcases h with h | ⟨_, h⟩
      · omega
      · exact lex_asym a b h h2
/-- a list that falls is the greatest of its orders -/
theorem desc_max : ∀ (l p : List Nat), l.Pairwise (· > ·) → p.Perm l → ¬ lexLt l p
  | [], p, _, hp => by have := List.Perm.eq_nil hp; subst this; exact fun h => h
  | x :: l, [], _, hp => by have := hp.length_eq; simp at this
  | x :: l, y :: p, hd, hp => by
    have h1 := List.pairwise_cons.1 hd
    have hy : y ∈ x :: l := hp.subset (by simp)
    rintro (h | ⟨rfl, h⟩)
    · rcases List.mem_cons.1 hy with rfl | hy
      · omega
      · have := h1.1 y hy; omega
    · exact desc_max l p h1.2 (List.Perm.cons_inv hp) h
theorem asc_min : ∀ (l p : List Nat), l.Pairwise (· < ·) → p.Perm l → ¬ lexLt p l
  | [], p, _, hp => by have := List.Perm.eq_nil hp; subst this; exact fun h => h
  | x :: l, [], _, hp => by have := hp.length_eq; simp at this
  | x :: l, y :: p, hd, hp => by
    have h1 := List.pairwise_cons.1 hd
    have hy : y ∈ x :: l := hp.subset (by simp)
    rintro (h | ⟨rfl, h⟩)
    · rcases List.mem_cons.1 hy with rfl | hy
      · omega
      · have := h1.1 y hy; omega
    · exact asc_min l p h1.2 (List.Perm.cons_inv hp) h
/-- the next greater one -/
def IsNext (l l' : List Nat) : Prop := ∃ pre a s1 b s2, l = pre ++ a :: (s1 ++ b :: s2) ∧ (s1 ++ b :: s2).Pairwise (· > ·) ∧ a < b ∧ (∀ z ∈ s2, z < a) ∧ l' = pre ++ b :: (s1 ++ a :: s2).reverse
theorem next_perm {l l' : List Nat} (h : IsNext l l') : l'.Perm l := by
  obtain ⟨pre, a, s1, b, s2, rfl, _, _, _, rfl⟩ := h
  refine List.Perm.append_left pre ?_
  have h1 : (b :: (s1 ++ a :: s2).reverse).Perm (b :: (s1 ++ a :: s2)) := (List.reverse_perm _).cons b
  refine h1.trans ?_
  have h2 : (b :: (s1 ++ a :: s2)).Perm (b :: a :: (s1 ++ s2)) := (List.perm_middle).cons b
  have h3 : (a :: (s1 ++ b :: s2)).Perm (a :: b :: (s1 ++ s2)) := (List.perm_middle).cons a
  exact h2.trans ((List.Perm.swap a b _).trans h3.symm)
theorem lex_append (p q : List Nat) : ∀ (pre : List Nat), lexLt (pre ++ p) (pre ++ q) ↔ lexLt p q
  | [] => Iff.rfl
  | x :: pre => by
    rw [List.cons_append, List.cons_append]
    constructor
    · rintro (h | ⟨_, h⟩)
      · omega
      · exact (lex_append p q pre).1 h
    · intro h
      exact .inr ⟨rfl, (lex_append p q pre).2 h⟩
/-- nothing lies between -/
theorem next_gap : ∀ {pre : List Nat} {a b : Nat} {s1 s2 p : List Nat}, (pre ++ a :: (s1 ++ b :: s2)).Nodup → (s1 ++ b :: s2).Pairwise (· > ·) → a < b → (∀ z ∈ s2, z < a) → p.Perm (pre ++ a :: (s1 ++ b :: s2)) →
    lexLt p (pre ++ b :: (s1 ++ a :: s2).reverse) → p = pre ++ a :: (s1 ++ b :: s2) ∨ lexLt p (pre ++ a :: (s1 ++ b :: s2))
  | x :: pre, a, b, s1, s2, [], _, _, _, _, hp, _ => by have := hp.length_eq; simp at this
  | x :: pre, a, b, s1, s2, y :: p, hn, hd, hab, hs, hp, h => by
    rcases h with h | ⟨rfl, h⟩
    · exact .inr (.inl h)
    · have hn' := (List.nodup_cons.1 hn).2
      have hp' : p.Perm (pre ++ a :: (s1 ++ b :: s2)) := List.Perm.cons_inv hp
      rcases next_gap hn' hd hab hs hp' h with h1 | h1
      · exact .inl (by rw [h1]; rfl)
      · exact .inr (.inr ⟨rfl, h1⟩)
  | [], a, b, s1, s2, [], _, _, _, _, hp, _ => by have := hp.length_eq; simp at this
  | [], a, b, s1, s2, y :: p, hn, hd, hab, hs, hp, h => by
    rw [List.nil_append] at hp hn ⊢
    have hy : y ∈ a :: (s1 ++ b :: s2) := hp.subset (by simp)
    have hd' := List.pairwise_append.1 hd
    have hlow : ∀ z ∈ s1 ++ b :: s2, z < b → z < a := fun z hz hzb => by
      rcases List.mem_append.1 hz with hz | hz
      · have := hd'.2.2 z hz b (by simp); omega
      · rcases List.mem_cons.1 hz with rfl | hz
        · omega
        · exact hs z hz
    rcases h with h | ⟨hyb, h⟩
    · rcases List.mem_cons.1 hy with rfl | hy
      · have hp' : p.Perm (s1 ++ b :: s2) := List.Perm.cons_inv hp
        rcases lex_tri p (s1 ++ b :: s2) hp'.length_eq with h1 | h1 | h1
        · exact .inl (by rw [h1])
        · exact .inr (.inr ⟨rfl, h1⟩)
        · exact absurd h1 (desc_max _ _ hd hp')
      · exact .inr (.inl (hlow y hy h))
    · subst hyb
      have hp' : p.Perm (s1 ++ a :: s2).reverse := by
        have h1 : (y :: p).Perm (y :: (s1 ++ a :: s2)) := by
          refine hp.trans ?_
          have h2 : (y :: (s1 ++ a :: s2)).Perm (y :: a :: (s1 ++ s2)) := (List.perm_middle).cons y
          have h3 : (a :: (s1 ++ y :: s2)).Perm (a :: y :: (s1 ++ s2)) := (List.perm_middle).cons a
          exact h3.trans ((List.Perm.swap y a _).trans h2.symm)
        exact (List.Perm.cons_inv h1).trans (List.reverse_perm _).symm
      have hasc : (s1 ++ a :: s2).reverse.Pairwise (· < ·) := by
        rw [List.pairwise_reverse, List.pairwise_append, List.pairwise_cons]
        have hc := List.pairwise_cons.1 hd'.2.1
        refine ⟨hd'.1, ⟨fun z hz => hs z hz, hc.2⟩, fun u hu v hv => ?_⟩
        rcases List.mem_cons.1 hv with rfl | hv
        · have := hd'.2.2 u hu y (by simp); show v < u; omega
        · exact hd'.2.2 u hu v (by simp [hv])
      exact absurd h (asc_min _ _ hasc hp')
end Go.Proofs.Ytljdkfhkpjjfgaa
namespace Go.Proofs.Ytljdkfhkpjjfgaa
set_option linter.unusedVariables false

theorem perm_range {n : Nat} {l : List Nat} (hd : l.Nodup) (h : ∀ i ∈ l, i < n) (hl : l.length = n) : l.Perm (List.range n) := by
  rw [List.perm_iff_count]
  intro a
  rw [hd.count, (List.nodup_range (n := n)).count]
  by_cases ha : a < n
  · rw [if_pos (nodup_cover n l hd h hl a ha), if_pos (List.mem_range.2 ha)]
  · rw [if_neg (fun hm => ha (h a hm)), if_neg (fun hm => ha (List.mem_range.1 hm))]
theorem intsOf_inj {a b : List Nat} (h : intsOf a = intsOf b) : a = b := by
  have := congrArg (List.map Int.toNat) h
  simpa [intsOf, List.map_map, Function.comp_def] using this
/-- all orders that are less were refused -/
def Refused (st : List Int) (sts : List Sto) (l : List Nat) : Prop := ∀ p : List Nat, p.Perm (List.range sts.length) → lexLt p l → checkP st sts (intsOf p) ≠ (0, 0)
theorem refused_first (st : List Int) (sts : List Sto) : Refused st sts (List.range sts.length) := fun p hp h => absurd h (asc_min _ _ List.pairwise_lt_range hp)
theorem refused_next {st : List Int} {sts : List Sto} {l l' : List Nat} (hl : l.Perm (List.range sts.length)) (h : Refused st sts l) (hc : checkP st sts (intsOf l) ≠ (0, 0)) (hn : IsNext l l') : Refused st sts l' := by
  intro p hp hlt
  obtain ⟨pre, a, s1, b, s2, e1, h1, h2, h3, e2⟩ := hn
  have hnd : l.Nodup := hl.nodup_iff.2 List.nodup_range
  rw [e2] at hlt
  rw [e1] at hnd
  rcases next_gap hnd h1 h2 h3 (by rw [← e1]; exact hp.trans hl.symm) hlt with h4 | h4
  · rw [h4, ← e1]; exact hc
  · rw [← e1] at h4; exact h p hp h4
theorem srch_found {st : List Int} {sts : List Sto} {l : List Nat} (h7 : sts.length ≤ 7) (hl : l.Perm (List.range sts.length)) (h : Refused st sts l) (hc : checkP st sts (intsOf l) = (0, 0)) : srchP st sts = some l := by
  obtain ⟨o, o', e, hol, hs, hol', hc', hle⟩ := found_of st sts (intsOf l) hc h7
  have e1 : o = l := (intsOf_inj e).symm
  subst e1
  rcases lex_of_le o' o (by omega) hle with h1 | h1
  · rw [hs, h1]
  · obtain ⟨o2, e2, hl2, hok⟩ := okT_check st sts (intsOf o') hc'
    have e3 := intsOf_inj e2
    subst e3
    obtain ⟨hd, hn⟩ := okT_nodup sts sts.length o' (begF st) [] (by simp) hok
    exact absurd hc' (h o' (perm_range (by simpa using hd) hn hl2) h1)
theorem srch_none {st : List Int} {sts : List Sto} {l : List Nat} (h7 : sts.length ≤ 7) (hl : l.Perm (List.range sts.length)) (h : Refused st sts l) (hc : checkP st sts (intsOf l) ≠ (0, 0)) (hd : l.Pairwise (· > ·)) : srchP st sts = none := by
  rw [srchP, if_pos h7, try_q]
  cases hs : tryQ sts sts.length sts.length (begF st) [] with
  | none => rfl
  | some o =>
    obtain ⟨t, ht, e, hok⟩ := tryQ_sound sts sts.length _ _ _ _ hs
    have e : o = t := by simpa using e
    subst e
    have hco := check_okT st sts o hok ht
    obtain ⟨hnd, hn⟩ := okT_nodup sts sts.length o (begF st) [] (by simp) hok
    have hp := perm_range (by simpa using hnd) hn ht
    rcases lex_tri o l (by rw [ht, hl.length_eq, List.length_range]) with h1 | h1 | h1
    · rw [h1] at hco; exact absurd hco hc
    · exact absurd hco (h o hp h1)
    · exact absurd h1 (desc_max _ _ hd (hp.trans hl.symm))
end Go.Proofs.Ytljdkfhkpjjfgaa
