/- What Search finds and what Check takes, plain: lemmas for the laws of layer 22. -/
import Derived.Test.YtljdkfhkpjjfgaaOp16
namespace Go.Proofs.Ytljdkfhkpjjfgaa
set_option linter.unusedVariables false

/-- may places come next, one behind the other -/
def okT (sts : List Sto) (n : Nat) : Cells → List Nat → List Nat → Bool
  | _, _, [] => true
  | f, ord, i :: t => decide (i < n) && mayP sts n f ord i && okT sts n (putsF f (leftOf (stAt sts i))) (ord ++ [i]) t
/-- is the first list the same, or less where they differ first -/
def LexLe (a b : List Nat) : Prop := ∀ k : Nat, (∀ j, j < k → a[j]? = b[j]?) → a[k]? ≠ b[k]? → ∃ x y, a[k]? = some x ∧ b[k]? = some y ∧ x < y
theorem lexLe_refl (a : List Nat) : LexLe a a := fun k _ h => absurd rfl h
theorem lexLe_cons {a b : List Nat} (i : Nat) (h : LexLe a b) : LexLe (i :: a) (i :: b) := fun k hj hk => by
  cases k with
  | zero => exact absurd rfl hk
  | succ k =>
    simp only [List.getElem?_cons_succ] at hk ⊢
    exact h k (fun j hjk => by have := hj (j + 1) (by omega); simpa using this) hk
theorem lexLe_lt {i j : Nat} (a b : List Nat) (h : i < j) : LexLe (i :: a) (j :: b) := fun k hj hk => by
  cases k with
  | zero => exact ⟨i, j, rfl, rfl, h⟩
  | succ k =>
    have := hj 0 (by omega)
    simp at this
    omega
theorem find_range {n i : Nat} (g : Nat → Option (List Nat)) (hi : i < n) (h : g i ≠ none) : ∃ i0 o, i0 ≤ i ∧ g i0 = some o ∧ (List.range n).findSome? g = some o := by
  induction n with
  | zero => omega
  | succ n ih =>
    rw [List.range_succ, List.findSome?_append]
    cases hr : (List.range n).findSome? g with
    | some o =>
      obtain ⟨i0, hm, he⟩ := List.exists_of_findSome?_eq_some hr
      by_cases hin : i < n
      · obtain ⟨i1, o1, h1, h2, h3⟩ := ih hin
        rw [hr] at h3
        injection h3 with h3
        subst h3
        exact ⟨i1, o, h1, h2, rfl⟩
      · exact ⟨i0, o, by have := List.mem_range.1 hm; omega, he, rfl⟩
    | none =>
      have hno : ∀ x, x < n → g x = none := fun x hx => List.findSome?_eq_none_iff.1 hr x (List.mem_range.2 hx)
      have : i = n := by
        rcases Nat.lt_or_ge i n with h1 | h1
        · exact absurd (hno i h1) h
        · omega
      subst this
      cases hg : g i with
      | none => exact absurd hg h
      | some o => exact ⟨i, o, Nat.le_refl _, hg, by simp [hg]⟩
theorem tryQ_sound (sts : List Sto) (n : Nat) : ∀ r f ord o, tryQ sts n r f ord = some o → ∃ t, t.length = r ∧ o = ord ++ t ∧ okT sts n f ord t = true
  | 0, f, ord, o, h => by
    rw [tryQ] at h
    injection h with h
    exact ⟨[], rfl, by simp [h], rfl⟩
  | r + 1, f, ord, o, h => by
    rw [tryQ] at h
    obtain ⟨i, hm, he⟩ := List.exists_of_findSome?_eq_some h
    by_cases hmay : mayP sts n f ord i = true
    · rw [if_pos hmay] at he
      obtain ⟨t, hl, rfl, ht⟩ := tryQ_sound sts n r _ _ _ he
      refine ⟨i :: t, by simp [hl], by simp, ?_⟩
      rw [okT, hmay, ht]
      simpa using List.mem_range.1 hm
    · rw [if_neg hmay] at he
      cases he
theorem tryQ_least (sts : List Sto) (n : Nat) : ∀ r f ord t, t.length = r → okT sts n f ord t = true → ∃ t', tryQ sts n r f ord = some (ord ++ t') ∧ LexLe t' t
  | 0, f, ord, t, hl, h => by
    have : t = [] := List.eq_nil_of_length_eq_zero hl
    subst this
    exact ⟨[], by rw [tryQ]; simp, lexLe_refl _⟩
  | r + 1, f, ord, [], hl, h => by simp at hl
  | r + 1, f, ord, i :: t, hl, h => by
    rw [okT, Bool.and_eq_true, Bool.and_eq_true, decide_eq_true_eq] at h
    obtain ⟨⟨hi, hmay⟩, ht⟩ := h
    obtain ⟨t1, h1, hx1⟩ := tryQ_least sts n r _ _ t (by simpa using hl) ht
    obtain ⟨i0, o, hle, hg, hf⟩ := find_range (fun i => if mayP sts n f ord i then tryQ sts n r (putsF f (leftOf (stAt sts i))) (ord ++ [i]) else none) hi (by rw [if_pos hmay, h1]; exact fun h => nomatch h)
    rw [tryQ, hf]
    by_cases hmay0 : mayP sts n f ord i0 = true
    · rw [if_pos hmay0] at hg
      obtain ⟨t2, hl2, rfl, ht2⟩ := tryQ_sound sts n r _ _ _ hg
      rcases Nat.lt_or_ge i0 i with hlt | hge
      · exact ⟨i0 :: t2, by simp, lexLe_lt _ _ hlt⟩
      · have : i0 = i := by omega
        subst this
        rw [h1] at hg
        injection hg with hg
        exact ⟨i0 :: t1, by rw [← hg]; simp, lexLe_cons _ hx1⟩
    · rw [if_neg hmay0] at hg
      cases hg
end Go.Proofs.Ytljdkfhkpjjfgaa
