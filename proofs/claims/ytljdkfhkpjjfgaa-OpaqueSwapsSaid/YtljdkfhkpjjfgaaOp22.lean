/- Neighbours, beginnings, plain: lemmas for the laws of layer 22. -/
import Derived.Test.YtljdkfhkpjjfgaaOp21
namespace Go.Proofs.Ytljdkfhkpjjfgaa
set_option linter.unusedVariables false

def AgS (a b : Sto) : Prop := b.end_ ≠ 0 ∧ b.end_ < a.begin_
def readS : Cells → List Sto → Bool
  | _, [] => true
  | f, s :: r => explS f (fun _ => none) s.moves && readS (putsF f (leftOf s)) r
def putsS (f : Cells) (l : List Sto) : Cells := l.foldl (fun g s => putsF g (leftOf s)) f
theorem readN_S (sts : List Sto) : ∀ (zs : List Int) (f : Cells), readN sts f zs = readS f (zs.map (stAt sts))
  | [], f => by rw [readN, List.map_nil, readS]
  | z :: zs, f => by rw [readN, List.map_cons, readS, readN_S sts zs]
theorem readS_append : ∀ (a b : List Sto) (f : Cells), readS f (a ++ b) = (readS f a && readS (putsS f a) b)
  | [], b, f => by simp [readS, putsS]
  | s :: a, b, f => by
    rw [List.cons_append, readS, readS, readS_append a b, Bool.and_assoc]
    rfl
theorem check_S (st : List Int) (sts : List Sto) (zs : List Int) : checkP st sts zs = (0, 0) ↔ evP sts.length [] zs = true ∧ readS (begF st) (zs.map (stAt sts)) = true ∧ (zs.map (stAt sts)).Pairwise fun a b => ¬ AgS a b := by
  rw [check_ok, readN_S, List.pairwise_map]
  exact Iff.rfl
theorem evP_iff {n : Nat} : ∀ (zs pre : List Int), evP n pre zs = true ↔ (∀ z ∈ zs, 0 ≤ z ∧ z < n) ∧ zs.Nodup ∧ (∀ z ∈ zs, z ∉ pre) ∧ pre.length + zs.length = n
  | [], pre => by rw [evP]; simp
  | z :: zs, pre => by
    rw [evP]
    by_cases hc : 0 ≤ z ∧ z < n ∧ z ∉ pre
    · rw [if_pos hc, evP_iff zs (pre ++ [z])]
      constructor
      · rintro ⟨h1, h2, h3, h4⟩
        refine ⟨fun x hx => ?_, List.nodup_cons.2 ⟨fun hm => h3 z hm (by simp), h2⟩, fun x hx => ?_, by simp at h4 ⊢; omega⟩
        · rcases List.mem_cons.1 hx with rfl | hx
          · exact ⟨hc.1, hc.2.1⟩
          · exact h1 x hx
        · rcases List.mem_cons.1 hx with rfl | hx
          · exact hc.2.2
          · exact fun hp => h3 x hx (by simp [hp])
      · rintro ⟨h1, h2, h3, h4⟩
        have hd := List.nodup_cons.1 h2
        refine ⟨fun x hx => h1 x (by simp [hx]), hd.2, fun x hx hm => ?_, by simp at h4 ⊢; omega⟩
        rcases List.mem_append.1 hm with hm | hm
        · exact h3 x (by simp [hx]) hm
        · rw [List.mem_singleton.1 hm] at hx; exact hd.1 hx
    · rw [if_neg hc]
      constructor
      · intro h; cases h
      · rintro ⟨h1, h2, h3, h4⟩
        exact absurd ⟨(h1 z (by simp)).1, (h1 z (by simp)).2, h3 z (by simp)⟩ hc
/-- does a story commit, and write -/
def writerB (s : Sto) : Bool := s.moves.any (·.write) && decide (s.fate = 1)
theorem left_nil {s : Sto} (h : writerB s = false) : leftOf s = [] := by
  rw [leftOf]
  by_cases hf : s.fate = 1
  · rw [if_pos hf]
    have hno : sel true s.moves = [] := by
      rw [writerB, Bool.and_eq_false_iff] at h
      rcases h with h | h
      · rw [List.any_eq_false] at h
        rw [sel, List.filter_eq_nil_iff]
        intro m hm
        have hw : m.write = false := by simpa using h m hm
        simp [hw]
      · simp [hf] at h
    rw [writesOf, hno]
    rfl
  · rw [if_neg hf]
theorem swap_ok (st : List Int) (sts : List Sto) (a b : List Int) (x y : Int) (h : checkP st sts (a ++ x :: y :: b) = (0, 0)) (hx : writerB (stAt sts x) = false) (hy : writerB (stAt sts y) = false)
    (ha : ¬ AgS (stAt sts y) (stAt sts x)) : checkP st sts (a ++ y :: x :: b) = (0, 0) := by
  rw [check_S] at h ⊢
  obtain ⟨h1, h2, h3⟩ := h
  have hp : (a ++ y :: x :: b).Perm (a ++ x :: y :: b) := List.Perm.append_left a (List.Perm.swap x y b)
  refine ⟨?_, ?_, ?_⟩
  · rw [evP_iff] at h1 ⊢
    exact ⟨fun z hz => h1.1 z (hp.mem_iff.1 hz), hp.nodup_iff.2 h1.2.1, fun z hz => h1.2.2.1 z (hp.mem_iff.1 hz), by rw [hp.length_eq]; exact h1.2.2.2⟩
  · simp only [List.map_append, List.map_cons, readS_append, readS, Bool.and_eq_true, left_nil hx, left_nil hy] at h2 ⊢
    exact ⟨h2.1, h2.2.2.1, h2.2.1, h2.2.2.2⟩
  · simp only [List.map_append, List.map_cons, List.pairwise_append, List.pairwise_cons] at h3 ⊢
    obtain ⟨p1, ⟨p2, p3, p4⟩, p5⟩ := h3
    refine ⟨p1, ⟨fun z hz => ?_, fun z hz => p2 z (by simp [hz]), p4⟩, fun u hu v hv => p5 u hu v ?_⟩
    · rcases List.mem_cons.1 hz with rfl | hz
      · exact ha
      · exact p3 z hz
    · simp only [List.mem_cons] at hv ⊢
      rcases hv with h | h | h
      · exact .inr (.inl h)
      · exact .inl h
      · exact .inr (.inr h)
theorem stAt_range (l : List Sto) : (intsOf (List.range l.length)).map (stAt l) = l := by
  apply List.ext_getElem?
  intro i
  rw [intsOf, List.map_map, List.getElem?_map]
  rcases Nat.lt_or_ge i l.length with h | h
  · rw [List.getElem?_range h, Option.map_some, List.getElem?_eq_getElem h]
    simp [stAt, h]
  · rw [List.getElem?_eq_none (by simpa using h), List.getElem?_eq_none h]
    rfl
theorem check_range (st : List Int) (l : List Sto) (h1 : readS (begF st) l = true) (h2 : l.Pairwise fun a b => ¬ AgS a b) : checkP st l (intsOf (List.range l.length)) = (0, 0) := by
  rw [check_S, stAt_range]
  refine ⟨?_, h1, h2⟩
  exact evP_of (List.range l.length) [] (fun i hi => List.mem_range.1 hi) (by simpa using List.nodup_range) (by simp)
theorem begin_ok (st : List Int) (sts : List Sto) (zs : List Int) (k : Nat) (h : checkP st sts zs = (0, 0)) : checkP st ((zs.take k).map (stAt sts)) (intsOf (List.range ((zs.take k).map (stAt sts)).length)) = (0, 0) := by
  rw [check_S] at h
  obtain ⟨h1, h2, h3⟩ := h
  rw [← List.take_append_drop k zs, List.map_append] at h2 h3
  rw [readS_append, Bool.and_eq_true] at h2
  exact check_range st _ h2.1 (List.pairwise_append.1 h3).1
end Go.Proofs.Ytljdkfhkpjjfgaa
