/- The document's Memory, Get: lemmas for the laws of layer 22. -/
import Derived.Test.YtljdkfhkpjjfgaaOr1
namespace Go.Proofs.Ytljdkfhkpjjfgaa
open Go.RowKit Go.Shelf
set_option linter.unusedVariables false

/-- what pairs say of a cell: the last one counts -/
def lastL (ps : List (Int × Int)) (k : Int) : Option Int := ps.foldl (fun acc p => if p.1 = k then some p.2 else acc) none
theorem lastL_snoc (ps : List (Int × Int)) (p : Int × Int) (k : Int) : lastL (ps ++ [p]) k = if p.1 = k then some p.2 else lastL ps k := by simp [lastL]
theorem lastL_none : ∀ (ps : List (Int × Int)) (k : Int), (∀ p ∈ ps, p.1 ≠ k) → lastL ps k = none := by
  intro ps k
  refine snocI (P := fun ps => (∀ p ∈ ps, p.1 ≠ k) → lastL ps k = none) (fun _ => rfl) (fun l a ih h => ?_) ps
  rw [lastL_snoc, if_neg (h a (by simp)), ih (fun p hp => h p (by simp [hp]))]
where
  snocI {α : Type} {P : List α → Prop} (h0 : P []) (h1 : ∀ l a, P l → P (l ++ [a])) (l : List α) : P l := by
    rw [← List.reverse_reverse l]
    induction l.reverse with
    | nil => exact h0
    | cons a r ih => rw [List.reverse_cons]; exact h1 _ _ ih
theorem lastL_append : ∀ (a b : List (Int × Int)) (k : Int), lastL (a ++ b) k = (lastL b k).or (lastL a k) := by
  intro a b k
  refine lastL_none.snocI (P := fun b => lastL (a ++ b) k = (lastL b k).or (lastL a k)) ?_ (fun l p ih => ?_) b
  · rw [List.append_nil]; rfl
  · rw [← List.append_assoc, lastL_snoc, lastL_snoc, ih]
    split <;> simp
theorem lastL_mem {ps : List (Int × Int)} {k v : Int} (h : lastL ps k = some v) : (k, v) ∈ ps := by
  revert h
  refine lastL_none.snocI (P := fun ps => lastL ps k = some v → (k, v) ∈ ps) (fun h => by cases h) (fun l p ih h => ?_) ps
  rw [lastL_snoc] at h
  by_cases hp : p.1 = k
  · rw [if_pos hp] at h
    injection h with h
    have : p = (k, v) := by rw [← hp, ← h]
    simp [this]
  · rw [if_neg hp] at h
    simp [ih h]
def KeysOk (ps : List (Int × Int)) : Prop := (ps.map (·.1)).Nodup
theorem lastL_some {ps : List (Int × Int)} (hk : KeysOk ps) {k v : Int} : lastL ps k = some v ↔ (k, v) ∈ ps := by
  refine ⟨lastL_mem, fun h => ?_⟩
  obtain ⟨a, b, rfl⟩ := List.append_of_mem h
  have hb : ∀ p ∈ b, p.1 ≠ k := fun p hp e => by
    unfold KeysOk at hk
    rw [List.map_append, List.map_cons] at hk
    exact (List.nodup_cons.1 (List.nodup_append.1 hk).2.1).1 (by rw [show (k, v).1 = p.1 from e.symm]; exact List.mem_map_of_mem hp)
  have e : a ++ (k, v) :: b = (a ++ [(k, v)]) ++ b := by simp
  rw [e, lastL_append, lastL_none b k hb, lastL_snoc]
  simp
theorem keys_put {ps : List (Int × Int)} (hk : KeysOk ps) (k v : Int) : KeysOk (putL ps k v) := by
  unfold putL KeysOk
  cases h : ixOf ps k with
  | some i => show ((ps.set i (k, v)).map (·.1)).Nodup; rw [keys_set h]; exact hk
  | none =>
    rw [List.map_append, List.nodup_append]
    refine ⟨hk, by simp, fun a ha b hb => ?_⟩
    simp only [List.map_cons, List.map_nil, List.mem_singleton] at hb
    subst hb
    intro e
    subst e
    unfold ixOf at h
    rw [List.findIdx?_eq_none_iff] at h
    simpa using h a ha
theorem lastL_put {ps : List (Int × Int)} (hk : KeysOk ps) (k v k' : Int) : lastL (putL ps k v) k' = if k' = k then some v else lastL ps k' := by
  unfold putL
  cases h : ixOf ps k with
  | none =>
    rw [lastL_snoc]
    by_cases hkk : k' = k
    · rw [if_pos hkk.symm, if_pos hkk]
    · rw [if_neg (fun e => hkk e.symm), if_neg hkk]
  | some i =>
    obtain ⟨x, hx⟩ := ixOf_some h
    have hks : KeysOk (ps.set i (k, v)) := by unfold KeysOk; rw [keys_set h]; exact hk
    have hil := (List.getElem?_eq_some_iff.1 hx).1
    by_cases hkk : k' = k
    · subst hkk
      rw [if_pos rfl, lastL_some hks]
      exact List.mem_iff_getElem?.2 ⟨i, by rw [List.getElem?_set_self hil]⟩
    · rw [if_neg hkk]
      have key : ∀ v', (k', v') ∈ ps.set i (k, v) ↔ (k', v') ∈ ps := fun v' => by
        rw [List.mem_iff_getElem?, List.mem_iff_getElem?]
        constructor
        · rintro ⟨j, hj⟩
          by_cases hij : i = j
          · subst hij
            rw [List.getElem?_set_self hil] at hj
            injection hj with hj
            injection hj with h1 h2
            exact absurd h1.symm hkk
          · rw [List.getElem?_set_ne hij] at hj
            exact ⟨j, hj⟩
        · rintro ⟨j, hj⟩
          by_cases hij : i = j
          · subst hij
            rw [hx] at hj
            injection hj with hj
            injection hj with h1 h2
            exact absurd h1.symm hkk
          · exact ⟨j, by rw [List.getElem?_set_ne hij]; exact hj⟩
      cases hl : lastL ps k' with
      | some v' => rw [lastL_some hks, key]; exact lastL_mem hl
      | none =>
        cases hl2 : lastL (ps.set i (k, v)) k' with
        | none => rfl
        | some v' =>
          have := (lastL_some hk).2 ((key v').1 (lastL_mem hl2))
          rw [hl] at this
          cases this
/-- what the document's memory tells -/
def docF (st : List Int) (ps : List (Int × Int)) : Cells := fun k => (lastL ps k).or (begF st k)
theorem docF_put {st : List Int} {ps : List (Int × Int)} (hk : KeysOk ps) (k v : Int) : docF st (putL ps k v) = putF (docF st ps) k v := by
  funext x
  unfold docF putF
  rw [lastL_put hk]
  by_cases hx : x = k
  · rw [if_pos hx, if_pos hx]; rfl
  · rw [if_neg hx, if_neg hx]
theorem docF_nil (st : List Int) : docF st [] = begF st := by funext x; rfl
end Go.Proofs.Ytljdkfhkpjjfgaa
