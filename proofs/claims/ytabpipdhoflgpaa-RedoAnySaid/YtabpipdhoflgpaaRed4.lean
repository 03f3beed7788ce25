/- Logs over maps as assertions: lemmas for the laws of redo. -/
import Derived.Test.YtabpipdhoflgpaaRed3
namespace Go.Proofs.Ytabpipdhoflgpaa
open Go.RowKit
set_option linter.unusedVariables false

theorem Holds.join {A B C : HA} {L : List HA} {h : Part} (hl : Holds (A :: B :: L) h) (f : ∀ p q r, A p → B q → Part.le p r → Part.le q r → C r) : Holds (C :: L) h := by
  obtain ⟨a, b, hA, ⟨a2, b2, hB, hL, hd2, ha2, hb2⟩, hd, ha, hb⟩ := hl
  refine ⟨fun k => (a k).or (a2 k), b2, f a a2 _ hA hB (fun k o e => by simp [e]) (fun k o e => ?_), hL, fun k o e => ?_, fun k o e => ?_, hb2.trans hb⟩
  all_goals try (have e : (a k).or (a2 k) = some o := e)
  · have h0 : a k = none := by
      cases h1 : a k with
      | none => rfl
      | some o' => have := hd k o' h1; rw [ha2 k o e] at this; cases this
    simp [h0, e]
  · rcases h1 : a k with _ | o'
    · rw [h1] at e
      exact hd2 k o (by simpa using e)
    · have h2 := hd k o' h1
      cases h3 : b2 k with
      | none => rfl
      | some o2 => rw [hb2 k o2 h3] at h2; cases h2
  · rcases h1 : a k with _ | o'
    · rw [h1] at e
      exact hb k o (ha2 k o (by simpa using e))
    · rw [h1] at e
      simp only [Option.some_or, Option.some.injEq] at e
      subst e
      exact ha k o' h1
theorem Star.join {W w : World} {A B C : HA} {L : List HA} (h : Star W w (A :: B :: L)) (f : ∀ p q r, A p → B q → Part.le p r → Part.le q r → C r) : Star W w (C :: L) := ⟨h.1, h.2.join f⟩

structure LogT (κ β : Type) where
  T : TypeId
  KT : TypeId
  ksz : Nat
  krow : List κ → List Value
  encK : κ → Value
  VP : β → Nat → Part → Prop
  mono : ∀ v b p q, Part.le p q → VP v b p → VP v b q

section
variable {κ β : Type} [DecidableEq κ]
structure MapOK (m : List (κ × Value)) (kvs : List (κ × β)) : Prop where
  nd1 : (m.map (·.1)).Nodup
  nd2 : (kvs.map (·.1)).Nodup
  out : ∀ k, k ∉ kvs.map (·.1) → lookM m k = none
def one1 (b : Nat) : Value := .slice (some ⟨b, 0, none⟩) 1 1
/-- the values under the keys: each in a block of its own -/
def valsA (P : LogT κ β) (m : List (κ × Value)) (kvs : List (κ × β)) : HA := fun p => ∀ k v, (k, v) ∈ kvs → ∃ bk, lookM m k = some (one1 bk) ∧ P.VP v bk p
def LogT.A (P : LogT κ β) (b : Nat) (most : Int) (kvs : List (κ × β)) : HA :=
  exA fun x : (Option Addr × Nat) × (Nat × List (κ × Value)) => Holds [factA (MapOK x.2.2 kvs), cellsA b #[.int .i64 most, .slice x.1.1 kvs.length x.1.2, .map (some x.2.1)] P.T, rowA P.KT P.ksz (.slice x.1.1 kvs.length x.1.2) kvs.length (P.krow (kvs.map (·.1))), mapA P.encK x.2.1 x.2.2, valsA P x.2.2 kvs]
variable {P : LogT κ β} {W w : World} {L : List HA} {b : Nat} {most : Int} {kvs : List (κ × β)}
theorem log_open (h : Star W w (P.A b most kvs :: L)) : ∃ a c mb m, MapOK m kvs ∧ Star W w (cellsA b #[.int .i64 most, .slice a kvs.length c, .map (some mb)] P.T :: rowA P.KT P.ksz (.slice a kvs.length c) kvs.length (P.krow (kvs.map (·.1))) :: mapA P.encK mb m :: valsA P m kvs :: L) := by
  obtain ⟨⟨⟨a, c⟩, mb, m⟩, h⟩ := h.ex
  obtain ⟨ho, h⟩ := h.flat.fact
  exact ⟨a, c, mb, m, ho, h⟩
theorem log_shut {a : Option Addr} {c mb n : Nat} {m : List (κ × Value)} {ks : List Value} (ho : MapOK m kvs) (hn : n = kvs.length) (hks : ks = P.krow (kvs.map (·.1))) (h : Star W w (cellsA b #[.int .i64 most, .slice a n c, .map (some mb)] P.T :: rowA P.KT P.ksz (.slice a n c) n ks :: mapA P.encK mb m :: valsA P m kvs :: L)) : Star W w (P.A b most kvs :: L) := by
  subst hn hks
  exact Star.exI ((a, c), (mb, m)) (Star.fold (L := [_, _, _, _, _]) (Star.factI ho h))
theorem vals_get {m : List (κ × Value)} (h : Star W w (valsA P m kvs :: L)) {k : κ} {v : β} (hk : (k, v) ∈ kvs) : ∃ bk, lookM m k = some (one1 bk) ∧ P.VP v bk (heapOf w) := by
  obtain ⟨_, a, c, hA, _, _, ha, _⟩ := h
  obtain ⟨bk, h1, h2⟩ := hA k v hk
  exact ⟨bk, h1, P.mono _ _ _ _ ha h2⟩
theorem vals_put {m : List (κ × Value)} {A : HA} {bk : Nat} {k : κ} {v : β} (h : Star W w (A :: valsA P m kvs :: L)) (hA : ∀ p, A p → P.VP v bk p) {kvs' : List (κ × β)} (hk : ∀ k' v', (k', v') ∈ kvs' → (k' = k ∧ v' = v) ∨ ((k', v') ∈ kvs ∧ k' ≠ k)) : Star W w (valsA P (updM m k (one1 bk)) kvs' :: L) := by
  refine h.join fun p q r hp hq hpr hqr k' v' hm => ?_
  rw [lookM_updM]
  rcases hk k' v' hm with ⟨rfl, rfl⟩ | ⟨h1, h2⟩
  · exact ⟨bk, by simp, P.mono _ _ _ _ hpr (hA p hp)⟩
  · rw [if_neg fun e => h2 e.symm]
    obtain ⟨b', h3, h4⟩ := hq k' v' h1
    exact ⟨b', h3, P.mono _ _ _ _ hqr h4⟩
theorem vals_del {m : List (κ × Value)} {k : κ} (hn : (m.map (·.1)).Nodup) (h : Star W w (valsA P m kvs :: L)) {kvs' : List (κ × β)} (hk : ∀ k' v', (k', v') ∈ kvs' → (k', v') ∈ kvs ∧ k' ≠ k) : Star W w (valsA P (delM m k) kvs' :: L) := by
  refine h.head fun p hp k' v' hm => ?_
  obtain ⟨h1, h2⟩ := hk k' v' hm
  rw [lookM_delM hn, if_neg fun e => h2 e.symm]
  exact hp k' v' h1

/-! what becomes of the map's facts -/
theorem mapOK_nil : MapOK ([] : List (κ × Value)) ([] : List (κ × β)) := ⟨by simp, by simp, fun k _ => rfl⟩
theorem mapOK_add {m : List (κ × Value)} {k : κ} {v : β} {x : Value} (h : MapOK m kvs) (hk : k ∉ kvs.map (·.1)) : MapOK (updM m k x) (kvs ++ [(k, v)]) := by
  refine ⟨updM_nodup h.nd1 k x, ?_, fun k' hk' => ?_⟩
  · rw [List.map_append, List.map_cons, List.map_nil, List.nodup_append]
    exact ⟨h.nd2, by simp, by intro a ha b hb; simp at hb; subst hb; exact fun e => hk (e ▸ ha)⟩
  · rw [List.map_append, List.mem_append, not_or] at hk'
    rw [lookM_updM, if_neg (by intro e; exact hk'.2 (by simp [e]))]
    exact h.out k' hk'.1
theorem mapOK_set {m : List (κ × Value)} {k : κ} {v : β} {x : Value} {j : Nat} (h : MapOK m kvs) (hk : (kvs.map (·.1))[j]? = some k) : MapOK (updM m k x) (kvs.set j (k, v)) := by
  have e1 : (kvs.set j (k, v)).map (·.1) = kvs.map (·.1) := by rw [List.map_set]; exact set_same hk
  refine ⟨updM_nodup h.nd1 k x, by rw [e1]; exact h.nd2, fun k' hk' => ?_⟩
  rw [e1] at hk'
  rw [lookM_updM, if_neg (by rintro rfl; exact hk' (List.mem_of_getElem? hk))]
  exact h.out k' hk'
theorem nodup_ne {α : Type} {l : List α} {i j : Nat} {x y : α} (hn : l.Nodup) (hi : l[i]? = some x) (hj : l[j]? = some y) (hij : i ≠ j) : x ≠ y := by
  rintro rfl
  obtain ⟨h1, e1⟩ := List.getElem?_eq_some_iff.1 hi
  obtain ⟨h2, e2⟩ := List.getElem?_eq_some_iff.1 hj
  exact hij ((List.getElem_inj hn).1 (e1.trans e2.symm))
omit [DecidableEq κ] in
theorem set_mem {k : κ} {v : β} {j : Nat} (hn : (kvs.map (·.1)).Nodup) (hk : (kvs.map (·.1))[j]? = some k) : ∀ k' v', (k', v') ∈ kvs.set j (k, v) → (k' = k ∧ v' = v) ∨ ((k', v') ∈ kvs ∧ k' ≠ k) := by
  intro k' v' hm
  obtain ⟨i, hi⟩ := List.mem_iff_getElem?.1 hm
  rw [List.getElem?_set] at hi
  split at hi
  · split at hi
    · simp at hi; exact .inl ⟨hi.1.symm, hi.2.symm⟩
    · cases hi
  · rename_i hij
    refine .inr ⟨List.mem_of_getElem? hi, ?_⟩
    exact nodup_ne hn (by rw [List.getElem?_map, hi]; rfl) hk (fun e => hij e.symm)
omit [DecidableEq κ] in
theorem add_mem {k : κ} {v : β} (hk : k ∉ kvs.map (·.1)) : ∀ k' v', (k', v') ∈ kvs ++ [(k, v)] → (k' = k ∧ v' = v) ∨ ((k', v') ∈ kvs ∧ k' ≠ k) := by
  intro k' v' hm
  rcases List.mem_append.1 hm with h | h
  · exact .inr ⟨h, by rintro rfl; exact hk (List.mem_map.2 ⟨_, h, rfl⟩)⟩
  · simp at h; exact .inl h
omit [DecidableEq κ] in
theorem del_mem {k : κ} {j : Nat} (hn : (kvs.map (·.1)).Nodup) (hk : (kvs.map (·.1))[j]? = some k) : ∀ k' v', (k', v') ∈ kvs.eraseIdx j → (k', v') ∈ kvs ∧ k' ≠ k := by
  intro k' v' hm
  obtain ⟨i, hi⟩ := List.mem_iff_getElem?.1 hm
  rw [List.getElem?_eraseIdx] at hi
  split at hi
  · exact ⟨List.mem_of_getElem? hi, nodup_ne hn (by rw [List.getElem?_map, hi]; rfl) hk (by omega)⟩
  · exact ⟨List.mem_of_getElem? hi, nodup_ne hn (by rw [List.getElem?_map, hi]; rfl) hk (by omega)⟩
theorem mapOK_del {m : List (κ × Value)} {k : κ} {j : Nat} (h : MapOK m kvs) (hk : (kvs.map (·.1))[j]? = some k) : MapOK (delM m k) (kvs.eraseIdx j) := by
  have e1 : (kvs.eraseIdx j).map (·.1) = (kvs.map (·.1)).eraseIdx j := by rw [map_eraseIdx']
  refine ⟨delM_nodup h.nd1 k, by rw [e1]; exact h.nd2.eraseIdx j, fun k' hk' => ?_⟩
  rw [lookM_delM h.nd1]
  by_cases e : k = k'
  · rw [if_pos e]
  · rw [if_neg e]
    refine h.out k' fun hm => hk' ?_
    rw [e1]
    obtain ⟨i, hi⟩ := List.mem_iff_getElem?.1 hm
    refine List.mem_iff_getElem?.2 ?_
    by_cases hij : i < j
    · exact ⟨i, by rw [List.getElem?_eraseIdx, if_pos hij]; exact hi⟩
    · have hne : i ≠ j := by rintro rfl; rw [hk] at hi; exact e (Option.some.inj hi)
      refine ⟨i - 1, ?_⟩
      rw [List.getElem?_eraseIdx, if_neg (by omega), show i - 1 + 1 = i by omega]
      exact hi
end
end Go.Proofs.Ytabpipdhoflgpaa
