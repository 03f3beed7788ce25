/-
  Maps under keys that are structs: look-up, store, deletion of a map as a block of its own.
-/
import Derived.Test.YtabpipdhoflgpaaMaps
import Derived.WideKeyRuns
import Derived.Laws.StructEq
namespace Go.Proofs.Ytabpipdhoflgpaa
open Go.RowKit Go.MapKept
set_option linter.unusedVariables false

/-- what a key's type must give -/
structure KeyOK {κ : Type} [DecidableEq κ] (P : Program) (kt : TypeId) (enc : κ → Value) : Prop where
  check : ∀ (x : κ) (em : Bool) (w : World), (Instr.checkKey em 10000 kt (enc x)).run P w = .ok () w
  eq : ∀ (x y : κ) (w : World), (Op.equal kt (enc x) (enc y)).run P w = .ok (decide (x = y)) w
  wide : (match P.underlying kt with | some (.array _ _) | some (.struct _) => true | _ => false) = true
  bits : ∀ x, Instr.sameBits 10000 (enc x) (enc x) = true

section
variable {κ : Type} [DecidableEq κ] {P : Program} {kt : TypeId} {enc : κ → Value}
theorem run_find_pairs (K : KeyOK P kt enc) (w : World) (k : κ) : ∀ (es : List MapEntry) (m : List (κ × Value)) (i : Nat), Pairs enc es m →
    (lookM m k = none ∧ (Instr.findAsking kt (enc k) es i).run P w = .ok none w ∧ updM m k = fun v => m ++ [(k, v)]) ∨
    ∃ j v e, lookM m k = some v ∧ (Instr.findAsking kt (enc k) es i).run P w = .ok (some (i + j, v)) w ∧ es[j]? = some e ∧ e.key = enc k ∧ (∀ v', (updM m k v') = m.set j (k, v')) ∧ delM m k = m.eraseIdx j
  | [], [], i, _ => .inl ⟨rfl, rfl, rfl⟩
  | [], _ :: _, i, h => by simp [Pairs] at h
  | _ :: _, [], i, h => by simp [Pairs] at h
  | e :: es, (a, x) :: m, i, h => by
    simp only [Pairs, List.map_cons, List.cons.injEq, Prod.mk.injEq] at h
    obtain ⟨⟨h1, h2⟩, h3⟩ := h
    have heq := K.eq k a w
    rw [← h1] at heq
    by_cases hak : k = a
    · subst hak
      exact .inr ⟨0, x, e, by simp [lookM], by simp [Instr.findAsking, Sem.run_bind, heq, h2], rfl, h1, fun v' => by simp [updM], by simp [delM]⟩
    · have hka : ¬ a = k := fun e => hak e.symm
      rcases run_find_pairs K w k es m (i + 1) h3 with ⟨g1, g2, g3⟩ | ⟨j, v, e', g1, g2, g3, g4, g5, g6⟩
      · exact .inl ⟨by simp [lookM, hka, g1], by simp [Instr.findAsking, Sem.run_bind, heq, hak, g2], by funext v; simp [updM, hka, g3]⟩
      · exact .inr ⟨j + 1, v, e', by simp [lookM, hka, g1], by simp [Instr.findAsking, Sem.run_bind, heq, hak, g2]; omega, by simpa using g3, g4, fun v' => by simp [updM, hka, g5], by simp [delM, hka, g6]⟩

variable {W w : World} {L : List HA} {b : Nat} {m : List (κ × Value)} {t et : TypeId} (K : KeyOK P kt enc) (ht : P.underlying t = some (.map kt et))
include K ht
theorem run_lookup_k {z : Value} (hz : ∀ w, (zeroValue et).run P w = .ok z w) (h : Star W w (mapA enc b m :: L)) (k : κ) (ok : Bool) :
    (Instr.lookup t (.map (some b)) (enc k) ok).run P w = .ok (if ok then .tuple #[(lookM m k).getD z, .bool (lookM m k).isSome] else (lookM m k).getD z) w := by
  obtain ⟨es, clock, hb, hp⟩ := h.mapAt
  simp only [Instr.lookup, Sem.run_bind, run_underlying ht, Result.andThen_ok, Go.MapKept.run_getObj_map hb, Sem.run_pure, K.check]
  rw [run_findKey_eq w K.wide]
  rcases run_find_pairs K w k es.toList m 0 hp with ⟨g1, g2, _⟩ | ⟨j, v, e', g1, g2, _⟩
  · rw [g2]
    simp [Result.andThen_ok, hz w, g1]
  · rw [g2]
    simp [Result.andThen_ok, g1]
theorem run_update_k (h : Star W w (mapA enc b m :: L)) (k : κ) (v : Value) : ∃ w', (Instr.mapUpdate t (.map (some b)) (enc k) v).run P w = .ok () w' ∧ Star W w' (mapA enc b (updM m k v) :: L) := by
  obtain ⟨es, clock, hb, hp⟩ := h.mapAt
  simp only [Instr.mapUpdate, Sem.run_bind, run_underlying ht, Result.andThen_ok, Go.MapKept.run_getObj_map hb, K.check]
  rw [run_findKey_eq w K.wide]
  rcases run_find_pairs K w k es.toList m 0 hp with ⟨g1, g2, g3⟩ | ⟨j, v0, e', g1, g2, g3, g4, g5, _⟩
  · rw [g2]
    simp only [Result.andThen_ok]
    refine ⟨_, Go.MapKept.run_setObj_map _ hb, h.mapPut ?_⟩
    rw [g3]
    simp only [Pairs, Array.toList_push, List.map_append, List.map_cons, List.map_nil]
    rw [hp]
  · rw [g2]
    simp only [Result.andThen_ok, Nat.zero_add]
    have he : (es[j]?.map (·.key)).getD (enc k) = enc k := by
      rw [← Array.getElem?_toList, g3]; simp [g4]
    rw [he]
    simp only [Instr.keyThatStays, K.bits k, if_true]
    refine ⟨_, Go.MapKept.run_setObj_map _ hb, h.mapPut ?_⟩
    rw [g5]
    have hlt : j < es.size := by
      have := (List.getElem?_eq_some_iff.1 g3).1
      simpa using this
    simp only [Pairs, Array.toList_modify]
    apply List.ext_getElem?
    intro i
    have hpi := congrArg (fun l => l[i]?) hp
    simp only [List.getElem?_map] at hpi
    simp only [List.getElem?_map, List.getElem?_modify, List.getElem?_set]
    by_cases hij : j = i
    · subst hij
      have hlm : j < m.length := by
        have := congrArg List.length hp
        simp at this; omega
      simp [g3, hlm]
    · simp only [hij, if_false]
      simpa using hpi
theorem run_delete_k {ty : TypeId} (h : Star W w (mapA enc b m :: L)) (k : κ) : ∃ w', (Builtin.delete_ #[t, kt] ty #[.map (some b), enc k]).run P w = .ok (.tuple #[]) w' ∧ Star W w' (mapA enc b (delM m k) :: L) := by
  obtain ⟨es, clock, hb, hp⟩ := h.mapAt
  simp only [Builtin.delete_, Sem.run_bind, List.getElem?_toArray, List.getElem?_cons_zero, List.getElem?_cons_succ, run_underlying ht, Result.andThen_ok, Go.MapKept.run_getObj_map hb, K.check]
  rw [run_findKey_eq w K.wide]
  rcases run_find_pairs K w k es.toList m 0 hp with ⟨g1, g2, g3⟩ | ⟨j, v0, e', g1, g2, g3, g4, g5, g6⟩
  · rw [g2]
    simp only [Result.andThen_ok]
    refine ⟨_, by rw [Sem.run_bind, Go.MapKept.run_setObj_map _ hb]; rfl, h.mapPut ?_⟩
    have : delM m k = m := by
      have hn := lookM_none.1 g1
      clear h hb hp g1 g2 g3
      induction m with
      | nil => rfl
      | cons p r ih =>
        obtain ⟨a, x⟩ := p
        simp only [List.map_cons, List.mem_cons, not_or] at hn
        simp [delM, Ne.symm hn.1, ih hn.2]
    rw [this]; exact hp
  · rw [g2]
    simp only [Result.andThen_ok, Nat.zero_add]
    refine ⟨_, by rw [Sem.run_bind, Go.MapKept.run_setObj_map _ hb]; rfl, h.mapPut ?_⟩
    rw [g6]
    simp only [Pairs, Array.eraseIdxIfInBounds]
    have hlt : j < es.size := by
      have := (List.getElem?_eq_some_iff.1 g3).1
      simpa using this
    simp only [hlt, dite_true, Array.toList_eraseIdx]
    rw [map_eraseIdx', map_eraseIdx', hp]
end

section
variable {κ : Type} [DecidableEq κ] {enc : κ → Value} {P : Program} {W w : World} {L : List HA} {b : Nat} {m : List (κ × Value)} {kt et : TypeId}
/-- a store, as a step of a region that draws -/
theorem step_update_k {ops : Array Oper} {o : Oper} {a : Act} {K : Act → World → Prop} {Q : Exit → Act → World → Prop} {E : Prop} (hgd : o.guard = none) (mo k x : Operand) (t : TypeId)
    (ho : o.op = .mapUpdate t mo k x) (ht : P.underlying t = some (.map kt et)) (KO : KeyOK P kt enc)
    (hm : a.eval mo = .map (some b)) (key : κ) (hk : a.eval k = enc key) (v : Value) (hx : a.eval x = v) (hS : Star W w (mapA enc b m :: L))
    (h : ∀ w', Star W w' (mapA enc b (updM m key v) :: L) → K (a.put o.dst undef) w') :
    if Region.wanted o (yielded ops a.tmps) = true then Oper.wp P o a w K Q else E := by
  have hw : Region.wanted o (yielded ops a.tmps) = true := by simp [Region.wanted, hgd]
  rw [if_pos hw]
  obtain ⟨w', hr, hS'⟩ := run_update_k (P := P) KO ht hS key v
  unfold Oper.wp execOp
  simp only [ho, Sem.run_bind, hm, hk, hx, hr, Result.andThen_ok]
  exact h w' hS'
/-- a deletion, as a step of a region that draws -/
theorem step_delete_k {ops : Array Oper} {o : Oper} {a : Act} {K : Act → World → Prop} {Q : Exit → Act → World → Prop} {E : Prop} (hgd : o.guard = none) (mo k : Operand) (t : TypeId)
    (ho : o.op = .call { callee := .builtin .delete, args := #[mo, k], argTypes := #[t, kt] }) (ht : P.underlying t = some (.map kt et)) (KO : KeyOK P kt enc)
    (hm : a.eval mo = .map (some b)) (key : κ) (hk : a.eval k = enc key) (hS : Star W w (mapA enc b m :: L))
    (h : ∀ w', Star W w' (mapA enc b (delM m key) :: L) → K (a.put o.dst (.tuple #[])) w') :
    if Region.wanted o (yielded ops a.tmps) = true then Oper.wp P o a w K Q else E := by
  have hw : Region.wanted o (yielded ops a.tmps) = true := by simp [Region.wanted, hgd]
  rw [if_pos hw]
  obtain ⟨w', hr, hS'⟩ := run_delete_k (P := P) (ty := o.type) KO ht hS key
  unfold Oper.wp execOp
  simp only [ho, resolve, invoke, builtin, Sem.run_bind, Sem.run_pure, Result.andThen_ok, List.map_toArray, List.map_cons, List.map_nil, hm, hk, hr]
  exact h w' hS'
end
end Go.Proofs.Ytabpipdhoflgpaa
