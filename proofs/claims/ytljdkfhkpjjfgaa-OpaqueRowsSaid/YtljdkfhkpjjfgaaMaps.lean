/-
  Maps as blocks of their own: 'mapA enc b m': block b is a map that holds the pairs m (keys encoded by enc), in the order in which they came. Look-up, store, deletion.
-/
import Derived.Test.YtljdkfhkpjjfgaaMem
import Derived.MapKept
import Derived.Maps.OwnOps
import Derived.Maps.OwnSet
import Derived.RangeFuncRecord
namespace Go.Proofs.Ytljdkfhkpjjfgaa
open Go.RowKit Go.MapKept
set_option linter.unusedVariables false

section
variable {κ : Type} [DecidableEq κ]
def lookM (m : List (κ × Value)) (k : κ) : Option Value :=
  match m with
  | [] => none
  | (a, x) :: r => if a = k then some x else lookM r k
def updM (m : List (κ × Value)) (k : κ) (v : Value) : List (κ × Value) :=
  match m with
  | [] => [(k, v)]
  | (a, x) :: r => if a = k then (k, v) :: r else (a, x) :: updM r k v
def delM (m : List (κ × Value)) (k : κ) : List (κ × Value) :=
  match m with
  | [] => []
  | (a, x) :: r => if a = k then r else (a, x) :: delM r k
theorem lookM_updM (m : List (κ × Value)) (k k' : κ) (v : Value) : lookM (updM m k v) k' = if k = k' then some v else lookM m k' := by
  induction m with
  | nil => by_cases h : k = k' <;> simp [lookM, updM, h]
  | cons p r ih =>
    obtain ⟨a, x⟩ := p
    by_cases h : a = k
    · subst h
      by_cases h2 : a = k' <;> simp [lookM, updM, h2]
    · by_cases h2 : a = k'
      · subst h2
        simp [lookM, updM, h, Ne.symm h]
      · simp [lookM, updM, h, h2, ih]
theorem lookM_mem {m : List (κ × Value)} {k : κ} {v : Value} (h : lookM m k = some v) : (k, v) ∈ m := by
  induction m with
  | nil => simp [lookM] at h
  | cons p r ih =>
    obtain ⟨a, x⟩ := p
    by_cases h2 : a = k
    · subst h2
      simp [lookM] at h
      subst h; simp
    · simp [lookM, h2] at h
      exact List.mem_cons_of_mem _ (ih h)
theorem lookM_none {m : List (κ × Value)} {k : κ} : lookM m k = none ↔ k ∉ m.map (·.1) := by
  induction m with
  | nil => simp [lookM]
  | cons p r ih =>
    obtain ⟨a, x⟩ := p
    by_cases h2 : a = k
    · subst h2; simp [lookM]
    · simp only [lookM, if_neg h2, List.map_cons, List.mem_cons, not_or]
      rw [ih]
      exact ⟨fun h => ⟨Ne.symm h2, h⟩, fun h => h.2⟩
theorem delM_keys (m : List (κ × Value)) (k : κ) : (delM m k).map (·.1) = (m.map (·.1)).erase k := by
  induction m with
  | nil => rfl
  | cons p r ih =>
    obtain ⟨a, x⟩ := p
    by_cases h2 : a = k
    · subst h2; simp [delM]
    · simp [delM, h2, ih, beq_iff_eq]
theorem updM_keys (m : List (κ × Value)) (k : κ) (v : Value) : (updM m k v).map (·.1) = if k ∈ m.map (·.1) then m.map (·.1) else m.map (·.1) ++ [k] := by
  induction m with
  | nil => simp [updM]
  | cons p r ih =>
    obtain ⟨a, x⟩ := p
    by_cases h2 : a = k
    · subst h2; simp [updM]
    · have : k ≠ a := Ne.symm h2
      by_cases h3 : k ∈ r.map (·.1)
      · rw [if_pos h3] at ih
        simp only [updM, if_neg h2, List.map_cons, ih, List.mem_cons, this, false_or, if_pos h3]
      · rw [if_neg h3] at ih
        simp only [updM, if_neg h2, List.map_cons, ih, List.mem_cons, this, false_or, if_neg h3, List.cons_append]
theorem lookM_delM {m : List (κ × Value)} (hn : (m.map (·.1)).Nodup) (k k' : κ) : lookM (delM m k) k' = if k = k' then none else lookM m k' := by
  induction m with
  | nil => by_cases h : k = k' <;> simp [lookM, delM]
  | cons p r ih =>
    obtain ⟨a, x⟩ := p
    simp only [List.map_cons, List.nodup_cons] at hn
    by_cases h : a = k
    · subst h
      by_cases h2 : a = k'
      · subst h2
        simp only [delM, if_true]
        exact lookM_none.2 hn.1
      · simp [delM, lookM, h2]
    · by_cases h2 : a = k'
      · subst h2
        simp [lookM, delM, h, Ne.symm h]
      · simp [lookM, delM, h, h2, ih hn.2]
theorem delM_nodup {m : List (κ × Value)} (hn : (m.map (·.1)).Nodup) (k : κ) : ((delM m k).map (·.1)).Nodup := by
  rw [delM_keys]; exact hn.erase k
theorem updM_nodup {m : List (κ × Value)} (hn : (m.map (·.1)).Nodup) (k : κ) (v : Value) : ((updM m k v).map (·.1)).Nodup := by
  rw [updM_keys]
  split
  · exact hn
  · rename_i h
    rw [List.nodup_append]
    exact ⟨hn, by simp, by intro a ha b hb; simp at hb; subst hb; rintro rfl; exact h ha⟩

/-- the entries are these pairs -/
def Pairs (enc : κ → Value) (es : List MapEntry) (m : List (κ × Value)) : Prop := es.map (fun e => (e.key, e.val)) = m.map (fun p => (enc p.1, p.2))
def mapA (enc : κ → Value) (b : Nat) (m : List (κ × Value)) : HA := fun p => ∃ es clock, p b = some (.map es clock) ∧ Pairs enc es.toList m

variable {enc : κ → Value}
theorem findNow_pairs {d : TypeDesc} (hkey : ∀ x, IsKey d (enc x)) (hinj : ∀ x y, enc x = enc y → x = y) (k : κ) : ∀ (es : List MapEntry) (m : List (κ × Value)) (i : Nat), Pairs enc es m →
    (lookM m k = none ∧ Instr.findNow d (enc k) es i = some none ∧ updM m k = fun v => m ++ [(k, v)]) ∨
    ∃ j v e, lookM m k = some v ∧ Instr.findNow d (enc k) es i = some (some (i + j, v)) ∧ es[j]? = some e ∧ e.key = enc k ∧ (∀ v', (updM m k v') = m.set j (k, v')) ∧ delM m k = m.eraseIdx j
  | [], [], i, _ => .inl ⟨rfl, rfl, rfl⟩
  | [], _ :: _, i, h => by simp [Pairs] at h
  | _ :: _, [], i, h => by simp [Pairs] at h
  | e :: es, (a, x) :: m, i, h => by
    simp only [Pairs, List.map_cons, List.cons.injEq, Prod.mk.injEq] at h
    obtain ⟨⟨h1, h2⟩, h3⟩ := h
    obtain ⟨r, hr, hiff⟩ := sameNow_of_keys (hkey k) (show IsKey d e.key by rw [h1]; exact hkey a)
    by_cases hak : a = k
    · subst hak
      have hrt : r = true := hiff.2 h1.symm
      subst hrt
      exact .inr ⟨0, x, e, by simp [lookM], by simp [Instr.findNow, hr, h2], rfl, h1, fun v' => by simp [updM], by simp [delM]⟩
    · have hrf : r = false := by
        cases r with
        | false => rfl
        | true => exact absurd (hinj _ _ ((hiff.1 rfl).trans h1).symm) hak
      subst hrf
      rcases findNow_pairs hkey hinj k es m (i + 1) h3 with ⟨g1, g2, g3⟩ | ⟨j, v, e', g1, g2, g3, g4, g5, g6⟩
      · exact .inl ⟨by simp [lookM, hak, g1], by simp [Instr.findNow, hr, g2], by funext v; simp [updM, hak, g3]⟩
      · exact .inr ⟨j + 1, v, e', by simp [lookM, hak, g1], by simp [Instr.findNow, hr, g2]; omega, by simpa using g3, g4, fun v' => by simp [updM, hak, g5], by simp [delM, hak, g6]⟩
end

section
variable {κ : Type} {enc : κ → Value} {P : Program} {W w : World} {L : List HA} {b : Nat} {m : List (κ × Value)} {t kt et : TypeId} {d : TypeDesc}
theorem Star.mapAt (h : Star W w (mapA enc b m :: L)) : ∃ es clock, w.heap[b]? = some (.map es clock) ∧ Pairs enc es.toList m := by
  obtain ⟨_, a, c, ⟨es, clock, hb, hp⟩, _, _, ha, _⟩ := h
  exact ⟨es, clock, ha b _ hb, hp⟩
theorem Star.mapLt (h : Star W w (mapA enc b m :: L)) : b < w.heap.size := by
  obtain ⟨es, clock, hb, _⟩ := h.mapAt
  exact (Array.getElem?_eq_some_iff.1 hb).1
theorem Star.mapPut {m' : List (κ × Value)} {es' : Array MapEntry} {clock' : Nat} (h : Star W w (mapA enc b m :: L)) (hp : Pairs enc es'.toList m') : Star W { w with heap := w.heap.setIfInBounds b (.map es' clock') } (mapA enc b m' :: L) := by
  obtain ⟨es, clock, hb, _⟩ := h.mapAt
  have h1 : Star W w (atA b (.map es clock) :: L) := by
    obtain ⟨i, a, c, ⟨es2, clock2, hb2, _⟩, hL, hd, ha, hc⟩ := h
    have := ha b _ hb2
    simp only [heapOf] at this
    rw [hb] at this
    injection this with this
    exact ⟨i, a, c, by rw [this] at *; exact hb2, hL, hd, ha, hc⟩
  have hs := heap_set (o' := .map es' clock') hb
  exact (h1.put (w' := { w with heap := w.heap.setIfInBounds b (.map es' clock') }) ⟨rfl, rfl, rfl⟩ hs.1 fun k hk _ => hs.2 k hk).head fun p hpb => ⟨es', clock', hpb, hp⟩
theorem Star.mapNew (h : Star W w L) (enc : κ → Value) : Star W (w.alloc (.map #[] 0)) (mapA enc w.heap.size ([] : List (κ × Value)) :: L) :=
  (h.new _).head fun p hp => ⟨#[], 0, hp, rfl⟩

theorem map_eraseIdx' {α β : Type} (f : α → β) : ∀ (l : List α) (j : Nat), (l.eraseIdx j).map f = (l.map f).eraseIdx j
  | [], _ => by simp
  | a :: l, 0 => by simp
  | a :: l, j + 1 => by simp [map_eraseIdx' f l j]
theorem sameBits_key (hkey : ∀ x, IsKey d (enc x)) (x y : κ) (h : enc x = enc y) : Instr.sameBits 10000 (enc x) (enc y) = true := by
  rw [h]
  have := hkey y
  cases d <;> cases hv : enc y <;> rw [hv] at this <;> simp_all [IsKey, Instr.sameBits, bytes_beq]
variable [DecidableEq κ] (ht : P.underlying t = some (.map kt et)) (hd : P.underlying kt = some d) (hkey : ∀ x, IsKey d (enc x)) (hinj : ∀ x y, enc x = enc y → x = y)
include ht hd hkey hinj
theorem run_lookup_m {z : Value} (hz : ∀ w, (zeroValue et).run P w = .ok z w) (h : Star W w (mapA enc b m :: L)) (k : κ) (ok : Bool) :
    (Instr.lookup t (.map (some b)) (enc k) ok).run P w = .ok (if ok then .tuple #[(lookM m k).getD z, .bool (lookM m k).isSome] else (lookM m k).getD z) w := by
  obtain ⟨es, clock, hb, hp⟩ := h.mapAt
  simp only [Instr.lookup, Sem.run_bind, run_underlying ht, Result.andThen_ok, Go.MapKept.run_getObj_map hb, Sem.run_pure, Go.MapKept.run_checkKey hd (hkey k) _ 9999]
  rcases findNow_pairs hkey hinj k es.toList m 0 hp with ⟨g1, g2, _⟩ | ⟨j, v, e', g1, g2, _⟩
  · rw [Go.MapKept.run_findKey hd g2]
    simp [Result.andThen_ok, hz w, g1]
  · rw [Go.MapKept.run_findKey hd g2]
    simp [Result.andThen_ok, g1]
theorem run_update_m (h : Star W w (mapA enc b m :: L)) (k : κ) (v : Value) : ∃ w', (Instr.mapUpdate t (.map (some b)) (enc k) v).run P w = .ok () w' ∧ Star W w' (mapA enc b (updM m k v) :: L) := by
  obtain ⟨es, clock, hb, hp⟩ := h.mapAt
  simp only [Instr.mapUpdate, Sem.run_bind, run_underlying ht, Result.andThen_ok, Go.MapKept.run_getObj_map hb, Go.MapKept.run_checkKey hd (hkey k) _ 9999]
  rcases findNow_pairs hkey hinj k es.toList m 0 hp with ⟨g1, g2, g3⟩ | ⟨j, v0, e', g1, g2, g3, g4, g5, _⟩
  · rw [Go.MapKept.run_findKey hd g2]
    simp only [Result.andThen_ok]
    refine ⟨_, Go.MapKept.run_setObj_map _ hb, h.mapPut ?_⟩
    rw [g3]
    simp only [Pairs, Array.toList_push, List.map_append, List.map_cons, List.map_nil]
    rw [hp]
  · rw [Go.MapKept.run_findKey hd g2]
    simp only [Result.andThen_ok, Nat.zero_add]
    have he : (es[j]?.map (·.key)).getD (enc k) = enc k := by
      rw [← Array.getElem?_toList, g3]; simp [g4]
    rw [he]
    simp only [Instr.keyThatStays, sameBits_key hkey k k rfl, if_true]
    refine ⟨_, Go.MapKept.run_setObj_map _ hb, h.mapPut ?_⟩
    rw [g5]
    have hlt : j < es.size := by
      have := (List.getElem?_eq_some_iff.1 g3).1
      simpa using this
    simp only [Pairs, Array.toList_modify]
    apply List.ext_getElem?
    intro i
    have hpi := congrArg (fun l => l[i]?) hp
    simp only [List.getElem?_map] at hpi
    simp only [List.getElem?_map, List.getElem?_modify, List.getElem?_set]
    by_cases hij : j = i
    · subst hij
      have hlm : j < m.length := by
        have := congrArg List.length hp
        simp at this; omega
      simp [g3, hlm]
    · simp only [hij, if_false]
      simpa using hpi
theorem run_delete_m {ty : TypeId} (h : Star W w (mapA enc b m :: L)) (k : κ) : ∃ w', (Builtin.delete_ #[t, kt] ty #[.map (some b), enc k]).run P w = .ok (.tuple #[]) w' ∧ Star W w' (mapA enc b (delM m k) :: L) := by
  obtain ⟨es, clock, hb, hp⟩ := h.mapAt
  simp only [Builtin.delete_, Sem.run_bind, List.getElem?_toArray, List.getElem?_cons_zero, List.getElem?_cons_succ, run_underlying ht, Result.andThen_ok, Go.MapKept.run_getObj_map hb, Go.MapKept.run_checkKey hd (hkey k) _ 9999]
  rcases findNow_pairs hkey hinj k es.toList m 0 hp with ⟨g1, g2, g3⟩ | ⟨j, v0, e', g1, g2, g3, g4, g5, g6⟩
  · rw [Go.MapKept.run_findKey hd g2]
    simp only [Result.andThen_ok]
    refine ⟨_, by rw [Sem.run_bind, Go.MapKept.run_setObj_map _ hb]; rfl, h.mapPut ?_⟩
    have : delM m k = m := by
      have hn := lookM_none.1 g1
      clear h hb hp g1 g2 g3
      induction m with
      | nil => rfl
      | cons p r ih =>
        obtain ⟨a, x⟩ := p
        simp only [List.map_cons, List.mem_cons, not_or] at hn
        simp [delM, Ne.symm hn.1, ih hn.2]
    rw [this]; exact hp
  · rw [Go.MapKept.run_findKey hd g2]
    simp only [Result.andThen_ok, Nat.zero_add]
    refine ⟨_, by rw [Sem.run_bind, Go.MapKept.run_setObj_map _ hb]; rfl, h.mapPut ?_⟩
    rw [g6]
    simp only [Pairs, Array.eraseIdxIfInBounds]
    have hlt : j < es.size := by
      have := (List.getElem?_eq_some_iff.1 g3).1
      simpa using this
    simp only [hlt, dite_true, Array.toList_eraseIdx]
    rw [map_eraseIdx', map_eraseIdx', hp]
end

section
variable {κ : Type} [DecidableEq κ] {enc : κ → Value} {P : Program} {W w : World} {L : List HA} {b : Nat} {m : List (κ × Value)} {t kt et : TypeId} {d : TypeDesc}
theorem wpList_update_star {ops : Array Oper} {rest : List Oper} {o : Oper} {a : Act} {Q : Exit → Act → World → Prop} (hgd : o.guard = none) (mo k x : Operand) (t : TypeId)
    (ho : o.op = .mapUpdate t mo k x) (ht : P.underlying t = some (.map kt et)) (hd : P.underlying kt = some d) (hkey : ∀ x, IsKey d (enc x)) (hinj : ∀ x y, enc x = enc y → x = y)
    (hm : a.eval mo = .map (some b)) (key : κ) (hk : a.eval k = enc key) (v : Value) (hx : a.eval x = v) (hS : Star W w (mapA enc b m :: L))
    (h : ∀ w', Star W w' (mapA enc b (updM m key v) :: L) → wpList P ops Q rest (a.put o.dst undef) w') : wpList P ops Q (o :: rest) a w :=
  wpList_plain hgd fun K hK => by
    obtain ⟨w', hr, hS'⟩ := run_update_m (P := P) ht hd hkey hinj hS key v
    unfold Oper.wp execOp
    simp only [ho, Sem.run_bind, hm, hk, hx, hr, Result.andThen_ok]
    exact hK _ _ (h w' hS')
theorem wpList_insert_star {ops : Array Oper} {rest : List Oper} {o : Oper} {a : Act} {Q : Exit → Act → World → Prop} (hgd : o.guard = none) (mo k x : Operand) (t : TypeId)
    (ho : o.op = .insert t mo k x) (ht : P.underlying t = some (.map kt et)) (hd : P.underlying kt = some d) (hkey : ∀ x, IsKey d (enc x)) (hinj : ∀ x y, enc x = enc y → x = y)
    (hm : a.eval mo = .map (some b)) (key : κ) (hk : a.eval k = enc key) (v : Value) (hx : a.eval x = v) (hS : Star W w (mapA enc b m :: L))
    (h : ∀ w', Star W w' (mapA enc b (updM m key v) :: L) → wpList P ops Q rest (a.put o.dst undef) w') : wpList P ops Q (o :: rest) a w :=
  wpList_plain hgd fun K hK => by
    obtain ⟨w', hr, hS'⟩ := run_update_m (P := P) ht hd hkey hinj hS key v
    unfold Oper.wp execOp
    simp only [ho, Sem.run_bind, hm, hk, hx, hr, Result.andThen_ok]
    exact hK _ _ (h w' hS')
theorem wpList_delete_star {ops : Array Oper} {rest : List Oper} {o : Oper} {a : Act} {Q : Exit → Act → World → Prop} (hgd : o.guard = none) (mo k : Operand) (t kt : TypeId)
    (ho : o.op = .call { callee := .builtin .delete, args := #[mo, k], argTypes := #[t, kt] }) (ht : P.underlying t = some (.map kt et)) (hd : P.underlying kt = some d) (hkey : ∀ x, IsKey d (enc x)) (hinj : ∀ x y, enc x = enc y → x = y)
    (hm : a.eval mo = .map (some b)) (key : κ) (hk : a.eval k = enc key) (hS : Star W w (mapA enc b m :: L))
    (h : ∀ w', Star W w' (mapA enc b (delM m key) :: L) → wpList P ops Q rest (a.put o.dst (.tuple #[])) w') : wpList P ops Q (o :: rest) a w :=
  wpList_plain hgd fun K hK => by
    obtain ⟨w', hr, hS'⟩ := run_delete_m (P := P) (ty := o.type) ht hd hkey hinj hS key
    unfold Oper.wp execOp
    simp only [ho, resolve, invoke, builtin, Sem.run_bind, Sem.run_pure, Result.andThen_ok, List.map_toArray, List.map_cons, List.map_nil, hm, hk, hr]
    exact hK _ _ (h w' hS')
end
/-- keys that are ints -/
def encI (x : Int) : Value := .int .i64 x
theorem encI_key (x : Int) : IsKey (.int .i64) (encI x) := rfl
theorem encI_inj (x y : Int) (h : encI x = encI y) : x = y := by injection h
end Go.Proofs.Ytljdkfhkpjjfgaa
