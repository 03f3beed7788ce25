/- What Build says, in plain Lean: lemmas for the laws of ghost. -/
namespace Go.Proofs.Ytljdkfhkpjjfgaa
set_option linter.unusedVariables false

structure Ev where
  kind : Int
  step : Int
  thread : Int
  stamp : Int
  cell : Int
  x : Int
  own : Bool
  gate : Int
  e : Int
  by_ : Int
structure Mv where
  step : Int
  write : Bool
  cell : Int
  x : Int
  own : Bool
  gate : Int
structure Sto where
  thread : Int
  stamp : Int
  begin_ : Int
  end_ : Int
  fate : Int
  e : Int
  by_ : Int
  opens : Int
  gate : Int
  moves : List Mv

/-- what Build knows between two events -/
structure St where
  sts : List Sto
  opn : Int → Option Nat
  step : Int
def setO (o : Int → Option Nat) (t : Int) (v : Option Nat) : Int → Option Nat := fun s => if t = s then v else o s
def okHead (step : Int) (e : Ev) : Bool := decide (1 ≤ e.kind ∧ e.kind ≤ 6 ∧ 1 ≤ e.thread ∧ e.thread ≤ 8 ∧ 1 ≤ e.step ∧ step ≤ e.step ∧ 1 ≤ e.stamp ∧ e.stamp ≤ e.step)
def first (e : Ev) : Bool := decide (e.kind = 1 ∨ e.kind = 6)
def okTail (s : St) (e : Ev) : Bool :=
  match s.opn e.thread with
  | none => first e
  | some i => !first e && decide ((s.sts[i]?.map (·.stamp)) = some e.stamp)
def newS (e : Ev) : Sto := ⟨e.thread, e.stamp, e.step, 0, 0, 0, 0, e.gate, 0, []⟩
def readM (e : Ev) : Mv := ⟨e.step, false, e.cell, e.x, e.own, if e.own then 0 else e.gate⟩
def writeM (e : Ev) : Mv := ⟨e.step, true, e.cell, e.x, false, 0⟩
def upd (e : Ev) (s : Sto) : Sto :=
  if e.kind = 2 then { s with moves := s.moves ++ [readM e] }
  else if e.kind = 3 then { s with moves := s.moves ++ [writeM e] }
  else if e.kind = 4 then { s with end_ := e.step, fate := 1, gate := e.gate }
  else if e.kind = 5 then { s with end_ := e.step, fate := 2, e := e.e, by_ := if e.e = 7 then e.by_ else s.by_ }
  else s
def step1 (s : St) (e : Ev) : St :=
  if e.kind = 1 then ⟨s.sts ++ [newS e], setO s.opn e.thread (some s.sts.length), e.step⟩
  else match s.opn e.thread with
    | none => ⟨s.sts, s.opn, e.step⟩
    | some i => ⟨s.sts.modify i (upd e), if e.kind = 4 ∨ e.kind = 5 then setO s.opn e.thread none else s.opn, e.step⟩
def stepE (s : St) (e : Ev) : Option St := if okHead s.step e && okTail s e then some (step1 s e) else none
def st0 : St := ⟨[], fun _ => none, 0⟩
def runE (evs : List Ev) : Option St := evs.foldlM stepE st0
theorem runE_snoc (l : List Ev) (e : Ev) : runE (l ++ [e]) = (runE l).bind fun s => stepE s e := by
  simp only [runE, List.foldlM_append]
  cases List.foldlM stepE st0 l with
  | none => rfl
  | some s => simp
theorem runE_take {evs : List Ev} {k : Nat} {e : Ev} {s : St} (he : evs[k]? = some e) (hs : runE (evs.take k) = some s) : runE (evs.take (k + 1)) = stepE s e := by
  rw [List.take_add_one, he, Option.toList_some, runE_snoc, hs]; rfl
/-- where the first wrong one lies -/
def badFrom : List Ev → St → Nat → Option Nat
  | [], _, _ => none
  | e :: r, s, k => match stepE s e with | none => some k | some s' => badFrom r s' (k + 1)
def bldS (evs : List Ev) : List Sto := match runE evs with | some s => s.sts | none => []
def bldOk (evs : List Ev) : Bool := (runE evs).isSome
def bldAt (evs : List Ev) : Nat := (badFrom evs st0 0).getD 0
theorem badFrom_run : ∀ (evs : List Ev) (s : St) (k : Nat), (badFrom evs s k).isSome = (evs.foldlM stepE s).isNone
  | [], s, k => rfl
  | e :: r, s, k => by
    simp only [badFrom, List.foldlM_cons]
    cases h : stepE s e with
    | none => rfl
    | some s' => simpa using badFrom_run r s' (k + 1)
theorem badFrom_at : ∀ (evs : List Ev) (s : St) (k0 k : Nat) (e : Ev) (s' : St), evs[k]? = some e → (evs.take k).foldlM stepE s = some s' → stepE s' e = none → badFrom evs s k0 = some (k0 + k)
  | [], s, k0, k, e, s', he, _, _ => by simp at he
  | a :: r, s, k0, 0, e, s', he, hs, hb => by
    simp only [List.getElem?_cons_zero, Option.some.injEq] at he
    simp only [List.take_zero, List.foldlM_nil] at hs
    injection hs with hs
    subst he hs
    simp [badFrom, hb]
  | a :: r, s, k0, k + 1, e, s', he, hs, hb => by
    simp only [List.getElem?_cons_succ] at he
    simp only [List.take_succ_cons, List.foldlM_cons] at hs
    simp only [badFrom]
    cases h : stepE s a with
    | none => rw [h] at hs; cases hs
    | some s1 =>
      rw [h] at hs
      simp only [Option.bind_eq_bind, Option.bind_some] at hs
      rw [show k0 + (k + 1) = k0 + 1 + k by omega]
      exact badFrom_at r s1 (k0 + 1) k e s' he hs hb
theorem bad_at {evs : List Ev} {k : Nat} {e : Ev} {s : St} (he : evs[k]? = some e) (hs : runE (evs.take k) = some s) (hb : stepE s e = none) : bldAt evs = k ∧ bldOk evs = false ∧ bldS evs = [] := by
  have h1 := badFrom_at evs st0 0 k e s he hs hb
  have h2 := badFrom_run evs st0 0
  rw [h1] at h2
  have h3 : runE evs = none := by
    unfold runE
    cases h : List.foldlM stepE st0 evs with
    | none => rfl
    | some s => rw [h] at h2; cases h2
  refine ⟨by rw [bldAt, h1]; simp, by rw [bldOk, h3]; rfl, by rw [bldS, h3]⟩
theorem good_at {evs : List Ev} {s : St} (hs : runE evs = some s) : bldAt evs = 0 ∧ bldOk evs = true ∧ bldS evs = s.sts := by
  have h2 := badFrom_run evs st0 0
  have h3 : evs.foldlM stepE st0 = some s := hs
  rw [h3] at h2
  have h4 : badFrom evs st0 0 = none := by
    cases h : badFrom evs st0 0 with
    | none => rfl
    | some k => rw [h] at h2; cases h2
  exact ⟨by rw [bldAt, h4]; rfl, by rw [bldOk, hs]; rfl, by rw [bldS, hs]⟩

/-! what holds between two events -/
def cnt (o : Int → Option Nat) : Nat := ((o 1).isSome.toNat + (o 2).isSome.toNat + (o 3).isSome.toNat + (o 4).isSome.toNat) + ((o 5).isSome.toNat + (o 6).isSome.toNat + (o 7).isSome.toNat + (o 8).isSome.toNat)
theorem thread_cases {t : Int} (h1 : 1 ≤ t) (h2 : t ≤ 8) : t = 1 ∨ t = 2 ∨ t = 3 ∨ t = 4 ∨ t = 5 ∨ t = 6 ∨ t = 7 ∨ t = 8 := by omega
theorem cnt_le (o : Int → Option Nat) : cnt o ≤ 8 := by
  have h : ∀ b : Bool, b.toNat ≤ 1 := fun b => by cases b <;> decide
  have := h (o 1).isSome; have := h (o 2).isSome; have := h (o 3).isSome; have := h (o 4).isSome
  have := h (o 5).isSome; have := h (o 6).isSome; have := h (o 7).isSome; have := h (o 8).isSome
  unfold cnt; omega
theorem cnt_open {o : Int → Option Nat} {t : Int} {i : Nat} (h1 : 1 ≤ t) (h2 : t ≤ 8) (h : o t = none) : cnt (setO o t (some i)) = cnt o + 1 := by
  rcases thread_cases h1 h2 with rfl | rfl | rfl | rfl | rfl | rfl | rfl | rfl <;> simp [cnt, setO, h] <;> omega
theorem cnt_shut {o : Int → Option Nat} {t : Int} {i : Nat} (h1 : 1 ≤ t) (h2 : t ≤ 8) (h : o t = some i) : cnt (setO o t none) + 1 = cnt o := by
  rcases thread_cases h1 h2 with rfl | rfl | rfl | rfl | rfl | rfl | rfl | rfl <;> simp [cnt, setO, h] <;> omega
structure BInv (k : Nat) (s : St) : Prop where
  lt : ∀ t i, s.opn t = some i → i < s.sts.length
  few : 2 * s.sts.length ≤ k + cnt s.opn
  moves : ∀ (i : Nat) (x : Sto), s.sts[i]? = some x → x.moves.length ≤ k
  step : 0 ≤ s.step
theorem inv0 : BInv 0 st0 := ⟨fun t i h => by simp [st0] at h, by simp [st0], fun i x h => by simp [st0] at h, by simp [st0]⟩
theorem upd_moves (e : Ev) (s : Sto) : (upd e s).moves.length ≤ s.moves.length + 1 := by
  unfold upd
  repeat' split
  all_goals simp
theorem okHead_iff {step : Int} {e : Ev} : okHead step e = true ↔ 1 ≤ e.kind ∧ e.kind ≤ 6 ∧ 1 ≤ e.thread ∧ e.thread ≤ 8 ∧ 1 ≤ e.step ∧ step ≤ e.step ∧ 1 ≤ e.stamp ∧ e.stamp ≤ e.step := by simp [okHead]
theorem stepE_some {s s' : St} {e : Ev} (h : stepE s e = some s') : okHead s.step e = true ∧ okTail s e = true ∧ s' = step1 s e := by
  unfold stepE at h
  split at h
  · rename_i hc
    simp only [Bool.and_eq_true] at hc
    exact ⟨hc.1, hc.2, (Option.some.inj h).symm⟩
  · cases h
theorem inv_step {k : Nat} {s s' : St} {e : Ev} (hi : BInv k s) (h : stepE s e = some s') : BInv (k + 1) s' := by
  obtain ⟨h1, h2, rfl⟩ := stepE_some h
  have hh := okHead_iff.1 h1
  by_cases h1k : e.kind = 1
  · have hn : s.opn e.thread = none := by
      unfold okTail at h2
      cases ho : s.opn e.thread with
      | none => rfl
      | some i => rw [ho] at h2; simp [first, h1k] at h2
    simp only [step1, if_pos h1k]
    refine ⟨fun t i ht => ?_, ?_, fun i x hx => ?_, ?_⟩
    · simp only [setO] at ht
      split at ht
      · injection ht with ht; subst ht; simp
      · have := hi.lt t i ht; simp; omega
    · simp only [List.length_append, List.length_cons, List.length_nil]
      rw [cnt_open hh.2.2.1 hh.2.2.2.1 hn]
      have := hi.few
      omega
    · dsimp at hx
      rw [List.getElem?_append] at hx
      split at hx
      · have := hi.moves i x hx; omega
      · rename_i hlt
        have hm : x ∈ [newS e] := List.mem_of_getElem? hx
        simp at hm
        subst hm
        simp [newS]
    · dsimp; omega
  · simp only [step1, if_neg h1k]
    cases ho : s.opn e.thread with
    | none => exact ⟨hi.lt, by have := hi.few; dsimp; omega, fun i x hx => by have := hi.moves i x hx; omega, by dsimp; omega⟩
    | some i0 =>
      refine ⟨fun t i ht => ?_, ?_, fun i x hx => ?_, by dsimp; omega⟩
      · dsimp at ht ⊢
        rw [List.length_modify]
        split at ht
        · simp only [setO] at ht
          split at ht
          · cases ht
          · exact hi.lt t i ht
        · exact hi.lt t i ht
      · dsimp
        rw [List.length_modify]
        have := hi.few
        split
        · have := cnt_shut (o := s.opn) hh.2.2.1 hh.2.2.2.1 ho
          omega
        · omega
      · dsimp at hx
        rw [List.getElem?_modify] at hx
        cases hy : s.sts[i]? with
        | none => rw [hy] at hx; simp at hx
        | some y =>
          rw [hy] at hx
          simp only [Option.map_eq_map, Option.map_some, Option.some.injEq] at hx
          have := hi.moves i y hy
          split at hx
          · have h2 := upd_moves e y
            rw [hx] at h2
            omega
          · subst hx; omega
theorem inv_run {evs : List Ev} : ∀ {k : Nat} {s : St}, k ≤ evs.length → runE (evs.take k) = some s → BInv k s := by
  intro k
  induction k with
  | zero => intro s _ h; simp [runE] at h; subst h; exact inv0
  | succ k ih =>
    intro s hk h
    have he : evs[k]? = some evs[k] := List.getElem?_eq_getElem (by omega)
    have h2 : ∃ s0, runE (evs.take k) = some s0 := by
      rw [List.take_add_one, he, Option.toList_some, runE_snoc] at h
      cases hr : runE (evs.take k) with
      | none => rw [hr] at h; cases h
      | some s0 => exact ⟨s0, rfl⟩
    obtain ⟨s0, hs0⟩ := h2
    rw [runE_take he hs0] at h
    exact inv_step (ih (by omega) hs0) h
end Go.Proofs.Ytljdkfhkpjjfgaa
