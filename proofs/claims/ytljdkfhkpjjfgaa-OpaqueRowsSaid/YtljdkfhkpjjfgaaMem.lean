/-
  A small separation logic over the blocks of the heap: an assertion is a predicate on a part of the heap; 'Star W w L': the assertions of L hold of parts of w's heap that share no block, and the outside of w is W's.
-/
import Derived.WalkKit
import Derived.Maps.AppendAt
import Derived.Deep.Draws
import Derived.Deep.QuietTactic
import Derived.BigQuiet
namespace Go.Proofs.Ytljdkfhkpjjfgaa
open Go.RowKit
set_option linter.unusedVariables false

abbrev Part := Nat → Option Obj
abbrev HA := Part → Prop
def Part.le (a b : Part) : Prop := ∀ k o, a k = some o → b k = some o
def Part.off (a b : Part) : Prop := ∀ k o, a k = some o → b k = none
theorem Part.le.refl (a : Part) : Part.le a a := fun _ _ h => h
theorem Part.le.trans {a b c : Part} (h : Part.le a b) (k : Part.le b c) : Part.le a c := fun i o x => k i o (h i o x)
theorem Part.off.symm {a b : Part} (h : Part.off a b) : Part.off b a := fun k o hb => by
  cases ha : a k with
  | none => rfl
  | some x => rw [h k x ha] at hb; cases hb

/-- the empty part -/
def noPart : Part := fun _ => none
theorem noPart_off (a : Part) : Part.off noPart a := fun _ _ h => nomatch h
theorem noPart_le (a : Part) : Part.le noPart a := fun _ _ h => nomatch h

def Holds : List HA → Part → Prop
  | [], _ => True
  | A :: L, h => ∃ a b, A a ∧ Holds L b ∧ Part.off a b ∧ Part.le a h ∧ Part.le b h

theorem Holds.up {L : List HA} {h h' : Part} (hl : Holds L h) (hh : Part.le h h') : Holds L h' := by
  cases L with
  | nil => trivial
  | cons A L =>
    obtain ⟨a, b, hA, hL, hd, ha, hb⟩ := hl
    exact ⟨a, b, hA, hL, hd, ha.trans hh, hb.trans hh⟩

/-- What holds of a part holds of a smaller part that has the same assertions: the least form. -/
theorem Holds.swap {A B : HA} {L : List HA} {h : Part} (hl : Holds (A :: B :: L) h) : Holds (B :: A :: L) h := by
  obtain ⟨a, b, hA, ⟨c, d, hB, hL, hcd, hc, hdl⟩, hd, ha, hb⟩ := hl
  let r : Part := fun k => match a k with | some o => some o | none => d k
  have had : Part.off a d := fun k o hk => by
    cases hdk : d k with
    | none => rfl
    | some x => have := hdl k x hdk; rw [hd k o hk] at this; cases this
  have hac : Part.off a c := fun k o hk => by
    cases hck : c k with
    | none => rfl
    | some x => have := hc k x hck; rw [hd k o hk] at this; cases this
  refine ⟨c, r, hB, ⟨a, d, hA, hL, had, fun k o hk => by simp [r, hk], fun k o hk => ?_⟩, fun k o hk => ?_, hc.trans hb, fun k o hk => ?_⟩
  · have : a k = none := had.symm k o hk
    simp [r, this, hk]
  · have h1 : a k = none := hac.symm k o hk
    simp [r, h1, hcd k o hk]
  · cases hak : a k with
    | some x => simp [r, hak] at hk; subst hk; exact ha k x hak
    | none => simp [r, hak] at hk; exact hb k o (hdl k o hk)

theorem Holds.tailMap {A : HA} {L L' : List HA} {h : Part} (hl : Holds (A :: L) h) (f : ∀ p, Holds L p → Holds L' p) : Holds (A :: L') h := by
  obtain ⟨a, b, hA, hL, r⟩ := hl
  exact ⟨a, b, hA, f b hL, r⟩

theorem Holds.headMap {A B : HA} {L : List HA} {h : Part} (hl : Holds (A :: L) h) (f : ∀ p, A p → B p) : Holds (B :: L) h := by
  obtain ⟨a, b, hA, r⟩ := hl
  exact ⟨a, b, f a hA, r⟩

theorem Holds.drop {A : HA} {L : List HA} {h : Part} (hl : Holds (A :: L) h) : Holds L h := by
  obtain ⟨a, b, _, hL, _, _, hb⟩ := hl
  exact hL.up hb

/-- the i-th comes to the head -/
def pullL (i : Nat) (L : List HA) : List HA := match L[i]? with | some A => A :: L.eraseIdx i | none => L
theorem Holds.pull {h : Part} : ∀ (i : Nat) {L : List HA}, Holds L h → Holds (pullL i L) h := by
  intro i
  induction i generalizing h with
  | zero => intro L hl; cases L <;> simpa [pullL] using hl
  | succ i ih =>
    intro L hl
    cases L with
    | nil => simp [pullL]; trivial
    | cons A L =>
      simp only [pullL, List.getElem?_cons_succ, List.eraseIdx_cons_succ]
      cases hi : L[i]? with
      | none => exact hl
      | some B =>
        have := hl.tailMap (L' := B :: L.eraseIdx i) (fun p hp => by have := ih hp; simpa [pullL, hi] using this)
        exact this.swap

/-- the head goes to the i-th place -/
theorem Holds.push {h : Part} {A : HA} : ∀ (i : Nat) {L : List HA}, Holds (A :: L) h → Holds (L.take i ++ A :: L.drop i) h := by
  intro i
  induction i generalizing h with
  | zero => intro L hl; simpa using hl
  | succ i ih =>
    intro L hl
    cases L with
    | nil => simpa using hl
    | cons B L =>
      simp only [List.take_succ_cons, List.drop_succ_cons, List.cons_append]
      exact hl.swap.tailMap fun p hp => ih hp

theorem Holds.append {L M : List HA} {a b h : Part} (hL : Holds L a) (hM : Holds M b) (hd : Part.off a b) (ha : Part.le a h) (hb : Part.le b h) : Holds (L ++ M) h := by
  induction L generalizing a h with
  | nil => exact hM.up hb
  | cons A L ih =>
    obtain ⟨c, d, hA, hL', hcd, hc, hdl⟩ := hL
    let r : Part := fun k => match d k with | some o => some o | none => b k
    have hdb : Part.off d b := fun k o hk => hd k o (hdl k o hk)
    refine ⟨c, r, hA, ih hL' hdb (fun k o hk => by simp [r, hk]) (fun k o hk => ?_), fun k o hk => ?_, hc.trans ha, fun k o hk => ?_⟩
    · have : d k = none := hdb.symm k o hk
      simp [r, this, hk]
    · simp [r, hcd k o hk, hd k o (hc k o hk)]
    · cases hdk : d k with
      | some x => simp [r, hdk] at hk; subst hk; exact ha k x (hdl k x hdk)
      | none => simp [r, hdk] at hk; exact hb k o hk

theorem Holds.unappend {L M : List HA} {h : Part} (hl : Holds (L ++ M) h) : ∃ a b, Holds L a ∧ Holds M b ∧ Part.off a b ∧ Part.le a h ∧ Part.le b h := by
  induction L generalizing h with
  | nil => exact ⟨noPart, h, trivial, hl, noPart_off _, noPart_le _, Part.le.refl h⟩
  | cons A L ih =>
    obtain ⟨c, d, hA, hL, hcd, hc, hdl⟩ := hl
    obtain ⟨a, b, hLa, hMb, hab, had, hbd⟩ := ih hL
    let r : Part := fun k => match c k with | some o => some o | none => a k
    have hca : Part.off c a := fun k o hk => by
      cases hak : a k with
      | none => rfl
      | some x => have := had k x hak; rw [hcd k o hk] at this; cases this
    refine ⟨r, b, ⟨c, a, hA, hLa, hca, fun k o hk => by simp [r, hk], fun k o hk => ?_⟩, hMb, fun k o hk => ?_, fun k o hk => ?_, hbd.trans hdl⟩
    · have : c k = none := hca.symm k o hk
      simp [r, this, hk]
    · cases hck : c k with
      | some x =>
        cases hbk : b k with
        | none => rfl
        | some y => have := hbd k y hbk; rw [hcd k x hck] at this; cases this
      | none => simp [r, hck] at hk; exact hab k o hk
    · cases hck : c k with
      | some x => simp [r, hck] at hk; subst hk; exact hc k x hck
      | none => simp [r, hck] at hk; exact hdl k o (had k o hk)

/-- a list of assertions as one: 'Holds M' itself -/
theorem Holds.flat {L M : List HA} {h : Part} (hl : Holds (Holds L :: M) h) : Holds (L ++ M) h := by
  obtain ⟨a, b, hA, hM, hd, ha, hb⟩ := hl
  exact Holds.append hA hM hd ha hb
theorem Holds.fold {L M : List HA} {h : Part} (hl : Holds (L ++ M) h) : Holds (Holds L :: M) h := by
  obtain ⟨a, b, hA, hM, r⟩ := hl.unappend
  exact ⟨a, b, hA, hM, r⟩


/-- the parts, one a place -/
theorem Holds.family : ∀ {L : List HA} {h : Part}, Holds L h → ∃ p : Nat → Part, (∀ (i : Nat) (A : HA), L[i]? = some A → A (p i)) ∧ (∀ i j, i ≠ j → Part.off (p i) (p j)) ∧ ∀ i, Part.le (p i) h
  | [], h, _ => ⟨fun _ => noPart, fun i A hi => by simp at hi, fun _ _ _ => noPart_off _, fun _ => noPart_le _⟩
  | A :: L, h, ⟨a, b, hA, hL, hd, ha, hb⟩ => by
    obtain ⟨p, h1, h2, h3⟩ := Holds.family hL
    refine ⟨fun i => match i with | 0 => a | i + 1 => p i, fun i B hi => ?_, fun i j hij => ?_, fun i => ?_⟩
    · cases i with
      | zero => simp at hi; subst hi; exact hA
      | succ i => exact h1 i B (by simpa using hi)
    · have hap : ∀ i, Part.off a (p i) := fun i k o hk => by
        cases hpk : p i k with
        | none => rfl
        | some x => have := h3 i k x hpk; rw [hd k o hk] at this; cases this
      cases i with
      | zero =>
        cases j with
        | zero => exact absurd rfl hij
        | succ j => exact hap j
      | succ i =>
        cases j with
        | zero => exact (hap i).symm
        | succ j => exact h2 i j (by omega)
    · cases i with
      | zero => exact ha
      | succ i => exact (h3 i).trans hb
theorem Holds.ofFamily : ∀ {L : List HA} {h : Part} (p : Nat → Part), (∀ (i : Nat) (A : HA), L[i]? = some A → A (p i)) → (∀ i j, i ≠ j → Part.off (p i) (p j)) → (∀ i, Part.le (p i) h) → Holds L h
  | [], _, _, _, _, _ => trivial
  | A :: L, h, p, h1, h2, h3 => by
    refine ⟨p 0, fun k => match p 0 k with | none => h k | some _ => none, h1 0 A (by simp), ?_, fun k o hk => by simp [hk], h3 0, fun k o hk => ?_⟩
    · refine Holds.ofFamily (fun i => p (i + 1)) (fun i B hi => h1 (i + 1) B (by simpa using hi)) (fun i j hij => h2 _ _ (by omega)) fun i k o hk => ?_
      have h0 : p 0 k = none := (h2 0 (i + 1) (by omega)).symm k o hk
      simp [h0]
      exact h3 (i + 1) k o hk
    · cases h0 : p 0 k with
      | none => simp [h0] at hk; exact hk
      | some x => simp [h0] at hk
/-- the assertion of nothing -/
def emp : HA := fun _ => True
/-- of the first n those at the places 'is', in that order; the rest as it is -/
def pickL (n : Nat) (is : List Nat) (L : List HA) : List HA := is.map (fun i => L.getD i emp) ++ L.drop n
theorem Holds.pick {L : List HA} {h : Part} (hl : Holds L h) (n : Nat) (is : List Nat) (hn : is.Nodup ∧ ∀ i ∈ is, i < n) : Holds (pickL n is L) h := by
  obtain ⟨p, h1, h2, h3⟩ := hl.family
  refine Holds.ofFamily (fun j => if hj : j < is.length then p is[j] else p (n + (j - is.length))) (fun j A hj => ?_) (fun i j hij => ?_) fun j => ?_
  · by_cases hlt : j < is.length
    · simp only [hlt, dite_true]
      simp only [pickL] at hj
      rw [List.getElem?_append_left (by simpa using hlt)] at hj
      simp only [List.getElem?_map, List.getElem?_eq_getElem hlt, Option.map_some, Option.some.injEq] at hj
      subst hj
      cases hg : L[is[j]]? with
      | none => rw [List.getD, hg]; trivial
      | some B => rw [List.getD, hg]; exact h1 _ B hg
    · simp only [hlt, dite_false]
      simp only [pickL] at hj
      rw [List.getElem?_append_right (by simpa using hlt)] at hj
      simp only [List.length_map, List.getElem?_drop] at hj
      exact h1 _ A hj
  · by_cases hi : i < is.length <;> by_cases hj : j < is.length <;> simp only [hi, hj, dite_true, dite_false]
    · refine h2 _ _ fun e => hij ?_
      have hp := List.pairwise_iff_getElem.1 hn.1
      rcases Nat.lt_trichotomy i j with h | h | h
      · exact absurd e (hp i j hi hj h)
      · exact h
      · exact absurd e.symm (hp j i hj hi h)
    · exact h2 _ _ (by have := hn.2 _ (List.getElem_mem hi); omega)
    · exact h2 _ _ (by have := hn.2 _ (List.getElem_mem hj); omega)
    · exact h2 _ _ (by omega)
  · split
    · exact h3 _
    · exact h3 _

/-- some x -/
def exA {α : Sort _} (f : α → HA) : HA := fun p => ∃ x, f x p
/-- a plain fact -/
def factA (q : Prop) : HA := fun _ => q
/-- block b is o -/
def atA (b : Nat) (o : Obj) : HA := fun p => p b = some o
/-- block b is a row of cells, none frozen -/
abbrev cellsA (b : Nat) (cs : Array Value) (t : TypeId) : HA := atA b (.cells cs t (0, 0))
/-- all the blocks of W -/
def oldA (W : World) : HA := fun p => ∀ k, k < W.heap.size → p k = W.heap[k]?
/-- a slice that is nil or lies at the head of a row of its own -/
def rowA (e : TypeId) (size : Nat) (v : Value) (n : Nat) (xs : List Value) : HA := fun p =>
  xs.length = n * size ∧
  ((v = .slice none 0 0 ∧ n = 0) ∨
   ∃ g cap cur, v = .slice (some ⟨g, 0, none⟩) n cap ∧ p g = some (.cells cur e (0, 0)) ∧ n ≤ cap ∧ cap ≤ maxLen ∧ cur.size = cap * size ∧ cur.toList.take (n * size) = xs)

theorem Holds.ex {α : Sort _} {f : α → HA} {L : List HA} {h : Part} (hl : Holds (exA f :: L) h) : ∃ x, Holds (f x :: L) h := by
  obtain ⟨a, b, ⟨x, hx⟩, r⟩ := hl
  exact ⟨x, a, b, hx, r⟩
theorem Holds.exI {α : Sort _} {f : α → HA} {L : List HA} {h : Part} (x : α) (hl : Holds (f x :: L) h) : Holds (exA f :: L) h := by
  obtain ⟨a, b, hx, r⟩ := hl
  exact ⟨a, b, ⟨x, hx⟩, r⟩
theorem Holds.fact {q : Prop} {L : List HA} {h : Part} (hl : Holds (factA q :: L) h) : q ∧ Holds L h := by
  have := hl.drop
  obtain ⟨a, b, hq, _⟩ := hl
  exact ⟨hq, this⟩
theorem Holds.factI {q : Prop} {L : List HA} {h : Part} (hq : q) (hl : Holds L h) : Holds (factA q :: L) h :=
  ⟨noPart, h, hq, hl, noPart_off _, noPart_le _, Part.le.refl h⟩

def heapOf (w : World) : Part := fun k => w.heap[k]?
/-- what lies outside the heap -/
structure Io (W w : World) : Prop where
  os : w.os = W.os
  tape : w.tape = W.tape
  output : w.output = W.output
def Star (W w : World) (L : List HA) : Prop := Io W w ∧ Holds L (heapOf w)

section
variable {W w w' : World} {A B : HA} {L M : List HA}
theorem Star.pull (i : Nat) (h : Star W w L) : Star W w (pullL i L) := ⟨h.1, h.2.pull i⟩
theorem Star.pick (h : Star W w L) (n : Nat) (is : List Nat) (hn : is.Nodup ∧ ∀ i ∈ is, i < n := by decide) : Star W w (pickL n is L) := ⟨h.1, h.2.pick n is hn⟩
theorem Star.push (i : Nat) (h : Star W w (A :: L)) : Star W w (L.take i ++ A :: L.drop i) := ⟨h.1, h.2.push i⟩
theorem Star.swap (h : Star W w (A :: B :: L)) : Star W w (B :: A :: L) := ⟨h.1, h.2.swap⟩
theorem Star.drop (h : Star W w (A :: L)) : Star W w L := ⟨h.1, h.2.drop⟩
theorem Star.flat (h : Star W w (Holds L :: M)) : Star W w (L ++ M) := ⟨h.1, h.2.flat⟩
theorem Star.fold (h : Star W w (L ++ M)) : Star W w (Holds L :: M) := ⟨h.1, h.2.fold⟩
theorem Star.head (h : Star W w (A :: L)) (f : ∀ p, A p → B p) : Star W w (B :: L) := ⟨h.1, h.2.headMap f⟩
theorem Star.tail (h : Star W w (A :: L)) (f : ∀ p, Holds L p → Holds M p) : Star W w (A :: M) := ⟨h.1, h.2.tailMap f⟩
theorem Star.ex {α : Sort _} {f : α → HA} (h : Star W w (exA f :: L)) : ∃ x, Star W w (f x :: L) := by
  obtain ⟨x, hx⟩ := h.2.ex
  exact ⟨x, h.1, hx⟩
theorem Star.exI {α : Sort _} {f : α → HA} (x : α) (h : Star W w (f x :: L)) : Star W w (exA f :: L) := ⟨h.1, h.2.exI x⟩
theorem Star.fact {q : Prop} (h : Star W w (factA q :: L)) : q ∧ Star W w L := ⟨h.2.fact.1, h.1, h.2.fact.2⟩
theorem Star.factI {q : Prop} (hq : q) (h : Star W w L) : Star W w (factA q :: L) := ⟨h.1, h.2.factI hq⟩
theorem Star.drew (h : Star W w L) : Star W w.drew L := ⟨⟨h.1.os, h.1.tape, h.1.output⟩, h.2⟩
theorem Star.drewN (h : Star W w L) (n : Nat) : Star W (w.drewN n) L := ⟨⟨h.1.os, h.1.tape, h.1.output⟩, h.2⟩
theorem Star.undrewN {n : Nat} (h : Star W (w.drewN n) L) : Star W w L := ⟨⟨h.1.os, h.1.tape, h.1.output⟩, h.2⟩
theorem Star.alike (h : Star W w L) (hw : w'.heap = w.heap) (ho : w'.os = w.os) (ht : w'.tape = w.tape) (hu : w'.output = w.output) : Star W w' L :=
  ⟨⟨ho.trans h.1.os, ht.trans h.1.tape, hu.trans h.1.output⟩, by have := h.2; unfold heapOf at *; rw [hw]; exact this⟩

theorem Star.heap {b : Nat} {o : Obj} (h : Star W w (atA b o :: L)) : w.heap[b]? = some o := by
  obtain ⟨_, a, c, hA, _, _, ha, _⟩ := h
  exact ha b o hA
theorem Star.lt {b : Nat} {o : Obj} (h : Star W w (atA b o :: L)) : b < w.heap.size := by
  have := h.heap
  rcases Nat.lt_or_ge b w.heap.size with hlt | hge
  · exact hlt
  · rw [Array.getElem?_eq_none hge] at this; cases this
theorem Star.cell {b : Nat} {cs : Array Value} {t : TypeId} (h : Star W w (cellsA b cs t :: L)) (i : Nat) : w.cell? ⟨b, i, none⟩ = cs[i]? := cell_of_row w b i cs t (0, 0) h.heap
theorem Star.frozen {b : Nat} {cs : Array Value} {t : TypeId} (h : Star W w (cellsA b cs t :: L)) (i : Nat) : w.frozen? ⟨b, i, none⟩ = false := by
  have := h.heap
  simp [World.frozen?, this]
theorem Star.ne {b c : Nat} {o q : Obj} (h : Star W w (atA b o :: atA c q :: L)) : b ≠ c := by
  obtain ⟨_, x, y, hA, ⟨x', _, hB, _, _, hx', _⟩, hd, _, _⟩ := h
  rintro rfl
  have := hx' b q hB
  rw [hd b o hA] at this
  cases this

theorem Star.rowNe {b g c m n size : Nat} {o : Obj} {e : TypeId} {xs : List Value} (h : Star W w (atA b o :: rowA e size (.slice (some ⟨g, 0, none⟩) m c) n xs :: L)) : b ≠ g := by
  obtain ⟨_, x, y, hA, ⟨x', _, hB, _, _, hx', _⟩, hd, _, _⟩ := h
  rintro rfl
  rcases hB.2 with ⟨h0, _⟩ | ⟨g', cap, cur, hv, hg, _⟩
  · cases h0
  · injection hv with ha
    injection ha with ha
    injection ha with ha
    subst ha
    have := hx' _ _ hg
    rw [hd b o hA] at this
    cases this
/-- one block is written anew -/
theorem Star.put {b : Nat} {o o' : Obj} (h : Star W w (atA b o :: L)) (hio : Io w w') (hb : w'.heap[b]? = some o') (hother : ∀ k, k ≠ b → k < w.heap.size → w'.heap[k]? = w.heap[k]?) : Star W w' (atA b o' :: L) := by
  obtain ⟨i, x, y, hA, hL, hd, hx, hy⟩ := h
  refine ⟨⟨hio.os.trans i.os, hio.tape.trans i.tape, hio.output.trans i.output⟩, fun k => if k = b then some o' else none, y, by simp [atA], hL, fun k q hk => ?_, fun k q hk => ?_, fun k q hk => ?_⟩
  · by_cases hkb : k = b
    · subst hkb; exact hd k o hA
    · simp [hkb] at hk
  · by_cases hkb : k = b
    · subst hkb; simp at hk; subst hk; exact hb
    · simp [hkb] at hk
  · have hne : k ≠ b := by
      rintro rfl
      rw [hd k o hA] at hk; cases hk
    have := hy k q hk
    have hlt : k < w.heap.size := by
      rcases Nat.lt_or_ge k w.heap.size with hlt | hge
      · exact hlt
      · simp only [heapOf] at this; rw [Array.getElem?_eq_none hge] at this; cases this
    simp only [heapOf] at this ⊢
    rw [hother k hne hlt]; exact this
theorem Star.set {b : Nat} {cs : Array Value} {t : TypeId} (h : Star W w (cellsA b cs t :: L)) (i : Nat) (u : Value) : Star W (w.setCell ⟨b, i, none⟩ u) (cellsA b (cs.setIfInBounds i u) t :: L) := by
  refine h.put ⟨rfl, rfl, rfl⟩ ?_ fun k hk hlt => ?_
  · have := h.heap
    simp [World.setCell, Array.getElem?_modify, this]
  · exact Below.heap_setCell w _ u k (by simpa using hk)
/-- a new block -/
theorem Star.new (h : Star W w L) (o : Obj) : Star W (w.alloc o) (atA w.heap.size o :: L) := by
  obtain ⟨i, hl⟩ := h
  refine ⟨⟨i.os, i.tape, i.output⟩, fun k => if k = w.heap.size then some o else none, heapOf w, by simp [atA], hl, fun k q hk => ?_, fun k q hk => ?_, fun k q hk => ?_⟩
  · by_cases hkb : k = w.heap.size
    · subst hkb; simp [heapOf]
    · simp [hkb] at hk
  · by_cases hkb : k = w.heap.size
    · subst hkb; simp at hk; subst hk; show (w.heap.push o)[w.heap.size]? = some o; simp
    · simp [hkb] at hk
  · simp only [heapOf] at hk ⊢
    have hlt : k < w.heap.size := by
      rcases Nat.lt_or_ge k w.heap.size with hlt | hge
      · exact hlt
      · rw [Array.getElem?_eq_none hge] at hk; cases hk
    rw [Below.heap_alloc w o k hlt]; exact hk

theorem Star.old {U : World} (h : Star W w (oldA U :: L)) {k : Nat} (hk : k < U.heap.size) : w.heap[k]? = U.heap[k]? := by
  obtain ⟨_, a, c, hA, _, _, ha, _⟩ := h
  have h1 := hA k hk
  rw [Array.getElem?_eq_getElem hk] at h1 ⊢
  exact ha k _ h1
theorem Star.oldSize {U : World} (h : Star W w (oldA U :: L)) : U.heap.size ≤ w.heap.size := by
  rcases Nat.eq_zero_or_pos U.heap.size with h0 | h0
  · omega
  · have h1 := h.old (k := U.heap.size - 1) (by omega)
    rw [Array.getElem?_eq_getElem (show U.heap.size - 1 < U.heap.size by omega)] at h1
    have := (Array.getElem?_eq_some_iff.1 h1).1
    omega
theorem Star.below (h : Star W w (oldA W :: L)) : Below W.heap.size W w := ⟨h.1.os, h.1.tape, h.1.output, h.oldSize, fun _ hk => h.old hk⟩
theorem Star.oldCell {U : World} (h : Star W w (oldA U :: L)) {p : Addr} (hp : p.block < U.heap.size) : w.cell? p = U.cell? p := World.cell?_of_block (h.old hp)
theorem Star.begin (W : World) : Star W W [oldA W] := ⟨⟨rfl, rfl, rfl⟩, heapOf W, noPart, fun _ _ => rfl, trivial, fun _ _ _ => rfl, Part.le.refl _, noPart_le _⟩

theorem Star.owns {e : TypeId} {size n : Nat} {v : Value} {xs : List Value} (h : Star W w (rowA e size v n xs :: L)) : w.ownsRow 0 e size v n xs := by
  obtain ⟨_, a, c, hA, _, _, ha, _⟩ := h
  refine ⟨hA.1, ?_⟩
  rcases hA.2 with h0 | ⟨g, cap, cur, hv, hg, r⟩
  · exact .inl h0
  · exact .inr ⟨g, cap, cur, hv, Nat.zero_le _, ha g _ hg, r⟩
theorem Star.rowNil (h : Star W w L) (e : TypeId) (size : Nat) : Star W w (rowA e size (.slice none 0 0) 0 [] :: L) :=
  ⟨h.1, noPart, heapOf w, ⟨by simp, .inl ⟨rfl, rfl⟩⟩, h.2, noPart_off _, noPart_le _, Part.le.refl _⟩
/-- behind a law that ends in 'ownsRow' and 'grownBy' -/
theorem Star.rowGrown {e : TypeId} {size n m : Nat} {v v' : Value} {xs ys : List Value} (h : Star W w (rowA e size v n xs :: L)) (hown : w'.ownsRow 0 e size v' m ys) (hg : w.grownBy w' v.ownBlock)
    (hat : v'.ownBlock = v.ownBlock ∨ v'.ownBlock = some w.heap.size) : Star W w' (rowA e size v' m ys :: L) := by
  obtain ⟨i, a, c, hA, hL, hd, ha, hc⟩ := h
  refine ⟨⟨hg.os.trans i.os, hg.tape.trans i.tape, hg.output.trans i.output⟩, ?_⟩
  have hrest : Part.le c (heapOf w') := fun k o hk => by
    have h1 := hc k o hk
    have hlt : k < w.heap.size := by
      rcases Nat.lt_or_ge k w.heap.size with hlt | hge
      · exact hlt
      · simp only [heapOf] at h1; rw [Array.getElem?_eq_none hge] at h1; cases h1
    have hne : some k ≠ v.ownBlock := by
      intro he
      rcases hA.2 with ⟨rfl, _⟩ | ⟨g, cap, cur, rfl, hgg, _⟩
      · simp [Value.ownBlock] at he
      · simp [Value.ownBlock] at he
        subst he
        rw [hd k _ hgg] at hk; cases hk
    simp only [heapOf] at h1 ⊢
    rw [hg.block k hlt hne]; exact h1
  rcases hown.2 with h0 | ⟨g, cap, cur, hv, _, hgg, r⟩
  · exact ⟨noPart, c, ⟨hown.1, .inl h0⟩, hL, noPart_off _, noPart_le _, hrest⟩
  · refine ⟨fun k => if k = g then w'.heap[g]? else none, c, ⟨hown.1, .inr ⟨g, cap, cur, hv, by simpa using hgg, r⟩⟩, hL, fun k o hk => ?_, fun k o hk => ?_, hrest⟩
    · by_cases hkg : k = g
      · subst hkg
        rw [hv] at hat
        simp only [Value.ownBlock] at hat
        rcases hat with hat | hat
        · rcases hA.2 with ⟨rfl, _⟩ | ⟨g', cap', cur', rfl, hgg', _⟩
          · simp at hat
          · simp at hat
            subst hat
            exact hd k _ hgg'
        · have : k = w.heap.size := by simpa using hat
          cases hck : c k with
          | none => rfl
          | some q => have h2 := hc k q hck; simp only [heapOf] at h2; rw [this] at h2; simp at h2
      · simp [hkg] at hk
    · by_cases hkg : k = g
      · subst hkg; simp at hk; exact hk
      · simp [hkg] at hk
end

section
variable {W w w' : World} {L : List HA}
/-- a row is a slice -/
theorem Star.form {e : TypeId} {size n : Nat} {v : Value} {xs : List Value} (h : Star W w (rowA e size v n xs :: L)) : ∃ a c, v = .slice a n c := by
  rcases h.owns.2 with ⟨rfl, rfl⟩ | ⟨g, cap, cur, rfl, _⟩
  · exact ⟨none, 0, rfl⟩
  · exact ⟨_, _, rfl⟩
theorem Star.rowLen {e : TypeId} {size n : Nat} {v : Value} {xs : List Value} (h : Star W w (rowA e size v n xs :: L)) : xs.length = n * size := h.owns.1
/-- a row that is not empty: its block -/
theorem Star.rowAt {e : TypeId} {size n : Nat} {a : Option Addr} {c m : Nat} {xs : List Value} (h : Star W w (rowA e size (.slice a m c) n xs :: L)) (hn : 0 < n) :
    ∃ g, a = some ⟨g, 0, none⟩ ∧ n ≤ c ∧ c ≤ maxLen ∧ (∀ j, j < n * size → w.cell? ⟨g, j, none⟩ = xs[j]?) ∧ (∀ j, w.frozen? ⟨g, j, none⟩ = false) := by
  have ho := h.owns
  rcases ho.2 with ⟨_, h0⟩ | ⟨g, cap, cur, hv, _, hg, hc, hm, _⟩
  · omega
  · injection hv with ha hm' hc'
    subst ha hm' hc'
    exact ⟨g, rfl, hc, hm, fun j hj => ho.cellAt j hj, fun j => ho.frozenAt j⟩
theorem Star.rowCap {e : TypeId} {size n : Nat} {a : Option Addr} {c m : Nat} {xs : List Value} (h : Star W w (rowA e size (.slice a m c) n xs :: L)) : n ≤ c ∧ c ≤ maxLen := by
  rcases h.owns.2 with ⟨hv, h0⟩ | ⟨g, cap, cur, hv, _, hg, hc, hm, _⟩
  · injection hv with _ _ hc'; subst hc' h0; exact ⟨Nat.le_refl _, by simp [maxLen]⟩
  · injection hv with ha hm' hc'; subst hc'; exact ⟨hc, hm⟩
theorem Star.rowMem {e : TypeId} {size n : Nat} {v v' : Value} {m : Nat} {xs ys : List Value} (h : Star W w (rowA e size v n xs :: L))
    (f : ∀ p, rowA e size v n xs p → rowA e size v' m ys p) : Star W w (rowA e size v' m ys :: L) := h.head f
/-- the first m of a row -/
theorem Star.rowCut {e : TypeId} {size n : Nat} {a : Option Addr} {c : Nat} {xs : List Value} (h : Star W w (rowA e size (.slice a n c) n xs :: L)) (m : Nat) (hm : m ≤ n) :
    Star W w (rowA e size (.slice a m c) m (xs.take (m * size)) :: L) := by
  refine h.head fun p hp => ?_
  obtain ⟨hl, hp⟩ := hp
  refine ⟨by rw [List.length_take, hl]; exact Nat.min_eq_left (Nat.mul_le_mul_right _ hm), ?_⟩
  rcases hp with ⟨hv, rfl⟩ | ⟨g, cap, cur, hv, hg, hc, hcm, hs, ht⟩
  · left
    have : m = 0 := by omega
    subst this
    exact ⟨hv, rfl⟩
  · right
    injection hv with ha _ hc'
    subst ha hc'
    refine ⟨g, c, cur, rfl, hg, by omega, hcm, hs, ?_⟩
    rw [← ht, List.take_take, Nat.min_eq_left (Nat.mul_le_mul_right _ hm)]
/-- a store into a row -/
theorem Star.rowSet {e : TypeId} {size n : Nat} {g c : Nat} {xs : List Value} (h : Star W w (rowA e size (.slice (some ⟨g, 0, none⟩) n c) n xs :: L)) (j : Nat) (u : Value) :
    Star W (w.setCell ⟨g, j, none⟩ u) (rowA e size (.slice (some ⟨g, 0, none⟩) n c) n (xs.set j u) :: L) := by
  have h1 := h.owns.stored j u
  exact h.rowGrown h1.1 h1.2 (.inl rfl)
/-- a new row -/
theorem Star.rowNew (h : Star W w L) (e : TypeId) (size : Nat) (cs : Array Value) (n : Nat) (hn : n ≤ maxLen) (hs : cs.size = n * size) :
    Star W (w.alloc (.cells cs e)) (rowA e size (.slice (some ⟨w.heap.size, 0, none⟩) n n) n cs.toList :: L) := by
  refine (h.new (.cells cs e)).head fun p hp => ⟨by simpa using hs, .inr ⟨w.heap.size, n, cs, rfl, hp, Nat.le_refl _, hn, hs, ?_⟩⟩
  exact List.take_of_length_le (by rw [Array.length_toList, hs]; exact Nat.le_refl _)
end

section
variable {P : Program} {W w : World} {L : List HA}
/-- append to a row: some capacity, some world -/
theorem wp_append_star {o : Oper} {a : Act} {K : Act → World → Prop} {Q : Exit → Act → World → Prop} (s x : Operand) (t : TypeId)
    (ho : o.op = .call { callee := .builtin .append, args := #[s, x], argTypes := #[t, t] })
    (e : TypeId) (i : TypeInfo) (z : Value) (size bytes : Nat) (ht : P.underlying t = some (.slice e)) (hi : P.info? e = some i) (hz : i.zero = some z)
    (hsize : i.size = size) (hby : i.bytes = bytes) (hzs : z.cells.size = size) (hsz : 0 < size)
    (v : Value) (n : Nat) (xs : List Value) (hs : a.eval s = v) (hS : Star W w (rowA e size v n xs :: L))
    (ad : Addr) (m c : Nat) (news : List Value) (hx : a.eval x = .slice (some ad) m c) (hl : news.length = m * size) (hnews : ∀ j u, news[j]? = some u → w.cell? (ad.add j) = some u) (h1 : ∀ u ∈ news, u.oneCell' = true)
    (h63 : n + m ≤ maxLen) (hbytes : (n + m) * bytes ≤ 140737488355328)
    (h : ∀ a' c' w', Star W w' (rowA e size (.slice a' (n + m) c') (n + m) (xs ++ news) :: L) → K (a.put o.dst (.slice a' (n + m) c')) w') : o.wp P a w K Q := by
  obtain ⟨v', w', hr, h2, h3, _, h5⟩ := run_append_own_at (P := P) w 0 t o.type e i z size bytes ht hi hz hsize hby hzs hsz v n xs hS.owns ad m c news hl hnews h1 h63 hbytes (Nat.zero_le _)
  unfold Oper.wp execOp
  simp only [ho, resolve, invoke, builtin, Sem.run_bind, Sem.run_pure, Result.andThen_ok, List.map_toArray, List.map_cons, List.map_nil, hs, hx, hr]
  have hS' := hS.rowGrown h2 h3 h5
  obtain ⟨a', c', rfl⟩ := hS'.form
  exact h a' c' w' hS'
theorem wpList_append_star {ops : Array Oper} {rest : List Oper} {o : Oper} {a : Act} {Q : Exit → Act → World → Prop} (hgd : o.guard = none) (s x : Operand) (t : TypeId)
    (ho : o.op = .call { callee := .builtin .append, args := #[s, x], argTypes := #[t, t] })
    (e : TypeId) (i : TypeInfo) (z : Value) (size bytes : Nat) (ht : P.underlying t = some (.slice e)) (hi : P.info? e = some i) (hz : i.zero = some z)
    (hsize : i.size = size) (hby : i.bytes = bytes) (hzs : z.cells.size = size) (hsz : 0 < size)
    (v : Value) (n : Nat) (xs : List Value) (hs : a.eval s = v) (hS : Star W w (rowA e size v n xs :: L))
    (ad : Addr) (m c : Nat) (news : List Value) (hx : a.eval x = .slice (some ad) m c) (hl : news.length = m * size) (hnews : ∀ j u, news[j]? = some u → w.cell? (ad.add j) = some u) (h1 : ∀ u ∈ news, u.oneCell' = true)
    (h63 : n + m ≤ maxLen) (hbytes : (n + m) * bytes ≤ 140737488355328)
    (h : ∀ a' c' w', Star W w' (rowA e size (.slice a' (n + m) c') (n + m) (xs ++ news) :: L) → wpList P ops Q rest (a.put o.dst (.slice a' (n + m) c')) w') : wpList P ops Q (o :: rest) a w :=
  wpList_plain hgd fun K hK => wp_append_star s x t ho e i z size bytes ht hi hz hsize hby hzs hsz v n xs hs hS ad m c news hx hl hnews h1 h63 hbytes fun a' c' w' h2 => hK _ _ (h a' c' w' h2)

/-- append of nothing, the source nil -/
theorem run_append_of_nil (w : World) (t ty e : TypeId) (i : TypeInfo) (size : Nat) (ht : P.underlying t = some (.slice e)) (hi : P.info? e = some i)
    (v : Value) (n : Nat) (xs : List Value) (hown : w.ownsRow 0 e size v n xs) (c : Nat) : (Builtin.append_ #[t, t] ty #[v, .slice none 0 c]).run P w = .ok v w := by
  rcases hown.2 with ⟨rfl, rfl⟩ | ⟨g, cap, cur, rfl, _, _, hnc, _⟩
  · simp [Builtin.append_, run_underlying ht, sizeOf, typeInfo, hi, Builtin.lenOf, Builtin.firstCells]
  · simp [Builtin.append_, run_underlying ht, sizeOf, typeInfo, hi, Builtin.lenOf, Builtin.firstCells, hnc, storeCells]
/-- append of a slice that reads as a list, nil or not -/
theorem wp_append_star_any {o : Oper} {a : Act} {K : Act → World → Prop} {Q : Exit → Act → World → Prop} (s x : Operand) (t : TypeId)
    (ho : o.op = .call { callee := .builtin .append, args := #[s, x], argTypes := #[t, t] })
    (e : TypeId) (i : TypeInfo) (z : Value) (size bytes : Nat) (ht : P.underlying t = some (.slice e)) (hi : P.info? e = some i) (hz : i.zero = some z)
    (hsize : i.size = size) (hby : i.bytes = bytes) (hzs : z.cells.size = size) (hsz : 0 < size)
    (v : Value) (n : Nat) (xs : List Value) (hs : a.eval s = v) (hS : Star W w (rowA e size v n xs :: L))
    (A : Option Addr) (m c : Nat) (news : List Value) (hx : a.eval x = .slice A m c) (hl : news.length = m * size) (hsrc : 0 < m → ∃ ad, A = some ad ∧ ∀ j u, news[j]? = some u → w.cell? (ad.add j) = some u) (h1 : ∀ u ∈ news, u.oneCell' = true)
    (h63 : n + m ≤ maxLen) (hbytes : (n + m) * bytes ≤ 140737488355328)
    (h : ∀ a' c' w', Star W w' (rowA e size (.slice a' (n + m) c') (n + m) (xs ++ news) :: L) → K (a.put o.dst (.slice a' (n + m) c')) w') : o.wp P a w K Q := by
  rcases A with _ | ad
  · have hm : m = 0 := by
      rcases Nat.eq_zero_or_pos m with h0 | h0
      · exact h0
      · obtain ⟨ad, h, _⟩ := hsrc h0
        cases h
    subst hm
    have hn : news = [] := List.eq_nil_of_length_eq_zero (by simpa using hl)
    subst hn
    obtain ⟨a', c', rfl⟩ := hS.form
    have hr := run_append_of_nil (P := P) w t o.type e i size ht hi _ n xs hS.owns c
    unfold Oper.wp execOp
    simp only [ho, resolve, invoke, builtin, Sem.run_bind, Sem.run_pure, Result.andThen_ok, List.map_toArray, List.map_cons, List.map_nil, hs, hx, hr]
    exact h a' c' w (by simpa using hS)
  · refine wp_append_star s x t ho e i z size bytes ht hi hz hsize hby hzs hsz v n xs hs hS ad m c news hx hl (fun j u hu => ?_) h1 h63 hbytes h
    have hm : 0 < m := by
      rcases Nat.eq_zero_or_pos m with h0 | h0
      · subst h0
        have hn : news = [] := List.eq_nil_of_length_eq_zero (by simpa using hl)
        subst hn; simp at hu
      · exact h0
    obtain ⟨ad', he, hc⟩ := hsrc hm
    injection he with he
    subst he
    exact hc j u hu
theorem wpList_append_star_any {ops : Array Oper} {rest : List Oper} {o : Oper} {a : Act} {Q : Exit → Act → World → Prop} (hgd : o.guard = none) (s x : Operand) (t : TypeId)
    (ho : o.op = .call { callee := .builtin .append, args := #[s, x], argTypes := #[t, t] })
    (e : TypeId) (i : TypeInfo) (z : Value) (size bytes : Nat) (ht : P.underlying t = some (.slice e)) (hi : P.info? e = some i) (hz : i.zero = some z)
    (hsize : i.size = size) (hby : i.bytes = bytes) (hzs : z.cells.size = size) (hsz : 0 < size)
    (v : Value) (n : Nat) (xs : List Value) (hs : a.eval s = v) (hS : Star W w (rowA e size v n xs :: L))
    (A : Option Addr) (m c : Nat) (news : List Value) (hx : a.eval x = .slice A m c) (hl : news.length = m * size) (hsrc : 0 < m → ∃ ad, A = some ad ∧ ∀ j u, news[j]? = some u → w.cell? (ad.add j) = some u) (h1 : ∀ u ∈ news, u.oneCell' = true)
    (h63 : n + m ≤ maxLen) (hbytes : (n + m) * bytes ≤ 140737488355328)
    (h : ∀ a' c' w', Star W w' (rowA e size (.slice a' (n + m) c') (n + m) (xs ++ news) :: L) → wpList P ops Q rest (a.put o.dst (.slice a' (n + m) c')) w') : wpList P ops Q (o :: rest) a w :=
  wpList_plain hgd fun K hK => wp_append_star_any s x t ho e i z size bytes ht hi hz hsize hby hzs hsz v n xs hs hS A m c news hx hl hsrc h1 h63 hbytes fun a' c' w' h2 => hK _ _ (h a' c' w' h2)
/-- the same as a step of a region that draws -/
theorem step_append_star_any {ops : Array Oper} {o : Oper} {a : Act} {K : Act → World → Prop} {Q : Exit → Act → World → Prop} {E : Prop} (hgd : o.guard = none) (s x : Operand) (t : TypeId)
    (ho : o.op = .call { callee := .builtin .append, args := #[s, x], argTypes := #[t, t] })
    (e : TypeId) (i : TypeInfo) (z : Value) (size bytes : Nat) (ht : P.underlying t = some (.slice e)) (hi : P.info? e = some i) (hz : i.zero = some z)
    (hsize : i.size = size) (hby : i.bytes = bytes) (hzs : z.cells.size = size) (hsz : 0 < size)
    (v : Value) (n : Nat) (xs : List Value) (hs : a.eval s = v) (hS : Star W w (rowA e size v n xs :: L))
    (A : Option Addr) (m c : Nat) (news : List Value) (hx : a.eval x = .slice A m c) (hl : news.length = m * size) (hsrc : 0 < m → ∃ ad, A = some ad ∧ ∀ j u, news[j]? = some u → w.cell? (ad.add j) = some u) (h1 : ∀ u ∈ news, u.oneCell' = true)
    (h63 : n + m ≤ maxLen) (hbytes : (n + m) * bytes ≤ 140737488355328)
    (h : ∀ a' c' w', Star W w' (rowA e size (.slice a' (n + m) c') (n + m) (xs ++ news) :: L) → K (a.put o.dst (.slice a' (n + m) c')) w') :
    if Region.wanted o (yielded ops a.tmps) = true then Oper.wp P o a w K Q else E := by
  have hw : Region.wanted o (yielded ops a.tmps) = true := by simp [Region.wanted, hgd]
  rw [if_pos hw]
  exact wp_append_star_any s x t ho e i z size bytes ht hi hz hsize hby hzs hsz v n xs hs hS A m c news hx hl hsrc h1 h63 hbytes h
/-- a row of one's own as such a source -/
theorem Star.rowSrc {W w : World} {L : List HA} {e : TypeId} {size n m : Nat} {a : Option Addr} {c : Nat} {xs : List Value} (h : Star W w (rowA e size (.slice a m c) n xs :: L)) :
    0 < n → ∃ ad, a = some ad ∧ ∀ j u, xs[j]? = some u → w.cell? (ad.add j) = some u := by
  intro hn
  obtain ⟨g, rfl, _, _, hc, _⟩ := h.rowAt hn
  refine ⟨_, rfl, fun j u hu => ?_⟩
  have hj : j < xs.length := (List.getElem?_eq_some_iff.1 hu).1
  rw [h.rowLen] at hj
  have hadd : (⟨g, 0, none⟩ : Addr).add j = ⟨g, j, none⟩ := by unfold Addr.add; split <;> simp_all
  rw [hadd, hc j hj, hu]
end

/-- a slice value (its address, its length) that reads as a list of cells -/
def Sl (w : World) (A : Option Addr) (n size : Nat) (xs : List Value) : Prop :=
  xs.length = n * size ∧ (0 < n → ∃ g o, A = some ⟨g, o, none⟩ ∧ ∀ j u, xs[j]? = some u → w.cell? ⟨g, o + j, none⟩ = some u)
section
variable {W w w' : World} {L : List HA} {A : Option Addr} {n size : Nat} {xs : List Value}
theorem Star.rowSl {e : TypeId} {m c : Nat} {a : Option Addr} (h : Star W w (rowA e size (.slice a m c) n xs :: L)) : Sl w a n size xs := by
  refine ⟨h.rowLen, fun hn => ?_⟩
  obtain ⟨g, rfl, _, _, hc, _⟩ := h.rowAt hn
  refine ⟨g, 0, rfl, fun j u hu => ?_⟩
  have hj : j < xs.length := (List.getElem?_eq_some_iff.1 hu).1
  rw [h.rowLen] at hj
  rw [Nat.zero_add, hc j hj, hu]
theorem Sl.keep (h : Sl w A n size xs) (hk : ∀ g o, (∃ o', A = some ⟨g, o', none⟩) → w'.cell? ⟨g, o, none⟩ = w.cell? ⟨g, o, none⟩) : Sl w' A n size xs :=
  ⟨h.1, fun hn => by
    obtain ⟨g, o, e, hc⟩ := h.2 hn
    exact ⟨g, o, e, fun j u hu => (hk g _ ⟨o, e⟩).trans (hc j u hu)⟩⟩
theorem Sl.drewN (h : Sl w A n size xs) (k : Nat) : Sl (w.drewN k) A n size xs := h
theorem Sl.at1 (h : Sl w A n 1 xs) {k : Nat} (hk : k < n) : ∃ g o u, A = some ⟨g, o, none⟩ ∧ xs[k]? = some u ∧ w.cell? ⟨g, o + k, none⟩ = some u := by
  obtain ⟨g, o, e, hc⟩ := h.2 (by omega)
  have hl : k < xs.length := by have := h.1; omega
  exact ⟨g, o, xs[k], e, List.getElem?_eq_getElem hl, hc k _ (List.getElem?_eq_getElem hl)⟩
theorem Sl.src (h : Sl w A n size xs) : 0 < n → ∃ ad, A = some ad ∧ ∀ j u, xs[j]? = some u → w.cell? (ad.add j) = some u := by
  intro hn
  obtain ⟨g, o, e, hc⟩ := h.2 hn
  refine ⟨_, e, fun j u hu => ?_⟩
  have hadd : (⟨g, o, none⟩ : Addr).add j = ⟨g, o + j, none⟩ := by unfold Addr.add; split <;> simp_all
  rw [hadd]; exact hc j u hu
end

/-! quiet calls, behind draws -/
theorem quiet_add {P : Program} {f : FuncId} {args : Array Value} {w : World} {a n : Nat} {v : Value}
    (h : Calls P f args (w.drewN (a + n)) fun e w' => e = .returned v ∧ ∃ m, w' = (w.drewN (a + n)).drewN m) :
    Calls P f args (w.drewN (a + n)) fun e w'' => e = .returned v ∧ ∃ m, w'' = w.drewN (a + m) :=
  h.mono fun _ _ ⟨he, m, hm⟩ => ⟨he, n + m, by rw [hm, World.drewN_drewN, Nat.add_assoc]⟩
theorem quiet_add_left {P : Program} {f : FuncId} {args : Array Value} {w : World} {a n : Nat} {v : Value}
    (h : Calls P f args (w.drewN (a + n)) fun e w' => e = .returned v ∧ w.drewN (a + n) = w') :
    Calls P f args (w.drewN (a + n)) fun e w'' => e = .returned v ∧ ∃ m, w'' = w.drewN (a + m) :=
  h.mono fun _ _ ⟨he, hm⟩ => ⟨he, n, hm.symm⟩
theorem quiet_left {P : Program} {f : FuncId} {args : Array Value} {w : World} {n : Nat} {v : Value}
    (h : Calls P f args (w.drewN n) fun e w' => e = .returned v ∧ w.drewN n = w') : Calls P f args (w.drewN n) fun e w'' => e = .returned v ∧ ∃ m, w'' = w.drewN m :=
  h.mono fun _ _ ⟨he, hm⟩ => ⟨he, n, hm.symm⟩
theorem quiet_some {P : Program} {f : FuncId} {args : Array Value} {w : World} {n : Nat} {v : Value}
    (h : Calls P f args (w.drewN n) fun e w' => e = .returned v ∧ ∃ m, w' = (w.drewN n).drewN m) : Calls P f args (w.drewN n) fun e w'' => e = .returned v ∧ ∃ m, w'' = w.drewN m :=
  h.mono fun _ _ ⟨he, m, hm⟩ => ⟨he, n + m, by rw [hm, World.drewN_drewN]⟩
end Go.Proofs.Ytljdkfhkpjjfgaa
