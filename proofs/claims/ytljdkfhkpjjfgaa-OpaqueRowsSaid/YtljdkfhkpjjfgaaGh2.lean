/- Events, moves and stories in memory; the test of an event: lemmas for the laws of ghost. -/
import Derived.Test.YtljdkfhkpjjfgaaMaps
import Derived.Test.YtljdkfhkpjjfgaaGh1
import Derived.Test.YtljdkfhkpjjfgaaProg
import Derived.StillTailTactics
import Derived.WalkSpells
import Derived.WalkLawsBesides
import Derived.Laws.EntriesVeiled
import Derived.Laws.StructEq
import Derived.Lib.Hide
import Derived.Lib.SliceRun
import Derived.BigRegion
import Derived.BigQuiet
import Derived.Deep.RegionHeld3
import Derived.Deep.RegionWith
import Derived.Deep.RegionLaw
namespace Go.Proofs.Ytljdkfhkpjjfgaa
open Go.RowKit
set_option linter.unusedVariables false

theorem Star.of_below {W w w' : World} {L : List HA} (h : Star W w L) (hb : Below w.heap.size w w') : Star W w' L :=
  ⟨⟨hb.os.trans h.1.os, hb.tape.trans h.1.tape, hb.output.trans h.1.output⟩, h.2.up fun k o hk => by
    have hlt : k < w.heap.size := by
      rcases Nat.lt_or_ge k w.heap.size with hlt | hge
      · exact hlt
      · simp only [heapOf] at hk; rw [Array.getElem?_eq_none hge] at hk; cases hk
    simp only [heapOf] at hk ⊢
    rw [hb.block k hlt]; exact hk⟩
theorem info_parts {P : Program} {e : TypeId} {z : Value} {size bytes : Nat} (h : (P.info? e).map (fun i => (i.zero, i.size, i.bytes)) = some (some z, size, bytes)) : ∃ i, P.info? e = some i ∧ i.zero = some z ∧ i.size = size ∧ i.bytes = bytes := by
  obtain ⟨i, hi, he⟩ := Option.map_eq_some_iff.1 h
  injection he with h1 h2
  injection h2 with h2 h3
  exact ⟨i, hi, h1, h2, h3⟩

/-! lists of parts of one width, laid flat -/
section
variable {α : Type} {n : Nat}
theorem flat_len : ∀ {l : List (List α)}, (∀ c ∈ l, c.length = n) → l.flatten.length = l.length * n
  | [], _ => by simp
  | c :: r, h => by
    rw [List.flatten_cons, List.length_append, flat_len (fun d hd => h d (List.mem_cons_of_mem _ hd)), h c (List.mem_cons_self), List.length_cons, Nat.add_mul]
    omega
theorem flat_at : ∀ {l : List (List α)} {i j : Nat} {c : List α}, (∀ c ∈ l, c.length = n) → l[i]? = some c → j < n → l.flatten[i * n + j]? = c[j]?
  | [], i, j, c, _, hc, _ => by simp at hc
  | d :: r, 0, j, c, h, hc, hj => by
    simp only [List.getElem?_cons_zero, Option.some.injEq] at hc
    subst hc
    rw [List.flatten_cons, Nat.zero_mul, Nat.zero_add, List.getElem?_append_left (by rw [h d List.mem_cons_self]; exact hj)]
  | d :: r, i + 1, j, c, h, hc, hj => by
    simp only [List.getElem?_cons_succ] at hc
    have hd := h d List.mem_cons_self
    rw [List.flatten_cons, List.getElem?_append_right (by rw [hd, Nat.add_mul]; omega), hd, Nat.add_mul, Nat.one_mul, show i * n + n + j - n = i * n + j by omega]
    exact flat_at (fun d hd => h d (List.mem_cons_of_mem _ hd)) hc hj
theorem flat_set : ∀ {l : List (List α)} {i j : Nat} {c : List α} (u : α), (∀ c ∈ l, c.length = n) → l[i]? = some c → j < n → l.flatten.set (i * n + j) u = (l.set i (c.set j u)).flatten
  | [], i, j, c, u, _, hc, _ => by simp at hc
  | d :: r, 0, j, c, u, h, hc, hj => by
    simp only [List.getElem?_cons_zero, Option.some.injEq] at hc
    subst hc
    rw [List.flatten_cons, Nat.zero_mul, Nat.zero_add, List.set_append_left _ _ (by rw [h d List.mem_cons_self]; exact hj)]
    rfl
  | d :: r, i + 1, j, c, u, h, hc, hj => by
    simp only [List.getElem?_cons_succ] at hc
    have hd := h d List.mem_cons_self
    rw [List.flatten_cons, List.set_append_right _ _ (by rw [hd, Nat.add_mul]; omega), hd, Nat.add_mul, Nat.one_mul, show i * n + n + j - n = i * n + j by omega, flat_set u (fun d hd => h d (List.mem_cons_of_mem _ hd)) hc hj]
    rfl
theorem flat_take : ∀ {l : List (List α)} (m : Nat), (∀ c ∈ l, c.length = n) → l.flatten.take (m * n) = (l.take m).flatten
  | [], m, _ => by simp
  | c :: r, 0, _ => by simp
  | c :: r, m + 1, h => by
    have hc := h c List.mem_cons_self
    rw [List.flatten_cons, List.take_append, hc, List.take_of_length_le (by rw [hc, Nat.add_mul]; omega), Nat.add_mul, Nat.one_mul, show m * n + n - n = m * n by omega, flat_take m (fun d hd => h d (List.mem_cons_of_mem _ hd))]
    rfl
theorem flat_mem {l : List (List α)} {p : α → Prop} (h : ∀ c ∈ l, ∀ u ∈ c, p u) : ∀ u ∈ l.flatten, p u := by
  intro u hu
  obtain ⟨c, hc, hm⟩ := List.mem_flatten.1 hu
  exact h c hc u hm
end

/-! the three kinds of things, cell by cell -/
def evC (e : Ev) : List Value := [.int .i64 e.kind, .int .i64 e.step, .int .i64 e.thread, .int .i64 e.stamp, .int .i64 e.cell, .int .i64 e.x, .bool e.own, .int .i64 e.gate, .int .i64 e.e, .int .i64 e.by_]
def mvC (m : Mv) : List Value := [.int .i64 m.step, .bool m.write, .int .i64 m.cell, .int .i64 m.x, .bool m.own, .int .i64 m.gate]
def stoC (s : Sto) (v : Value) : List Value := [.int .i64 s.thread, .int .i64 s.stamp, .int .i64 s.begin_, .int .i64 s.end_, .int .i64 s.fate, .int .i64 s.e, .int .i64 s.by_, .int .i64 s.opens, .int .i64 s.gate, v]
def evsC (es : List Ev) : List Value := (es.map evC).flatten
def mvsC (ms : List Mv) : List Value := (ms.map mvC).flatten
def stosC (sts : List Sto) (vs : List Value) : List Value := (List.zipWith stoC sts vs).flatten
theorem ev_len {es : List Ev} : ∀ c ∈ es.map evC, c.length = 10 := by intro c hc; obtain ⟨e, _, rfl⟩ := List.mem_map.1 hc; rfl
theorem mv_len {ms : List Mv} : ∀ c ∈ ms.map mvC, c.length = 6 := by intro c hc; obtain ⟨e, _, rfl⟩ := List.mem_map.1 hc; rfl
theorem sto_len {sts : List Sto} {vs : List Value} : ∀ c ∈ List.zipWith stoC sts vs, c.length = 10 := by
  intro c hc
  obtain ⟨i, hi⟩ := List.mem_iff_getElem?.1 hc
  rw [List.getElem?_zipWith] at hi
  split at hi
  · injection hi with hi; subst hi; rfl
  · cases hi
theorem evsC_at {es : List Ev} {i j : Nat} {e : Ev} (h : es[i]? = some e) (hj : j < 10) : (evsC es)[i * 10 + j]? = (evC e)[j]? :=
  flat_at ev_len (by rw [List.getElem?_map, h]; rfl) hj
theorem mvsC_at {ms : List Mv} {i j : Nat} {e : Mv} (h : ms[i]? = some e) (hj : j < 6) : (mvsC ms)[i * 6 + j]? = (mvC e)[j]? :=
  flat_at mv_len (by rw [List.getElem?_map, h]; rfl) hj
theorem sto_get {sts : List Sto} {vs : List Value} {i : Nat} {s : Sto} {v : Value} (h : sts[i]? = some s) (hv : vs[i]? = some v) : (List.zipWith stoC sts vs)[i]? = some (stoC s v) := by
  rw [List.getElem?_zipWith, h, hv]
theorem stosC_at {sts : List Sto} {vs : List Value} {i j : Nat} {s : Sto} {v : Value} (h : sts[i]? = some s) (hv : vs[i]? = some v) (hj : j < 10) : (stosC sts vs)[i * 10 + j]? = (stoC s v)[j]? :=
  flat_at sto_len (sto_get h hv) hj
theorem evsC_len (es : List Ev) : (evsC es).length = es.length * 10 := by rw [evsC, flat_len ev_len, List.length_map]
theorem mvsC_len (ms : List Mv) : (mvsC ms).length = ms.length * 6 := by rw [mvsC, flat_len mv_len, List.length_map]
theorem mvsC_snoc (ms : List Mv) (m : Mv) : mvsC (ms ++ [m]) = mvsC ms ++ mvC m := by simp [mvsC]
theorem stosC_snoc {sts : List Sto} {vs : List Value} (h : vs.length = sts.length) (s : Sto) (v : Value) : stosC (sts ++ [s]) (vs ++ [v]) = stosC sts vs ++ stoC s v := by
  rw [stosC, List.zipWith_append h.symm]; simp [stosC]
theorem mvC_one (m : Mv) : ∀ u ∈ mvC m, u.oneCell' = true := by intro u hu; simp only [mvC, List.mem_cons, List.not_mem_nil, or_false] at hu; rcases hu with rfl | rfl | rfl | rfl | rfl | rfl <;> rfl
theorem zip_set {β γ δ : Type} (f : β → γ → δ) (l : List β) (m : List γ) (i : Nat) (a : β) (b : γ) : List.zipWith f (l.set i a) (m.set i b) = (List.zipWith f l m).set i (f a b) := by
  apply List.ext_getElem?
  intro k
  rw [List.getElem?_zipWith, List.getElem?_set, List.getElem?_set, List.getElem?_set, List.getElem?_zipWith, List.length_zipWith]
  by_cases h : i = k
  · subst h
    simp only [if_true]
    by_cases h1 : i < l.length
    · by_cases h2 : i < m.length
      · simp [h1, h2]; omega
      · simp [h1, h2]; omega
    · simp [h1]; omega
  · simp [h]
theorem modify_set {β : Type} {l : List β} {i : Nat} {a : β} (f : β → β) (h : l[i]? = some a) : l.modify i f = l.set i (f a) := by
  apply List.ext_getElem?
  intro k
  rw [List.getElem?_modify, List.getElem?_set]
  by_cases hk : i = k
  · subst hk
    obtain ⟨h1, h2⟩ := List.getElem?_eq_some_iff.1 h
    simp [h1, h2]
  · simp [hk]

/-! stories that are one's own -/
def movesL (sts : List Sto) (vs : List Value) : List HA := List.zipWith (fun s v => rowA 46 6 v s.moves.length (mvsC s.moves)) sts vs
def storiesA (v : Value) (sts : List Sto) : HA := exA fun vs : List Value => Holds [factA (vs.length = sts.length), rowA 44 10 v sts.length (stosC sts vs), Holds (movesL sts vs)]
section
variable {W w : World} {L M : List HA} {R : List HA} {v : Value} {sts : List Sto} {vs : List Value}
theorem stories_open (h : Star W w (storiesA v sts :: R)) : ∃ vs, vs.length = sts.length ∧ Star W w (rowA 44 10 v sts.length (stosC sts vs) :: Holds (movesL sts vs) :: R) := by
  obtain ⟨vs, h⟩ := h.ex
  obtain ⟨hl, h⟩ := h.flat.fact
  exact ⟨vs, hl, h⟩
theorem stories_shut (hl : vs.length = sts.length) (h : Star W w (rowA 44 10 v sts.length (stosC sts vs) :: Holds (movesL sts vs) :: R)) : Star W w (storiesA v sts :: R) :=
  Star.exI vs (Star.fold (L := [_, _, _]) (Star.factI hl h))
theorem stories_nil (h : Star W w R) : Star W w (storiesA (.slice none 0 0) [] :: R) :=
  stories_shut (vs := []) rfl ((Star.fold (L := []) (M := R) h : Star W w (Holds [] :: R)).rowNil 44 10)
theorem Star.focus {A : HA} (h : Star W w (Holds L :: M)) (i : Nat) (hi : L[i]? = some A) : Star W w (A :: Holds (L.eraseIdx i) :: M) := by
  have hlt : i < L.length := (List.getElem?_eq_some_iff.1 hi).1
  have h1 := h.flat.pull i
  simp only [pullL, List.getElem?_append_left hlt, hi, List.eraseIdx_append_of_lt_length hlt] at h1
  exact Star.tail (L := L.eraseIdx i ++ M) h1 fun p hp => hp.fold
theorem Star.unfocus {A : HA} {i : Nat} (h : Star W w (A :: Holds (L.eraseIdx i) :: M)) (hlt : i < L.length) : Star W w (Holds (L.set i A) :: M) := by
  have h3 : Star W w (A :: (L.eraseIdx i ++ M)) := h.tail fun p hp => hp.flat
  have h4 := h3.push i
  have e : (L.eraseIdx i ++ M).take i ++ A :: (L.eraseIdx i ++ M).drop i = L.set i A ++ M := by
    have hl : i ≤ (L.eraseIdx i).length := by rw [List.length_eraseIdx_of_lt hlt]; omega
    rw [List.take_append_of_le_length hl, List.drop_append_of_le_length hl, List.eraseIdx_eq_take_drop_succ, List.set_eq_take_append_cons_drop, if_pos hlt]
    have h5 : (L.take i).length = i := by rw [List.length_take]; omega
    rw [List.take_append_of_le_length (by omega), List.take_of_length_le (by omega), List.drop_append_of_le_length (by omega), List.drop_of_length_le (by omega)]
    simp
  rw [e] at h4
  exact h4.fold
end
end Go.Proofs.Ytljdkfhkpjjfgaa
