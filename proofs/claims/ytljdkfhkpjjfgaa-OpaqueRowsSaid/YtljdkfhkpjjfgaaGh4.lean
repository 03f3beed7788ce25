/- Ahead of the walk of Build: lemmas for the laws of ghost. -/
import Derived.Test.YtljdkfhkpjjfgaaGh2
namespace Go.Proofs.Ytljdkfhkpjjfgaa
theorem zero3 (w : World) : (zeroValue 3).run Try.prog w = .ok (.int .i64 0) w := by kernel_rfl
open Go.RowKit
set_option linter.unusedVariables false

theorem set_same {α : Type} {ks : List α} {k : α} {j : Nat} (h : ks[j]? = some k) : ks.set j k = ks := by
  apply List.ext_getElem?
  intro i
  rw [List.getElem?_set]
  split
  · rename_i hij
    subst hij
    have := (List.getElem?_eq_some_iff.1 h).1
    rw [if_pos this, h]
  · rfl
section
variable {W w w' : World} {L M R : List HA} {sts : List Sto} {vs : List Value} {i : Nat} {s s' : Sto} {v v' : Value}
theorem Star.frame (h : Star w w' (L ++ [oldA w])) (k : Star W w R) : Star W w' (L ++ R) := by
  obtain ⟨io, hh⟩ := h
  refine ⟨⟨io.os.trans k.1.os, io.tape.trans k.1.tape, io.output.trans k.1.output⟩, ?_⟩
  obtain ⟨a, c, hL, hO, hd, ha, hc⟩ := hh.unappend
  obtain ⟨p, q, hp, _, _, hpl, _⟩ := hO
  refine Holds.append hL (k.2.up (h' := c) fun j o hj => ?_) hd ha hc
  have hlt : j < w.heap.size := (Array.getElem?_eq_some_iff.1 hj).1
  exact hpl j o ((hp j hlt).trans hj)
theorem Star.snocA {A : HA} (h : Star W w (A :: Holds L :: M)) : Star W w (Holds (L ++ [A]) :: M) := by
  have h1 : Star W w (A :: (L ++ M)) := h.tail fun p hp => hp.flat
  have h2 := h1.push L.length
  have e : (L ++ M).take L.length ++ A :: (L ++ M).drop L.length = (L ++ [A]) ++ M := by simp
  rw [e] at h2
  exact h2.fold
theorem stosC_set {j : Nat} {u : Value} (h : sts[i]? = some s) (hv : vs[i]? = some v) (hj : j < 10) (hc : (stoC s v).set j u = stoC s' v') : (stosC sts vs).set (i * 10 + j) u = stosC (sts.set i s') (vs.set i v') := by
  rw [stosC, flat_set u sto_len (sto_get h hv) hj, hc, stosC, zip_set]
theorem stosC_set1 {j : Nat} {u : Value} (h : sts[i]? = some s) (hv : vs[i]? = some v) (hj : j < 10) (hc : (stoC s v).set j u = stoC s' v) : (stosC sts vs).set (i * 10 + j) u = stosC (sts.set i s') vs := by
  have := stosC_set h hv hj hc
  rwa [set_same hv] at this
theorem movesL_set (h : sts[i]? = some s) (hv : vs[i]? = some v) : movesL (sts.set i s') (vs.set i v') = (movesL sts vs).set i (rowA 46 6 v' s'.moves.length (mvsC s'.moves)) := by
  rw [movesL, zip_set]; rfl
theorem movesL_same (h : sts[i]? = some s) (hv : vs[i]? = some v) (hm : s'.moves = s.moves) : movesL (sts.set i s') vs = movesL sts vs := by
  have := movesL_set (s' := s') (v' := v) h hv
  rw [set_same hv, hm] at this
  rw [this]
  apply set_same
  rw [movesL, List.getElem?_zipWith, h, hv]
theorem movesL_get (h : sts[i]? = some s) (hv : vs[i]? = some v) : (movesL sts vs)[i]? = some (rowA 46 6 v s.moves.length (mvsC s.moves)) := by
  rw [movesL, List.getElem?_zipWith, h, hv]
theorem movesL_snoc (hl : vs.length = sts.length) : movesL (sts ++ [s]) (vs ++ [v]) = movesL sts vs ++ [rowA 46 6 v s.moves.length (mvsC s.moves)] := by
  rw [movesL, List.zipWith_append hl.symm]; rfl
theorem movesL_len (hl : vs.length = sts.length) : (movesL sts vs).length = sts.length := by rw [movesL, List.length_zipWith, hl, Nat.min_self]
end
theorem row_cell {W w : World} {L : List HA} {g n c : Nat} {sts : List Sto} {vs : List Value} {i j : Nat} {x : Sto} {v u : Value} (h : Star W w (rowA 44 10 (.slice (some ⟨g, 0, none⟩) n c) n (stosC sts vs) :: L)) (hx : sts[i]? = some x) (hv : vs[i]? = some v) (hu : (stoC x v)[j]? = some u) (hj : j < 10) : w.cell? ⟨g, i * 10 + j, none⟩ = some u ∧ w.frozen? ⟨g, i * 10 + j, none⟩ = false := by
  have hl : (stosC sts vs).length = n * 10 := h.rowLen
  have h1 := stosC_at hx hv hj
  rw [hu] at h1
  have h2 := (List.getElem?_eq_some_iff.1 h1).1
  obtain ⟨g', e, _, _, hc, hf⟩ := h.rowAt (by omega)
  injection e with e
  injection e with e1
  subst e1
  exact ⟨by rw [hc _ (by omega), h1], hf _⟩
theorem cell_list_new (w : World) (g : Nat) (hg : w.heap.size = g) (cs : List Value) (t : TypeId) : ∀ j u, cs[j]? = some u → (w.alloc (.cells cs.toArray t)).cell? ((⟨g, 0, none⟩ : Addr).add j) = some u := by
  subst hg
  intro j u hj
  have h := ((Star.begin w).new (.cells cs.toArray t)).cell j
  rw [Addr.add_lit, Nat.zero_add, h]
  simpa using hj
theorem Try.info44 : (Try.prog.info? 44).map (fun i => (i.zero, i.size, i.bytes)) = some (some (.agg #[.int .i64 0, .int .i64 0, .int .i64 0, .int .i64 0, .int .i64 0, .int .i64 0, .int .i64 0, .int .i64 0, .int .i64 0, .slice none 0 0]), 10, 96) := by kernel_rfl
theorem Try.info46 : (Try.prog.info? 46).map (fun i => (i.zero, i.size, i.bytes)) = some (some (.agg #[.int .i64 0, .bool false, .int .i64 0, .int .i64 0, .bool false, .int .i64 0]), 6, 48) := by kernel_rfl
def bldCode (evs : List Ev) : Int := if bldOk evs then 0 else 210
/-- what a map of open stories holds -/
structure OpenM (m : List (Int × Value)) (o : Int → Option Nat) : Prop where
  nd : (m.map (·.1)).Nodup
  look : ∀ t, lookM m t = (o t).map fun i : Nat => Value.int .i64 (i : Int)
theorem openM_nil : OpenM [] (fun _ => none) := ⟨by simp, fun t => rfl⟩
theorem openM_add {m : List (Int × Value)} {o : Int → Option Nat} (h : OpenM m o) (t : Int) (i : Nat) : OpenM (updM m t (.int .i64 i)) (setO o t (some i)) :=
  ⟨updM_nodup h.nd _ _, fun s => by rw [lookM_updM, h.look, setO]; split <;> rfl⟩
theorem openM_del {m : List (Int × Value)} {o : Int → Option Nat} (h : OpenM m o) (t : Int) : OpenM (delM m t) (setO o t none) :=
  ⟨delM_nodup h.nd _, fun s => by rw [lookM_delM h.nd, h.look, setO]; split <;> rfl⟩
/-- an event that may come: what it does -/
theorem okTail_some {s : St} {e : Ev} {i : Nat} (ho : s.opn e.thread = some i) (h : okTail s e = true) : e.kind ≠ 1 ∧ e.kind ≠ 6 := by
  simp only [okTail, ho, Bool.and_eq_true, Bool.not_eq_true', first, decide_eq_false_iff_not, not_or] at h
  exact h.1
theorem okTail_none {s : St} {e : Ev} (ho : s.opn e.thread = none) (h : okTail s e = true) : e.kind = 1 ∨ e.kind = 6 := by
  simpa only [okTail, ho, first, decide_eq_true_eq] using h
end Go.Proofs.Ytljdkfhkpjjfgaa
