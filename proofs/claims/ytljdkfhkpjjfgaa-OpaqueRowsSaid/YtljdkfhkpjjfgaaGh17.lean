/- Final, over what the sort says: lemmas for the laws of ghost. Printed by gen_gh17.py. -/
import Derived.Test.YtljdkfhkpjjfgaaGh16
namespace Go.Proofs.Ytljdkfhkpjjfgaa
open Go.RowKit Go.Shelf
set_option linter.unusedVariables false

/-- a list of stories that lies in a world -/
structure Stories (w : World) (B : Option Addr) (m : Nat) (sts : List Sto) (vs : List Value) : Prop where
  row : Sl w B m 10 (stosC sts vs)
  ns : sts.length = m
  nv : vs.length = m
  mv : ∀ (i : Nat) (s : Sto) (v : Value), sts[i]? = some s → vs[i]? = some v → ∃ A k c, v = Value.slice A k c ∧ s.moves.length = k ∧ Sl w A k 6 (mvsC s.moves) ∧ k * 48 ≤ 140737488355328
theorem Sl.blk {w : World} {A : Option Addr} {k size : Nat} {xs : List Value} (hS : Sl w A k size xs) (hs : 0 < size) : ∀ g o, A = some ⟨g, o, none⟩ → 0 < k → g < w.heap.size := by
  rintro g o rfl h0
  obtain ⟨g', o', e, hg, _⟩ := hS.row h0 hs
  injection e with e
  injection e with e1 e2
  subst e1
  exact hg
theorem Sl.after {w w' : World} {L : List HA} {A : Option Addr} {k size : Nat} {xs : List Value} (hS : Sl w A k size xs) (hs : 0 < size) (h : Star w w' (oldA w :: L)) : Sl w' A k size xs := ⟨hS.1, fun h0 => by
    obtain ⟨g, o, e, hc⟩ := hS.2 h0
    exact ⟨g, o, e, fun j u hu => (h.oldCell (p := ⟨g, o + j, none⟩) (hS.blk hs g o e h0)).trans (hc j u hu)⟩⟩
def putC (out : List Int) (p : Int × Int) : List Int := if 0 ≤ p.1 ∧ p.1 < out.length then out.set p.1.toNat p.2 else out
theorem putC_len (out : List Int) (p : Int × Int) : (putC out p).length = out.length := by unfold putC; split <;> simp
theorem puts_len : ∀ (ps : List (Int × Int)) (out : List Int), (ps.foldl putC out).length = out.length
  | [], out => rfl
  | p :: ps, out => by rw [List.foldl_cons, puts_len ps, putC_len]
def putS (sts : List Sto) (out : List Int) (i : Nat) : List Int := match sts[i]? with | some s => (writesOf s.moves).foldl putC out | none => out
theorem putS_len (sts : List Sto) (out : List Int) (i : Nat) : (putS sts out i).length = out.length := by
  unfold putS
  split
  · exact puts_len _ _
  · rfl
def finalOf (sts : List Sto) (ord : List Nat) (zs : List Int) : List Int := ord.foldl (putS sts) zs
theorem final_len (sts : List Sto) : ∀ (ord : List Nat) (zs : List Int), (finalOf sts ord zs).length = zs.length
  | [], zs => rfl
  | i :: ord, zs => by
    have := final_len sts ord (putS sts zs i)
    rw [putS_len] at this
    exact this
def natsC (l : List Nat) : List Value := l.map fun i : Nat => .int .i64 (i : Int)
def byOf (sts : List Sto) (j : Nat) : List Nat := (List.range j).filter fun i => (sts[i]?.map (·.fate)) == some 1
theorem byOf_succ {sts : List Sto} {j : Nat} {s : Sto} (h : sts[j]? = some s) : byOf sts (j + 1) = byOf sts j ++ (if s.fate = 1 then [j] else []) := by
  rw [byOf, List.range_succ, List.filter_append, byOf]
  congr 1
  by_cases hf : s.fate = 1 <;> simp [h, hf]
theorem byOf_len (sts : List Sto) (j : Nat) : (byOf sts j).length ≤ j := by
  have := List.length_filter_le (fun i => (sts[i]?.map (·.fate)) == some 1) (List.range j)
  rw [List.length_range] at this
  exact this
theorem Try.info3 : (Try.prog.info? 3).map (fun i => (i.zero, i.size, i.bytes)) = some (some (.int .i64 0), 1, 8) := by kernel_rfl
end Go.Proofs.Ytljdkfhkpjjfgaa
