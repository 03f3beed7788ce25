/- Reads, Writes and Point: lemmas for the laws of ghost. -/
import Derived.Test.YtljdkfhkpjjfgaaGh7
import Derived.Maps.OwnIn
import Derived.Shelf.Abstract
namespace Go.Proofs.Ytljdkfhkpjjfgaa
open Go.RowKit Go.Shelf
set_option linter.unusedVariables false
attribute [local go_sem] Oper.semAt_some

def pairC (p : Int × Int) : List Value := [.int .i64 p.1, .int .i64 p.2]
def pairsC (ps : List (Int × Int)) : List Value := (ps.map pairC).flatten
theorem pair_len {ps : List (Int × Int)} : ∀ c ∈ ps.map pairC, c.length = 2 := by intro c hc; obtain ⟨e, _, rfl⟩ := List.mem_map.1 hc; rfl
theorem pairsC_len (ps : List (Int × Int)) : (pairsC ps).length = ps.length * 2 := by rw [pairsC, flat_len pair_len, List.length_map]
theorem pairsC_at {ps : List (Int × Int)} {i j : Nat} {p : Int × Int} (h : ps[i]? = some p) (hj : j < 2) : (pairsC ps)[i * 2 + j]? = (pairC p)[j]? :=
  flat_at pair_len (by rw [List.getElem?_map, h]; rfl) hj
theorem pairsC_snoc (ps : List (Int × Int)) (p : Int × Int) : pairsC (ps ++ [p]) = pairsC ps ++ pairC p := by simp [pairsC]
theorem Try.info70 : (Try.prog.info? 70).map (fun i => (i.zero, i.size, i.bytes)) = some (some (.agg #[.int .i64 0, .int .i64 0]), 2, 16) := by kernel_rfl
def readsOf (ms : List Mv) : List (Int × Int) := (sel false ms).map fun m => (m.cell, m.x)

end Go.Proofs.Ytljdkfhkpjjfgaa
