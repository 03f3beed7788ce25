/- GhostEnds, walked: lemmas for the laws of ghost. -/
import Derived.Test.YtljdkfhkpjjfgaaGh27
import Derived.StillTailTactics
namespace Go.Proofs.Ytljdkfhkpjjfgaa
open Go.RowKit Go.Shelf
set_option linter.unusedVariables false

theorem Stories.after {w w' : World} {L : List HA} {B : Option Addr} {m : Nat} {sts : List Sto} {vs : List Value} (hT : Stories w B m sts vs) (h : Star w w' (oldA w :: L)) : Stories w' B m sts vs :=
  ⟨hT.row.after (by omega) h, hT.ns, hT.nv, fun i s v hs hv => by
    obtain ⟨A, k, c, e, hk, hms, hb⟩ := hT.mv i s v hs hv
    exact ⟨A, k, c, e, hk, hms.after (by omega) h, hb⟩⟩
theorem Stories.slices {w : World} {B : Option Addr} {m : Nat} {sts : List Sto} {vs : List Value} (hT : Stories w B m sts vs) : ∀ v ∈ vs, ∃ a k c, v = Value.slice a k c := by
  intro v hv
  obtain ⟨i, hi, rfl⟩ := List.mem_iff_getElem.1 hv
  obtain ⟨A, k, c, e, _⟩ := hT.mv i _ _ (List.getElem?_eq_getElem (by have := hT.ns; have := hT.nv; omega)) (List.getElem?_eq_getElem hi)
  exact ⟨A, k, c, e⟩
theorem intsC_append (a b : List Int) : intsC (a ++ b) = intsC a ++ intsC b := by rw [intsC, intsC, intsC, List.map_append]
theorem intsC_get {zs : List Int} {i : Nat} {z : Int} (h : zs[i]? = some z) : (intsC zs)[i]? = some (.int .i64 z) := by rw [intsC, List.getElem?_map, h]; rfl
end Go.Proofs.Ytljdkfhkpjjfgaa
