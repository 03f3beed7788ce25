/- The document's Build: its switch off the form, its open places; lemmas for the laws of ghost. Printed by gen_gh22.py. -/
import Derived.Test.YtfekjbaojefhoaaGh5
namespace Go.Proofs.Ytfekjbaojefhoaa
open Go.RowKit
set_option linter.unusedVariables false

noncomputable def rwCode : Code := (Try.f10.body.bind (findBlock 2)).getD .skip
def ixV (o : Option Nat) : Int := match o with | some i => (i : Int) + 1 | none => 0
def opnC (o : Int → Option Nat) : List Value := (List.range 9).map fun t : Nat => .int .i64 (ixV (o t))
theorem opn_get (o : Int → Option Nat) {t : Nat} (h : t < 9) : (opnC o).toArray[t]? = some (.int .i64 (ixV (o t))) := by
  rw [List.getElem?_toArray, opnC, List.getElem?_map, List.getElem?_range h]; rfl
theorem opn_set (o : Int → Option Nat) {t : Nat} (h : t < 9) (v : Option Nat) : (opnC o).toArray.setIfInBounds t (.int .i64 (ixV v)) = (opnC (setO o t v)).toArray := by
  rw [List.setIfInBounds_toArray]
  congr 1
  refine List.ext_getElem? fun i => ?_
  rw [List.getElem?_set]
  by_cases hi : t = i
  · subst hi
    rw [if_pos rfl, if_pos (by simpa [opnC] using h), opnC, List.getElem?_map, List.getElem?_range h]
    simp [setO]
  · rw [if_neg hi]
    by_cases h9 : i < 9
    · rw [opnC, opnC, List.getElem?_map, List.getElem?_map, List.getElem?_range h9]
      have : ¬ (t : Int) = (i : Int) := by omega
      simp [setO, this]
    · rw [List.getElem?_eq_none (by simp [opnC]; omega), List.getElem?_eq_none (by simp [opnC]; omega)]
end Go.Proofs.Ytfekjbaojefhoaa
