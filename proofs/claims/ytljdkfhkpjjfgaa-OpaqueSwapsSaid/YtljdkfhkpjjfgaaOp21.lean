/- A list of places as an argument, opened: lemmas for the laws of layer 22. -/
import Derived.Test.YtljdkfhkpjjfgaaOp20
import Derived.Test.YtljdkfhkpjjfgaaGh29
namespace Go.Proofs.Ytljdkfhkpjjfgaa
open Go.ChangeShapes Go.WideShapes Go.Deep Go.RowKit
set_option linter.unusedVariables false

section
variable {H : Type} {enc : TypeId × Value → H} {w : World} {base : Nat} {spare : Nat → Bool} {held : Bool}
theorem places_arg {A : Option Addr} {len cap : Nat} {d : DataW H} {ps : List MemPlace} (h : DataW.Trod enc Try.prog w base spare held 24 (.slice A len cap) d ps) (hw : ∀ x ∈ d.weights Try.prog 24, x ≤ reachBytes) :
    len * 8 ≤ 140737488351232 ∧ ∃ zs : List Int, Sl w A len 1 (intsC zs) := by
  obtain ⟨hl, hm, zs, hz, hsl⟩ := ints_open Try.underlying24 Try.underlying3 (by kernel_rfl) h
  refine ⟨?_, zs, hsl⟩
  obtain ⟨n, h0⟩ := h
  rcases open_slice Try.underlying24 h0 with ⟨hcs, _⟩ | ⟨a, len', cap', m, n', D, Pl, hcs, _, hl', hm', hmm, hx, hi⟩
  · simp [Value.cells] at hcs
    obtain ⟨rfl, rfl, rfl⟩ := hcs
    omega
  · simp [Value.cells] at hcs
    obtain ⟨rfl, rfl, rfl⟩ := hcs
    simp only [Prod.mk.injEq] at hx
    obtain ⟨rfl, _⟩ := hx
    have hb : Try.prog.bytesOf 3 = 8 := by kernel_rfl
    have := hw ((List.length ((List.range len).map D) + List.length ((List.range (m - len)).map fun j => D (len + j))) * Try.prog.bytesOf 3) (by simp only [DataW.weights, Try.underlying24]; exact List.mem_cons_self)
    rw [hb] at this
    simp only [List.length_map, List.length_range, reachBytes] at this
    omega
end
end Go.Proofs.Ytljdkfhkpjjfgaa
