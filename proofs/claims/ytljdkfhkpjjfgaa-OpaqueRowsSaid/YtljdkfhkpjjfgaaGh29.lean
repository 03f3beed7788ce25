/- A list of 64-bit integers as an argument, opened: lemmas for the laws of ghost. -/
import Derived.Test.YtljdkfhkpjjfgaaGh28
namespace Go.Proofs.Ytljdkfhkpjjfgaa
open Go.ChangeShapes Go.WideShapes Go.Deep Go.RowKit
set_option linter.unusedVariables false

section
variable {H : Type} {enc : TypeId × Value → H} {w : World} {base : Nat} {spare : Nat → Bool} {held : Bool}
theorem ints_arg {A : Option Addr} {len cap : Nat} {d : DataW H} {ps : List MemPlace} (h : DataW.Trod enc Try.prog w base spare held 28 (.slice A len cap) d ps) (hw : ∀ x ∈ d.weights Try.prog 28, x ≤ reachBytes) :
    len * 8 ≤ 140737488351232 ∧ ∃ zs : List Int, Sl w A len 1 (intsC zs) := by
  obtain ⟨hl, hm, zs, hz, hsl⟩ := ints_open Try.underlying28 Try.underlying2 (by kernel_rfl) h
  refine ⟨?_, zs, hsl⟩
  obtain ⟨n, h0⟩ := h
  rcases open_slice Try.underlying28 h0 with ⟨hcs, _⟩ | ⟨a, len', cap', m, n', D, Pl, hcs, _, hl', hm', hmm, hx, hi⟩
  · simp [Value.cells] at hcs
    obtain ⟨rfl, rfl, rfl⟩ := hcs
    omega
  · simp [Value.cells] at hcs
    obtain ⟨rfl, rfl, rfl⟩ := hcs
    simp only [Prod.mk.injEq] at hx
    obtain ⟨rfl, _⟩ := hx
    have hb : Try.prog.bytesOf 2 = 8 := by kernel_rfl
    have := hw ((List.length ((List.range len).map D) + List.length ((List.range (m - len)).map fun j => D (len + j))) * Try.prog.bytesOf 2) (by simp only [DataW.weights, Try.underlying28]; exact List.mem_cons_self)
    rw [hb] at this
    simp only [List.length_map, List.length_range, reachBytes] at this
    omega
end
end Go.Proofs.Ytljdkfhkpjjfgaa
