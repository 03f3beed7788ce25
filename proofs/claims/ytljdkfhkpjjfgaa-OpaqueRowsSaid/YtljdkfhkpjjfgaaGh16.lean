/- slices.Clone; the sort of at most one: lemmas for the laws of ghost. -/
import Derived.Test.YtljdkfhkpjjfgaaGh14
namespace Go.Proofs.Ytljdkfhkpjjfgaa
open Go.RowKit Go.Shelf
set_option linter.unusedVariables false

theorem Try.info2 : (Try.prog.info? 2).map (fun i => (i.zero, i.size, i.bytes)) = some (some (.int .i64 0), 1, 8) := by kernel_rfl
theorem intsC_len (zs : List Int) : (intsC zs).length = zs.length := by rw [intsC, List.length_map]
theorem intsC_one (zs : List Int) : ∀ u ∈ intsC zs, u.oneCell' = true := by
  intro u hu
  obtain ⟨z, _, rfl⟩ := List.mem_map.1 hu
  rfl
end Go.Proofs.Ytljdkfhkpjjfgaa
