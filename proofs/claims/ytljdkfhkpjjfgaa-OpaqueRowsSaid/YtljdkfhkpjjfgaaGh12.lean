/- samePairs, sameCells: lemmas for the laws of ghost. Printed by gen_gh12.py. -/
import Derived.Test.YtljdkfhkpjjfgaaGh11
namespace Go.Proofs.Ytljdkfhkpjjfgaa
open Go.RowKit Go.Shelf
set_option linter.unusedVariables false

def intsC (zs : List Int) : List Value := zs.map fun z => .int .i64 z
end Go.Proofs.Ytljdkfhkpjjfgaa
