/-
  No cell of these rows narrows 'for every input' (looked for: loops, veiled, ifaces, maps, wideKeys, modest, calm, conditions, laid).
  DERIVED. THE GIVEN ROWS OF THIS SEAT. 2 by the template 'for every input the law returns true; each argument reads behind the call as it read before'; 0 by the template 'total and deterministic' (their statements: YtabpipdhoflgpaaTotals.lean).
  GIVEN WITH THE SEED: the statements are not yours to turn. If you find one false, say at which input.
  Laid BY PROGRAM, IN A SANDBOX (cutbox-rows.mjs): the forced cells as the released guide's own fill.sh prints them over the translation 54bc090fb43bee9b… (all of the seat's roots in one cut). By AI agents, Wed Nov 11 2026. No macro, syntax, notation, axiom, sorry.
-/
import Derived.Test.YtabpipdhoflgpaaChecked
import GoSem.Claim
import GoSem.ClaimJoined
import GoSem.ClaimMapViews
import Derived.JoinedTies
import Derived.KernelRfl
namespace Go.Proofs.Ytabpipdhoflgpaa
/- THE CELL 'sum', in the pinned program and in every row, IS THE sha256 OF THE DUMP (.gsa) THAT YtabpipdhoflgpaaProg.lean LOADS. Nothing in Lean hashes anything: it is a label: what it is worth is what the hold of that sum in a sandbox is worth. -/
noncomputable def Try.pinned : Pinned := { name := "ytabpipdhoflgpaa", sum := "54bc090fb43bee9ba22c95272698f6981517e255b1337e07a4990ef26472c050", checked := Try.checked }
namespace Rows
def none {H : Type} : Left H := { results := [], args := [] }

/-- 'quashlaw07.RedoAny': WHATEVER THE INPUT: true; the input reads as it did. -/
def redoAnySpec : ChangeSpec := { name := "redoAny", fn := fun _ => fun
  | [d1, d2, d3] => { results := [.lit (.bool true)], args := [d1, d2, d3] }
  | _ => none }
def redoAnyRow : OpenClaim := { program := "ytabpipdhoflgpaa", sum := "54bc090fb43bee9ba22c95272698f6981517e255b1337e07a4990ef26472c050", func := "quash/quashlaw07.RedoAny", spec := "redoAny", plainKeys := false, apart := false }
def RedoAnySaid : Prop := redoAnyRow.holds Try.pinned (OpenSpec.ofChange redoAnySpec)

/-- ITS FALSE NEIGHBOUR: 'it returns false'. Refute it at one input. -/
def redoAnyWrong : ChangeSpec := { name := "redoAny", fn := fun _ => fun
  | [d1, d2, d3] => { results := [.lit (.bool false)], args := [d1, d2, d3] }
  | _ => none }
def RedoAnyWrongFalsely : Prop := redoAnyRow.holds Try.pinned (OpenSpec.ofChange redoAnyWrong)

/-- 'quashlaw07.RedoPlays': WHATEVER THE INPUT: true; the input reads as it did. -/
def redoPlaysSpec : ChangeSpec := { name := "redoPlays", fn := fun _ => fun
  | [d1, d2, d3] => { results := [.lit (.bool true)], args := [d1, d2, d3] }
  | _ => none }
def redoPlaysRow : OpenClaim := { program := "ytabpipdhoflgpaa", sum := "54bc090fb43bee9ba22c95272698f6981517e255b1337e07a4990ef26472c050", func := "quash/quashlaw07.RedoPlays", spec := "redoPlays", plainKeys := false, apart := false }
def RedoPlaysSaid : Prop := redoPlaysRow.holds Try.pinned (OpenSpec.ofChange redoPlaysSpec)

/-- ITS FALSE NEIGHBOUR: 'it returns false'. Refute it at one input. -/
def redoPlaysWrong : ChangeSpec := { name := "redoPlays", fn := fun _ => fun
  | [d1, d2, d3] => { results := [.lit (.bool false)], args := [d1, d2, d3] }
  | _ => none }
def RedoPlaysWrongFalsely : Prop := redoPlaysRow.holds Try.pinned (OpenSpec.ofChange redoPlaysWrong)

/- THE SECOND FORM. 'bulk': how many values and letters a reading holds, each counted each time it is reached (what is shared counts as often as it is met; a slice's spare places count too). A statement '..UptoSaid' is the law's where the arguments, and the package variables that the reading takes, are together of bulk at most 1048576: NARROWER than '..Said'. Prove '..Said' where nothing that the law and all that it calls make is longer than what came in: it says more and counts as full. Else prove '..UptoSaid'. A law counts once. -/
mutual
def uptoBulk {H : Type} : DataW H → Nat
  | .lit (.string bytes) => bytes.length + 1
  | .lit _ => 1
  | .nil => 1
  | .ptr d => uptoBulk d + 1
  | .slice elems spare => uptoBulkAll elems + uptoBulkAll spare + 1
  | .agg parts => uptoBulkAll parts + 1
  | .iface _ d => uptoBulk d + 1
  | .map entries => uptoBulkEntries entries + 1
  | .held _ => 1
def uptoBulkAll {H : Type} : List (DataW H) → Nat
  | [] => 0
  | d :: r => uptoBulk d + uptoBulkAll r
def uptoBulkEntries {H : Type} : List (Lit × DataW H) → Nat
  | [] => 0
  | x :: r => uptoBulkEntry x + uptoBulkEntries r
def uptoBulkEntry {H : Type} : Lit × DataW H → Nat
  | (.string bytes, d) => bytes.length + uptoBulk d + 1
  | (_, d) => uptoBulk d + 1
 end
def uptoSmall : (H : Type) → List (DataW H) → Bool := fun _ ds => decide (uptoBulkAll ds ≤ 1048576)
def OpenSpec.upto (s : _root_.Go.ChangeSpec) : _root_.Go.OpenSpec := { _root_.Go.OpenSpec.ofChange s with cond := some uptoSmall }

/-- 'quashlaw07.RedoAny', WHERE WHAT IT READS IS OF BULK AT MOST 1048576: true; the input reads as it did. -/
def redoAnyUptoRow : OpenClaim := { program := "ytabpipdhoflgpaa", sum := "54bc090fb43bee9ba22c95272698f6981517e255b1337e07a4990ef26472c050", func := "quash/quashlaw07.RedoAny", spec := "redoAny", plainKeys := false, apart := false, narrowed := true }
def RedoAnyUptoSaid : Prop := redoAnyUptoRow.holds Try.pinned (OpenSpec.upto redoAnySpec)

/-- 'quashlaw07.RedoPlays', WHERE WHAT IT READS IS OF BULK AT MOST 1048576: true; the input reads as it did. -/
def redoPlaysUptoRow : OpenClaim := { program := "ytabpipdhoflgpaa", sum := "54bc090fb43bee9ba22c95272698f6981517e255b1337e07a4990ef26472c050", func := "quash/quashlaw07.RedoPlays", spec := "redoPlays", plainKeys := false, apart := false, narrowed := true }
def RedoPlaysUptoSaid : Prop := redoPlaysUptoRow.holds Try.pinned (OpenSpec.upto redoPlaysSpec)

end Rows
end Go.Proofs.Ytabpipdhoflgpaa
