/-
  No cell of these rows narrows 'for every input' (looked for: loops, veiled, ifaces, maps, wideKeys, modest, calm, conditions, laid).
  DERIVED. THE GIVEN ROWS OF THIS SEAT. 7 by the template 'for every input the law returns true; each argument reads behind the call as it read before'; 0 by the template 'total and deterministic' (their statements: YtljdkfhkpjjfgaaTotals.lean).
  GIVEN WITH THE SEED: the statements are not yours to turn. If you find one false, say at which input.
  Laid BY PROGRAM, IN A SANDBOX (cutbox-rows.mjs): the forced cells as the released guide's own fill.sh prints them over the translation 53c15bd4c088778e… (all of the seat's roots in one cut). By AI agents, Wed Nov 11 2026. No macro, syntax, notation, axiom, sorry.
-/
import Derived.Test.YtljdkfhkpjjfgaaChecked
import GoSem.Claim
import GoSem.ClaimJoined
import GoSem.ClaimMapViews
import Derived.JoinedTies
import Derived.KernelRfl
namespace Go.Proofs.Ytljdkfhkpjjfgaa
/- THE CELL 'sum', in the pinned program and in every row, IS THE sha256 OF THE DUMP (.gsa) THAT YtljdkfhkpjjfgaaProg.lean LOADS. Nothing in Lean hashes anything: it is a label: what it is worth is what the hold of that sum in a sandbox is worth. -/
noncomputable def Try.pinned : Pinned := { name := "ytljdkfhkpjjfgaa", sum := "53c15bd4c088778eb5c0e120247cc554ce8f02d56ee990a47961fc8c2a928eda", checked := Try.checked }
namespace Rows
def none {H : Type} : Left H := { results := [], args := [] }

/-- 'quashlaw22.OpaqueNames': WHATEVER THE INPUT: true; the input reads as it did. -/
def opaqueNamesSpec : ChangeSpec := { name := "opaqueNames", fn := fun _ => fun
  | [] => { results := [.lit (.bool true)], args := [] }
  | _ => none }
def opaqueNamesRow : OpenClaim := { program := "ytljdkfhkpjjfgaa", sum := "53c15bd4c088778eb5c0e120247cc554ce8f02d56ee990a47961fc8c2a928eda", func := "quash/quashlaw22.OpaqueNames", spec := "opaqueNames", unfollowed := true, recurses := true, apart := false }
def OpaqueNamesSaid : Prop := opaqueNamesRow.holds Try.pinned (OpenSpec.ofChange opaqueNamesSpec)

/-- ITS FALSE NEIGHBOUR: 'it returns false'. Refute it at one input. -/
def opaqueNamesWrong : ChangeSpec := { name := "opaqueNames", fn := fun _ => fun
  | [] => { results := [.lit (.bool false)], args := [] }
  | _ => none }
def OpaqueNamesWrongFalsely : Prop := opaqueNamesRow.holds Try.pinned (OpenSpec.ofChange opaqueNamesWrong)

/-- 'quashlaw22.OpaqueOrders': WHATEVER THE INPUT: true; the input reads as it did. -/
def opaqueOrdersSpec : ChangeSpec := { name := "opaqueOrders", fn := fun _ => fun
  | [d] => { results := [.lit (.bool true)], args := [d] }
  | _ => none }
def opaqueOrdersRow : OpenClaim := { program := "ytljdkfhkpjjfgaa", sum := "53c15bd4c088778eb5c0e120247cc554ce8f02d56ee990a47961fc8c2a928eda", func := "quash/quashlaw22.OpaqueOrders", spec := "opaqueOrders", unfollowed := true, recurses := true, apart := false }
def OpaqueOrdersSaid : Prop := opaqueOrdersRow.holds Try.pinned (OpenSpec.ofChange opaqueOrdersSpec)

/-- ITS FALSE NEIGHBOUR: 'it returns false'. Refute it at one input. -/
def opaqueOrdersWrong : ChangeSpec := { name := "opaqueOrders", fn := fun _ => fun
  | [d] => { results := [.lit (.bool false)], args := [d] }
  | _ => none }
def OpaqueOrdersWrongFalsely : Prop := opaqueOrdersRow.holds Try.pinned (OpenSpec.ofChange opaqueOrdersWrong)

/-- 'quashlaw22.OpaqueChecks': WHATEVER THE INPUT: true; the input reads as it did. -/
def opaqueChecksSpec : ChangeSpec := { name := "opaqueChecks", fn := fun _ => fun
  | [d1, d2, d3] => { results := [.lit (.bool true)], args := [d1, d2, d3] }
  | _ => none }
def opaqueChecksRow : OpenClaim := { program := "ytljdkfhkpjjfgaa", sum := "53c15bd4c088778eb5c0e120247cc554ce8f02d56ee990a47961fc8c2a928eda", func := "quash/quashlaw22.OpaqueChecks", spec := "opaqueChecks", unfollowed := true, recurses := true, apart := false }
def OpaqueChecksSaid : Prop := opaqueChecksRow.holds Try.pinned (OpenSpec.ofChange opaqueChecksSpec)

/-- ITS FALSE NEIGHBOUR: 'it returns false'. Refute it at one input. -/
def opaqueChecksWrong : ChangeSpec := { name := "opaqueChecks", fn := fun _ => fun
  | [d1, d2, d3] => { results := [.lit (.bool false)], args := [d1, d2, d3] }
  | _ => none }
def OpaqueChecksWrongFalsely : Prop := opaqueChecksRow.holds Try.pinned (OpenSpec.ofChange opaqueChecksWrong)

/-- 'quashlaw22.OpaqueSearches': WHATEVER THE INPUT: true; the input reads as it did. -/
def opaqueSearchesSpec : ChangeSpec := { name := "opaqueSearches", fn := fun _ => fun
  | [d1, d2] => { results := [.lit (.bool true)], args := [d1, d2] }
  | _ => none }
def opaqueSearchesRow : OpenClaim := { program := "ytljdkfhkpjjfgaa", sum := "53c15bd4c088778eb5c0e120247cc554ce8f02d56ee990a47961fc8c2a928eda", func := "quash/quashlaw22.OpaqueSearches", spec := "opaqueSearches", unfollowed := true, recurses := true, apart := false }
def OpaqueSearchesSaid : Prop := opaqueSearchesRow.holds Try.pinned (OpenSpec.ofChange opaqueSearchesSpec)

/-- ITS FALSE NEIGHBOUR: 'it returns false'. Refute it at one input. -/
def opaqueSearchesWrong : ChangeSpec := { name := "opaqueSearches", fn := fun _ => fun
  | [d1, d2] => { results := [.lit (.bool false)], args := [d1, d2] }
  | _ => none }
def OpaqueSearchesWrongFalsely : Prop := opaqueSearchesRow.holds Try.pinned (OpenSpec.ofChange opaqueSearchesWrong)

/-- 'quashlaw22.OpaqueFinds': WHATEVER THE INPUT: true; the input reads as it did. -/
def opaqueFindsSpec : ChangeSpec := { name := "opaqueFinds", fn := fun _ => fun
  | [d1, d2, d3] => { results := [.lit (.bool true)], args := [d1, d2, d3] }
  | _ => none }
def opaqueFindsRow : OpenClaim := { program := "ytljdkfhkpjjfgaa", sum := "53c15bd4c088778eb5c0e120247cc554ce8f02d56ee990a47961fc8c2a928eda", func := "quash/quashlaw22.OpaqueFinds", spec := "opaqueFinds", unfollowed := true, recurses := true, apart := false }
def OpaqueFindsSaid : Prop := opaqueFindsRow.holds Try.pinned (OpenSpec.ofChange opaqueFindsSpec)

/-- ITS FALSE NEIGHBOUR: 'it returns false'. Refute it at one input. -/
def opaqueFindsWrong : ChangeSpec := { name := "opaqueFinds", fn := fun _ => fun
  | [d1, d2, d3] => { results := [.lit (.bool false)], args := [d1, d2, d3] }
  | _ => none }
def OpaqueFindsWrongFalsely : Prop := opaqueFindsRow.holds Try.pinned (OpenSpec.ofChange opaqueFindsWrong)

/-- 'quashlaw22.OpaqueRows': WHATEVER THE INPUT: true; the input reads as it did. -/
def opaqueRowsSpec : ChangeSpec := { name := "opaqueRows", fn := fun _ => fun
  | [d1, d2, d3] => { results := [.lit (.bool true)], args := [d1, d2, d3] }
  | _ => none }
def opaqueRowsRow : OpenClaim := { program := "ytljdkfhkpjjfgaa", sum := "53c15bd4c088778eb5c0e120247cc554ce8f02d56ee990a47961fc8c2a928eda", func := "quash/quashlaw22.OpaqueRows", spec := "opaqueRows", unfollowed := true, recurses := true, apart := false }
def OpaqueRowsSaid : Prop := opaqueRowsRow.holds Try.pinned (OpenSpec.ofChange opaqueRowsSpec)

/-- ITS FALSE NEIGHBOUR: 'it returns false'. Refute it at one input. -/
def opaqueRowsWrong : ChangeSpec := { name := "opaqueRows", fn := fun _ => fun
  | [d1, d2, d3] => { results := [.lit (.bool false)], args := [d1, d2, d3] }
  | _ => none }
def OpaqueRowsWrongFalsely : Prop := opaqueRowsRow.holds Try.pinned (OpenSpec.ofChange opaqueRowsWrong)

/-- 'quashlaw22.OpaqueSwaps': WHATEVER THE INPUT: true; the input reads as it did. -/
def opaqueSwapsSpec : ChangeSpec := { name := "opaqueSwaps", fn := fun _ => fun
  | [d1, d2, d3, d4] => { results := [.lit (.bool true)], args := [d1, d2, d3, d4] }
  | _ => none }
def opaqueSwapsRow : OpenClaim := { program := "ytljdkfhkpjjfgaa", sum := "53c15bd4c088778eb5c0e120247cc554ce8f02d56ee990a47961fc8c2a928eda", func := "quash/quashlaw22.OpaqueSwaps", spec := "opaqueSwaps", unfollowed := true, recurses := true, apart := false }
def OpaqueSwapsSaid : Prop := opaqueSwapsRow.holds Try.pinned (OpenSpec.ofChange opaqueSwapsSpec)

/-- ITS FALSE NEIGHBOUR: 'it returns false'. Refute it at one input. -/
def opaqueSwapsWrong : ChangeSpec := { name := "opaqueSwaps", fn := fun _ => fun
  | [d1, d2, d3, d4] => { results := [.lit (.bool false)], args := [d1, d2, d3, d4] }
  | _ => none }
def OpaqueSwapsWrongFalsely : Prop := opaqueSwapsRow.holds Try.pinned (OpenSpec.ofChange opaqueSwapsWrong)

/- THE SECOND FORM. 'bulk': how many values and letters a reading holds, each counted each time it is reached (what is shared counts as often as it is met; a slice's spare places count too). A statement '..UptoSaid' is the law's where the arguments, and the package variables that the reading takes, are together of bulk at most 1048576: NARROWER than '..Said'. Prove '..Said' where nothing that the law and all that it calls make is longer than what came in: it says more and counts as full. Else prove '..UptoSaid'. A law counts once. -/
mutual
def uptoBulk {H : Type} : DataW H → Nat
  | .lit (.string bytes) => bytes.length + 1
  | .lit _ => 1
  | .nil => 1
  | .ptr d => uptoBulk d + 1
  | .slice elems spare => uptoBulkAll elems + uptoBulkAll spare + 1
  | .agg parts => uptoBulkAll parts + 1
  | .iface _ d => uptoBulk d + 1
  | .map entries => uptoBulkEntries entries + 1
  | .held _ => 1
def uptoBulkAll {H : Type} : List (DataW H) → Nat
  | [] => 0
  | d :: r => uptoBulk d + uptoBulkAll r
def uptoBulkEntries {H : Type} : List (Lit × DataW H) → Nat
  | [] => 0
  | x :: r => uptoBulkEntry x + uptoBulkEntries r
def uptoBulkEntry {H : Type} : Lit × DataW H → Nat
  | (.string bytes, d) => bytes.length + uptoBulk d + 1
  | (_, d) => uptoBulk d + 1
 end
def uptoSmall : (H : Type) → List (DataW H) → Bool := fun _ ds => decide (uptoBulkAll ds ≤ 1048576)
def OpenSpec.upto (s : _root_.Go.ChangeSpec) : _root_.Go.OpenSpec := { _root_.Go.OpenSpec.ofChange s with cond := some uptoSmall }

/-- 'quashlaw22.OpaqueNames', WHERE WHAT IT READS IS OF BULK AT MOST 1048576: true; the input reads as it did. -/
def opaqueNamesUptoRow : OpenClaim := { program := "ytljdkfhkpjjfgaa", sum := "53c15bd4c088778eb5c0e120247cc554ce8f02d56ee990a47961fc8c2a928eda", func := "quash/quashlaw22.OpaqueNames", spec := "opaqueNames", unfollowed := true, recurses := true, apart := false, narrowed := true }
def OpaqueNamesUptoSaid : Prop := opaqueNamesUptoRow.holds Try.pinned (OpenSpec.upto opaqueNamesSpec)

/-- 'quashlaw22.OpaqueOrders', WHERE WHAT IT READS IS OF BULK AT MOST 1048576: true; the input reads as it did. -/
def opaqueOrdersUptoRow : OpenClaim := { program := "ytljdkfhkpjjfgaa", sum := "53c15bd4c088778eb5c0e120247cc554ce8f02d56ee990a47961fc8c2a928eda", func := "quash/quashlaw22.OpaqueOrders", spec := "opaqueOrders", unfollowed := true, recurses := true, apart := false, narrowed := true }
def OpaqueOrdersUptoSaid : Prop := opaqueOrdersUptoRow.holds Try.pinned (OpenSpec.upto opaqueOrdersSpec)

/-- 'quashlaw22.OpaqueChecks', WHERE WHAT IT READS IS OF BULK AT MOST 1048576: true; the input reads as it did. -/
def opaqueChecksUptoRow : OpenClaim := { program := "ytljdkfhkpjjfgaa", sum := "53c15bd4c088778eb5c0e120247cc554ce8f02d56ee990a47961fc8c2a928eda", func := "quash/quashlaw22.OpaqueChecks", spec := "opaqueChecks", unfollowed := true, recurses := true, apart := false, narrowed := true }
def OpaqueChecksUptoSaid : Prop := opaqueChecksUptoRow.holds Try.pinned (OpenSpec.upto opaqueChecksSpec)

/-- 'quashlaw22.OpaqueSearches', WHERE WHAT IT READS IS OF BULK AT MOST 1048576: true; the input reads as it did. -/
def opaqueSearchesUptoRow : OpenClaim := { program := "ytljdkfhkpjjfgaa", sum := "53c15bd4c088778eb5c0e120247cc554ce8f02d56ee990a47961fc8c2a928eda", func := "quash/quashlaw22.OpaqueSearches", spec := "opaqueSearches", unfollowed := true, recurses := true, apart := false, narrowed := true }
def OpaqueSearchesUptoSaid : Prop := opaqueSearchesUptoRow.holds Try.pinned (OpenSpec.upto opaqueSearchesSpec)

/-- 'quashlaw22.OpaqueFinds', WHERE WHAT IT READS IS OF BULK AT MOST 1048576: true; the input reads as it did. -/
def opaqueFindsUptoRow : OpenClaim := { program := "ytljdkfhkpjjfgaa", sum := "53c15bd4c088778eb5c0e120247cc554ce8f02d56ee990a47961fc8c2a928eda", func := "quash/quashlaw22.OpaqueFinds", spec := "opaqueFinds", unfollowed := true, recurses := true, apart := false, narrowed := true }
def OpaqueFindsUptoSaid : Prop := opaqueFindsUptoRow.holds Try.pinned (OpenSpec.upto opaqueFindsSpec)

/-- 'quashlaw22.OpaqueRows', WHERE WHAT IT READS IS OF BULK AT MOST 1048576: true; the input reads as it did. -/
def opaqueRowsUptoRow : OpenClaim := { program := "ytljdkfhkpjjfgaa", sum := "53c15bd4c088778eb5c0e120247cc554ce8f02d56ee990a47961fc8c2a928eda", func := "quash/quashlaw22.OpaqueRows", spec := "opaqueRows", unfollowed := true, recurses := true, apart := false, narrowed := true }
def OpaqueRowsUptoSaid : Prop := opaqueRowsUptoRow.holds Try.pinned (OpenSpec.upto opaqueRowsSpec)

/-- 'quashlaw22.OpaqueSwaps', WHERE WHAT IT READS IS OF BULK AT MOST 1048576: true; the input reads as it did. -/
def opaqueSwapsUptoRow : OpenClaim := { program := "ytljdkfhkpjjfgaa", sum := "53c15bd4c088778eb5c0e120247cc554ce8f02d56ee990a47961fc8c2a928eda", func := "quash/quashlaw22.OpaqueSwaps", spec := "opaqueSwaps", unfollowed := true, recurses := true, apart := false, narrowed := true }
def OpaqueSwapsUptoSaid : Prop := opaqueSwapsUptoRow.holds Try.pinned (OpenSpec.upto opaqueSwapsSpec)

end Rows
end Go.Proofs.Ytljdkfhkpjjfgaa
