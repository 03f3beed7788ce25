/-
  No cell of these rows narrows 'for every input' (looked for: loops, veiled, ifaces, maps, wideKeys, modest, calm, conditions, laid).
  DERIVED. THE GIVEN ROWS OF THIS SEAT. 6 by the template 'for every input the law returns true; each argument reads behind the call as it read before'; 0 by the template 'total and deterministic' (their statements: YtfekjbaojefhoaaTotals.lean).
  GIVEN WITH THE SEED: the statements are not yours to turn. If you find one false, say at which input.
  Laid BY PROGRAM, IN A SANDBOX (cutbox-rows.mjs): the forced cells as the released guide's own fill.sh prints them over the translation 62e937119929eedb… (all of the seat's roots in one cut). By AI agents, Wed Nov 11 2026. No macro, syntax, notation, axiom, sorry.
-/
import Derived.Test.YtfekjbaojefhoaaChecked
import GoSem.Claim
import GoSem.ClaimJoined
import GoSem.ClaimMapViews
import Derived.JoinedTies
import Derived.KernelRfl
namespace Go.Proofs.Ytfekjbaojefhoaa
/- THE CELL 'sum', in the pinned program and in every row, IS THE sha256 OF THE DUMP (.gsa) THAT YtfekjbaojefhoaaProg.lean LOADS. Nothing in Lean hashes anything: it is a label: what it is worth is what the hold of that sum in a sandbox is worth. -/
noncomputable def Try.pinned : Pinned := { name := "ytfekjbaojefhoaa", sum := "62e937119929eedb1f2e08542f8fee5dae503a0053f7a0fcb519de9c7b1f6de0", checked := Try.checked }
namespace Rows
def none {H : Type} : Left H := { results := [], args := [] }

/-- 'quashlaw21.GhostNames': WHATEVER THE INPUT: true; the input reads as it did. -/
def ghostNamesSpec : ChangeSpec := { name := "ghostNames", fn := fun _ => fun
  | [] => { results := [.lit (.bool true)], args := [] }
  | _ => none }
def ghostNamesRow : OpenClaim := { program := "ytfekjbaojefhoaa", sum := "62e937119929eedb1f2e08542f8fee5dae503a0053f7a0fcb519de9c7b1f6de0", func := "quash/quashlaw21.GhostNames", spec := "ghostNames", unfollowed := true, recurses := true, apart := false }
def GhostNamesSaid : Prop := ghostNamesRow.holds Try.pinned (OpenSpec.ofChange ghostNamesSpec)

/-- ITS FALSE NEIGHBOUR: 'it returns false'. Refute it at one input. -/
def ghostNamesWrong : ChangeSpec := { name := "ghostNames", fn := fun _ => fun
  | [] => { results := [.lit (.bool false)], args := [] }
  | _ => none }
def GhostNamesWrongFalsely : Prop := ghostNamesRow.holds Try.pinned (OpenSpec.ofChange ghostNamesWrong)

/-- 'quashlaw21.GhostBuilds': WHATEVER THE INPUT: true; the input reads as it did. -/
def ghostBuildsSpec : ChangeSpec := { name := "ghostBuilds", fn := fun _ => fun
  | [d] => { results := [.lit (.bool true)], args := [d] }
  | _ => none }
def ghostBuildsRow : OpenClaim := { program := "ytfekjbaojefhoaa", sum := "62e937119929eedb1f2e08542f8fee5dae503a0053f7a0fcb519de9c7b1f6de0", func := "quash/quashlaw21.GhostBuilds", spec := "ghostBuilds", unfollowed := true, recurses := true, apart := false }
def GhostBuildsSaid : Prop := ghostBuildsRow.holds Try.pinned (OpenSpec.ofChange ghostBuildsSpec)

/-- ITS FALSE NEIGHBOUR: 'it returns false'. Refute it at one input. -/
def ghostBuildsWrong : ChangeSpec := { name := "ghostBuilds", fn := fun _ => fun
  | [d] => { results := [.lit (.bool false)], args := [d] }
  | _ => none }
def GhostBuildsWrongFalsely : Prop := ghostBuildsRow.holds Try.pinned (OpenSpec.ofChange ghostBuildsWrong)

/-- 'quashlaw21.GhostTells': WHATEVER THE INPUT: true; the input reads as it did. -/
def ghostTellsSpec : ChangeSpec := { name := "ghostTells", fn := fun _ => fun
  | [d] => { results := [.lit (.bool true)], args := [d] }
  | _ => none }
def ghostTellsRow : OpenClaim := { program := "ytfekjbaojefhoaa", sum := "62e937119929eedb1f2e08542f8fee5dae503a0053f7a0fcb519de9c7b1f6de0", func := "quash/quashlaw21.GhostTells", spec := "ghostTells", unfollowed := true, recurses := true, apart := false }
def GhostTellsSaid : Prop := ghostTellsRow.holds Try.pinned (OpenSpec.ofChange ghostTellsSpec)

/-- ITS FALSE NEIGHBOUR: 'it returns false'. Refute it at one input. -/
def ghostTellsWrong : ChangeSpec := { name := "ghostTells", fn := fun _ => fun
  | [d] => { results := [.lit (.bool false)], args := [d] }
  | _ => none }
def GhostTellsWrongFalsely : Prop := ghostTellsRow.holds Try.pinned (OpenSpec.ofChange ghostTellsWrong)

/-- 'quashlaw21.GhostEnds': WHATEVER THE INPUT: true; the input reads as it did. -/
def ghostEndsSpec : ChangeSpec := { name := "ghostEnds", fn := fun _ => fun
  | [d1, d2] => { results := [.lit (.bool true)], args := [d1, d2] }
  | _ => none }
def ghostEndsRow : OpenClaim := { program := "ytfekjbaojefhoaa", sum := "62e937119929eedb1f2e08542f8fee5dae503a0053f7a0fcb519de9c7b1f6de0", func := "quash/quashlaw21.GhostEnds", spec := "ghostEnds", unfollowed := true, recurses := true, apart := false }
def GhostEndsSaid : Prop := ghostEndsRow.holds Try.pinned (OpenSpec.ofChange ghostEndsSpec)

/-- ITS FALSE NEIGHBOUR: 'it returns false'. Refute it at one input. -/
def ghostEndsWrong : ChangeSpec := { name := "ghostEnds", fn := fun _ => fun
  | [d1, d2] => { results := [.lit (.bool false)], args := [d1, d2] }
  | _ => none }
def GhostEndsWrongFalsely : Prop := ghostEndsRow.holds Try.pinned (OpenSpec.ofChange ghostEndsWrong)

/-- 'quashlaw21.GhostGrows': WHATEVER THE INPUT: true; the input reads as it did. -/
def ghostGrowsSpec : ChangeSpec := { name := "ghostGrows", fn := fun _ => fun
  | [d1, d2] => { results := [.lit (.bool true)], args := [d1, d2] }
  | _ => none }
def ghostGrowsRow : OpenClaim := { program := "ytfekjbaojefhoaa", sum := "62e937119929eedb1f2e08542f8fee5dae503a0053f7a0fcb519de9c7b1f6de0", func := "quash/quashlaw21.GhostGrows", spec := "ghostGrows", unfollowed := true, recurses := true, apart := false }
def GhostGrowsSaid : Prop := ghostGrowsRow.holds Try.pinned (OpenSpec.ofChange ghostGrowsSpec)

/-- ITS FALSE NEIGHBOUR: 'it returns false'. Refute it at one input. -/
def ghostGrowsWrong : ChangeSpec := { name := "ghostGrows", fn := fun _ => fun
  | [d1, d2] => { results := [.lit (.bool false)], args := [d1, d2] }
  | _ => none }
def GhostGrowsWrongFalsely : Prop := ghostGrowsRow.holds Try.pinned (OpenSpec.ofChange ghostGrowsWrong)

/-- 'quashlaw21.GhostApart': WHATEVER THE INPUT: true; the input reads as it did. -/
def ghostApartSpec : ChangeSpec := { name := "ghostApart", fn := fun _ => fun
  | [d1, d2] => { results := [.lit (.bool true)], args := [d1, d2] }
  | _ => none }
def ghostApartRow : OpenClaim := { program := "ytfekjbaojefhoaa", sum := "62e937119929eedb1f2e08542f8fee5dae503a0053f7a0fcb519de9c7b1f6de0", func := "quash/quashlaw21.GhostApart", spec := "ghostApart", unfollowed := true, recurses := true, apart := false }
def GhostApartSaid : Prop := ghostApartRow.holds Try.pinned (OpenSpec.ofChange ghostApartSpec)

/-- ITS FALSE NEIGHBOUR: 'it returns false'. Refute it at one input. -/
def ghostApartWrong : ChangeSpec := { name := "ghostApart", fn := fun _ => fun
  | [d1, d2] => { results := [.lit (.bool false)], args := [d1, d2] }
  | _ => none }
def GhostApartWrongFalsely : Prop := ghostApartRow.holds Try.pinned (OpenSpec.ofChange ghostApartWrong)

/- THE SECOND FORM. 'bulk': how many values and letters a reading holds, each counted each time it is reached (what is shared counts as often as it is met; a slice's spare places count too). A statement '..UptoSaid' is the law's where the arguments, and the package variables that the reading takes, are together of bulk at most 1048576: NARROWER than '..Said'. Prove '..Said' where nothing that the law and all that it calls make is longer than what came in: it says more and counts as full. Else prove '..UptoSaid'. A law counts once. -/
mutual
def uptoBulk {H : Type} : DataW H → Nat
  | .lit (.string bytes) => bytes.length + 1
  | .lit _ => 1
  | .nil => 1
  | .ptr d => uptoBulk d + 1
  | .slice elems spare => uptoBulkAll elems + uptoBulkAll spare + 1
  | .agg parts => uptoBulkAll parts + 1
  | .iface _ d => uptoBulk d + 1
  | .map entries => uptoBulkEntries entries + 1
  | .held _ => 1
def uptoBulkAll {H : Type} : List (DataW H) → Nat
  | [] => 0
  | d :: r => uptoBulk d + uptoBulkAll r
def uptoBulkEntries {H : Type} : List (Lit × DataW H) → Nat
  | [] => 0
  | x :: r => uptoBulkEntry x + uptoBulkEntries r
def uptoBulkEntry {H : Type} : Lit × DataW H → Nat
  | (.string bytes, d) => bytes.length + uptoBulk d + 1
  | (_, d) => uptoBulk d + 1
 end
def uptoSmall : (H : Type) → List (DataW H) → Bool := fun _ ds => decide (uptoBulkAll ds ≤ 1048576)
def OpenSpec.upto (s : _root_.Go.ChangeSpec) : _root_.Go.OpenSpec := { _root_.Go.OpenSpec.ofChange s with cond := some uptoSmall }

/-- 'quashlaw21.GhostNames', WHERE WHAT IT READS IS OF BULK AT MOST 1048576: true; the input reads as it did. -/
def ghostNamesUptoRow : OpenClaim := { program := "ytfekjbaojefhoaa", sum := "62e937119929eedb1f2e08542f8fee5dae503a0053f7a0fcb519de9c7b1f6de0", func := "quash/quashlaw21.GhostNames", spec := "ghostNames", unfollowed := true, recurses := true, apart := false, narrowed := true }
def GhostNamesUptoSaid : Prop := ghostNamesUptoRow.holds Try.pinned (OpenSpec.upto ghostNamesSpec)

/-- 'quashlaw21.GhostBuilds', WHERE WHAT IT READS IS OF BULK AT MOST 1048576: true; the input reads as it did. -/
def ghostBuildsUptoRow : OpenClaim := { program := "ytfekjbaojefhoaa", sum := "62e937119929eedb1f2e08542f8fee5dae503a0053f7a0fcb519de9c7b1f6de0", func := "quash/quashlaw21.GhostBuilds", spec := "ghostBuilds", unfollowed := true, recurses := true, apart := false, narrowed := true }
def GhostBuildsUptoSaid : Prop := ghostBuildsUptoRow.holds Try.pinned (OpenSpec.upto ghostBuildsSpec)

/-- 'quashlaw21.GhostTells', WHERE WHAT IT READS IS OF BULK AT MOST 1048576: true; the input reads as it did. -/
def ghostTellsUptoRow : OpenClaim := { program := "ytfekjbaojefhoaa", sum := "62e937119929eedb1f2e08542f8fee5dae503a0053f7a0fcb519de9c7b1f6de0", func := "quash/quashlaw21.GhostTells", spec := "ghostTells", unfollowed := true, recurses := true, apart := false, narrowed := true }
def GhostTellsUptoSaid : Prop := ghostTellsUptoRow.holds Try.pinned (OpenSpec.upto ghostTellsSpec)

/-- 'quashlaw21.GhostEnds', WHERE WHAT IT READS IS OF BULK AT MOST 1048576: true; the input reads as it did. -/
def ghostEndsUptoRow : OpenClaim := { program := "ytfekjbaojefhoaa", sum := "62e937119929eedb1f2e08542f8fee5dae503a0053f7a0fcb519de9c7b1f6de0", func := "quash/quashlaw21.GhostEnds", spec := "ghostEnds", unfollowed := true, recurses := true, apart := false, narrowed := true }
def GhostEndsUptoSaid : Prop := ghostEndsUptoRow.holds Try.pinned (OpenSpec.upto ghostEndsSpec)

/-- 'quashlaw21.GhostGrows', WHERE WHAT IT READS IS OF BULK AT MOST 1048576: true; the input reads as it did. -/
def ghostGrowsUptoRow : OpenClaim := { program := "ytfekjbaojefhoaa", sum := "62e937119929eedb1f2e08542f8fee5dae503a0053f7a0fcb519de9c7b1f6de0", func := "quash/quashlaw21.GhostGrows", spec := "ghostGrows", unfollowed := true, recurses := true, apart := false, narrowed := true }
def GhostGrowsUptoSaid : Prop := ghostGrowsUptoRow.holds Try.pinned (OpenSpec.upto ghostGrowsSpec)

/-- 'quashlaw21.GhostApart', WHERE WHAT IT READS IS OF BULK AT MOST 1048576: true; the input reads as it did. -/
def ghostApartUptoRow : OpenClaim := { program := "ytfekjbaojefhoaa", sum := "62e937119929eedb1f2e08542f8fee5dae503a0053f7a0fcb519de9c7b1f6de0", func := "quash/quashlaw21.GhostApart", spec := "ghostApart", unfollowed := true, recurses := true, apart := false, narrowed := true }
def GhostApartUptoSaid : Prop := ghostApartUptoRow.holds Try.pinned (OpenSpec.upto ghostApartSpec)

end Rows
end Go.Proofs.Ytfekjbaojefhoaa
