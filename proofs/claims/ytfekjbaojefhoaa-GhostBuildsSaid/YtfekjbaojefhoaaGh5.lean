/- Build's switch: its code off the form; lemmas for the laws of ghost. Printed by gen_gh5.py. -/
import Derived.Test.YtfekjbaojefhoaaGh4
namespace Go.Proofs.Ytfekjbaojefhoaa
open Go.RowKit

def findBlock (n : Nat) : Code → Option Code
  | .block m c => if m = n then some (.block m c) else findBlock n c
  | .seq a b => match findBlock n a with
    | some c => some c
    | none => findBlock n b
  | .loop c => findBlock n c
  | .scope c => findBlock n c
  | .cond _ a b => match findBlock n a with
    | some c => some c
    | none => findBlock n b
  | _ => none
noncomputable def swCode : Code := (Try.f11.body.bind (findBlock 2)).getD .skip
theorem switch_exit {Q : Exit → Act → World → Prop} : ∀ e a w, Exit.then (fun a w => Q .normal a w) (fun _ _ _ => False) e a w → Q e a w := by
  intro e a w h
  cases e with
  | normal => exact h
  | _ => exact h.elim
end Go.Proofs.Ytfekjbaojefhoaa
