/- Contracts of the stack and of the reference, walked: lemmas for the laws of the stack. -/
import Derived.Test.YtaobddimjccbnaaT2
namespace Go.Proofs.Ytaobddimjccbnaa
open Go.RowKit
set_option linter.unusedVariables false

set_option maxHeartbeats 1000000 in
set_option maxRecDepth 100000 in
theorem awake_any (R : List HA) (W w : World) (hS : Star W w R) :
    Calls Try.prog 6 #[] w fun e w' => e = .returned (.bool true) ∧ Star W w' R := by
  go_enter Try.func6, Try.ntmps6
  go_wp2_with fail
  refine (new_bad 257 _ (by omega)).mono ?_
  rintro e w1 ⟨rfl, rfl⟩
  go_wp2_with fail
  refine (new_ok 2 R W _ hS (by omega) (by omega)).mono ?_
  rintro e w1 ⟨b, rfl, hS1⟩
  go_wp2_with fail
  refine (push_ok b 2 [] 5 R W _ hS1 (by simp) (by simp)).mono ?_
  rintro e w2 ⟨rfl, hS2⟩
  go_wp2_with fail
  refine (push_ok b 2 [5] 6 R W _ hS2 (by simp) (by simp)).mono ?_
  rintro e w3 ⟨rfl, hS3⟩
  go_wp2_with fail
  refine (push_full b 2 [5, 6] 7 R W _ hS3 (by simp)).mono ?_
  rintro e w4 ⟨rfl, hS4⟩
  go_wp2_with fail
  refine (peek_in b 2 [5, 6] 1 R W _ hS4 (by omega) (by simp)).mono ?_
  rintro e w5 ⟨rfl, hS5⟩
  go_wp2_with fail
  refine (swap_ok b 2 [] 5 6 R W _ hS5).mono ?_
  rintro e w6 ⟨rfl, hS6⟩
  go_wp2_with fail
  refine (pop_some b 2 [6] 5 R W _ hS6).mono ?_
  rintro e w7 ⟨rfl, hS7⟩
  go_wp2_with fail
  refine (len_any b 2 [6] R W _ hS7).mono ?_
  rintro e w8 ⟨rfl, rfl⟩
  go_wp2
  go_ret
  exact ⟨rfl, hS7.drop⟩
end Go.Proofs.Ytaobddimjccbnaa
