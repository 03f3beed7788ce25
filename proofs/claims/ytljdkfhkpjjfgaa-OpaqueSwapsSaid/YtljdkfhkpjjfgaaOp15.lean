/- The document's example: lemmas for the laws of layer 22. -/
import Derived.Test.YtljdkfhkpjjfgaaOp14
import Derived.KernelRfl
namespace Go.Proofs.Ytljdkfhkpjjfgaa
open Go.RowKit Go.Shelf
set_option linter.unusedVariables false

def sts3 : List Sto := [⟨0, 1, 1, 5, 1, 0, 0, 0, 3, [⟨3, false, 0, 0, false, 2⟩, ⟨4, true, 0, 1, false, 0⟩]⟩, ⟨0, 6, 6, 0, 0, 0, 0, 0, 0, [⟨9, false, 0, 1, false, 4⟩]⟩, ⟨1, 2, 2, 8, 2, 0, 0, 0, 0, [⟨4, false, 0, 0, false, 2⟩]⟩]
theorem three_order : orderOf sts3 = [2, 0, 1] := by kernel_rfl
theorem three_fine : checkP [] sts3 [2, 0, 1] = (0, 0) := by kernel_rfl
theorem three_read : checkP [] sts3 [0, 2, 1] = (222, 1) := by kernel_rfl
theorem three_time : checkP [] sts3 [1, 0, 2] = (221, 1) := by kernel_rfl
/-- the same search, by one list's function -/
def tryQ (sts : List Sto) (n : Nat) : Nat → Cells → List Nat → Option (List Nat)
  | 0, f, ord => some ord
  | r + 1, f, ord => (List.range n).findSome? fun i => if mayP sts n f ord i then tryQ sts n r (putsF f (leftOf (stAt sts i))) (ord ++ [i]) else none
theorem first_find (sts : List Sto) (n r : Nat) (f : Cells) (ord : List Nat) : ∀ is, firstP sts n r f ord is = is.findSome? fun i => if mayP sts n f ord i then tryP sts n r (putsF f (leftOf (stAt sts i))) (ord ++ [i]) else none
  | [] => by rw [firstP, List.findSome?_nil]
  | i :: is => by
    rw [firstP, List.findSome?_cons, first_find sts n r f ord is]
    by_cases h : mayP sts n f ord i = true
    · rw [if_pos h, if_pos h]
      cases tryP sts n r (putsF f (leftOf (stAt sts i))) (ord ++ [i]) <;> rfl
    · rw [if_neg h, if_neg h]
theorem try_q (sts : List Sto) (n : Nat) : ∀ r f ord, tryP sts n r f ord = tryQ sts n r f ord
  | 0, f, ord => by rw [tryP, tryQ]
  | r + 1, f, ord => by
    rw [tryP, tryQ, first_find]
    congr 1
    funext i
    rw [try_q sts n r]
theorem three_found : srchP [] sts3 = some [2, 0, 1] := by
  rw [srchP, try_q]
  kernel_rfl
theorem three_small : srchE sts3 = 0 := by kernel_rfl
set_option maxRecDepth 100000 in
set_option maxHeartbeats 6400000 in
theorem three_any (w : World) : Calls Try.prog 21 #[] w fun e w' => ∃ a vs, e = .returned (.slice a 3 3) ∧ Stories w' a 3 sts3 vs ∧ Below w.heap.size w w' := by
  have h1 := (Star.begin w).rowNew 46 6 (mvsC [⟨3, false, 0, 0, false, 2⟩, ⟨4, true, 0, 1, false, 0⟩]).toArray 2 (by simp [maxLen]) rfl
  have h2 := h1.rowNew 46 6 (mvsC [⟨9, false, 0, 1, false, 4⟩]).toArray 1 (by simp [maxLen]) rfl
  have h3 := h2.rowNew 46 6 (mvsC [⟨4, false, 0, 0, false, 2⟩]).toArray 1 (by simp [maxLen]) rfl
  simp only [World.size_alloc] at h3
  have h4 := h3.rowNew 44 10 (stosC sts3 [.slice (some ⟨w.heap.size, 0, none⟩) 2 2, .slice (some ⟨w.heap.size + 1, 0, none⟩) 1 1, .slice (some ⟨w.heap.size + 1 + 1, 0, none⟩) 1 1]).toArray 3 (by simp [maxLen]) rfl
  simp only [World.size_alloc] at h4
  have H4 := Lib.hid h4
  clear h1 h2 h3 h4
  go_enter Try.func21, Try.ntmps21
  go_wp2
  go_ret
  refine ⟨_, [.slice (some ⟨w.heap.size, 0, none⟩) 2 2, .slice (some ⟨w.heap.size + 1, 0, none⟩) 1 1, .slice (some ⟨w.heap.size + 1 + 1, 0, none⟩) 1 1], rfl, ⟨H4.out.rowSl, rfl, rfl, fun i s v hs hv => ?_⟩, (H4.out.pull 4).below⟩
  match i, hs, hv with
  | 0, hs, hv =>
    injection hs with hs
    injection hv with hv
    subst hs hv
    exact ⟨_, 2, 2, rfl, rfl, (H4.out.pull 3).rowSl, by omega⟩
  | 1, hs, hv =>
    injection hs with hs
    injection hv with hv
    subst hs hv
    exact ⟨_, 1, 1, rfl, rfl, (H4.out.pull 2).rowSl, by omega⟩
  | 2, hs, hv =>
    injection hs with hs
    injection hv with hv
    subst hs hv
    exact ⟨_, 1, 1, rfl, rfl, (H4.out.pull 1).rowSl, by omega⟩
end Go.Proofs.Ytljdkfhkpjjfgaa
