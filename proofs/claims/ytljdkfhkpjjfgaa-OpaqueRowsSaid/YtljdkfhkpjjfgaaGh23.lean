/- The comparer of Final, and its sort at any length: lemmas for the laws of ghost. -/
import Derived.Test.YtljdkfhkpjjfgaaGh28
import Derived.Test.YtljdkfhkpjjfgaaSrt6b
import Derived.Deep.QuietTactic
namespace Go.Proofs.Ytljdkfhkpjjfgaa
open Go.RowKit Go.Shelf
set_option linter.unusedVariables false

def cmpI (a b : Int) : Int := if a < b then -1 else if b < a then 1 else 0
theorem cmp_any (a b : Int) (w : World) : Calls Try.prog 26 #[.int .i64 a, .int .i64 b] w fun e w' => e = .returned (.int .i64 (cmpI a b)) ∧ w' = w := by
  rcases Int.lt_trichotomy a b with h | h | h
  · have e : cmpI a b = -1 := by simp [cmpI, h]
    rw [e]
    clear e
    go_enter Try.func26, Try.ntmps26
    go_wp2
    go_ret
    exact ⟨rfl, rfl⟩
  · subst h
    have e : cmpI a a = 0 := by simp [cmpI]
    rw [e]
    clear e
    go_enter Try.func26, Try.ntmps26
    go_wp2
    go_ret
    exact ⟨rfl, rfl⟩
  · have h2 : ¬ a < b := by omega
    have e : cmpI a b = 1 := by simp [cmpI, h, h2]
    rw [e]
    clear e
    go_enter Try.func26, Try.ntmps26
    go_wp2
    go_ret
    exact ⟨rfl, rfl⟩
theorem less_cmp (a b : Int) : decide (cmpI a b < 0) = decide (a < b) := by
  unfold cmpI
  by_cases h : a < b
  · simp [h]
  · by_cases h2 : b < a <;> simp [h, h2]
set_option maxRecDepth 100000 in
theorem ins_none (a : Option Addr) (c : Nat) (f : Value) (w : World) : Calls Try.prog 46 #[.slice a 0 c, .int .i64 0, .int .i64 0, f] w fun e w' => e = .returned (.tuple #[]) ∧ w' = w := by
  go_enter Try.func46, Try.ntmps46
  go_wp2
  go_loopw [8] (fun i wr => i = .int .i64 1 ∧ wr = w) (fun _ _ => 0)
  case atStart => exact ⟨by go_num, rfl⟩
  case round =>
    obtain ⟨rfl, rfl⟩ := hrel
    go_wp2
    go_end0
    exact ⟨rfl, rfl⟩
set_option maxRecDepth 100000 in
theorem stable_none (a : Option Addr) (c : Nat) (f : Value) (w : World) : Calls Try.prog 41 #[.slice a 0 c, .int .i64 0, f] w fun e w' => e = .returned (.tuple #[]) ∧ w' = w := by
  go_enter Try.func41, Try.ntmps41
  go_wp2
  go_loopw [7, 8] (fun i j wr => i = .int .i64 0 ∧ j = .int .i64 20 ∧ wr = w) (fun _ _ _ => 0)
  case atStart => exact ⟨by go_num, by go_num, rfl⟩
  case round =>
    obtain ⟨rfl, rfl, rfl⟩ := hrel
    go_wp2_with fail
    refine (ins_none a c f _).mono ?_
    rintro e w' ⟨rfl, rfl⟩
    go_wp2_with fail
    go_loopw [6] (fun i wz => i = .int .i64 20 ∧ wz = w') (fun _ _ => 0)
    case atStart => exact ⟨by go_num, rfl⟩
    case round =>
      obtain ⟨rfl, rfl⟩ := hrel
      go_wp2
      go_end0
      exact ⟨rfl, rfl⟩
theorem sort_none (a : Option Addr) (c : Nat) (f : Value) (w : World) : Calls Try.prog 23 #[.slice a 0 c, f] w fun e w' => e = .returned (.tuple #[]) ∧ w' = w := by
  go_enter Try.func23, Try.ntmps23
  go_wp2_with fail
  refine (stable_none a c f _).mono ?_
  rintro e w' ⟨rfl, rfl⟩
  go_wp2
  go_end0
  exact ⟨rfl, rfl⟩
/-- a list put in order, in plain Lean -/
def insT (less : Nat → Nat → Bool) (x : Nat) : List Nat → List Nat
  | [] => [x]
  | y :: l => if less x y = true ∨ (less y x = false ∧ x < y) then x :: y :: l else y :: insT less x l
def sortT (less : Nat → Nat → Bool) : List Nat → List Nat
  | [] => []
  | x :: l => insT less x (sortT less l)
theorem insT_perm (less : Nat → Nat → Bool) (x : Nat) : ∀ l, (insT less x l).Perm (x :: l)
  | [] => List.Perm.refl _
  | y :: l => by
    unfold insT
    split
    · exact List.Perm.refl _
    · exact (List.Perm.cons y (insT_perm less x l)).trans (List.Perm.swap x y l)
theorem tot_total {less : Nat → Nat → Bool} {x y : Nat} (h : ¬ tot less x y) (hne : x ≠ y) : tot less y x := by
  unfold tot at h ⊢
  cases hy : less y x with
  | true => exact .inl rfl
  | false =>
    refine .inr ⟨?_, ?_⟩
    · cases hx : less x y with
      | false => rfl
      | true => exact absurd (.inl hx) h
    · rcases Nat.lt_trichotomy x y with k | k | k
      · exact absurd (.inr ⟨hy, k⟩) h
      · exact absurd k hne
      · exact k
theorem insT_sorted {less : Nat → Nat → Bool} (Wk : Weak less) (x : Nat) : ∀ l, (∀ y ∈ l, x ≠ y) → l.Pairwise (tot less) → (insT less x l).Pairwise (tot less)
  | [], _, _ => List.pairwise_singleton _ _
  | y :: l, hne, h => by
    unfold insT
    have hp := List.pairwise_cons.1 h
    split
    · rename_i hc
      refine List.pairwise_cons.2 ⟨fun z hz => ?_, h⟩
      rcases List.mem_cons.1 hz with rfl | hz
      · exact hc
      · exact tot_trans Wk hc (hp.1 z hz)
    · rename_i hc
      refine List.pairwise_cons.2 ⟨fun z hz => ?_, insT_sorted Wk x l (fun z hz => hne z (List.mem_cons_of_mem _ hz)) hp.2⟩
      rcases List.mem_cons.1 ((insT_perm less x l).subset hz) with rfl | hz
      · exact tot_total hc (hne y List.mem_cons_self)
      · exact hp.1 z hz
theorem sortT_perm (less : Nat → Nat → Bool) : ∀ l, (sortT less l).Perm l
  | [] => List.Perm.refl _
  | x :: l => (insT_perm less x _).trans (List.Perm.cons x (sortT_perm less l))
theorem sortT_sp {less : Nat → Nat → Bool} (Wk : Weak less) : ∀ l : List Nat, l.Pairwise (· < ·) → SP less (sortT less l) l
  | [], _ => ⟨List.Perm.refl _, List.Pairwise.nil⟩
  | x :: l, h => by
    have hp := List.pairwise_cons.1 h
    refine ⟨sortT_perm less (x :: l), insT_sorted Wk x _ (fun y hy => ?_) (sortT_sp Wk l hp.2).2⟩
    have := hp.1 y ((sortT_perm less l).subset hy)
    omega
end Go.Proofs.Ytljdkfhkpjjfgaa
