/- long: lemmas for the laws of layer 22. -/
import Derived.Test.YtljdkfhkpjjfgaaOp18
namespace Go.Proofs.Ytljdkfhkpjjfgaa
open Go.RowKit Go.Shelf
set_option linter.unusedVariables false

/-- how many moves stories have -/
def movesN : List Sto → Nat
  | [] => 0
  | s :: r => s.moves.length + movesN r
theorem movesN_append : ∀ (a b : List Sto), movesN (a ++ b) = movesN a + movesN b
  | [], b => by simp [movesN]
  | s :: a, b => by rw [List.cons_append, movesN, movesN, movesN_append a b]; omega
theorem movesN_snoc (a : List Sto) (s : Sto) : movesN (a ++ [s]) = movesN a + s.moves.length := by rw [movesN_append]; simp [movesN]
theorem movesN_take (sts : List Sto) (j : Nat) : movesN (sts.take j) ≤ movesN sts := by
  conv => rhs; rw [← List.take_append_drop j sts, movesN_append]
  omega
def longB (sts : List Sto) : Bool := decide (300 < movesN sts)
set_option maxRecDepth 100000 in
set_option maxHeartbeats 6400000 in
theorem long_any (B : Option Addr) (m d : Nat) (sts : List Sto) (vs : List Value) (w : World) (hT : Stories w B m sts vs) (hbm : m * 96 ≤ 140737488355328) :
    Calls Try.prog 16 #[.slice B m d] w fun e w' => e = .returned (.bool (longB sts)) ∧ w = w' := by
  have HT := Lib.hid hT
  clear hT
  go_enter Try.func16, Try.ntmps16
  go_wp2
  go_loop [3, 4] (fun n i => ∃ j : Nat, j ≤ m ∧ i = .int .i64 j ∧ movesN (sts.take j) ≤ 300 ∧ n = .int .i64 (movesN (sts.take j))) (fun _ i => m - (intOf i).toNat)
  case atStart => exact ⟨0, Nat.zero_le _, rfl, by simp [movesN], rfl⟩
  case round =>
    obtain ⟨j, hj, rfl, h3, rfl⟩ := hrel
    by_cases hlt : j < m
    · obtain ⟨s, hs⟩ : ∃ s, sts[j]? = some s := ⟨_, List.getElem?_eq_getElem (by have := HT.out.ns; omega)⟩
      obtain ⟨v, hv⟩ : ∃ v, vs[j]? = some v := ⟨_, List.getElem?_eq_getElem (by have := HT.out.nv; omega)⟩
      obtain ⟨MA, mk, mc, rfl, hmk, hms, hmb⟩ := HT.out.mv j s v hs hv
      obtain ⟨g, o, rfl, hg, ca⟩ := HT.out.row.row hlt (by omega)
      have a9 : w.cell? ⟨g, o + j * 10 + 9, none⟩ = some (.slice MA mk mc) := ca 9 _ (by rw [stosC_at hs hv (by omega)]; rfl)
      have hjz : (j : Int) < m := by omega
      have ht : movesN (sts.take (j + 1)) = movesN (sts.take j) + mk := by
        rw [take_succ hs, movesN_snoc, hmk]
      have hle := movesN_take sts (j + 1)
      generalize movesN (sts.take j) = t at h3 ht ⊢
      by_cases h300 : 300 < t + mk
      · have e1 : longB sts = true := by rw [longB, decide_eq_true_eq]; omega
        have E1 := Lib.hid e1
        have h300z : (300 : Int) < (t : Int) + mk := by omega
        clear ca hs hv ht e1 hms hmk
        go_wp2
        go_ret
        exact ⟨by rw [E1.out]; rfl, rfl⟩
      · have h300z : ¬ (300 : Int) < (t : Int) + mk := by omega
        have H3 := Lib.hid ht
        clear ca hs hv hms hmk ht
        go_wp2
        go_round
        case rel => exact ⟨j + 1, by omega, by go_num, by rw [H3.out]; omega, by rw [H3.out]; go_num⟩
        case measure => simp [intOf]; omega
    · have hkn : j = m := by omega
      have e1 : longB sts = false := by
        rw [longB, decide_eq_false_iff_not]
        have : sts.take j = sts := List.take_of_length_le (by have := HT.out.ns; omega)
        rw [this] at h3
        omega
      have E1 := Lib.hid e1
      have hjz : ¬ (j : Int) < m := by omega
      clear e1
      go_wp2
      go_ret
      exact ⟨by rw [E1.out]; rfl, rfl⟩
end Go.Proofs.Ytljdkfhkpjjfgaa
