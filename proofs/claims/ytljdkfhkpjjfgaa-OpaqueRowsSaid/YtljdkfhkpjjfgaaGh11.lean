/- The tests of likeness: lemmas for the laws of ghost. -/
import Derived.Test.YtljdkfhkpjjfgaaGh10
namespace Go.Proofs.Ytljdkfhkpjjfgaa
open Go.RowKit Go.Shelf
set_option linter.unusedVariables false

theorem mv_neq (a : Int) (b : Bool) (c d : Int) (e : Bool) (f : Int) (w : World) : (binOp .neq 46 (.agg #[.int .i64 a, .bool b, .int .i64 c, .int .i64 d, .bool e, .int .i64 f]) (.agg #[.int .i64 a, .bool b, .int .i64 c, .int .i64 d, .bool e, .int .i64 f])).run Try.prog w = .ok (.bool false) w := by
  have hs : Try.prog.stoodInHeld 46 = false := by kernel_rfl
  simp only [go_sem]
  simp [go_sem, Op.eqFields]
theorem Sl.row {w : World} {A : Option Addr} {n size : Nat} {xs : List Value} (hS : Sl w A n size xs) {k : Nat} (hk : k < n) (hs : 0 < size) : ∃ g o, A = some ⟨g, o, none⟩ ∧ g < w.heap.size ∧ ∀ j u, xs[k * size + j]? = some u → w.cell? ⟨g, o + k * size + j, none⟩ = some u := by
  obtain ⟨g, o, e, hc⟩ := hS.2 (by omega)
  have h1 : 0 < xs.length := by rw [hS.1]; exact Nat.mul_pos (by omega) hs
  exact ⟨g, o, e, World.block_lt_of_cell? w _ (hc 0 _ (List.getElem?_eq_getElem h1)), fun j u hu => by rw [Nat.add_assoc]; exact hc _ _ hu⟩
end Go.Proofs.Ytljdkfhkpjjfgaa
