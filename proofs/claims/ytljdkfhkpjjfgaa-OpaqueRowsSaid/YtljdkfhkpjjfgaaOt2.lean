/- Deals as an argument, opened: lemmas for the laws of layer 22. -/
import Derived.Test.YtljdkfhkpjjfgaaOt1
import Derived.HandedShaped
namespace Go.Proofs.Ytljdkfhkpjjfgaa
open Go.ChangeShapes Go.WideShapes Go.Deep Go.RowKit
set_option linter.unusedVariables false

/-- deals that a slice holds -/
def DealsAt (w : World) (A : Option Addr) (n : Nat) : Prop := ∀ i, i < n → ∃ (g o : Nat) (CA : Option Addr) (ck cc : Nat) (VA : Option Addr) (vk vc : Nat) (fate : Int) (cs zs : List Int), A = some ⟨g, o, none⟩ ∧ g < w.heap.size ∧
  w.cell? ⟨g, o + i * 3, none⟩ = some (.slice CA ck cc) ∧ w.cell? ⟨g, o + i * 3 + 1, none⟩ = some (.slice VA vk vc) ∧ w.cell? ⟨g, o + i * 3 + 2, none⟩ = some (.int .i64 fate) ∧ Sl w CA ck 1 (intsC cs) ∧ Sl w VA vk 1 (intsC zs) ∧ ck ≤ maxLen ∧ vk ≤ maxLen
theorem DealsAt.after {w w' : World} {L : List HA} {A : Option Addr} {n : Nat} (h : DealsAt w A n) (hS : Star w w' (oldA w :: L)) : DealsAt w' A n := fun i hi => by
  obtain ⟨g, o, CA, ck, cc, VA, vk, vc, fate, cs, zs, e, hg, h0, h1, h2, hC, hV, b1, b2⟩ := h i hi
  exact ⟨g, o, CA, ck, cc, VA, vk, vc, fate, cs, zs, e, by have := hS.oldSize; omega, (hS.oldCell hg).trans h0, (hS.oldCell hg).trans h1, (hS.oldCell hg).trans h2, hC.after (by omega) hS, hV.after (by omega) hS, b1, b2⟩
section
variable {H : Type} {enc : TypeId × Value → H} {w : World} {base : Nat} {spare : Nat → Bool} {held : Bool}
theorem ints_cell {t e : TypeId} {u : Value} {d : DataW H} {ps : List MemPlace} {n : Nat} (ht : Try.prog.underlying t = some (.slice e)) (he : Try.prog.underlying e = some (.int .i64)) (hC : Try.prog.cellsOf e = 1) (h : DataW.trod enc Try.prog w base spare held n t [u] = some (d, ps)) :
    ∃ (A : Option Addr) (len cap : Nat) (zs : List Int), u = .slice A len cap ∧ len ≤ cap ∧ cap ≤ maxLen ∧ Sl w A len 1 (intsC zs) := by
  rcases open_ints ht he hC h with ⟨hcs, _⟩ | ⟨a, l, c, zs, hcs, _⟩
  · simp only [List.cons.injEq, and_true] at hcs
    subst hcs
    exact ⟨none, 0, 0, [], rfl, Nat.le_refl _, by simp [maxLen], rfl, fun h => absurd h (by omega)⟩
  · simp only [List.cons.injEq, and_true] at hcs
    subst hcs
    obtain ⟨h1, h2, zs', _, h3⟩ := ints_open (A := some a) (len := l) (cap := c) ht he hC ⟨n, by simpa [Value.cells] using h⟩
    exact ⟨_, _, _, zs', rfl, h1, h2, h3⟩
theorem deals_arg {A : Option Addr} {len cap : Nat} {d : DataW H} {ps : List MemPlace} (h : DataW.Trod enc Try.prog w base spare held 40 (.slice A len cap) d ps) (lt : ∀ x ∈ ps, x.block < w.heap.size) :
    len ≤ cap ∧ cap ≤ maxLen ∧ DealsAt w A len := by
  obtain ⟨h1, h2, h3⟩ := open_structs Try.underlying40 Try.underlying73 (by kernel_rfl) (by kernel_rfl) (by decide) h
  refine ⟨h1, h2, fun i hi => ?_⟩
  obtain ⟨g, off, rfl, hi'⟩ := h3 (by omega)
  obtain ⟨n, hf⟩ := hi' i hi
  obtain ⟨u0, y0, c0, t0⟩ := hf 0 _ rfl
  obtain ⟨u1, y1, c1, t1⟩ := hf 1 _ rfl
  obtain ⟨u2, y2, c2, t2⟩ := hf 2 _ rfl
  obtain ⟨CA, ck, cc, cs, rfl, hc1, hc2, hC⟩ := ints_cell Try.underlying24 Try.underlying3 (by kernel_rfl) t0
  obtain ⟨VA, vk, vc, zs, rfl, hv1, hv2, hV⟩ := ints_cell Try.underlying28 Try.underlying2 (by kernel_rfl) t1
  obtain ⟨fate, rfl, _⟩ := trod_int1 Try.underlying3 t2
  exact ⟨g, off, CA, ck, cc, VA, vk, vc, fate, cs, zs, rfl, World.block_lt_of_cell? w _ c0, c0, c1, c2, hC, hV, by omega, by omega⟩
end
end Go.Proofs.Ytljdkfhkpjjfgaa
