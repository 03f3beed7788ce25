/-
  Arguments opened: slices of structs of one-cell fields, cell by cell.
-/
import Derived.Test.YtljdkfhkpjjfgaaMem
import Derived.Deep.Slices
import Derived.Deep.Fields
import Derived.ChangeSame
import Derived.ProofKit
import Derived.OpenShut
import Derived.ChangeOld
import Derived.Below
import Derived.Carry
namespace Go.Proofs.Ytljdkfhkpjjfgaa
open Go.ChangeShapes Go.WideShapes Go.Deep Go.RowKit
set_option linter.unusedVariables false

theorem add_plain (g off n : Nat) : (⟨g, off, none⟩ : Addr).add n = ⟨g, off + n, none⟩ := by
  unfold Addr.add; split <;> simp_all
theorem addr_plain {w : World} {a : Addr} {n : Nat} {v : Value} (hn : n = 0) (h : w.cell? (a.add n) = some v) : ∃ g off, a = ⟨g, off, none⟩ := by
  subst hn
  obtain ⟨g, off, spot⟩ := a
  have : spot = none := by simpa [Addr.add] using World.cell?_spot h
  subst this
  exact ⟨g, off, rfl⟩

section
variable {H : Type} {enc : TypeId × Value → H} {P : Program} {w : World} {base : Nat} {spare : Nat → Bool} {held : Bool}
theorem open_slice_fields {t e : TypeId} {fs : Array Field} {fuel : Nat} {cs : List Value} {x : DataW H × List MemPlace} (ht : P.underlying t = some (.slice e)) (he : P.underlying e = some (.struct fs))
    (hone : oneCellFields P fs = true) (hC : P.cellsOf e = fs.size) (h : DataW.trod enc P w base spare held fuel t cs = some x) :
    (cs = [.slice none 0 0] ∧ x = (.nil, [])) ∨
    ∃ (a : Addr) (len cap m : Nat) (D : Nat → DataW H) (Pl : Nat → List MemPlace), cs = [.slice (some a) len cap] ∧ base ≤ a.block ∧ len ≤ cap ∧ cap ≤ maxLen ∧ m = (if spare a.block then cap else len) ∧
      x = (.slice ((List.range len).map D) ((List.range (m - len)).map fun j => D (len + j)), MemPlace.row a (m * fs.size) ++ (List.range m).flatMap Pl) ∧
      ∀ i, i < m → ∃ (ys : List (DataW H × List MemPlace)) (n : Nat), D i = .agg (ys.map (·.1)) ∧ Pl i = ys.flatMap (·.2) ∧ ys.length = fs.size ∧
        ∀ (j : Nat) (f : Field), fs[j]? = some f → ∃ (v : Value) (y : DataW H × List MemPlace), w.cell? (a.add (i * fs.size + j)) = some v ∧ ys[j]? = some y ∧ DataW.trod enc P w base spare held n f.type [v] = some y := by
  rcases open_slice ht h with h0 | ⟨a, len, cap, m, n, D, Pl, hcs, hb, hl, hm, hmm, hx, hi⟩
  · exact .inl h0
  · refine .inr ⟨a, len, cap, m, D, Pl, hcs, hb, hl, hm, hmm, by rw [hC] at hx; exact hx, fun i him => ?_⟩
    obtain ⟨cs', hc, ht'⟩ := hi i him
    rw [hC] at hc
    obtain ⟨ys, n', hn', hy, hlen, hyl, hf⟩ := DataW.trod_struct he ht'
    obtain ⟨_, hcl, hat⟩ := World.cells?_some hc
    simp only [Prod.mk.injEq] at hy
    refine ⟨ys, n', hy.1, hy.2, hyl, fun j f hj => ?_⟩
    obtain ⟨ho, hk⟩ := hone_of hone j f hj
    have hjl : j < fs.size := (Array.getElem?_eq_some_iff.1 hj).1
    have hcell := hat j hjl
    have hv : cs'[j]? = some (cs'[j]'(by omega)) := List.getElem?_eq_getElem (by omega)
    have h1 := hf j f hj
    rw [ho, hk] at h1
    have hone' : (cs'.drop j).take 1 = [cs'[j]'(by omega)] := by
      rw [List.drop_eq_getElem_cons (by omega)]
      rfl
    rw [hone'] at h1
    have hys : ys[j]? = some (ys[j]'(by omega)) := List.getElem?_eq_getElem (by omega)
    refine ⟨_, _, ?_, hys, h1.trans hys⟩
    rw [← Go.Deep.add_add, hcell, hv]

/-- of such a slice: each element's each field is a cell, in one block -/
theorem open_structs {t e : TypeId} {fs : Array Field} {A : Option Addr} {len cap : Nat} {d : DataW H} {ps : List MemPlace} (ht : P.underlying t = some (.slice e)) (he : P.underlying e = some (.struct fs))
    (hone : oneCellFields P fs = true) (hC : P.cellsOf e = fs.size) (hpos : 0 < fs.size) (h : DataW.Trod enc P w base spare held t (.slice A len cap) d ps) :
    len ≤ cap ∧ cap ≤ maxLen ∧
      (0 < len → ∃ g off, A = some ⟨g, off, none⟩ ∧ ∀ i, i < len → ∃ n, ∀ (j : Nat) (f : Field), fs[j]? = some f → ∃ (u : Value) (y : DataW H × List MemPlace), w.cell? ⟨g, off + (i * fs.size + j), none⟩ = some u ∧ DataW.trod enc P w base spare held n f.type [u] = some y) := by
  obtain ⟨fuel, hf⟩ := h
  rcases open_slice_fields ht he hone hC hf with ⟨hcs, _⟩ | ⟨a, len', cap', m, D, Pl, hcs, _, hl, hm, hmm, _, hi⟩
  · simp [Value.cells] at hcs
    obtain ⟨rfl, rfl, rfl⟩ := hcs
    exact ⟨Nat.le_refl _, by simp [maxLen], fun h => absurd h (by omega)⟩
  · simp [Value.cells] at hcs
    obtain ⟨rfl, rfl, rfl⟩ := hcs
    refine ⟨hl, hm, fun h0 => ?_⟩
    have hlm : len ≤ m := by rw [hmm]; split <;> omega
    obtain ⟨ys, n, _, _, _, hf0⟩ := hi 0 (by omega)
    obtain ⟨u, y, hc, _⟩ := hf0 0 (fs[0]) (Array.getElem?_eq_getElem hpos)
    obtain ⟨g, off, rfl⟩ := addr_plain (by omega) hc
    refine ⟨g, off, rfl, fun i hil => ?_⟩
    obtain ⟨ys, n, _, _, _, hf1⟩ := hi i (by omega)
    refine ⟨n, fun j f hj => ?_⟩
    obtain ⟨u, y, hc, _, ht⟩ := hf1 j f hj
    rw [add_plain] at hc
    exact ⟨u, y, hc, ht⟩
theorem trod_int1 {t : TypeId} {k : IntKind} {n : Nat} {u : Value} {y : DataW H × List MemPlace} (ht : P.underlying t = some (.int k)) (h : DataW.trod enc P w base spare held n t [u] = some y) : ∃ x, u = .int k x ∧ (Lit.int k x).wf = true := by
  obtain ⟨x, e, _, hw⟩ := DataW.trod_int ht h
  simp at e
  exact ⟨x, e, hw⟩
theorem trod_bool1 {t : TypeId} {n : Nat} {u : Value} {y : DataW H × List MemPlace} (ht : P.underlying t = some .bool) (h : DataW.trod enc P w base spare held n t [u] = some y) : ∃ x, u = .bool x := by
  obtain ⟨x, e, _⟩ := DataW.trod_bool ht h
  simp at e
  exact ⟨x, e⟩
theorem trod_string1 {t : TypeId} {n : Nat} {u : Value} {y : DataW H × List MemPlace} (ht : P.underlying t = some .string) (h : DataW.trod enc P w base spare held n t [u] = some y) : ∃ x : ByteArray, u = .string x ∧ x.size ≤ maxLen := by
  obtain ⟨x, e, _, hs⟩ := DataW.trod_string ht h
  simp at e
  exact ⟨x, e, hs⟩

/-- a slice of ints -/
theorem ints_open {t e : TypeId} {A : Option Addr} {len cap : Nat} {d : DataW H} {ps : List MemPlace} {k : IntKind} (ht : P.underlying t = some (.slice e)) (he : P.underlying e = some (.int k)) (hC : P.cellsOf e = 1)
    (h : DataW.Trod enc P w base spare held t (.slice A len cap) d ps) :
    len ≤ cap ∧ cap ≤ maxLen ∧ ∃ zs : List Int, zs.length = len ∧ Sl w A len 1 (zs.map (Value.int k)) := by
  obtain ⟨fuel, hf⟩ := h
  rcases open_ints ht he hC hf with ⟨hcs, _⟩ | ⟨a, l, c, zs, hcs, _, hl, hm, hz, _, hcell, hwz⟩
  · simp [Value.cells] at hcs
    obtain ⟨rfl, rfl, rfl⟩ := hcs
    exact ⟨Nat.le_refl _, by simp [maxLen], [], rfl, by simp, fun h => absurd h (by omega)⟩
  · simp [Value.cells] at hcs
    obtain ⟨rfl, rfl, rfl⟩ := hcs
    have hz' : len ≤ zs.length := by rw [hz]; split <;> omega
    refine ⟨hl, hm, zs.take len, by simp [List.length_take]; omega, by simp [List.length_take]; omega, fun h0 => ?_⟩
    obtain ⟨g, off, rfl⟩ := addr_plain rfl (hcell 0 (by omega))
    refine ⟨g, off, rfl, fun j u hu => ?_⟩
    have hj : j < len := by
      have := (List.getElem?_eq_some_iff.1 hu).1
      simp at this; omega
    have hc := hcell j (by omega)
    rw [add_plain] at hc
    rw [hc]
    rw [List.getElem?_map, List.getElem?_take, if_pos hj, List.getElem?_eq_getElem (by omega)] at hu
    simp at hu
    rw [← hu, List.getD, List.getElem?_eq_getElem (by omega)]; rfl
theorem sl_lt {g o len size : Nat} {xs : List Value} (h : Sl w (some ⟨g, o, none⟩) len size xs) (h0 : 0 < len) (hs : 0 < size := by decide) : g < w.heap.size := by
  obtain ⟨g', o', e, hc⟩ := h.2 h0
  injection e with e
  injection e with e1 e2
  subst e1 e2
  have hl : 0 < xs.length := by rw [h.1]; exact Nat.mul_pos h0 hs
  have := hc 0 _ (List.getElem?_eq_getElem hl)
  exact World.block_lt_of_cell? w _ this
/-- a slice of strings -/
theorem strings_open {t e : TypeId} {A : Option Addr} {len cap : Nat} {d : DataW H} {ps : List MemPlace} (ht : P.underlying t = some (.slice e)) (he : P.underlying e = some .string) (hC : P.cellsOf e = 1)
    (h : DataW.Trod enc P w base spare held t (.slice A len cap) d ps) :
    len ≤ cap ∧ cap ≤ maxLen ∧ ∃ zs : List ByteArray, zs.length = len ∧ (∀ z ∈ zs, z.size ≤ maxLen) ∧ Sl w A len 1 (zs.map Value.string) := by
  obtain ⟨fuel, hf⟩ := h
  rcases open_strings ht he hC hf with ⟨hcs, _⟩ | ⟨a, l, c, zs, hcs, _, hl, hm, hz, _, hcell, hwz⟩
  · simp [Value.cells] at hcs
    obtain ⟨rfl, rfl, rfl⟩ := hcs
    exact ⟨Nat.le_refl _, by simp [maxLen], [], rfl, by simp, by simp, fun h => absurd h (by omega)⟩
  · simp [Value.cells] at hcs
    obtain ⟨rfl, rfl, rfl⟩ := hcs
    have hz' : len ≤ zs.length := by rw [hz]; split <;> omega
    refine ⟨hl, hm, zs.take len, by simp [List.length_take]; omega, fun z hz1 => hwz z (List.mem_of_mem_take hz1), by simp [List.length_take]; omega, fun h0 => ?_⟩
    obtain ⟨g, off, rfl⟩ := addr_plain rfl (hcell 0 (by omega))
    refine ⟨g, off, rfl, fun j u hu => ?_⟩
    have hj : j < len := by
      have := (List.getElem?_eq_some_iff.1 hu).1
      simp at this; omega
    have hc := hcell j (by omega)
    rw [add_plain] at hc
    rw [hc]
    rw [List.getElem?_map, List.getElem?_take, if_pos hj, List.getElem?_eq_getElem (by omega)] at hu
    simp at hu
    rw [← hu, List.getD, List.getElem?_eq_getElem (by omega)]; rfl
end
end Go.Proofs.Ytljdkfhkpjjfgaa
