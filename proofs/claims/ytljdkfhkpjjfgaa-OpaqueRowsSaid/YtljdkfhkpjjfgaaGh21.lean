/- The arguments of ghost's laws opened. -/
import Derived.Test.YtljdkfhkpjjfgaaGh17
import Derived.Test.YtljdkfhkpjjfgaaOpen
import Derived.HandedShaped
namespace Go.Proofs.Ytljdkfhkpjjfgaa
open Go.ChangeShapes Go.WideShapes Go.Deep Go.RowKit
set_option linter.unusedVariables false

section
variable {H : Type} {enc : TypeId × Value → H} {P : Program} {w : World} {base : Nat} {spare : Nat → Bool} {held : Bool}
/-- a struct of one-cell fields, cell by cell, with its readings -/
theorem open_parts {t : TypeId} {fs : Array Field} {cs : List Value} {n : Nat} {x : DataW H × List MemPlace} (he : P.underlying t = some (.struct fs)) (hone : oneCellFields P fs = true) (hc : cs.length = fs.size)
    (h : DataW.trod enc P w base spare held n t cs = some x) : ∃ ys : List (DataW H × List MemPlace), x.1 = .agg (ys.map (·.1)) ∧ ∀ (j : Nat) (f : Field), fs[j]? = some f → ∃ (u : Value) (y : DataW H × List MemPlace) (n : Nat), cs[j]? = some u ∧ ys[j]? = some y ∧ DataW.trod enc P w base spare held n f.type [u] = some y := by
  obtain ⟨ys, n', hn', hy, hlen, hyl, hf⟩ := DataW.trod_struct he h
  refine ⟨ys, by rw [hy], fun j f hj => ?_⟩
  obtain ⟨ho, hk⟩ := hone_of hone j f hj
  have hjl : j < fs.size := (Array.getElem?_eq_some_iff.1 hj).1
  have h1 := hf j f hj
  rw [ho, hk] at h1
  have hone' : (cs.drop j).take 1 = [cs[j]'(by omega)] := by
    rw [List.drop_eq_getElem_cons (by omega)]
    rfl
  rw [hone'] at h1
  have hys : ys[j]? = some (ys[j]'(by omega)) := List.getElem?_eq_getElem (by omega)
  exact ⟨_, _, _, List.getElem?_eq_getElem (by omega), hys, h1.trans hys⟩
end
section
variable {H : Type} {enc : TypeId × Value → H} {w : World} {base : Nat} {spare : Nat → Bool} {held : Bool}
theorem moves_open {u : Value} {d : DataW H} {ps : List MemPlace} {n : Nat} (h : DataW.trod enc Try.prog w base spare held n 42 [u] = some (d, ps)) :
    ∃ (A : Option Addr) (len cap : Nat) (ms : List Mv), u = .slice A len cap ∧ ms.length = len ∧ len ≤ cap ∧ cap ≤ maxLen ∧ Sl w A len 6 (mvsC ms) ∧ ((∀ x ∈ d.weights Try.prog 42, x ≤ reachBytes) → len * 48 ≤ 140737488355328) := by
  rcases open_slice_fields Try.underlying42 Try.underlying46 (by kernel_rfl) (by kernel_rfl) h with ⟨hcs, _⟩ | ⟨a, len, cap, m, D, Pl, hcs, _, hl, hm, hmm, hx, _⟩
  · simp only [List.cons.injEq, and_true] at hcs
    subst hcs
    exact ⟨none, 0, 0, [], rfl, rfl, Nat.le_refl _, by simp [maxLen], ⟨rfl, fun h => absurd h (by omega)⟩, fun _ => by omega⟩
  · simp only [List.cons.injEq, and_true] at hcs
    subst hcs
    have hT : DataW.Trod enc Try.prog w base spare held 42 (.slice (some a) len cap) d ps := ⟨n, by simpa [Value.cells] using h⟩
    obtain ⟨_, _, h3⟩ := open_structs Try.underlying42 Try.underlying46 (by kernel_rfl) (by kernel_rfl) (by decide) hT
    have hms : ∃ ms : List Mv, ms.length = len ∧ Sl w (some a) len 6 (mvsC ms) := by
      rcases Nat.eq_zero_or_pos len with rfl | h0
      · exact ⟨[], rfl, rfl, fun h => absurd h (by omega)⟩
      · obtain ⟨g, off, e, hi⟩ := h3 h0
        have hi' : ∀ i, i < len → ∃ m : Mv, ∀ (j : Nat) (v : Value), (mvC m)[j]? = some v → w.cell? ⟨g, off + (i * 6 + j), none⟩ = some v := by
          intro i hil
          obtain ⟨n, hf⟩ := hi i hil
          obtain ⟨u0, y0, c0, t0⟩ := hf 0 _ rfl
          obtain ⟨u1, y1, c1, t1⟩ := hf 1 _ rfl
          obtain ⟨u2, y2, c2, t2⟩ := hf 2 _ rfl
          obtain ⟨u3, y3, c3, t3⟩ := hf 3 _ rfl
          obtain ⟨u4, y4, c4, t4⟩ := hf 4 _ rfl
          obtain ⟨u5, y5, c5, t5⟩ := hf 5 _ rfl
          obtain ⟨x0, rfl, _⟩ := trod_int1 Try.underlying3 t0
          obtain ⟨x1, rfl⟩ := trod_bool1 Try.underlying4 t1
          obtain ⟨x2, rfl, _⟩ := trod_int1 Try.underlying3 t2
          obtain ⟨x3, rfl, _⟩ := trod_int1 Try.underlying2 t3
          obtain ⟨x4, rfl⟩ := trod_bool1 Try.underlying4 t4
          obtain ⟨x5, rfl, _⟩ := trod_int1 Try.underlying3 t5
          refine ⟨⟨x0, x1, x2, x3, x4, x5⟩, fun j v hv => ?_⟩
          have hj : j < 6 := (List.getElem?_eq_some_iff.1 hv).1
          match j, hj with
          | 0, _ => injection hv with hv; subst hv; exact c0
          | 1, _ => injection hv with hv; subst hv; exact c1
          | 2, _ => injection hv with hv; subst hv; exact c2
          | 3, _ => injection hv with hv; subst hv; exact c3
          | 4, _ => injection hv with hv; subst hv; exact c4
          | 5, _ => injection hv with hv; subst hv; exact c5
        refine ⟨List.ofFn fun i : Fin len => (hi' i.1 i.2).choose, by simp, ?_, fun _ => ⟨g, off, e, fun j v hv => ?_⟩⟩
        · rw [mvsC_len]; simp
        · have hjl : j < len * 6 := by
            have := (List.getElem?_eq_some_iff.1 hv).1
            rw [mvsC_len] at this
            simpa using this
          have hq : j / 6 < len := by omega
          have hsp := (hi' (j / 6) hq).choose_spec (j % 6) v
          have hget : (List.ofFn fun i : Fin len => (hi' i.1 i.2).choose)[j / 6]? = some ((hi' (j / 6) hq).choose) := by
            rw [List.getElem?_ofFn, dif_pos hq]
          have h4 := mvsC_at hget (j := j % 6) (by omega)
          rw [show j / 6 * 6 + j % 6 = j by omega, hv] at h4
          have h5 := hsp h4.symm
          rw [show j / 6 * 6 + j % 6 = j by omega] at h5
          exact h5
    obtain ⟨ms, hml, hsl⟩ := hms
    refine ⟨some a, len, cap, ms, rfl, hml, hl, hm, hsl, fun hw => ?_⟩
    have hlm : len ≤ m := by rw [hmm]; split <;> omega
    simp only [Prod.mk.injEq] at hx
    obtain ⟨rfl, _⟩ := hx
    have hb : Try.prog.bytesOf 46 = 48 := by kernel_rfl
    have := hw ((List.length ((List.range len).map D) + List.length ((List.range (m - len)).map fun j => D (len + j))) * Try.prog.bytesOf 46) (by simp only [DataW.weights, Try.underlying42]; exact List.mem_cons_self)
    rw [hb] at this
    simp only [List.length_map, List.length_range, reachBytes] at this
    omega
theorem story_open {cs : List Value} {x : DataW H × List MemPlace} {n : Nat} (hc : cs.length = 10) (h : DataW.trod enc Try.prog w base spare held n 44 cs = some x) :
    ∃ (s : Sto) (A : Option Addr) (k c : Nat), cs = stoC s (.slice A k c) ∧ s.moves.length = k ∧ k ≤ c ∧ c ≤ maxLen ∧ Sl w A k 6 (mvsC s.moves) ∧ ((∀ y ∈ x.1.weights Try.prog 44, y ≤ reachBytes) → k * 48 ≤ 140737488355328) := by
  obtain ⟨ys, hx, hf⟩ := open_parts Try.underlying44 (by kernel_rfl) (hc.trans (by rfl)) h
  obtain ⟨u0, y0, n0, e0, _, t0⟩ := hf 0 _ rfl
  obtain ⟨u1, y1, n1, e1, _, t1⟩ := hf 1 _ rfl
  obtain ⟨u2, y2, n2, e2, _, t2⟩ := hf 2 _ rfl
  obtain ⟨u3, y3, n3, e3, _, t3⟩ := hf 3 _ rfl
  obtain ⟨u4, y4, n4, e4, _, t4⟩ := hf 4 _ rfl
  obtain ⟨u5, y5, n5, e5, _, t5⟩ := hf 5 _ rfl
  obtain ⟨u6, y6, n6, e6, _, t6⟩ := hf 6 _ rfl
  obtain ⟨u7, y7, n7, e7, _, t7⟩ := hf 7 _ rfl
  obtain ⟨u8, y8, n8, e8, _, t8⟩ := hf 8 _ rfl
  obtain ⟨u9, y9, n9, e9, g9, t9⟩ := hf 9 _ rfl
  obtain ⟨x0, rfl, _⟩ := trod_int1 Try.underlying3 t0
  obtain ⟨x1, rfl, _⟩ := trod_int1 Try.underlying3 t1
  obtain ⟨x2, rfl, _⟩ := trod_int1 Try.underlying3 t2
  obtain ⟨x3, rfl, _⟩ := trod_int1 Try.underlying3 t3
  obtain ⟨x4, rfl, _⟩ := trod_int1 Try.underlying3 t4
  obtain ⟨x5, rfl, _⟩ := trod_int1 Try.underlying29 t5
  obtain ⟨x6, rfl, _⟩ := trod_int1 Try.underlying3 t6
  obtain ⟨x7, rfl, _⟩ := trod_int1 Try.underlying3 t7
  obtain ⟨x8, rfl, _⟩ := trod_int1 Try.underlying3 t8
  obtain ⟨d9, q9⟩ := y9
  obtain ⟨A, k, c, ms, rfl, hml, hl, hm, hsl, hw⟩ := moves_open t9
  refine ⟨⟨x0, x1, x2, x3, x4, x5, x6, x7, x8, ms⟩, A, k, c, ?_, hml, hl, hm, hsl, fun hb => hw fun y hy => hb y ?_⟩
  · refine List.ext_getElem? fun i => ?_
    match i with
    | 0 => exact e0
    | 1 => exact e1
    | 2 => exact e2
    | 3 => exact e3
    | 4 => exact e4
    | 5 => exact e5
    | 6 => exact e6
    | 7 => exact e7
    | 8 => exact e8
    | 9 => exact e9
    | j + 10 => rw [List.getElem?_eq_none (by omega)]; rfl
  · rw [hx]
    simp only [DataW.weights, Try.underlying44]
    exact DataW.weights_mem_each (j := 9) (t := 42) (d := d9) rfl (by rw [List.getElem?_map, g9]; rfl) y hy
end
end Go.Proofs.Ytljdkfhkpjjfgaa
