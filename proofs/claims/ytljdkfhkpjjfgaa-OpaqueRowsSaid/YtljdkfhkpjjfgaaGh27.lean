/- Events and stories as arguments, opened: lemmas for the laws of ghost. Printed by gen_gh27.py. -/
import Derived.Test.YtljdkfhkpjjfgaaGh21
namespace Go.Proofs.Ytljdkfhkpjjfgaa
open Go.ChangeShapes Go.WideShapes Go.Deep Go.RowKit
set_option linter.unusedVariables false

section
variable {H : Type} {enc : TypeId × Value → H} {w : World} {base : Nat} {spare : Nat → Bool} {held : Bool}
theorem weights_all {P : Program} {e : TypeId} : ∀ {ds : List (DataW H)} {d : DataW H}, d ∈ ds → ∀ x ∈ d.weights P e, x ∈ DataW.weightsAll P e ds
  | [], _, h => nomatch h
  | a :: r, d, h => by
    intro x hx
    rw [DataW.weightsAll]
    rcases List.mem_cons.1 h with rfl | h
    · exact List.mem_append_left _ hx
    · exact List.mem_append_right _ (weights_all h x hx)
theorem stories_arg {A : Option Addr} {len cap : Nat} {d : DataW H} {ps : List MemPlace} (h0 : DataW.Trod enc Try.prog w base spare held 23 (.slice A len cap) d ps) (hw : ∀ x ∈ d.weights Try.prog 23, x ≤ reachBytes) :
    len ≤ cap ∧ cap ≤ maxLen ∧ len * 96 ≤ 140737488355328 ∧ ∃ (sts : List Sto) (vs : List Value), Stories w A len sts vs := by
  obtain ⟨n, h⟩ := h0
  rcases open_slice_fields Try.underlying23 Try.underlying44 (by kernel_rfl) (by kernel_rfl) h with ⟨hcs, _⟩ | ⟨a, len', cap', m, D, Pl, hcs, _, hl, hm, hmm, hx, hi⟩
  · simp [Value.cells] at hcs
    obtain ⟨rfl, rfl, rfl⟩ := hcs
    exact ⟨Nat.le_refl _, by simp [maxLen], by omega, [], [], ⟨rfl, fun h => absurd h (by omega)⟩, rfl, rfl, fun i s v hs => by simp at hs⟩
  · simp [Value.cells] at hcs
    obtain ⟨rfl, rfl, rfl⟩ := hcs
    have hT : DataW.Trod enc Try.prog w base spare held 23 (.slice (some a) len cap) d ps := ⟨n, h⟩
    have hlm : len ≤ m := by rw [hmm]; split <;> omega
    simp only [Prod.mk.injEq] at hx
    obtain ⟨rfl, _⟩ := hx
    have hbytes : len * 96 ≤ 140737488355328 := by
      have hb : Try.prog.bytesOf 44 = 96 := by kernel_rfl
      have := hw ((List.length ((List.range len).map D) + List.length ((List.range (m - len)).map fun j => D (len + j))) * Try.prog.bytesOf 44) (by simp only [DataW.weights, Try.underlying23]; exact List.mem_cons_self)
      rw [hb] at this
      simp only [List.length_map, List.length_range, reachBytes] at this
      omega
    refine ⟨hl, hm, hbytes, ?_⟩
    rcases Nat.eq_zero_or_pos len with rfl | h0
    · exact ⟨[], [], ⟨rfl, fun h => absurd h (by omega)⟩, rfl, rfl, fun i s v hs => by simp at hs⟩
    · obtain ⟨_, _, h3⟩ := open_structs Try.underlying23 Try.underlying44 (by kernel_rfl) (by kernel_rfl) (by decide) hT
      obtain ⟨g, off, e, _⟩ := h3 h0
      injection e with e
      subst e
      have hi' : ∀ i, i < len → ∃ (s : Sto) (A : Option Addr) (k c : Nat), (∀ (j : Nat) (v : Value), (stoC s (.slice A k c))[j]? = some v → w.cell? ⟨g, off + (i * 10 + j), none⟩ = some v) ∧ s.moves.length = k ∧ Sl w A k 6 (mvsC s.moves) ∧ k * 48 ≤ 140737488355328 := by
          intro i hil
          obtain ⟨ys, n', hD, _, hyl, hf0⟩ := hi i (by omega)
          have hf : ∀ (j : Nat) (f : Field), _ → ∃ (u : Value) (y : DataW H × List MemPlace), w.cell? ⟨g, off + (i * 10 + j), none⟩ = some u ∧ ys[j]? = some y ∧ DataW.trod enc Try.prog w base spare held n' f.type [u] = some y := fun j f hj => by
            obtain ⟨u, y, c, gy, t⟩ := hf0 j f hj
            rw [add_plain] at c
            exact ⟨u, y, c, gy, t⟩
          obtain ⟨u0, y0, c0, g0, t0⟩ := hf 0 _ rfl
          obtain ⟨u1, y1, c1, g1, t1⟩ := hf 1 _ rfl
          obtain ⟨u2, y2, c2, g2, t2⟩ := hf 2 _ rfl
          obtain ⟨u3, y3, c3, g3, t3⟩ := hf 3 _ rfl
          obtain ⟨u4, y4, c4, g4, t4⟩ := hf 4 _ rfl
          obtain ⟨u5, y5, c5, g5, t5⟩ := hf 5 _ rfl
          obtain ⟨u6, y6, c6, g6, t6⟩ := hf 6 _ rfl
          obtain ⟨u7, y7, c7, g7, t7⟩ := hf 7 _ rfl
          obtain ⟨u8, y8, c8, g8, t8⟩ := hf 8 _ rfl
          obtain ⟨u9, y9, c9, g9, t9⟩ := hf 9 _ rfl
          obtain ⟨x0, rfl, _⟩ := trod_int1 Try.underlying3 t0
          obtain ⟨x1, rfl, _⟩ := trod_int1 Try.underlying3 t1
          obtain ⟨x2, rfl, _⟩ := trod_int1 Try.underlying3 t2
          obtain ⟨x3, rfl, _⟩ := trod_int1 Try.underlying3 t3
          obtain ⟨x4, rfl, _⟩ := trod_int1 Try.underlying3 t4
          obtain ⟨x5, rfl, _⟩ := trod_int1 Try.underlying29 t5
          obtain ⟨x6, rfl, _⟩ := trod_int1 Try.underlying3 t6
          obtain ⟨x7, rfl, _⟩ := trod_int1 Try.underlying3 t7
          obtain ⟨x8, rfl, _⟩ := trod_int1 Try.underlying3 t8
          obtain ⟨d9, q9⟩ := y9
          obtain ⟨A, k, c, ms, rfl, hml, _, _, hsl, hw9⟩ := moves_open t9
          refine ⟨⟨x0, x1, x2, x3, x4, x5, x6, x7, x8, ms⟩, A, k, c, fun j v hv => ?_, hml, hsl, hw9 fun y hy => hw y ?_⟩
          · have hj : j < 10 := (List.getElem?_eq_some_iff.1 hv).1
            match j, hj with
            | 0, _ => injection hv with hv; subst hv; exact c0
            | 1, _ => injection hv with hv; subst hv; exact c1
            | 2, _ => injection hv with hv; subst hv; exact c2
            | 3, _ => injection hv with hv; subst hv; exact c3
            | 4, _ => injection hv with hv; subst hv; exact c4
            | 5, _ => injection hv with hv; subst hv; exact c5
            | 6, _ => injection hv with hv; subst hv; exact c6
            | 7, _ => injection hv with hv; subst hv; exact c7
            | 8, _ => injection hv with hv; subst hv; exact c8
            | 9, _ => injection hv with hv; subst hv; exact c9
          · simp only [DataW.weights, Try.underlying23]
            refine List.mem_cons_of_mem _ (List.mem_append_left _ (weights_all (d := D i) (List.mem_map.2 ⟨i, List.mem_range.2 hil, rfl⟩) y ?_))
            rw [hD]
            simp only [DataW.weights, Try.underlying44]
            exact DataW.weights_mem_each (j := 9) (t := 42) (d := d9) rfl (by rw [List.getElem?_map, g9]; rfl) y hy
      let f : Fin len → Sto := fun i => (hi' i.1 i.2).choose
      let v : Fin len → Value := fun i => .slice (hi' i.1 i.2).choose_spec.choose (hi' i.1 i.2).choose_spec.choose_spec.choose (hi' i.1 i.2).choose_spec.choose_spec.choose_spec.choose
      have hget : ∀ i (hi2 : i < len), (List.ofFn f)[i]? = some (f ⟨i, hi2⟩) := fun i hi2 => by rw [List.getElem?_ofFn, dif_pos hi2]
      have hvget : ∀ i (hi2 : i < len), (List.ofFn v)[i]? = some (v ⟨i, hi2⟩) := fun i hi2 => by rw [List.getElem?_ofFn, dif_pos hi2]
      refine ⟨List.ofFn f, List.ofFn v, ⟨?_, fun _ => ⟨g, off, rfl, fun j u hu => ?_⟩⟩, by simp, by simp, fun i s v' hs hv' => ?_⟩
      · rw [stosC, flat_len sto_len, List.length_zipWith]; simp
      · have hjl : j < len * 10 := by
          have := (List.getElem?_eq_some_iff.1 hu).1
          rw [stosC, flat_len sto_len, List.length_zipWith] at this
          simpa using this
        have hq : j / 10 < len := by omega
        have hsp := (hi' (j / 10) hq).choose_spec.choose_spec.choose_spec.choose_spec.1 (j % 10) u
        have h4 := stosC_at (hget (j / 10) hq) (hvget (j / 10) hq) (j := j % 10) (by omega)
        rw [show j / 10 * 10 + j % 10 = j by omega, hu] at h4
        have h5 := hsp h4.symm
        rw [show j / 10 * 10 + j % 10 = j by omega] at h5
        exact h5
      · have hil : i < len := by
          have := (List.getElem?_eq_some_iff.1 hs).1
          simpa using this
        rw [hget i hil] at hs
        rw [hvget i hil] at hv'
        injection hs with hs
        injection hv' with hv'
        subst hs hv'
        exact ⟨_, _, _, rfl, (hi' i hil).choose_spec.choose_spec.choose_spec.choose_spec.2⟩
end
end Go.Proofs.Ytljdkfhkpjjfgaa
