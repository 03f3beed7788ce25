/- The law PolicyVerdicts, walked; the arguments of policy's laws opened. -/
import Derived.Test.YtbfkjlkagkookaaPol7
import Derived.Test.YtbfkjlkagkookaaOpen
import Derived.HandedShaped
namespace Go.Proofs.Ytbfkjlkagkookaa
open Go.ChangeShapes Go.WideShapes Go.Deep Go.RowKit
set_option linter.unusedVariables false

section
variable {H : Type} {enc : TypeId × Value → H} {P : Program} {w : World} {base : Nat} {spare : Nat → Bool} {held : Bool}
/-- a struct of one-cell fields, cell by cell -/
theorem open_fields {t : TypeId} {fs : Array Field} {cs : Array Value} {d : DataW H} {ps : List MemPlace} (he : P.underlying t = some (.struct fs)) (hone : oneCellFields P fs = true) (hc : cs.size = fs.size)
    (h : DataW.Trod enc P w base spare held t (.agg cs) d ps) : ∀ (j : Nat) (f : Field), fs[j]? = some f → ∃ (u : Value) (y : DataW H × List MemPlace) (n : Nat), cs[j]? = some u ∧ DataW.trod enc P w base spare held n f.type [u] = some y := by
  obtain ⟨fuel, h⟩ := h
  simp only [Value.cells] at h
  obtain ⟨ys, n', hn', hy, hlen, hyl, hf⟩ := DataW.trod_struct he h
  intro j f hj
  obtain ⟨ho, hk⟩ := hone_of hone j f hj
  have hjl : j < fs.size := (Array.getElem?_eq_some_iff.1 hj).1
  have h1 := hf j f hj
  rw [ho, hk] at h1
  have hone' : (cs.toList.drop j).take 1 = [cs[j]'(by omega)] := by
    rw [List.drop_eq_getElem_cons (by simp; omega)]
    simp
  rw [hone'] at h1
  have hys : ys[j]? = some (ys[j]'(by omega)) := List.getElem?_eq_getElem (by omega)
  exact ⟨_, _, _, Array.getElem?_eq_getElem (by omega), h1.trans hys⟩
end
section
variable {H : Type} {enc : TypeId × Value → H} {w : World} {base : Nat} {spare : Nat → Bool} {held : Bool}
theorem cfg_open {cs : Array Value} {d : DataW H} {ps : List MemPlace} (hc : cs.size = Try.prog.cellsOf 23) (h : DataW.Trod enc Try.prog w base spare held 23 (.agg cs) d ps) : ∃ c : Cfg, cs = c.cs.toArray := by
  have hc6 : cs.size = 6 := hc.trans (by kernel_rfl)
  have hf := open_fields Try.underlying23 (by kernel_rfl) (hc6.trans (by rfl)) h
  obtain ⟨u0, y0, n0, e0, t0⟩ := hf 0 _ rfl
  obtain ⟨u1, y1, n1, e1, t1⟩ := hf 1 _ rfl
  obtain ⟨u2, y2, n2, e2, t2⟩ := hf 2 _ rfl
  obtain ⟨u3, y3, n3, e3, t3⟩ := hf 3 _ rfl
  obtain ⟨u4, y4, n4, e4, t4⟩ := hf 4 _ rfl
  obtain ⟨u5, y5, n5, e5, t5⟩ := hf 5 _ rfl
  obtain ⟨x0, rfl, _⟩ := trod_int1 Try.underlying3 t0
  obtain ⟨x1, rfl, _⟩ := trod_int1 Try.underlying3 t1
  obtain ⟨x2, rfl, _⟩ := trod_int1 Try.underlying3 t2
  obtain ⟨x3, rfl, _⟩ := trod_int1 Try.underlying3 t3
  obtain ⟨x4, rfl, _⟩ := trod_int1 Try.underlying3 t4
  obtain ⟨x5, rfl, _⟩ := trod_int1 Try.underlying3 t5
  refine ⟨⟨x0, x1, x2, x3, x4, x5⟩, ?_⟩
  refine Array.ext' ?_
  refine List.ext_getElem? fun i => ?_
  rw [Array.getElem?_toList]
  match i with
  | 0 => exact e0
  | 1 => exact e1
  | 2 => exact e2
  | 3 => exact e3
  | 4 => exact e4
  | 5 => exact e5
  | j + 6 => rw [Array.getElem?_eq_none (by omega)]; rfl
theorem vic_open {cs : Array Value} {d : DataW H} {ps : List MemPlace} (hc : cs.size = Try.prog.cellsOf 33) (h : DataW.Trod enc Try.prog w base spare held 33 (.agg cs) d ps) : ∃ v : Vic, cs = (vcells v).toArray := by
  have hc6 : cs.size = 4 := hc.trans (by kernel_rfl)
  have hf := open_fields Try.underlying33 (by kernel_rfl) (hc6.trans (by rfl)) h
  obtain ⟨u0, y0, n0, e0, t0⟩ := hf 0 _ rfl
  obtain ⟨u1, y1, n1, e1, t1⟩ := hf 1 _ rfl
  obtain ⟨u2, y2, n2, e2, t2⟩ := hf 2 _ rfl
  obtain ⟨u3, y3, n3, e3, t3⟩ := hf 3 _ rfl
  obtain ⟨x0, rfl, _⟩ := trod_int1 Try.underlying3 t0
  obtain ⟨x1, rfl, _⟩ := trod_int1 Try.underlying3 t1
  obtain ⟨x2, rfl, _⟩ := trod_int1 Try.underlying3 t2
  obtain ⟨x3, rfl, _⟩ := trod_int1 Try.underlying3 t3
  refine ⟨⟨x0, x1, x2, x3⟩, ?_⟩
  refine Array.ext' ?_
  refine List.ext_getElem? fun i => ?_
  rw [Array.getElem?_toList]
  match i with
  | 0 => exact e0
  | 1 => exact e1
  | 2 => exact e2
  | 3 => exact e3
  | j + 4 => rw [Array.getElem?_eq_none (by omega)]; rfl
theorem vics_open {A : Option Addr} {len cap : Nat} {d : DataW H} {ps : List MemPlace} (h : DataW.Trod enc Try.prog w base spare held 24 (.slice A len cap) d ps) :
    len ≤ cap ∧ cap ≤ maxLen ∧ (∃ vs, VSl w A len vs) ∧ ((∀ x ∈ d.weights Try.prog 24, x ≤ reachBytes) → (len + 1) * 32 ≤ 140737488355328) := by
  have h' := h
  obtain ⟨h1, h2, h3⟩ := open_structs Try.underlying24 Try.underlying33 (by kernel_rfl) (by kernel_rfl) (by decide) h
  refine ⟨h1, h2, ?_, ?_⟩
  · rcases Nat.eq_zero_or_pos len with rfl | h0
    · exact ⟨[], rfl, fun k v hv => by simp at hv⟩
    · obtain ⟨g, off, rfl, hi⟩ := h3 h0
      have hi' : ∀ i, i < len → ∃ v : Vic, w.cell? ⟨g, off + i * 4, none⟩ = some (.int .i64 v.1) ∧ w.cell? ⟨g, off + i * 4 + 1, none⟩ = some (.int .i64 v.2.1) ∧ w.cell? ⟨g, off + i * 4 + 2, none⟩ = some (.int .i64 v.2.2.1) ∧ w.cell? ⟨g, off + i * 4 + 3, none⟩ = some (.int .i64 v.2.2.2) := by
        intro i hil
        obtain ⟨n, hf⟩ := hi i hil
        obtain ⟨u0, y0, c0, t0⟩ := hf 0 _ rfl
        obtain ⟨u1, y1, c1, t1⟩ := hf 1 _ rfl
        obtain ⟨u2, y2, c2, t2⟩ := hf 2 _ rfl
        obtain ⟨u3, y3, c3, t3⟩ := hf 3 _ rfl
        obtain ⟨x0, rfl, _⟩ := trod_int1 Try.underlying3 t0
        obtain ⟨x1, rfl, _⟩ := trod_int1 Try.underlying3 t1
        obtain ⟨x2, rfl, _⟩ := trod_int1 Try.underlying3 t2
        obtain ⟨x3, rfl, _⟩ := trod_int1 Try.underlying3 t3
        exact ⟨(x0, x1, x2, x3), c0, c1, c2, c3⟩
      refine ⟨List.ofFn fun i : Fin len => (hi' i.1 i.2).choose, by simp, fun k v hv => ?_⟩
      have hk : k < len := by have := (List.getElem?_eq_some_iff.1 hv).1; simpa using this
      rw [List.getElem?_ofFn, dif_pos hk] at hv
      injection hv with hv
      subst hv
      exact ⟨g, off, rfl, (hi' k hk).choose_spec⟩
  · intro hw
    obtain ⟨fuel, hf⟩ := h'
    rcases open_slice_fields Try.underlying24 Try.underlying33 (by kernel_rfl) (by kernel_rfl) hf with ⟨hcs, _⟩ | ⟨a, len', cap', m, D, Pl, hcs, _, hl, hm, hmm, hx, _⟩
    · simp [Value.cells] at hcs
      obtain ⟨rfl, rfl, rfl⟩ := hcs
      decide
    · simp [Value.cells] at hcs
      obtain ⟨rfl, rfl, rfl⟩ := hcs
      have hlm : len ≤ m := by rw [hmm]; split <;> omega
      simp only [Prod.mk.injEq] at hx
      obtain ⟨rfl, _⟩ := hx
      have hb : Try.prog.bytesOf 33 = 32 := by kernel_rfl
      have := hw ((List.length ((List.range len).map D) + List.length ((List.range (m - len)).map fun j => D (len + j))) * Try.prog.bytesOf 33) (by simp only [DataW.weights, Try.underlying24]; exact List.mem_cons_self)
      rw [hb] at this
      simp only [List.length_map, List.length_range, reachBytes] at this
      omega
end

set_option maxHeartbeats 1600000 in
theorem verdicts_walk (c : Cfg) (stamp defers : Int) (A : Option Addr) (n cap : Nat) (vs : List Vic) (w : World) (hv : VSl w A n vs) (hb : (n + 1) * 32 ≤ 140737488355328) :
    Calls Try.prog 3 #[.agg c.cs.toArray, .int .i64 stamp, .int .i64 defers, .slice A n cap] w fun e w' => e = .returned (.bool true) ∧ Below w.heap.size w w' := by
  have hn : n ≤ 9223372036854775807 := by omega
  obtain ⟨z, ec, hV, hR⟩ : ∃ z ec : Int, (∀ A cap w0, VSl w0 A n vs → Calls Try.prog 9 #[.agg c.cs.toArray, .int .i64 stamp, .int .i64 defers, .slice A n cap] w0 fun e w' => e = .returned (.tuple #[.int .i64 z, .int .i64 ec]) ∧ Below w0.heap.size w0 w') ∧ (∀ A cap w0, VSl w0 A n vs → Calls Try.prog 10 #[.agg c.cs.toArray, .int .i64 stamp, .int .i64 defers, .slice A n cap] w0 fun e w' => e = .returned (.tuple #[.int .i64 z, .int .i64 ec]) ∧ Below w0.heap.size w0 w') := by
    by_cases ho : okC c = false ∨ defers < 0
    · exact ⟨0, 1, fun A cap w0 _ => verdict_bad c stamp defers A n cap w0 ho, fun A cap w0 _ => rverdict_bad c stamp defers A n cap w0 ho⟩
    · have h1 : okC c = true := by cases h : okC c; (· exact absurd (.inl h) ho); rfl
      have h2 : 0 ≤ defers := by omega
      exact ⟨verd c stamp defers n vs, 0, fun A cap w0 hv => verdict_ok c stamp defers A n cap vs w0 h1 h2 hv hn, fun A cap w0 hv => rverdict_ok c stamp defers A n cap vs w0 h1 h2 hv hn⟩
  obtain ⟨x1, x2, x3, x4, x5, x6⟩ := c
  have HV : Hid (∀ A cap w0, VSl w0 A n vs → Calls Try.prog 9 #[.agg #[.int .i64 x1, .int .i64 x2, .int .i64 x3, .int .i64 x4, .int .i64 x5, .int .i64 x6], .int .i64 stamp, .int .i64 defers, .slice A n cap] w0 fun e w' => e = .returned (.tuple #[.int .i64 z, .int .i64 ec]) ∧ Below w0.heap.size w0 w') := hV
  have HR : Hid (∀ A cap w0, VSl w0 A n vs → Calls Try.prog 10 #[.agg #[.int .i64 x1, .int .i64 x2, .int .i64 x3, .int .i64 x4, .int .i64 x5, .int .i64 x6], .int .i64 stamp, .int .i64 defers, .slice A n cap] w0 fun e w' => e = .returned (.tuple #[.int .i64 z, .int .i64 ec]) ∧ Below w0.heap.size w0 w') := hR
  show Calls Try.prog 3 #[.agg #[.int .i64 x1, .int .i64 x2, .int .i64 x3, .int .i64 x4, .int .i64 x5, .int .i64 x6], .int .i64 stamp, .int .i64 defers, .slice A n cap] w _
  have h1 := (Star.begin w).new (.cells #[.int .i64 x1, .int .i64 x2, .int .i64 x3, .int .i64 x4, .int .i64 x5, .int .i64 x6] 23)
  have hvl := hv.1
  have Hv := Lib.hid hv
  clear hv hV hR
  go_enter Try.func3, Try.ntmps3
  go_wp2_with fail
  refine (awake_any _ w _ h1).mono ?_
  rintro e w1 ⟨rfl, h2⟩
  go_wp2_with fail
  refine (lent_any A n cap vs _ w _ h2 (Hv.out.below h2.drop.below) hb).mono ?_
  rintro e w2 ⟨a, cc, rfl, hc1, hc2, h3⟩
  have hl : VSl w2 a (n + 1) (vs ++ [markV]) := h3.rowSl.vsl
  have Hl := Lib.hid hl
  have Hf : Hid (VSl w2 a n vs) := by have := hl.front; rwa [hvl] at this
  clear hl h1 h2
  have h3' := h3.swap
  have c0 : w2.cell? ⟨w.heap.size, 0, none⟩ = some (.int .i64 x1) := h3'.cell 0
  have c1 : w2.cell? ⟨w.heap.size, 1, none⟩ = some (.int .i64 x2) := h3'.cell 1
  have c2 : w2.cell? ⟨w.heap.size, 2, none⟩ = some (.int .i64 x3) := h3'.cell 2
  have c3 : w2.cell? ⟨w.heap.size, 3, none⟩ = some (.int .i64 x4) := h3'.cell 3
  have c4 : w2.cell? ⟨w.heap.size, 4, none⟩ = some (.int .i64 x5) := h3'.cell 4
  have c5 : w2.cell? ⟨w.heap.size, 5, none⟩ = some (.int .i64 x6) := h3'.cell 5
  go_wp2_with fail
  refine (HV.out _ _ _ Hf.out).mono ?_
  rintro e w3 ⟨rfl, b3⟩
  have h4 := h3'.of_below b3
  have Hl4 : Hid (VSl w3 a (n + 1) (vs ++ [markV])) := Hl.out.below b3
  clear h3 h3' Hl Hf c0 c1 c2 c3 c4 c5
  have c0 : w3.cell? ⟨w.heap.size, 0, none⟩ = some (.int .i64 x1) := h4.cell 0
  have c1 : w3.cell? ⟨w.heap.size, 1, none⟩ = some (.int .i64 x2) := h4.cell 1
  have c2 : w3.cell? ⟨w.heap.size, 2, none⟩ = some (.int .i64 x3) := h4.cell 2
  have c3 : w3.cell? ⟨w.heap.size, 3, none⟩ = some (.int .i64 x4) := h4.cell 3
  have c4 : w3.cell? ⟨w.heap.size, 4, none⟩ = some (.int .i64 x5) := h4.cell 4
  have c5 : w3.cell? ⟨w.heap.size, 5, none⟩ = some (.int .i64 x6) := h4.cell 5
  go_wp2_with fail
  refine (HR.out _ _ _ (Hv.out.below (h4.pull 2).below)).mono ?_
  rintro e w4 ⟨rfl, b4⟩
  have h5 := h4.of_below b4
  have Hl5 : Hid (VSl w4 a (n + 1) (vs ++ [markV])) := Hl4.out.below b4
  clear h4 Hl4 c0 c1 c2 c3 c4 c5 b3 b4
  go_wp2_with fail
  refine (whole_any a A cc cap n vs _ Hl5.out (Hv.out.below (h5.pull 2).below) hc1 hc2).mono ?_
  rintro e w5 ⟨rfl, m, rfl⟩
  go_wp2
  go_ret
  exact ⟨by simp, ((h5.pull 2).drewN m).below⟩
end Go.Proofs.Ytbfkjlkagkookaa
