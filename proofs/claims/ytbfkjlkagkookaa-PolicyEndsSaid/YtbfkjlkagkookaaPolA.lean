/- The law PolicyJudges, walked: two judges beside the document's, whatever they decide. Printed by gen_judges.py. -/
import Derived.Test.YtbfkjlkagkookaaPol8
namespace Go.Proofs.Ytbfkjlkagkookaa
open Go.ChangeShapes Go.WideShapes Go.Deep Go.RowKit
set_option linter.unusedVariables false

/-- a script of judges: what each step says, cell by cell -/
def OpsAt (w : World) (A : Option Addr) (len : Nat) : Prop :=
  ∀ k, k < len → ∃ g o other reset stamp B l c vs, A = some ⟨g, o, none⟩ ∧ g < w.heap.size ∧ w.cell? ⟨g, o + k * 4, none⟩ = some (.bool other) ∧ w.cell? ⟨g, o + k * 4 + 1, none⟩ = some (.bool reset) ∧ w.cell? ⟨g, o + k * 4 + 2, none⟩ = some (.int .i64 stamp) ∧ w.cell? ⟨g, o + k * 4 + 3, none⟩ = some (.slice B l c) ∧ VSl w B l vs ∧ (l + 1) * 32 ≤ 140737488355328

theorem weightsAll_mem' {H : Type} {P : Program} {e : TypeId} : ∀ {l : List (DataW H)} {d : DataW H}, d ∈ l → ∀ n ∈ d.weights P e, n ∈ DataW.weightsAll P e l
  | d' :: r, d, hd, n, hn => by
    simp only [DataW.weightsAll, List.mem_append]
    rcases List.mem_cons.1 hd with rfl | h
    · exact Or.inl hn
    · exact Or.inr (weightsAll_mem' h n hn)

theorem trod_slice1 {H : Type} {enc : TypeId × Value → H} {P : Program} {w : World} {base : Nat} {spare : Nat → Bool} {held : Bool} {t e : TypeId} {n : Nat} {u : Value} {y : DataW H × List MemPlace} (ht : P.underlying t = some (.slice e)) (h : DataW.trod enc P w base spare held n t [u] = some y) : ∃ A l c, u = .slice A l c := by
  rcases open_slice ht h with ⟨hcs, _⟩ | ⟨a, len, cap, m, n', D, Pl, hcs, _⟩
  · simp at hcs; exact ⟨_, _, _, hcs⟩
  · simp at hcs; exact ⟨_, _, _, hcs⟩

theorem ops_open {H : Type} {enc : TypeId × Value → H} {w : World} {base : Nat} {spare : Nat → Bool} {held : Bool} {A : Option Addr} {len cap : Nat} {d : DataW H} {ps : List MemPlace} (h : DataW.Trod enc Try.prog w base spare held 35 (.slice A len cap) d ps) (hw : ∀ x ∈ d.weights Try.prog 35, x ≤ reachBytes) :
    len ≤ cap ∧ cap ≤ maxLen ∧ OpsAt w A len := by
  obtain ⟨fuel, hf⟩ := h
  rcases open_slice_fields Try.underlying35 Try.underlying44 (by kernel_rfl) (by kernel_rfl) hf with ⟨hcs, _⟩ | ⟨a, len', cap', m, D', Pl, hcs, _, hl, hm, hmm, hx, hi⟩
  · simp [Value.cells] at hcs
    obtain ⟨rfl, rfl, rfl⟩ := hcs
    exact ⟨Nat.le_refl _, by simp [maxLen], fun k hk => absurd hk (by omega)⟩
  · simp [Value.cells] at hcs
    obtain ⟨rfl, rfl, rfl⟩ := hcs
    have hlm : len ≤ m := by rw [hmm]; split <;> omega
    simp only [Prod.mk.injEq] at hx
    obtain ⟨rfl, _⟩ := hx
    refine ⟨hl, hm, fun k hk => ?_⟩
    obtain ⟨ys, n, hD, _, hyl, hfl⟩ := hi k (by omega)
    obtain ⟨u0, z0, c0, e0, t0⟩ := hfl 0 _ rfl
    obtain ⟨u1, z1, c1, e1, t1⟩ := hfl 1 _ rfl
    obtain ⟨u2, z2, c2, e2, t2⟩ := hfl 2 _ rfl
    obtain ⟨u3, z3, c3, e3, t3⟩ := hfl 3 _ rfl
    obtain ⟨other, rfl⟩ := trod_bool1 Try.underlying4 t0
    obtain ⟨reset, rfl⟩ := trod_bool1 Try.underlying4 t1
    obtain ⟨stamp, rfl, _⟩ := trod_int1 Try.underlying3 t2
    obtain ⟨B, l, c, rfl⟩ := trod_slice1 Try.underlying24 t3
    have hpos : ∃ g o, a = ⟨g, o, none⟩ := by
      obtain ⟨ys0, n0, _, _, _, hf0⟩ := hi 0 (by omega)
      obtain ⟨u, y, hc, _⟩ := hf0 0 _ rfl
      exact addr_plain (by simp) hc
    obtain ⟨g, o, rfl⟩ := hpos
    rw [add_plain] at c0 c1 c2 c3
    have hvo := vics_open (A := B) (len := l) (cap := c) (d := z3.1) (ps := z3.2) ⟨n, by simpa [Value.cells] using t3⟩
    obtain ⟨_, _, ⟨vs, hvs⟩, hsz⟩ := hvo
    refine ⟨g, o, other, reset, stamp, B, l, c, vs, rfl, World.block_lt_of_cell? w _ c0, c0, c1, c2, c3, hvs, hsz fun x hx => hw x ?_⟩
    simp only [DataW.weights, Try.underlying35, List.mem_cons, List.mem_append]
    refine Or.inr (Or.inl (weightsAll_mem' (List.mem_map.2 ⟨k, List.mem_range.2 hk, rfl⟩) x ?_))
    rw [hD]
    simp only [DataW.weights, Try.underlying44]
    refine DataW.weights_mem_each (j := 3) (t := 24) (d := z3.1) rfl ?_ x hx
    rw [List.getElem?_map, e3]; rfl

theorem decD_nonneg {c : Cfg} {s d : Int} {n : Nat} {vs : List Vic} (h : 0 ≤ d) : 0 ≤ decD c s d n vs := by
  simp only [decD]; split <;> omega

set_option maxHeartbeats 6400000 in
set_option maxRecDepth 100000 in
theorem judges_bad1 (c d : Cfg) (A : Option Addr) (len cap : Nat) (w : World) (hA : OpsAt w A len) (hlen : len ≤ 9223372036854775807) (hoc : okC c = false) (hod : okC d = false) :
    Calls Try.prog 5 #[.agg c.cs.toArray, .agg d.cs.toArray, .slice A len cap] w fun e w' => e = .returned (.bool true) ∧ Below w.heap.size w w' := by
  have kC : ∀ w0, Calls Try.prog 13 #[.agg c.cs.toArray] w0 fun e w' => e = .returned (.int .i64 (chk c)) ∧ Below w0.heap.size w0 w' := rcheck_any c
  have kD : ∀ w0, Calls Try.prog 13 #[.agg d.cs.toArray] w0 fun e w' => e = .returned (.int .i64 (chk d)) ∧ Below w0.heap.size w0 w' := rcheck_any d
  have ec : chk c = 1 := by simp [chk, hoc]
  rw [ec] at kC
  have ed : chk d = 1 := by simp [chk, hod]
  rw [ed] at kD
  have nC : ∀ w0, Calls Try.prog 12 #[.agg c.cs.toArray] w0 fun e w' => e = .returned (.tuple #[.pointer none, .int .i64 1]) ∧ Below w0.heap.size w0 w' := fun w0 => new_bad c w0 hoc
  have nD : ∀ w0, Calls Try.prog 12 #[.agg d.cs.toArray] w0 fun e w' => e = .returned (.tuple #[.pointer none, .int .i64 1]) ∧ Below w0.heap.size w0 w' := fun w0 => new_bad d w0 hod
  clear ec ed hoc hod
  obtain ⟨x1, x2, x3, x4, x5, x6⟩ := c
  obtain ⟨y1, y2, y3, y4, y5, y6⟩ := d
  have KC : Hid (∀ w0, Calls Try.prog 13 #[.agg #[.int .i64 x1, .int .i64 x2, .int .i64 x3, .int .i64 x4, .int .i64 x5, .int .i64 x6]] w0 fun e w' => e = .returned (.int .i64 1) ∧ Below w0.heap.size w0 w') := kC
  have KD : Hid (∀ w0, Calls Try.prog 13 #[.agg #[.int .i64 y1, .int .i64 y2, .int .i64 y3, .int .i64 y4, .int .i64 y5, .int .i64 y6]] w0 fun e w' => e = .returned (.int .i64 1) ∧ Below w0.heap.size w0 w') := kD
  have NC : Hid (∀ w0, Calls Try.prog 12 #[.agg #[.int .i64 x1, .int .i64 x2, .int .i64 x3, .int .i64 x4, .int .i64 x5, .int .i64 x6]] w0 fun e w' => e = .returned (.tuple #[.pointer none, .int .i64 1]) ∧ Below w0.heap.size w0 w') := nC
  have ND : Hid (∀ w0, Calls Try.prog 12 #[.agg #[.int .i64 y1, .int .i64 y2, .int .i64 y3, .int .i64 y4, .int .i64 y5, .int .i64 y6]] w0 fun e w' => e = .returned (.tuple #[.pointer none, .int .i64 1]) ∧ Below w0.heap.size w0 w') := nD
  show Calls Try.prog 5 #[.agg #[.int .i64 x1, .int .i64 x2, .int .i64 x3, .int .i64 x4, .int .i64 x5, .int .i64 x6], .agg #[.int .i64 y1, .int .i64 y2, .int .i64 y3, .int .i64 y4, .int .i64 y5, .int .i64 y6], .slice A len cap] w _
  have h1 := ((Star.begin w).new (.cells #[.int .i64 x1, .int .i64 x2, .int .i64 x3, .int .i64 x4, .int .i64 x5, .int .i64 x6] 23)).new (.cells #[.int .i64 y1, .int .i64 y2, .int .i64 y3, .int .i64 y4, .int .i64 y5, .int .i64 y6] 23)
  rw [show (w.alloc (.cells #[.int .i64 x1, .int .i64 x2, .int .i64 x3, .int .i64 x4, .int .i64 x5, .int .i64 x6] 23)).heap.size = w.heap.size + 1 by simp] at h1
  have HA := Lib.hid hA
  clear kC kD nC nD hA
  go_enter Try.func5, Try.ntmps5
  go_wp2_with fail
  refine (awake_any _ w _ h1).mono ?_
  rintro e w1 ⟨rfl, h2⟩
  clear h1
  have c0 : w1.cell? ⟨w.heap.size, 0, none⟩ = some (.int .i64 x1) := h2.swap.cell 0
  have c1 : w1.cell? ⟨w.heap.size, 1, none⟩ = some (.int .i64 x2) := h2.swap.cell 1
  have c2 : w1.cell? ⟨w.heap.size, 2, none⟩ = some (.int .i64 x3) := h2.swap.cell 2
  have c3 : w1.cell? ⟨w.heap.size, 3, none⟩ = some (.int .i64 x4) := h2.swap.cell 3
  have c4 : w1.cell? ⟨w.heap.size, 4, none⟩ = some (.int .i64 x5) := h2.swap.cell 4
  have c5 : w1.cell? ⟨w.heap.size, 5, none⟩ = some (.int .i64 x6) := h2.swap.cell 5
  go_wp2_with fail
  refine (NC.out _).mono ?_
  rintro e w2 ⟨rfl, b2⟩
  have h3 := h2.swap.of_below b2
  clear b2
  clear h2 c0 c1 c2 c3 c4 c5
  have d0 : w2.cell? ⟨(w.heap.size + 1), 0, none⟩ = some (.int .i64 y1) := (h3.pull 1).cell 0
  have d1 : w2.cell? ⟨(w.heap.size + 1), 1, none⟩ = some (.int .i64 y2) := (h3.pull 1).cell 1
  have d2 : w2.cell? ⟨(w.heap.size + 1), 2, none⟩ = some (.int .i64 y3) := (h3.pull 1).cell 2
  have d3 : w2.cell? ⟨(w.heap.size + 1), 3, none⟩ = some (.int .i64 y4) := (h3.pull 1).cell 3
  have d4 : w2.cell? ⟨(w.heap.size + 1), 4, none⟩ = some (.int .i64 y5) := (h3.pull 1).cell 4
  have d5 : w2.cell? ⟨(w.heap.size + 1), 5, none⟩ = some (.int .i64 y6) := (h3.pull 1).cell 5
  go_wp2_with fail
  refine (ND.out _).mono ?_
  rintro e w3 ⟨rfl, b3⟩
  have h4 := h3.of_below b3
  clear b3
  clear h3 d0 d1 d2 d3 d4 d5
  have c0 : w3.cell? ⟨w.heap.size, 0, none⟩ = some (.int .i64 x1) := (h4.pull 0).cell 0
  have c1 : w3.cell? ⟨w.heap.size, 1, none⟩ = some (.int .i64 x2) := (h4.pull 0).cell 1
  have c2 : w3.cell? ⟨w.heap.size, 2, none⟩ = some (.int .i64 x3) := (h4.pull 0).cell 2
  have c3 : w3.cell? ⟨w.heap.size, 3, none⟩ = some (.int .i64 x4) := (h4.pull 0).cell 3
  have c4 : w3.cell? ⟨w.heap.size, 4, none⟩ = some (.int .i64 x5) := (h4.pull 0).cell 4
  have c5 : w3.cell? ⟨w.heap.size, 5, none⟩ = some (.int .i64 x6) := (h4.pull 0).cell 5
  go_wp2_with fail
  refine (KC.out _).mono ?_
  rintro e w4 ⟨rfl, b4⟩
  have h5 := h4.of_below b4
  clear h4 b4 c0 c1 c2 c3 c4 c5
  have d0 : w4.cell? ⟨(w.heap.size + 1), 0, none⟩ = some (.int .i64 y1) := (h5.pull 1).cell 0
  have d1 : w4.cell? ⟨(w.heap.size + 1), 1, none⟩ = some (.int .i64 y2) := (h5.pull 1).cell 1
  have d2 : w4.cell? ⟨(w.heap.size + 1), 2, none⟩ = some (.int .i64 y3) := (h5.pull 1).cell 2
  have d3 : w4.cell? ⟨(w.heap.size + 1), 3, none⟩ = some (.int .i64 y4) := (h5.pull 1).cell 3
  have d4 : w4.cell? ⟨(w.heap.size + 1), 4, none⟩ = some (.int .i64 y5) := (h5.pull 1).cell 4
  have d5 : w4.cell? ⟨(w.heap.size + 1), 5, none⟩ = some (.int .i64 y6) := (h5.pull 1).cell 5
  go_wp2_with fail
  refine (KD.out _).mono ?_
  rintro e w5 ⟨rfl, b5⟩
  have h6 := h5.of_below b5
  clear h5 b5 d0 d1 d2 d3 d4 d5
  go_wp2
  go_ret
  exact ⟨rfl, (h6.pull 2).below⟩

set_option maxHeartbeats 6400000 in
set_option maxRecDepth 100000 in
theorem judges_bad2 (c d : Cfg) (A : Option Addr) (len cap : Nat) (w : World) (hA : OpsAt w A len) (hlen : len ≤ 9223372036854775807) (hoc : okC c = false) (hod : okC d = true) :
    Calls Try.prog 5 #[.agg c.cs.toArray, .agg d.cs.toArray, .slice A len cap] w fun e w' => e = .returned (.bool true) ∧ Below w.heap.size w w' := by
  have kC : ∀ w0, Calls Try.prog 13 #[.agg c.cs.toArray] w0 fun e w' => e = .returned (.int .i64 (chk c)) ∧ Below w0.heap.size w0 w' := rcheck_any c
  have kD : ∀ w0, Calls Try.prog 13 #[.agg d.cs.toArray] w0 fun e w' => e = .returned (.int .i64 (chk d)) ∧ Below w0.heap.size w0 w' := rcheck_any d
  have ec : chk c = 1 := by simp [chk, hoc]
  rw [ec] at kC
  have ed : chk d = 0 := by simp [chk, hod]
  rw [ed] at kD
  have nC : ∀ w0, Calls Try.prog 12 #[.agg c.cs.toArray] w0 fun e w' => e = .returned (.tuple #[.pointer none, .int .i64 1]) ∧ Below w0.heap.size w0 w' := fun w0 => new_bad c w0 hoc
  have nD : ∀ R W w0, Star W w0 R → Calls Try.prog 12 #[.agg d.cs.toArray] w0 fun e w' => ∃ b, e = .returned (.tuple #[.pointer (some ⟨b, 0, none⟩), .int .i64 0]) ∧ Star W w' (judgeA 56 b d 0 :: R) := fun R W w0 h => new_ok d R W w0 hod h
  clear ec ed hoc hod
  obtain ⟨x1, x2, x3, x4, x5, x6⟩ := c
  obtain ⟨y1, y2, y3, y4, y5, y6⟩ := d
  have KC : Hid (∀ w0, Calls Try.prog 13 #[.agg #[.int .i64 x1, .int .i64 x2, .int .i64 x3, .int .i64 x4, .int .i64 x5, .int .i64 x6]] w0 fun e w' => e = .returned (.int .i64 1) ∧ Below w0.heap.size w0 w') := kC
  have KD : Hid (∀ w0, Calls Try.prog 13 #[.agg #[.int .i64 y1, .int .i64 y2, .int .i64 y3, .int .i64 y4, .int .i64 y5, .int .i64 y6]] w0 fun e w' => e = .returned (.int .i64 0) ∧ Below w0.heap.size w0 w') := kD
  have NC : Hid (∀ w0, Calls Try.prog 12 #[.agg #[.int .i64 x1, .int .i64 x2, .int .i64 x3, .int .i64 x4, .int .i64 x5, .int .i64 x6]] w0 fun e w' => e = .returned (.tuple #[.pointer none, .int .i64 1]) ∧ Below w0.heap.size w0 w') := nC
  have ND : Hid (∀ R W w0, Star W w0 R → Calls Try.prog 12 #[.agg #[.int .i64 y1, .int .i64 y2, .int .i64 y3, .int .i64 y4, .int .i64 y5, .int .i64 y6]] w0 fun e w' => ∃ b, e = .returned (.tuple #[.pointer (some ⟨b, 0, none⟩), .int .i64 0]) ∧ Star W w' (judgeA 56 b ⟨y1, y2, y3, y4, y5, y6⟩ 0 :: R)) := nD
  show Calls Try.prog 5 #[.agg #[.int .i64 x1, .int .i64 x2, .int .i64 x3, .int .i64 x4, .int .i64 x5, .int .i64 x6], .agg #[.int .i64 y1, .int .i64 y2, .int .i64 y3, .int .i64 y4, .int .i64 y5, .int .i64 y6], .slice A len cap] w _
  have h1 := ((Star.begin w).new (.cells #[.int .i64 x1, .int .i64 x2, .int .i64 x3, .int .i64 x4, .int .i64 x5, .int .i64 x6] 23)).new (.cells #[.int .i64 y1, .int .i64 y2, .int .i64 y3, .int .i64 y4, .int .i64 y5, .int .i64 y6] 23)
  rw [show (w.alloc (.cells #[.int .i64 x1, .int .i64 x2, .int .i64 x3, .int .i64 x4, .int .i64 x5, .int .i64 x6] 23)).heap.size = w.heap.size + 1 by simp] at h1
  have HA := Lib.hid hA
  clear kC kD nC nD hA
  go_enter Try.func5, Try.ntmps5
  go_wp2_with fail
  refine (awake_any _ w _ h1).mono ?_
  rintro e w1 ⟨rfl, h2⟩
  clear h1
  have c0 : w1.cell? ⟨w.heap.size, 0, none⟩ = some (.int .i64 x1) := h2.swap.cell 0
  have c1 : w1.cell? ⟨w.heap.size, 1, none⟩ = some (.int .i64 x2) := h2.swap.cell 1
  have c2 : w1.cell? ⟨w.heap.size, 2, none⟩ = some (.int .i64 x3) := h2.swap.cell 2
  have c3 : w1.cell? ⟨w.heap.size, 3, none⟩ = some (.int .i64 x4) := h2.swap.cell 3
  have c4 : w1.cell? ⟨w.heap.size, 4, none⟩ = some (.int .i64 x5) := h2.swap.cell 4
  have c5 : w1.cell? ⟨w.heap.size, 5, none⟩ = some (.int .i64 x6) := h2.swap.cell 5
  go_wp2_with fail
  refine (NC.out _).mono ?_
  rintro e w2 ⟨rfl, b2⟩
  have h3 := h2.swap.of_below b2
  clear b2
  clear h2 c0 c1 c2 c3 c4 c5
  have d0 : w2.cell? ⟨(w.heap.size + 1), 0, none⟩ = some (.int .i64 y1) := (h3.pull 1).cell 0
  have d1 : w2.cell? ⟨(w.heap.size + 1), 1, none⟩ = some (.int .i64 y2) := (h3.pull 1).cell 1
  have d2 : w2.cell? ⟨(w.heap.size + 1), 2, none⟩ = some (.int .i64 y3) := (h3.pull 1).cell 2
  have d3 : w2.cell? ⟨(w.heap.size + 1), 3, none⟩ = some (.int .i64 y4) := (h3.pull 1).cell 3
  have d4 : w2.cell? ⟨(w.heap.size + 1), 4, none⟩ = some (.int .i64 y5) := (h3.pull 1).cell 4
  have d5 : w2.cell? ⟨(w.heap.size + 1), 5, none⟩ = some (.int .i64 y6) := (h3.pull 1).cell 5
  go_wp2_with fail
  refine (ND.out _ w _ h3).mono ?_
  rintro e w3 ⟨bk, rfl, h4⟩
  clear h3 d0 d1 d2 d3 d4 d5
  have c0 : w3.cell? ⟨w.heap.size, 0, none⟩ = some (.int .i64 x1) := (h4.pull 1).cell 0
  have c1 : w3.cell? ⟨w.heap.size, 1, none⟩ = some (.int .i64 x2) := (h4.pull 1).cell 1
  have c2 : w3.cell? ⟨w.heap.size, 2, none⟩ = some (.int .i64 x3) := (h4.pull 1).cell 2
  have c3 : w3.cell? ⟨w.heap.size, 3, none⟩ = some (.int .i64 x4) := (h4.pull 1).cell 3
  have c4 : w3.cell? ⟨w.heap.size, 4, none⟩ = some (.int .i64 x5) := (h4.pull 1).cell 4
  have c5 : w3.cell? ⟨w.heap.size, 5, none⟩ = some (.int .i64 x6) := (h4.pull 1).cell 5
  go_wp2_with fail
  refine (KC.out _).mono ?_
  rintro e w4 ⟨rfl, b4⟩
  have h5 := h4.of_below b4
  clear h4 b4 c0 c1 c2 c3 c4 c5
  have d0 : w4.cell? ⟨(w.heap.size + 1), 0, none⟩ = some (.int .i64 y1) := (h5.pull 2).cell 0
  have d1 : w4.cell? ⟨(w.heap.size + 1), 1, none⟩ = some (.int .i64 y2) := (h5.pull 2).cell 1
  have d2 : w4.cell? ⟨(w.heap.size + 1), 2, none⟩ = some (.int .i64 y3) := (h5.pull 2).cell 2
  have d3 : w4.cell? ⟨(w.heap.size + 1), 3, none⟩ = some (.int .i64 y4) := (h5.pull 2).cell 3
  have d4 : w4.cell? ⟨(w.heap.size + 1), 4, none⟩ = some (.int .i64 y5) := (h5.pull 2).cell 4
  have d5 : w4.cell? ⟨(w.heap.size + 1), 5, none⟩ = some (.int .i64 y6) := (h5.pull 2).cell 5
  go_wp2_with fail
  refine (KD.out _).mono ?_
  rintro e w5 ⟨rfl, b5⟩
  have h6 := h5.of_below b5
  clear h5 b5 d0 d1 d2 d3 d4 d5
  go_wp2
  go_ret
  exact ⟨rfl, (h6.pull 3).below⟩

set_option maxHeartbeats 6400000 in
set_option maxRecDepth 100000 in
theorem judges_bad3 (c d : Cfg) (A : Option Addr) (len cap : Nat) (w : World) (hA : OpsAt w A len) (hlen : len ≤ 9223372036854775807) (hoc : okC c = true) (hod : okC d = false) :
    Calls Try.prog 5 #[.agg c.cs.toArray, .agg d.cs.toArray, .slice A len cap] w fun e w' => e = .returned (.bool true) ∧ Below w.heap.size w w' := by
  have kC : ∀ w0, Calls Try.prog 13 #[.agg c.cs.toArray] w0 fun e w' => e = .returned (.int .i64 (chk c)) ∧ Below w0.heap.size w0 w' := rcheck_any c
  have kD : ∀ w0, Calls Try.prog 13 #[.agg d.cs.toArray] w0 fun e w' => e = .returned (.int .i64 (chk d)) ∧ Below w0.heap.size w0 w' := rcheck_any d
  have ec : chk c = 0 := by simp [chk, hoc]
  rw [ec] at kC
  have ed : chk d = 1 := by simp [chk, hod]
  rw [ed] at kD
  have nC : ∀ R W w0, Star W w0 R → Calls Try.prog 12 #[.agg c.cs.toArray] w0 fun e w' => ∃ b, e = .returned (.tuple #[.pointer (some ⟨b, 0, none⟩), .int .i64 0]) ∧ Star W w' (judgeA 56 b c 0 :: R) := fun R W w0 h => new_ok c R W w0 hoc h
  have nD : ∀ w0, Calls Try.prog 12 #[.agg d.cs.toArray] w0 fun e w' => e = .returned (.tuple #[.pointer none, .int .i64 1]) ∧ Below w0.heap.size w0 w' := fun w0 => new_bad d w0 hod
  clear ec ed hoc hod
  obtain ⟨x1, x2, x3, x4, x5, x6⟩ := c
  obtain ⟨y1, y2, y3, y4, y5, y6⟩ := d
  have KC : Hid (∀ w0, Calls Try.prog 13 #[.agg #[.int .i64 x1, .int .i64 x2, .int .i64 x3, .int .i64 x4, .int .i64 x5, .int .i64 x6]] w0 fun e w' => e = .returned (.int .i64 0) ∧ Below w0.heap.size w0 w') := kC
  have KD : Hid (∀ w0, Calls Try.prog 13 #[.agg #[.int .i64 y1, .int .i64 y2, .int .i64 y3, .int .i64 y4, .int .i64 y5, .int .i64 y6]] w0 fun e w' => e = .returned (.int .i64 1) ∧ Below w0.heap.size w0 w') := kD
  have NC : Hid (∀ R W w0, Star W w0 R → Calls Try.prog 12 #[.agg #[.int .i64 x1, .int .i64 x2, .int .i64 x3, .int .i64 x4, .int .i64 x5, .int .i64 x6]] w0 fun e w' => ∃ b, e = .returned (.tuple #[.pointer (some ⟨b, 0, none⟩), .int .i64 0]) ∧ Star W w' (judgeA 56 b ⟨x1, x2, x3, x4, x5, x6⟩ 0 :: R)) := nC
  have ND : Hid (∀ w0, Calls Try.prog 12 #[.agg #[.int .i64 y1, .int .i64 y2, .int .i64 y3, .int .i64 y4, .int .i64 y5, .int .i64 y6]] w0 fun e w' => e = .returned (.tuple #[.pointer none, .int .i64 1]) ∧ Below w0.heap.size w0 w') := nD
  show Calls Try.prog 5 #[.agg #[.int .i64 x1, .int .i64 x2, .int .i64 x3, .int .i64 x4, .int .i64 x5, .int .i64 x6], .agg #[.int .i64 y1, .int .i64 y2, .int .i64 y3, .int .i64 y4, .int .i64 y5, .int .i64 y6], .slice A len cap] w _
  have h1 := ((Star.begin w).new (.cells #[.int .i64 x1, .int .i64 x2, .int .i64 x3, .int .i64 x4, .int .i64 x5, .int .i64 x6] 23)).new (.cells #[.int .i64 y1, .int .i64 y2, .int .i64 y3, .int .i64 y4, .int .i64 y5, .int .i64 y6] 23)
  rw [show (w.alloc (.cells #[.int .i64 x1, .int .i64 x2, .int .i64 x3, .int .i64 x4, .int .i64 x5, .int .i64 x6] 23)).heap.size = w.heap.size + 1 by simp] at h1
  have HA := Lib.hid hA
  clear kC kD nC nD hA
  go_enter Try.func5, Try.ntmps5
  go_wp2_with fail
  refine (awake_any _ w _ h1).mono ?_
  rintro e w1 ⟨rfl, h2⟩
  clear h1
  have c0 : w1.cell? ⟨w.heap.size, 0, none⟩ = some (.int .i64 x1) := h2.swap.cell 0
  have c1 : w1.cell? ⟨w.heap.size, 1, none⟩ = some (.int .i64 x2) := h2.swap.cell 1
  have c2 : w1.cell? ⟨w.heap.size, 2, none⟩ = some (.int .i64 x3) := h2.swap.cell 2
  have c3 : w1.cell? ⟨w.heap.size, 3, none⟩ = some (.int .i64 x4) := h2.swap.cell 3
  have c4 : w1.cell? ⟨w.heap.size, 4, none⟩ = some (.int .i64 x5) := h2.swap.cell 4
  have c5 : w1.cell? ⟨w.heap.size, 5, none⟩ = some (.int .i64 x6) := h2.swap.cell 5
  go_wp2_with fail
  refine (NC.out _ w _ h2.swap).mono ?_
  rintro e w2 ⟨bj, rfl, h3⟩
  clear h2 c0 c1 c2 c3 c4 c5
  have d0 : w2.cell? ⟨(w.heap.size + 1), 0, none⟩ = some (.int .i64 y1) := (h3.pull 2).cell 0
  have d1 : w2.cell? ⟨(w.heap.size + 1), 1, none⟩ = some (.int .i64 y2) := (h3.pull 2).cell 1
  have d2 : w2.cell? ⟨(w.heap.size + 1), 2, none⟩ = some (.int .i64 y3) := (h3.pull 2).cell 2
  have d3 : w2.cell? ⟨(w.heap.size + 1), 3, none⟩ = some (.int .i64 y4) := (h3.pull 2).cell 3
  have d4 : w2.cell? ⟨(w.heap.size + 1), 4, none⟩ = some (.int .i64 y5) := (h3.pull 2).cell 4
  have d5 : w2.cell? ⟨(w.heap.size + 1), 5, none⟩ = some (.int .i64 y6) := (h3.pull 2).cell 5
  go_wp2_with fail
  refine (ND.out _).mono ?_
  rintro e w3 ⟨rfl, b3⟩
  have h4 := h3.of_below b3
  clear b3
  clear h3 d0 d1 d2 d3 d4 d5
  have c0 : w3.cell? ⟨w.heap.size, 0, none⟩ = some (.int .i64 x1) := (h4.pull 1).cell 0
  have c1 : w3.cell? ⟨w.heap.size, 1, none⟩ = some (.int .i64 x2) := (h4.pull 1).cell 1
  have c2 : w3.cell? ⟨w.heap.size, 2, none⟩ = some (.int .i64 x3) := (h4.pull 1).cell 2
  have c3 : w3.cell? ⟨w.heap.size, 3, none⟩ = some (.int .i64 x4) := (h4.pull 1).cell 3
  have c4 : w3.cell? ⟨w.heap.size, 4, none⟩ = some (.int .i64 x5) := (h4.pull 1).cell 4
  have c5 : w3.cell? ⟨w.heap.size, 5, none⟩ = some (.int .i64 x6) := (h4.pull 1).cell 5
  go_wp2_with fail
  refine (KC.out _).mono ?_
  rintro e w4 ⟨rfl, b4⟩
  have h5 := h4.of_below b4
  clear h4 b4 c0 c1 c2 c3 c4 c5
  have d0 : w4.cell? ⟨(w.heap.size + 1), 0, none⟩ = some (.int .i64 y1) := (h5.pull 2).cell 0
  have d1 : w4.cell? ⟨(w.heap.size + 1), 1, none⟩ = some (.int .i64 y2) := (h5.pull 2).cell 1
  have d2 : w4.cell? ⟨(w.heap.size + 1), 2, none⟩ = some (.int .i64 y3) := (h5.pull 2).cell 2
  have d3 : w4.cell? ⟨(w.heap.size + 1), 3, none⟩ = some (.int .i64 y4) := (h5.pull 2).cell 3
  have d4 : w4.cell? ⟨(w.heap.size + 1), 4, none⟩ = some (.int .i64 y5) := (h5.pull 2).cell 4
  have d5 : w4.cell? ⟨(w.heap.size + 1), 5, none⟩ = some (.int .i64 y6) := (h5.pull 2).cell 5
  go_wp2_with fail
  refine (KD.out _).mono ?_
  rintro e w5 ⟨rfl, b5⟩
  have h6 := h5.of_below b5
  clear h5 b5 d0 d1 d2 d3 d4 d5
  go_wp2
  go_ret
  exact ⟨rfl, (h6.pull 3).below⟩

set_option maxHeartbeats 6400000 in
set_option maxRecDepth 100000 in
theorem judges_ok (c d : Cfg) (A : Option Addr) (len cap : Nat) (w : World) (hA : OpsAt w A len) (hlen : len ≤ 9223372036854775807) (hoc : okC c = true) (hod : okC d = true) :
    Calls Try.prog 5 #[.agg c.cs.toArray, .agg d.cs.toArray, .slice A len cap] w fun e w' => e = .returned (.bool true) ∧ Below w.heap.size w w' := by
  have kC : ∀ w0, Calls Try.prog 13 #[.agg c.cs.toArray] w0 fun e w' => e = .returned (.int .i64 (chk c)) ∧ Below w0.heap.size w0 w' := rcheck_any c
  have kD : ∀ w0, Calls Try.prog 13 #[.agg d.cs.toArray] w0 fun e w' => e = .returned (.int .i64 (chk d)) ∧ Below w0.heap.size w0 w' := rcheck_any d
  have ec : chk c = 0 := by simp [chk, hoc]
  rw [ec] at kC
  have ed : chk d = 0 := by simp [chk, hod]
  rw [ed] at kD
  have nC : ∀ R W w0, Star W w0 R → Calls Try.prog 12 #[.agg c.cs.toArray] w0 fun e w' => ∃ b, e = .returned (.tuple #[.pointer (some ⟨b, 0, none⟩), .int .i64 0]) ∧ Star W w' (judgeA 56 b c 0 :: R) := fun R W w0 h => new_ok c R W w0 hoc h
  have nD : ∀ R W w0, Star W w0 R → Calls Try.prog 12 #[.agg d.cs.toArray] w0 fun e w' => ∃ b, e = .returned (.tuple #[.pointer (some ⟨b, 0, none⟩), .int .i64 0]) ∧ Star W w' (judgeA 56 b d 0 :: R) := fun R W w0 h => new_ok d R W w0 hod h
  have cjC : ∀ R W w0 b e stamp B l cap vs, Star W w0 (judgeA 56 b c e :: R) → 0 ≤ e → VSl w0 B l vs → l ≤ 9223372036854775807 → Calls Try.prog 15 #[.pointer (some ⟨b, 0, none⟩), .int .i64 stamp, .slice B l cap] w0 fun ex w' => ex = .returned (.int .i64 (verd c stamp e l vs)) ∧ Star W w' (judgeA 56 b c (decD c stamp e l vs) :: R) := fun R W w0 b e stamp B l cap vs h he hv hn => decide_any c R W w0 b e stamp B l cap vs h hoc he hv hn
  have crC : ∀ R W w0 b e stamp B l cap vs, Star W w0 (judgeA 42 b c e :: R) → 0 ≤ e → VSl w0 B l vs → l ≤ 9223372036854775807 → Calls Try.prog 16 #[.pointer (some ⟨b, 0, none⟩), .int .i64 stamp, .slice B l cap] w0 fun ex w' => ex = .returned (.int .i64 (verd c stamp e l vs)) ∧ Star W w' (judgeA 42 b c (decD c stamp e l vs) :: R) := fun R W w0 b e stamp B l cap vs h he hv hn => rdecide_any c R W w0 b e stamp B l cap vs h hoc he hv hn
  have cjD : ∀ R W w0 b e stamp B l cap vs, Star W w0 (judgeA 56 b d e :: R) → 0 ≤ e → VSl w0 B l vs → l ≤ 9223372036854775807 → Calls Try.prog 15 #[.pointer (some ⟨b, 0, none⟩), .int .i64 stamp, .slice B l cap] w0 fun ex w' => ex = .returned (.int .i64 (verd d stamp e l vs)) ∧ Star W w' (judgeA 56 b d (decD d stamp e l vs) :: R) := fun R W w0 b e stamp B l cap vs h he hv hn => decide_any d R W w0 b e stamp B l cap vs h hod he hv hn
  have crD : ∀ R W w0 b e stamp B l cap vs, Star W w0 (judgeA 42 b d e :: R) → 0 ≤ e → VSl w0 B l vs → l ≤ 9223372036854775807 → Calls Try.prog 16 #[.pointer (some ⟨b, 0, none⟩), .int .i64 stamp, .slice B l cap] w0 fun ex w' => ex = .returned (.int .i64 (verd d stamp e l vs)) ∧ Star W w' (judgeA 42 b d (decD d stamp e l vs) :: R) := fun R W w0 b e stamp B l cap vs h he hv hn => rdecide_any d R W w0 b e stamp B l cap vs h hod he hv hn
  clear ec ed hoc hod
  obtain ⟨x1, x2, x3, x4, x5, x6⟩ := c
  obtain ⟨y1, y2, y3, y4, y5, y6⟩ := d
  have KC : Hid (∀ w0, Calls Try.prog 13 #[.agg #[.int .i64 x1, .int .i64 x2, .int .i64 x3, .int .i64 x4, .int .i64 x5, .int .i64 x6]] w0 fun e w' => e = .returned (.int .i64 0) ∧ Below w0.heap.size w0 w') := kC
  have KD : Hid (∀ w0, Calls Try.prog 13 #[.agg #[.int .i64 y1, .int .i64 y2, .int .i64 y3, .int .i64 y4, .int .i64 y5, .int .i64 y6]] w0 fun e w' => e = .returned (.int .i64 0) ∧ Below w0.heap.size w0 w') := kD
  have NC : Hid (∀ R W w0, Star W w0 R → Calls Try.prog 12 #[.agg #[.int .i64 x1, .int .i64 x2, .int .i64 x3, .int .i64 x4, .int .i64 x5, .int .i64 x6]] w0 fun e w' => ∃ b, e = .returned (.tuple #[.pointer (some ⟨b, 0, none⟩), .int .i64 0]) ∧ Star W w' (judgeA 56 b ⟨x1, x2, x3, x4, x5, x6⟩ 0 :: R)) := nC
  have ND : Hid (∀ R W w0, Star W w0 R → Calls Try.prog 12 #[.agg #[.int .i64 y1, .int .i64 y2, .int .i64 y3, .int .i64 y4, .int .i64 y5, .int .i64 y6]] w0 fun e w' => ∃ b, e = .returned (.tuple #[.pointer (some ⟨b, 0, none⟩), .int .i64 0]) ∧ Star W w' (judgeA 56 b ⟨y1, y2, y3, y4, y5, y6⟩ 0 :: R)) := nD
  have DC := Lib.hid cjC; have RC := Lib.hid crC; have DD := Lib.hid cjD; have RD := Lib.hid crD
  clear cjC crC cjD crD
  show Calls Try.prog 5 #[.agg #[.int .i64 x1, .int .i64 x2, .int .i64 x3, .int .i64 x4, .int .i64 x5, .int .i64 x6], .agg #[.int .i64 y1, .int .i64 y2, .int .i64 y3, .int .i64 y4, .int .i64 y5, .int .i64 y6], .slice A len cap] w _
  have h1 := ((Star.begin w).new (.cells #[.int .i64 x1, .int .i64 x2, .int .i64 x3, .int .i64 x4, .int .i64 x5, .int .i64 x6] 23)).new (.cells #[.int .i64 y1, .int .i64 y2, .int .i64 y3, .int .i64 y4, .int .i64 y5, .int .i64 y6] 23)
  rw [show (w.alloc (.cells #[.int .i64 x1, .int .i64 x2, .int .i64 x3, .int .i64 x4, .int .i64 x5, .int .i64 x6] 23)).heap.size = w.heap.size + 1 by simp] at h1
  have HA := Lib.hid hA
  clear kC kD nC nD hA
  go_enter Try.func5, Try.ntmps5
  go_wp2_with fail
  refine (awake_any _ w _ h1).mono ?_
  rintro e w1 ⟨rfl, h2⟩
  clear h1
  have c0 : w1.cell? ⟨w.heap.size, 0, none⟩ = some (.int .i64 x1) := h2.swap.cell 0
  have c1 : w1.cell? ⟨w.heap.size, 1, none⟩ = some (.int .i64 x2) := h2.swap.cell 1
  have c2 : w1.cell? ⟨w.heap.size, 2, none⟩ = some (.int .i64 x3) := h2.swap.cell 2
  have c3 : w1.cell? ⟨w.heap.size, 3, none⟩ = some (.int .i64 x4) := h2.swap.cell 3
  have c4 : w1.cell? ⟨w.heap.size, 4, none⟩ = some (.int .i64 x5) := h2.swap.cell 4
  have c5 : w1.cell? ⟨w.heap.size, 5, none⟩ = some (.int .i64 x6) := h2.swap.cell 5
  go_wp2_with fail
  refine (NC.out _ w _ h2.swap).mono ?_
  rintro e w2 ⟨bj, rfl, h3⟩
  clear h2 c0 c1 c2 c3 c4 c5
  have d0 : w2.cell? ⟨(w.heap.size + 1), 0, none⟩ = some (.int .i64 y1) := (h3.pull 2).cell 0
  have d1 : w2.cell? ⟨(w.heap.size + 1), 1, none⟩ = some (.int .i64 y2) := (h3.pull 2).cell 1
  have d2 : w2.cell? ⟨(w.heap.size + 1), 2, none⟩ = some (.int .i64 y3) := (h3.pull 2).cell 2
  have d3 : w2.cell? ⟨(w.heap.size + 1), 3, none⟩ = some (.int .i64 y4) := (h3.pull 2).cell 3
  have d4 : w2.cell? ⟨(w.heap.size + 1), 4, none⟩ = some (.int .i64 y5) := (h3.pull 2).cell 4
  have d5 : w2.cell? ⟨(w.heap.size + 1), 5, none⟩ = some (.int .i64 y6) := (h3.pull 2).cell 5
  go_wp2_with fail
  refine (ND.out _ w _ h3).mono ?_
  rintro e w3 ⟨bk, rfl, h4⟩
  clear h3 d0 d1 d2 d3 d4 d5
  have c0 : w3.cell? ⟨w.heap.size, 0, none⟩ = some (.int .i64 x1) := (h4.pull 2).cell 0
  have c1 : w3.cell? ⟨w.heap.size, 1, none⟩ = some (.int .i64 x2) := (h4.pull 2).cell 1
  have c2 : w3.cell? ⟨w.heap.size, 2, none⟩ = some (.int .i64 x3) := (h4.pull 2).cell 2
  have c3 : w3.cell? ⟨w.heap.size, 3, none⟩ = some (.int .i64 x4) := (h4.pull 2).cell 3
  have c4 : w3.cell? ⟨w.heap.size, 4, none⟩ = some (.int .i64 x5) := (h4.pull 2).cell 4
  have c5 : w3.cell? ⟨w.heap.size, 5, none⟩ = some (.int .i64 x6) := (h4.pull 2).cell 5
  go_wp2_with fail
  refine (KC.out _).mono ?_
  rintro e w4 ⟨rfl, b4⟩
  have h5 := h4.of_below b4
  clear h4 b4 c0 c1 c2 c3 c4 c5
  have d0 : w4.cell? ⟨(w.heap.size + 1), 0, none⟩ = some (.int .i64 y1) := (h5.pull 3).cell 0
  have d1 : w4.cell? ⟨(w.heap.size + 1), 1, none⟩ = some (.int .i64 y2) := (h5.pull 3).cell 1
  have d2 : w4.cell? ⟨(w.heap.size + 1), 2, none⟩ = some (.int .i64 y3) := (h5.pull 3).cell 2
  have d3 : w4.cell? ⟨(w.heap.size + 1), 3, none⟩ = some (.int .i64 y4) := (h5.pull 3).cell 3
  have d4 : w4.cell? ⟨(w.heap.size + 1), 4, none⟩ = some (.int .i64 y5) := (h5.pull 3).cell 4
  have d5 : w4.cell? ⟨(w.heap.size + 1), 5, none⟩ = some (.int .i64 y6) := (h5.pull 3).cell 5
  go_wp2_with fail
  refine (KD.out _).mono ?_
  rintro e w5 ⟨rfl, b5⟩
  have h6 := h5.of_below b5
  clear h5 b5 d0 d1 d2 d3 d4 d5
  have c0 : w5.cell? ⟨w.heap.size, 0, none⟩ = some (.int .i64 x1) := (h6.pull 2).cell 0
  have c1 : w5.cell? ⟨w.heap.size, 1, none⟩ = some (.int .i64 x2) := (h6.pull 2).cell 1
  have c2 : w5.cell? ⟨w.heap.size, 2, none⟩ = some (.int .i64 x3) := (h6.pull 2).cell 2
  have c3 : w5.cell? ⟨w.heap.size, 3, none⟩ = some (.int .i64 x4) := (h6.pull 2).cell 3
  have c4 : w5.cell? ⟨w.heap.size, 4, none⟩ = some (.int .i64 x5) := (h6.pull 2).cell 4
  have c5 : w5.cell? ⟨w.heap.size, 5, none⟩ = some (.int .i64 x6) := (h6.pull 2).cell 5
  have d0 : w5.cell? ⟨(w.heap.size + 1), 0, none⟩ = some (.int .i64 y1) := (h6.pull 3).cell 0
  have d1 : w5.cell? ⟨(w.heap.size + 1), 1, none⟩ = some (.int .i64 y2) := (h6.pull 3).cell 1
  have d2 : w5.cell? ⟨(w.heap.size + 1), 2, none⟩ = some (.int .i64 y3) := (h6.pull 3).cell 2
  have d3 : w5.cell? ⟨(w.heap.size + 1), 3, none⟩ = some (.int .i64 y4) := (h6.pull 3).cell 3
  have d4 : w5.cell? ⟨(w.heap.size + 1), 4, none⟩ = some (.int .i64 y5) := (h6.pull 3).cell 4
  have d5 : w5.cell? ⟨(w.heap.size + 1), 5, none⟩ = some (.int .i64 y6) := (h6.pull 3).cell 5
  have h7 := (h6.new (.cells #[.int .i64 x1, .int .i64 x2, .int .i64 x3, .int .i64 x4, .int .i64 x5, .int .i64 x6, .int .i64 0] 42)).new (.cells #[.int .i64 y1, .int .i64 y2, .int .i64 y3, .int .i64 y4, .int .i64 y5, .int .i64 y6, .int .i64 0] 42)
  rw [show (w5.alloc (.cells #[.int .i64 x1, .int .i64 x2, .int .i64 x3, .int .i64 x4, .int .i64 x5, .int .i64 x6, .int .i64 0] 42)).heap.size = w5.heap.size + 1 by simp] at h7
  have hlt := (h6.pull 3).lt
  have hltc := (h6.pull 2).lt
  go_wp2
  have h8 : Star w _ [judgeA 56 bj ⟨x1, x2, x3, x4, x5, x6⟩ 0, judgeA 56 bk ⟨y1, y2, y3, y4, y5, y6⟩ 0, judgeA 42 w5.heap.size ⟨x1, x2, x3, x4, x5, x6⟩ 0, judgeA 42 (w5.heap.size + 1) ⟨y1, y2, y3, y4, y5, y6⟩ 0, oldA w] := h7.pick 7 [3, 2, 1, 0, 6]
  clear h6 h7 c0 c1 c2 c3 c4 c5 d0 d1 d2 d3 d4 d5 hlt hltc KC KD NC ND
  go_loopw [14] (fun i wr => ∃ k : Nat, k ≤ len ∧ i = .int .i64 k ∧ ∃ p q, 0 ≤ p ∧ 0 ≤ q ∧ Star w wr [judgeA 56 bj ⟨x1, x2, x3, x4, x5, x6⟩ p, judgeA 56 bk ⟨y1, y2, y3, y4, y5, y6⟩ q, judgeA 42 w5.heap.size ⟨x1, x2, x3, x4, x5, x6⟩ p, judgeA 42 (w5.heap.size + 1) ⟨y1, y2, y3, y4, y5, y6⟩ q, oldA w]) (fun i _ => len - (intOf i).toNat)
  case atStart => exact ⟨0, Nat.zero_le _, rfl, 0, 0, by decide, by decide, h8⟩
  case round =>
    obtain ⟨k, hk, rfl, p, q, hp, hq, hR⟩ := hrel
    clear h8
    by_cases hkl : k < len
    · obtain ⟨g, o, other, reset, stamp, B, l, cb, vs, rfl, hg, c0, c1, c2, c3, hvs, hb⟩ := HA.out k hkl
      have ho := fun i => (hR.pull 4).oldCell (p := ⟨g, i, none⟩) hg
      rw [← ho] at c0 c1 c2 c3
      have Hvs := Lib.hid hvs
      have hl : l ≤ 9223372036854775807 := by omega
      clear ho hvs HA
      have h0 := hR.new (.cells #[.bool other, .bool reset, .int .i64 stamp, .slice B l cb] 44)
      have P := Lib.hid hp; have Q := Lib.hid hq
      clear hp hq
      have hpp : (p != p) = false := by simp
      have hqq : (q != q) = false := by simp
      cases other
      · cases reset
        · skip
          go_wp2_with fail
          refine (lent_any B l cb vs _ w _ h0 (Hvs.out.below (h0.pull 5).below) hb).mono ?_
          rintro e w6 ⟨a, cc, rfl, hc1, hc2, g1⟩
          have hl1 : VSl w6 a (l + 1) (vs ++ [markV]) := g1.rowSl.vsl
          have Hl1 := Lib.hid hl1
          have Hf : Hid (VSl w6 a l vs) := by have := hl1.front; rwa [Hvs.out.1] at this
          clear hl1
          have o2 : w6.cell? ⟨wr.heap.size, 2, none⟩ = some (.int .i64 stamp) := (g1.pull 1).cell 2
          have o3 : w6.cell? ⟨wr.heap.size, 3, none⟩ = some (.slice B l cb) := (g1.pull 1).cell 3
          go_wp2_with fail
          refine (DC.out _ w _ bj p stamp a l cc vs (g1.pull 2) P.out Hf.out hl).mono ?_
          rintro e w7 ⟨rfl, g2⟩
          have o2 : w7.cell? ⟨wr.heap.size, 2, none⟩ = some (.int .i64 stamp) := (g2.pull 2).cell 2
          have o3 : w7.cell? ⟨wr.heap.size, 3, none⟩ = some (.slice B l cb) := (g2.pull 2).cell 3
          go_wp2_with fail
          refine (RC.out _ w _ w5.heap.size p stamp B l cb vs (g2.pull 4) P.out (Hvs.out.below (g2.pull 6).below) hl).mono ?_
          rintro e w8 ⟨rfl, g3⟩
          have o3 : w8.cell? ⟨wr.heap.size, 3, none⟩ = some (.slice B l cb) := (g3.pull 3).cell 3
          have hnn : 0 ≤ decD ⟨x1, x2, x3, x4, x5, x6⟩ stamp p l vs := decD_nonneg P.out
          generalize verd ⟨x1, x2, x3, x4, x5, x6⟩ stamp p l vs = zv
          generalize decD ⟨x1, x2, x3, x4, x5, x6⟩ stamp p l vs = nv at g3 hnn
          have hzz : (zv != zv) = false := by simp
          have hnv : (nv != nv) = false := by simp
          go_wp2_with fail
          refine (whole_any a B cc cb l vs _ ((g3.pull 2).rowSl.vsl) (Hvs.out.below (g3.pull 6).below) hc1 hc2).mono ?_
          rintro e w9 ⟨rfl, m, rfl⟩
          have hf := (g3.drewN m).pick 7 [1, 4, 0, 5, 6]
          clear g1 g2 g3 h0 hR o2 o3 Hl1 Hf hb
          generalize World.drewN w8 m = w7 at hf ⊢
          go_wp2
          have hf : Star w w7 [judgeA 56 bj ⟨x1, x2, x3, x4, x5, x6⟩ nv, judgeA 56 bk ⟨y1, y2, y3, y4, y5, y6⟩ q, judgeA 42 w5.heap.size ⟨x1, x2, x3, x4, x5, x6⟩ nv, judgeA 42 (w5.heap.size + 1) ⟨y1, y2, y3, y4, y5, y6⟩ q, oldA w] := hf
          have k6 : w7.cell? ⟨w5.heap.size, 6, none⟩ = some (.int .i64 nv) := (hf.pull 2).cell 6
          have l6 : w7.cell? ⟨w5.heap.size + 1, 6, none⟩ = some (.int .i64 q) := (hf.pull 3).cell 6
          have hb1 : (promV ⟨x1, x2, x3, x4, x5, x6⟩ nv != promV ⟨x1, x2, x3, x4, x5, x6⟩ nv) = false := by simp
          have hb2 : (promV ⟨y1, y2, y3, y4, y5, y6⟩ q != promV ⟨y1, y2, y3, y4, y5, y6⟩ q) = false := by simp
          go_quiet (first
            | (go_at_call 17; first | with_reducible exact quiet_left (defers_any ⟨x1, x2, x3, x4, x5, x6⟩ _ w _ bj nv (hf.drewN _)) | with_reducible exact quiet_left (defers_any ⟨y1, y2, y3, y4, y5, y6⟩ _ w _ bk q ((hf.pull 1).drewN _)))
            | (go_at_call 18; first | with_reducible exact quiet_some (prom_any ⟨x1, x2, x3, x4, x5, x6⟩ _ w _ bj nv (hf.drewN _)) | with_reducible exact quiet_some (prom_any ⟨y1, y2, y3, y4, y5, y6⟩ _ w _ bk q ((hf.pull 1).drewN _)))
            | (go_at_call 19; first | with_reducible exact quiet_some (rprom_any ⟨x1, x2, x3, x4, x5, x6⟩ _ w _ w5.heap.size nv ((hf.pull 2).drewN _)) | with_reducible exact quiet_some (rprom_any ⟨y1, y2, y3, y4, y5, y6⟩ _ w _ (w5.heap.size + 1) q ((hf.pull 3).drewN _))))
          go_wp2
          go_roundw
          case rel => exact ⟨k + 1, by omega, by go_num, nv, q, hnn, Q.out, hf.drewN _⟩
          case measure => simp [intOf]; omega
        · skip
          go_wp2_with fail
          refine (reset_any ⟨x1, x2, x3, x4, x5, x6⟩ _ w _ bj p (h0.pull 1)).mono ?_
          rintro e w6 ⟨rfl, hs1⟩
          have xx6 : w6.cell? ⟨w5.heap.size, 6, none⟩ = some (.int .i64 p) := (hs1.pull 3).cell 6
          have f6 := (hs1.pull 3).frozen 6
          have hs2 : Star w (w6.setCell ⟨w5.heap.size, 6, none⟩ (.int .i64 0)) (judgeA 42 w5.heap.size ⟨x1, x2, x3, x4, x5, x6⟩ 0 :: _) := (hs1.pull 3).set 6 (.int .i64 0)
          go_wp2
          have hf := hs2.pick 6 [1, 3, 0, 4, 5]
          generalize World.setCell w6 _ _ = w7 at hf ⊢
          clear hs1 hs2 xx6 f6 h0 hR
          have hf : Star w w7 [judgeA 56 bj ⟨x1, x2, x3, x4, x5, x6⟩ 0, judgeA 56 bk ⟨y1, y2, y3, y4, y5, y6⟩ q, judgeA 42 w5.heap.size ⟨x1, x2, x3, x4, x5, x6⟩ 0, judgeA 42 (w5.heap.size + 1) ⟨y1, y2, y3, y4, y5, y6⟩ q, oldA w] := hf
          have k6 : w7.cell? ⟨w5.heap.size, 6, none⟩ = some (.int .i64 0) := (hf.pull 2).cell 6
          have l6 : w7.cell? ⟨w5.heap.size + 1, 6, none⟩ = some (.int .i64 q) := (hf.pull 3).cell 6
          have hb1 : (promV ⟨x1, x2, x3, x4, x5, x6⟩ 0 != promV ⟨x1, x2, x3, x4, x5, x6⟩ 0) = false := by simp
          have hb2 : (promV ⟨y1, y2, y3, y4, y5, y6⟩ q != promV ⟨y1, y2, y3, y4, y5, y6⟩ q) = false := by simp
          go_quiet (first
            | (go_at_call 17; first | with_reducible exact quiet_left (defers_any ⟨x1, x2, x3, x4, x5, x6⟩ _ w _ bj 0 (hf.drewN _)) | with_reducible exact quiet_left (defers_any ⟨y1, y2, y3, y4, y5, y6⟩ _ w _ bk q ((hf.pull 1).drewN _)))
            | (go_at_call 18; first | with_reducible exact quiet_some (prom_any ⟨x1, x2, x3, x4, x5, x6⟩ _ w _ bj 0 (hf.drewN _)) | with_reducible exact quiet_some (prom_any ⟨y1, y2, y3, y4, y5, y6⟩ _ w _ bk q ((hf.pull 1).drewN _)))
            | (go_at_call 19; first | with_reducible exact quiet_some (rprom_any ⟨x1, x2, x3, x4, x5, x6⟩ _ w _ w5.heap.size 0 ((hf.pull 2).drewN _)) | with_reducible exact quiet_some (rprom_any ⟨y1, y2, y3, y4, y5, y6⟩ _ w _ (w5.heap.size + 1) q ((hf.pull 3).drewN _))))
          go_wp2
          go_roundw
          case rel => exact ⟨k + 1, by omega, by go_num, 0, q, by decide, Q.out, hf.drewN _⟩
          case measure => simp [intOf]; omega
      · cases reset
        · skip
          go_wp2_with fail
          refine (lent_any B l cb vs _ w _ h0 (Hvs.out.below (h0.pull 5).below) hb).mono ?_
          rintro e w6 ⟨a, cc, rfl, hc1, hc2, g1⟩
          have hl1 : VSl w6 a (l + 1) (vs ++ [markV]) := g1.rowSl.vsl
          have Hl1 := Lib.hid hl1
          have Hf : Hid (VSl w6 a l vs) := by have := hl1.front; rwa [Hvs.out.1] at this
          clear hl1
          have o2 : w6.cell? ⟨wr.heap.size, 2, none⟩ = some (.int .i64 stamp) := (g1.pull 1).cell 2
          have o3 : w6.cell? ⟨wr.heap.size, 3, none⟩ = some (.slice B l cb) := (g1.pull 1).cell 3
          go_wp2_with fail
          refine (DD.out _ w _ bk q stamp a l cc vs (g1.pull 3) Q.out Hf.out hl).mono ?_
          rintro e w7 ⟨rfl, g2⟩
          have o2 : w7.cell? ⟨wr.heap.size, 2, none⟩ = some (.int .i64 stamp) := (g2.pull 2).cell 2
          have o3 : w7.cell? ⟨wr.heap.size, 3, none⟩ = some (.slice B l cb) := (g2.pull 2).cell 3
          go_wp2_with fail
          refine (RD.out _ w _ (w5.heap.size + 1) q stamp B l cb vs (g2.pull 5) Q.out (Hvs.out.below (g2.pull 6).below) hl).mono ?_
          rintro e w8 ⟨rfl, g3⟩
          have o3 : w8.cell? ⟨wr.heap.size, 3, none⟩ = some (.slice B l cb) := (g3.pull 3).cell 3
          have hnn : 0 ≤ decD ⟨y1, y2, y3, y4, y5, y6⟩ stamp q l vs := decD_nonneg Q.out
          generalize verd ⟨y1, y2, y3, y4, y5, y6⟩ stamp q l vs = zv
          generalize decD ⟨y1, y2, y3, y4, y5, y6⟩ stamp q l vs = nv at g3 hnn
          have hzz : (zv != zv) = false := by simp
          have hnv : (nv != nv) = false := by simp
          go_wp2_with fail
          refine (whole_any a B cc cb l vs _ ((g3.pull 2).rowSl.vsl) (Hvs.out.below (g3.pull 6).below) hc1 hc2).mono ?_
          rintro e w9 ⟨rfl, m, rfl⟩
          have hf := (g3.drewN m).pick 7 [4, 1, 5, 0, 6]
          clear g1 g2 g3 h0 hR o2 o3 Hl1 Hf hb
          generalize World.drewN w8 m = w7 at hf ⊢
          go_wp2
          have hf : Star w w7 [judgeA 56 bj ⟨x1, x2, x3, x4, x5, x6⟩ p, judgeA 56 bk ⟨y1, y2, y3, y4, y5, y6⟩ nv, judgeA 42 w5.heap.size ⟨x1, x2, x3, x4, x5, x6⟩ p, judgeA 42 (w5.heap.size + 1) ⟨y1, y2, y3, y4, y5, y6⟩ nv, oldA w] := hf
          have k6 : w7.cell? ⟨w5.heap.size, 6, none⟩ = some (.int .i64 p) := (hf.pull 2).cell 6
          have l6 : w7.cell? ⟨w5.heap.size + 1, 6, none⟩ = some (.int .i64 nv) := (hf.pull 3).cell 6
          have hb1 : (promV ⟨x1, x2, x3, x4, x5, x6⟩ p != promV ⟨x1, x2, x3, x4, x5, x6⟩ p) = false := by simp
          have hb2 : (promV ⟨y1, y2, y3, y4, y5, y6⟩ nv != promV ⟨y1, y2, y3, y4, y5, y6⟩ nv) = false := by simp
          go_quiet (first
            | (go_at_call 17; first | with_reducible exact quiet_left (defers_any ⟨x1, x2, x3, x4, x5, x6⟩ _ w _ bj p (hf.drewN _)) | with_reducible exact quiet_left (defers_any ⟨y1, y2, y3, y4, y5, y6⟩ _ w _ bk nv ((hf.pull 1).drewN _)))
            | (go_at_call 18; first | with_reducible exact quiet_some (prom_any ⟨x1, x2, x3, x4, x5, x6⟩ _ w _ bj p (hf.drewN _)) | with_reducible exact quiet_some (prom_any ⟨y1, y2, y3, y4, y5, y6⟩ _ w _ bk nv ((hf.pull 1).drewN _)))
            | (go_at_call 19; first | with_reducible exact quiet_some (rprom_any ⟨x1, x2, x3, x4, x5, x6⟩ _ w _ w5.heap.size p ((hf.pull 2).drewN _)) | with_reducible exact quiet_some (rprom_any ⟨y1, y2, y3, y4, y5, y6⟩ _ w _ (w5.heap.size + 1) nv ((hf.pull 3).drewN _))))
          go_wp2
          go_roundw
          case rel => exact ⟨k + 1, by omega, by go_num, p, nv, P.out, hnn, hf.drewN _⟩
          case measure => simp [intOf]; omega
        · skip
          go_wp2_with fail
          refine (reset_any ⟨y1, y2, y3, y4, y5, y6⟩ _ w _ bk q (h0.pull 2)).mono ?_
          rintro e w6 ⟨rfl, hs1⟩
          have xx6 : w6.cell? ⟨w5.heap.size + 1, 6, none⟩ = some (.int .i64 q) := (hs1.pull 4).cell 6
          have f6 := (hs1.pull 4).frozen 6
          have hs2 : Star w (w6.setCell ⟨w5.heap.size + 1, 6, none⟩ (.int .i64 0)) (judgeA 42 (w5.heap.size + 1) ⟨y1, y2, y3, y4, y5, y6⟩ 0 :: _) := (hs1.pull 4).set 6 (.int .i64 0)
          go_wp2
          have hf := hs2.pick 6 [3, 1, 4, 0, 5]
          generalize World.setCell w6 _ _ = w7 at hf ⊢
          clear hs1 hs2 xx6 f6 h0 hR
          have hf : Star w w7 [judgeA 56 bj ⟨x1, x2, x3, x4, x5, x6⟩ p, judgeA 56 bk ⟨y1, y2, y3, y4, y5, y6⟩ 0, judgeA 42 w5.heap.size ⟨x1, x2, x3, x4, x5, x6⟩ p, judgeA 42 (w5.heap.size + 1) ⟨y1, y2, y3, y4, y5, y6⟩ 0, oldA w] := hf
          have k6 : w7.cell? ⟨w5.heap.size, 6, none⟩ = some (.int .i64 p) := (hf.pull 2).cell 6
          have l6 : w7.cell? ⟨w5.heap.size + 1, 6, none⟩ = some (.int .i64 0) := (hf.pull 3).cell 6
          have hb1 : (promV ⟨x1, x2, x3, x4, x5, x6⟩ p != promV ⟨x1, x2, x3, x4, x5, x6⟩ p) = false := by simp
          have hb2 : (promV ⟨y1, y2, y3, y4, y5, y6⟩ 0 != promV ⟨y1, y2, y3, y4, y5, y6⟩ 0) = false := by simp
          go_quiet (first
            | (go_at_call 17; first | with_reducible exact quiet_left (defers_any ⟨x1, x2, x3, x4, x5, x6⟩ _ w _ bj p (hf.drewN _)) | with_reducible exact quiet_left (defers_any ⟨y1, y2, y3, y4, y5, y6⟩ _ w _ bk 0 ((hf.pull 1).drewN _)))
            | (go_at_call 18; first | with_reducible exact quiet_some (prom_any ⟨x1, x2, x3, x4, x5, x6⟩ _ w _ bj p (hf.drewN _)) | with_reducible exact quiet_some (prom_any ⟨y1, y2, y3, y4, y5, y6⟩ _ w _ bk 0 ((hf.pull 1).drewN _)))
            | (go_at_call 19; first | with_reducible exact quiet_some (rprom_any ⟨x1, x2, x3, x4, x5, x6⟩ _ w _ w5.heap.size p ((hf.pull 2).drewN _)) | with_reducible exact quiet_some (rprom_any ⟨y1, y2, y3, y4, y5, y6⟩ _ w _ (w5.heap.size + 1) 0 ((hf.pull 3).drewN _))))
          go_wp2
          go_roundw
          case rel => exact ⟨k + 1, by omega, by go_num, p, 0, P.out, by decide, hf.drewN _⟩
          case measure => simp [intOf]; omega
    · go_wp2
      go_ret
      exact ⟨rfl, (hR.pull 4).below⟩

theorem judges_walk (c d : Cfg) (A : Option Addr) (len cap : Nat) (w : World) (hA : OpsAt w A len) (hlen : len ≤ 9223372036854775807) :
    Calls Try.prog 5 #[.agg c.cs.toArray, .agg d.cs.toArray, .slice A len cap] w fun e w' => e = .returned (.bool true) ∧ Below w.heap.size w w' := by
  cases h1 : okC c <;> cases h2 : okC d
  · exact judges_bad1 c d A len cap w hA hlen h1 h2
  · exact judges_bad2 c d A len cap w hA hlen h1 h2
  · exact judges_bad3 c d A len cap w hA hlen h1 h2
  · exact judges_ok c d A len cap w hA hlen h1 h2
end Go.Proofs.Ytbfkjlkagkookaa
