/- Count, and slices.Clone: lemmas for the laws of ghost. Printed by gen_gh15.py. -/
import Derived.Test.YtfekjbaojefhoaaGh14
namespace Go.Proofs.Ytfekjbaojefhoaa
open Go.RowKit Go.Shelf
set_option linter.unusedVariables false

structure Tal where
  li : Nat
  co : Nat
  ab : Nat
  dm : Nat
def tStep (t : Tal) (s : Sto) : Tal :=
  if s.fate = 1 then { t with co := t.co + 1 }
  else if s.fate = 2 then { t with ab := t.ab + 1, dm := if s.e = 7 then t.dm + 1 else t.dm }
  else { t with li := t.li + 1 }
def talOf (l : List Sto) : Tal := l.foldl tStep ⟨0, 0, 0, 0⟩
def talC (t : Tal) : List Value := [.int .i64 t.li, .int .i64 t.co, .int .i64 t.ab, .int .i64 t.dm]
theorem tal_snoc (l : List Sto) (s : Sto) : talOf (l ++ [s]) = tStep (talOf l) s := by simp [talOf]
structure TalLe (t : Tal) (n : Nat) : Prop where
  li : t.li ≤ n
  co : t.co ≤ n
  ab : t.ab ≤ n
  dm : t.dm ≤ n
theorem TalLe.step {t : Tal} {n : Nat} (h : TalLe t n) (s : Sto) : TalLe (tStep t s) (n + 1) := by
  obtain ⟨h1, h2, h3, h4⟩ := h
  unfold tStep
  (repeat' split) <;> refine ⟨?_, ?_, ?_, ?_⟩ <;> dsimp only <;> (try split) <;> omega
theorem tal_le : ∀ (l : List Sto) (t : Tal) (n : Nat), TalLe t n → TalLe (l.foldl tStep t) (n + l.length)
  | [], t, n, h => h
  | s :: l, t, n, h => by
    have := tal_le l (tStep t s) (n + 1) (h.step s)
    simp only [List.foldl_cons, List.length_cons]
    rw [show n + (l.length + 1) = n + 1 + l.length by omega]
    exact this
set_option maxRecDepth 100000 in
set_option maxHeartbeats 6400000 in
theorem count_any (A : Option Addr) (n c : Nat) (sts : List Sto) (vs : List Value) (w : World) (hS : Sl w A n 10 (stosC sts vs)) (hn : sts.length = n) (hv : vs.length = n) (hvs : ∀ v ∈ vs, ∃ a m q, v = Value.slice a m q) (hb : n ≤ 4611686018427387904) :
    Calls Try.prog 24 #[.slice A n c] w fun e w' => e = .returned (.agg (talC (talOf sts)).toArray) ∧ Below w.heap.size w w' := by
  have h0 := ((Star.begin w).new (.cells #[.int .i64 0, .int .i64 0, .int .i64 0, .int .i64 0] 50)).new (.cells #[.int .i64 0, .int .i64 0, .int .i64 0, .int .i64 0] 50)
  simp only [World.size_alloc] at h0
  have HS := Lib.hid hS
  have HN := Lib.hid hn
  have HV := Lib.hid hv
  have HVS := Lib.hid hvs
  clear hS hn hv hvs
  go_enter Try.func24, Try.ntmps24
  go_wp2_with fail
  go_loopw [8] (fun i wr => ∃ j : Nat, j ≤ n ∧ i = .int .i64 j ∧ Star w wr [cellsA (w.heap.size + 1) (talC (talOf (sts.take j))).toArray 50, cellsA w.heap.size #[.int .i64 0, .int .i64 0, .int .i64 0, .int .i64 0] 50, oldA w]) (fun i _ => n - (intOf i).toNat)
  case atStart => exact ⟨0, Nat.zero_le _, rfl, h0⟩
  case round =>
    clear h0
    obtain ⟨j, hj, rfl, hR⟩ := hrel
    by_cases hlt : j < n
    · obtain ⟨s, hs⟩ : ∃ s, sts[j]? = some s := ⟨_, List.getElem?_eq_getElem (by have := HN.out; omega)⟩
      obtain ⟨v, hv⟩ : ∃ v, vs[j]? = some v := ⟨_, List.getElem?_eq_getElem (by have := HV.out; omega)⟩
      obtain ⟨va, vm, vq, rfl⟩ := HVS.out v (List.mem_of_getElem? hv)
      obtain ⟨g, o, rfl, hg, ca⟩ := HS.out.row hlt (by omega)
      have fm : ∀ i u, (stoC s (.slice va vm vq))[i]? = some u → i < 10 → wr.cell? ⟨g, o + j * 10 + i, none⟩ = some u := fun i u hu hi => ((hR.pull 2).oldCell hg).trans (ca i u (by rw [stosC_at hs hv hi]; exact hu))
      have a0 := fm 0 _ rfl (by omega)
      have a1 := fm 1 _ rfl (by omega)
      have a2 := fm 2 _ rfl (by omega)
      have a3 := fm 3 _ rfl (by omega)
      have a4 := fm 4 _ rfl (by omega)
      have a5 := fm 5 _ rfl (by omega)
      have a6 := fm 6 _ rfl (by omega)
      have a7 := fm 7 _ rfl (by omega)
      have a8 := fm 8 _ rfl (by omega)
      have a9 := fm 9 _ rfl (by omega)
      simp only [Nat.add_zero] at a0
      have hjz : (j : Int) < n := by omega
      have hq := TalLe.mk (t := talOf (sts.take j)) (n := j)
      have hle : TalLe (talOf (sts.take j)) j := by
        have h1 := tal_le (sts.take j) ⟨0, 0, 0, 0⟩ 0 ⟨by simp, by simp, by simp, by simp⟩
        rw [Nat.zero_add, List.length_take] at h1
        have e : min j sts.length = j := by have := HN.out; omega
        rw [e] at h1
        exact h1
      have hts := tal_snoc (sts.take j) s
      rw [← take_succ hs] at hts
      have HT := Lib.hid hts
      obtain ⟨th, sp, bg, en, fa, er, by_, op, ga, ms⟩ := s
      obtain ⟨l1, l2, l3, l4⟩ := hle
      generalize talOf (sts.take j) = t at hR HT l1 l2 l3 l4
      obtain ⟨li, co, ab, dm⟩ := t
      dsimp only at l1 l2 l3 l4
      have h1 := hR.new (.cells #[.int .i64 th, .int .i64 sp, .int .i64 bg, .int .i64 en, .int .i64 fa, .int .i64 er, .int .i64 by_, .int .i64 op, .int .i64 ga, .slice va vm vq] 36)
      have w1 : IntKind.i64.wrap ((li : Int) + 1) = li + 1 := by rw [IntKind.wrap_i64]; omega
      have w2 : IntKind.i64.wrap ((co : Int) + 1) = co + 1 := by rw [IntKind.wrap_i64]; omega
      have w3 : IntKind.i64.wrap ((ab : Int) + 1) = ab + 1 := by rw [IntKind.wrap_i64]; omega
      have w4 : IntKind.i64.wrap ((dm : Int) + 1) = dm + 1 := by rw [IntKind.wrap_i64]; omega
      clear hts hq fm ca hs hv hR
      dsimp only at a0 a1 a2 a3 a4 a5 a6 a7 a8 a9
      have t0 : (wr.alloc (.cells #[.int .i64 th, .int .i64 sp, .int .i64 bg, .int .i64 en, .int .i64 fa, .int .i64 er, .int .i64 by_, .int .i64 op, .int .i64 ga, .slice va vm vq] 36)).cell? ⟨w.heap.size + 1, 0, none⟩ = some (.int .i64 li) := (h1.pull 1).cell 0
      have t1 : (wr.alloc (.cells #[.int .i64 th, .int .i64 sp, .int .i64 bg, .int .i64 en, .int .i64 fa, .int .i64 er, .int .i64 by_, .int .i64 op, .int .i64 ga, .slice va vm vq] 36)).cell? ⟨w.heap.size + 1, 1, none⟩ = some (.int .i64 co) := (h1.pull 1).cell 1
      have t2 : (wr.alloc (.cells #[.int .i64 th, .int .i64 sp, .int .i64 bg, .int .i64 en, .int .i64 fa, .int .i64 er, .int .i64 by_, .int .i64 op, .int .i64 ga, .slice va vm vq] 36)).cell? ⟨w.heap.size + 1, 2, none⟩ = some (.int .i64 ab) := (h1.pull 1).cell 2
      have t3 : (wr.alloc (.cells #[.int .i64 th, .int .i64 sp, .int .i64 bg, .int .i64 en, .int .i64 fa, .int .i64 er, .int .i64 by_, .int .i64 op, .int .i64 ga, .slice va vm vq] 36)).cell? ⟨w.heap.size + 1, 3, none⟩ = some (.int .i64 dm) := (h1.pull 1).cell 3
      have s4 : (wr.alloc (.cells #[.int .i64 th, .int .i64 sp, .int .i64 bg, .int .i64 en, .int .i64 fa, .int .i64 er, .int .i64 by_, .int .i64 op, .int .i64 ga, .slice va vm vq] 36)).cell? ⟨wr.heap.size, 4, none⟩ = some (.int .i64 fa) := h1.cell 4
      have s5 : (wr.alloc (.cells #[.int .i64 th, .int .i64 sp, .int .i64 bg, .int .i64 en, .int .i64 fa, .int .i64 er, .int .i64 by_, .int .i64 op, .int .i64 ga, .slice va vm vq] 36)).cell? ⟨wr.heap.size, 5, none⟩ = some (.int .i64 er) := h1.cell 5
      have ff := (h1.pull 1).frozen
      have p0 := ff 0
      have p1 := ff 1
      have p2 := ff 2
      have p3 := ff 3
      clear ff
      have hne : wr.heap.size ≠ w.heap.size + 1 := Star.ne (h1.pick 2 [0, 1])
      have hne2 := hne.symm
      have H1 := Lib.hid h1
      clear h1
      by_cases f1 : fa = 1
      · subst f1
        go_wp2
        go_roundw
        case rel => exact ⟨j + 1, by omega, by go_num, by rw [HT.out]; exact ((H1.out.pull 1).set 1 (.int .i64 (co + 1))).pick 4 [0, 2, 3]⟩
        case measure => simp [intOf]; omega
      · have f11 : (fa == 1) = false := by simpa using f1
        by_cases f2 : fa = 2
        · subst f2
          by_cases f7 : er = 7
          · subst f7
            go_wp2
            go_roundw
            case rel => exact ⟨j + 1, by omega, by go_num, by rw [HT.out]; exact (((H1.out.pull 1).set 2 (.int .i64 (ab + 1))).set 3 (.int .i64 (dm + 1))).pick 4 [0, 2, 3]⟩
            case measure => simp [intOf]; omega
          · have f77 : (er == 7) = false := by simpa using f7
            go_wp2
            go_roundw
            case rel =>
              refine ⟨j + 1, by omega, by go_num, ?_⟩
              have e : tStep ⟨li, co, ab, dm⟩ ⟨th, sp, bg, en, 2, er, by_, op, ga, ms⟩ = ⟨li, co, ab + 1, dm⟩ := by simp [tStep, f7]
              rw [HT.out, e]
              exact ((H1.out.pull 1).set 2 (.int .i64 (ab + 1))).pick 4 [0, 2, 3]
            case measure => simp [intOf]; omega
        · have f22 : (fa == 2) = false := by simpa using f2
          go_wp2
          go_roundw
          case rel =>
            refine ⟨j + 1, by omega, by go_num, ?_⟩
            have e : tStep ⟨li, co, ab, dm⟩ ⟨th, sp, bg, en, fa, er, by_, op, ga, ms⟩ = ⟨li + 1, co, ab, dm⟩ := by simp [tStep, f1, f2]
            rw [HT.out, e]
            exact ((H1.out.pull 1).set 0 (.int .i64 (li + 1))).pick 4 [0, 2, 3]
          case measure => simp [intOf]; omega
    · have hkn : j = n := by omega
      subst hkn
      have h1 : sts.take j = sts := List.take_of_length_le (by have := HN.out; omega)
      rw [h1] at hR
      have HR := Lib.hid hR
      have c0 : wr.cell? ⟨w.heap.size + 1, 0, none⟩ = some (.int .i64 (talOf sts).li) := hR.cell 0
      have c1 : wr.cell? ⟨w.heap.size + 1, 1, none⟩ = some (.int .i64 (talOf sts).co) := hR.cell 1
      have c2 : wr.cell? ⟨w.heap.size + 1, 2, none⟩ = some (.int .i64 (talOf sts).ab) := hR.cell 2
      have c3 : wr.cell? ⟨w.heap.size + 1, 3, none⟩ = some (.int .i64 (talOf sts).dm) := hR.cell 3
      have d0 : wr.cell? ⟨w.heap.size, 0, none⟩ = some (.int .i64 0) := (hR.pull 1).cell 0
      have d1 : wr.cell? ⟨w.heap.size, 1, none⟩ = some (.int .i64 0) := (hR.pull 1).cell 1
      have d2 : wr.cell? ⟨w.heap.size, 2, none⟩ = some (.int .i64 0) := (hR.pull 1).cell 2
      have d3 : wr.cell? ⟨w.heap.size, 3, none⟩ = some (.int .i64 0) := (hR.pull 1).cell 3
      have ff := (hR.pull 1).frozen
      have p0 := ff 0
      have p1 := ff 1
      have p2 := ff 2
      have p3 := ff 3
      clear ff
      have hz := ((((hR.pull 1).set 0 (.int .i64 (talOf sts).li)).set 1 (.int .i64 (talOf sts).co)).set 2 (.int .i64 (talOf sts).ab)).set 3 (.int .i64 (talOf sts).dm)
      have z0 := hz.cell 0
      have z1 := hz.cell 1
      have z2 := hz.cell 2
      have z3 := hz.cell 3
      have HZ := Lib.hid ((hz.pull 2).below)
      clear hR h1 hz
      go_wp2
      generalize (((wr.setCell ⟨w.heap.size, 0, none⟩ (.int .i64 (talOf sts).li)).setCell ⟨w.heap.size, 1, none⟩ (.int .i64 (talOf sts).co)).setCell ⟨w.heap.size, 2, none⟩ (.int .i64 (talOf sts).ab)).setCell ⟨w.heap.size, 3, none⟩ (.int .i64 (talOf sts).dm) = wZ at z0 z1 z2 z3 HZ ⊢
      have z0 : wZ.cell? ⟨w.heap.size, 0, none⟩ = some (.int .i64 (talOf sts).li) := z0
      have z1 : wZ.cell? ⟨w.heap.size, 1, none⟩ = some (.int .i64 (talOf sts).co) := z1
      have z2 : wZ.cell? ⟨w.heap.size, 2, none⟩ = some (.int .i64 (talOf sts).ab) := z2
      have z3 : wZ.cell? ⟨w.heap.size, 3, none⟩ = some (.int .i64 (talOf sts).dm) := z3
      refine ⟨rfl, .agg (talC (talOf sts)).toArray, ?_, rfl, HZ.out⟩
      simp [z0, z1, z2, z3, results, Try.results24, go_sem, talC]
end Go.Proofs.Ytfekjbaojefhoaa
