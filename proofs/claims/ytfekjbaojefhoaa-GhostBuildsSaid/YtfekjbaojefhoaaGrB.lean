/- SameAll, within, the walks of GhostGrows and GhostApart: lemmas for the laws of ghost. -/
import Derived.Test.YtfekjbaojefhoaaGh28
import Derived.Test.YtfekjbaojefhoaaGrA
import Derived.Deep.DeepCutAuto
import Derived.Deep.CutBlock
namespace Go.Proofs.Ytfekjbaojefhoaa
open Go.RowKit Go.Shelf
set_option linter.unusedVariables false

set_option maxRecDepth 100000 in
set_option maxHeartbeats 3200000 in
theorem sameAll_any (A B : Option Addr) (n c d : Nat) (sts : List Sto) (vs us : List Value) (w : World) (hA : Stories w A n sts vs) (hB : Stories w B n sts us) (hn : n ≤ 4611686018427387904) :
    Calls Try.prog 12 #[.slice A n c, .slice B n d] w fun e w' => e = .returned (.bool true) ∧ Below w.heap.size w w' := by
  have HA := Lib.hid hA
  have HB := Lib.hid hB
  have h0 := Star.begin w
  clear hA hB
  go_enter Try.func12, Try.ntmps12
  go_wp2_with fail
  go_loopw [5] (fun i wr => ∃ k : Nat, k ≤ n ∧ i = .int .i64 k ∧ Star w wr [oldA w]) (fun i _ => n - (intOf i).toNat)
  case atStart => exact ⟨0, Nat.zero_le _, rfl, h0⟩
  case round =>
    clear h0
    obtain ⟨k, hk, rfl, hR⟩ := hrel
    by_cases hlt : k < n
    · obtain ⟨s, hs⟩ : ∃ s, sts[k]? = some s := ⟨_, List.getElem?_eq_getElem (by have := HA.out.ns; omega)⟩
      obtain ⟨v, hv⟩ : ∃ v, vs[k]? = some v := ⟨_, List.getElem?_eq_getElem (by have := HA.out.nv; omega)⟩
      obtain ⟨u, hu⟩ : ∃ v, us[k]? = some v := ⟨_, List.getElem?_eq_getElem (by have := HB.out.nv; omega)⟩
      obtain ⟨MA, mk, mc, rfl, hmk, hma, hmb⟩ := (HA.out.after hR).mv k s v hs hv
      obtain ⟨MB, mk', md, rfl, hmk', hmb', _⟩ := (HB.out.after hR).mv k s u hs hu
      obtain rfl : mk = mk' := hmk.symm.trans hmk'
      obtain ⟨g, o, rfl, hg, ca⟩ := HA.out.row.row hlt (by omega)
      obtain ⟨g', o', rfl, hg', cb⟩ := HB.out.row.row hlt (by omega)
      have fa' : ∀ j x, (stoC s (.slice MA mk mc))[j]? = some x → j < 10 → wr.cell? ⟨g, o + k * 10 + j, none⟩ = some x := fun j x hx hj => (hR.oldCell hg).trans (ca j x (by rw [stosC_at hs hv hj]; exact hx))
      have fb' : ∀ j x, (stoC s (.slice MB mk md))[j]? = some x → j < 10 → wr.cell? ⟨g', o' + k * 10 + j, none⟩ = some x := fun j x hx hj => (hR.oldCell hg').trans (cb j x (by rw [stosC_at hs hu hj]; exact hx))
      have a0 := fa' 0 _ rfl (by omega)
      have a1 := fa' 1 _ rfl (by omega)
      have a2 := fa' 2 _ rfl (by omega)
      have a3 := fa' 3 _ rfl (by omega)
      have a4 := fa' 4 _ rfl (by omega)
      have a5 := fa' 5 _ rfl (by omega)
      have a6 := fa' 6 _ rfl (by omega)
      have a7 := fa' 7 _ rfl (by omega)
      have a8 := fa' 8 _ rfl (by omega)
      have a9 := fa' 9 _ rfl (by omega)
      have b0 := fb' 0 _ rfl (by omega)
      have b1 := fb' 1 _ rfl (by omega)
      have b2 := fb' 2 _ rfl (by omega)
      have b3 := fb' 3 _ rfl (by omega)
      have b4 := fb' 4 _ rfl (by omega)
      have b5 := fb' 5 _ rfl (by omega)
      have b6 := fb' 6 _ rfl (by omega)
      have b7 := fb' 7 _ rfl (by omega)
      have b8 := fb' 8 _ rfl (by omega)
      have b9 := fb' 9 _ rfl (by omega)
      simp only [Nat.add_zero] at a0 b0
      have SAME := Lib.hid (same_any s MA MB mk mc md wr.drew hma hmb' hmk (by omega))
      have hkz : (k : Int) < n := by omega
      have HR := Lib.hid hR
      clear fa' fb' ca cb hs hv hu hR hma hmb hmb' hmk hmk' hg hg'
      go_wp2_with fail
      go_still_tail 8, (by kernel_rfl)
      change wpList _ _ _ _ _ wr.drew
      go_wp2_with fail
      refine SAME.out.mono ?_
      rintro e' w5 ⟨rfl, hb5⟩
      have HR2 := Lib.hid (HR.out.drew.of_below hb5)
      clear SAME hb5
      go_wp2
      go_roundw
      case rel => exact ⟨k + 1, by omega, by go_num, HR2.out⟩
      case measure => simp [intOf]; omega
    · have hkn : k = n := by omega
      subst hkn
      have H2 := Lib.hid hR.below
      have hkz : ¬ (k : Int) < k := by omega
      clear hR
      go_wp2
      go_ret
      exact ⟨rfl, H2.out⟩
end Go.Proofs.Ytfekjbaojefhoaa
namespace Go.Proofs.Ytfekjbaojefhoaa
open Go.RowKit Go.Shelf
set_option linter.unusedVariables false

set_option maxRecDepth 100000 in
set_option maxHeartbeats 6400000 in
theorem within_live (A B : Option Addr) (n c m d : Nat) (th sp bg op en2 fa2 er2 by2 ga2 : Int) (ms ns : List Mv) (w : World) (hA : Sl w A n 6 (mvsC ms)) (hB : Sl w B m 6 (mvsC ns)) (hn : ms.length = n) (hm : ns.length = m) (hnm : n ≤ m) (hpre : ∀ (k : Nat) (x : Mv), ms[k]? = some x → ns[k]? = some x) (hb : m ≤ 4611686018427387904) :
    Calls Try.prog 26 #[.agg #[.int .i64 th, .int .i64 sp, .int .i64 bg, .int .i64 0, .int .i64 0, .int .i64 0, .int .i64 0, .int .i64 op, .int .i64 0, .slice A n c], .agg #[.int .i64 th, .int .i64 sp, .int .i64 bg, .int .i64 en2, .int .i64 fa2, .int .i64 er2, .int .i64 by2, .int .i64 op, .int .i64 ga2, .slice B m d]] w fun e w' => e = .returned (.bool true) ∧ Below w.heap.size w w' := by
  have h0 := ((Star.begin w).new (.cells #[.int .i64 th, .int .i64 sp, .int .i64 bg, .int .i64 0, .int .i64 0, .int .i64 0, .int .i64 0, .int .i64 op, .int .i64 0, .slice A n c] 36)).new (.cells #[.int .i64 th, .int .i64 sp, .int .i64 bg, .int .i64 en2, .int .i64 fa2, .int .i64 er2, .int .i64 by2, .int .i64 op, .int .i64 ga2, .slice B m d] 36)
  simp only [World.size_alloc] at h0
  have HA := Lib.hid hA
  have HB := Lib.hid hB
  have HN := Lib.hid (⟨hn, hm⟩ : ms.length = n ∧ ns.length = m)
  have HP := Lib.hid hpre
  have hd : decide (m < n) = false := by simp; omega
  clear hA hB hn hm hpre
  go_enter Try.func26, Try.ntmps26
  go_wp2
  generalize (w.alloc (.cells #[.int .i64 th, .int .i64 sp, .int .i64 bg, .int .i64 0, .int .i64 0, .int .i64 0, .int .i64 0, .int .i64 op, .int .i64 0, .slice A n c] 36)).alloc (.cells #[.int .i64 th, .int .i64 sp, .int .i64 bg, .int .i64 en2, .int .i64 fa2, .int .i64 er2, .int .i64 by2, .int .i64 op, .int .i64 ga2, .slice B m d] 36) = wA at h0 ⊢
  go_loopw [5] (fun i wr => ∃ k : Nat, k ≤ n ∧ i = .int .i64 k ∧ ∃ q, wr = wA.drewN q) (fun i _ => n - (intOf i).toNat)
  case atStart => exact ⟨0, Nat.zero_le _, rfl, 0, rfl⟩
  case round =>
    obtain ⟨k, hk, rfl, q, rfl⟩ := hrel
    have h1 := h0.drewN q
    have ea : wA.cell? ⟨w.heap.size, 9, none⟩ = some (.slice A n c) := (h0.pull 1).cell 9
    have eb : wA.cell? ⟨w.heap.size + 1, 9, none⟩ = some (.slice B m d) := h0.cell 9
    by_cases hlt : k < n
    · obtain ⟨x, hx⟩ : ∃ m, ms[k]? = some m := ⟨_, List.getElem?_eq_getElem (by have := HN.out; omega)⟩
      have hy := HP.out k x hx
      obtain ⟨g, o, rfl, hg, ca⟩ := HA.out.row hlt (by omega)
      obtain ⟨g', o', rfl, hg', cb⟩ := HB.out.row (k := k) (by omega) (by omega)
      have fa' : ∀ j u, (mvC x)[j]? = some u → j < 6 → wA.cell? ⟨g, o + k * 6 + j, none⟩ = some u := fun j u hu hj => ((h0.pull 2).oldCell hg).trans (ca j u (by rw [mvsC_at hx hj]; exact hu))
      have fb' : ∀ j u, (mvC x)[j]? = some u → j < 6 → wA.cell? ⟨g', o' + k * 6 + j, none⟩ = some u := fun j u hu hj => ((h0.pull 2).oldCell hg').trans (cb j u (by rw [mvsC_at hy hj]; exact hu))
      have a0 := fa' 0 _ rfl (by omega)
      have a1 := fa' 1 _ rfl (by omega)
      have a2 := fa' 2 _ rfl (by omega)
      have a3 := fa' 3 _ rfl (by omega)
      have a4 := fa' 4 _ rfl (by omega)
      have a5 := fa' 5 _ rfl (by omega)
      have b0 := fb' 0 _ rfl (by omega)
      have b1 := fb' 1 _ rfl (by omega)
      have b2 := fb' 2 _ rfl (by omega)
      have b3 := fb' 3 _ rfl (by omega)
      have b4 := fb' 4 _ rfl (by omega)
      have b5 := fb' 5 _ rfl (by omega)
      simp only [Nat.add_zero] at a0 b0
      have hq := fun w => mv_neq x.step x.write x.cell x.x x.own x.gate w
      have hkz : (k : Int) < n := by omega
      have hkm : (k : Int) < m := by omega
      clear fa' fb' ca cb hx hy h1 hg hg'
      go_wp2
      go_quiet (fail)
      go_wp2
      go_roundw
      case rel => exact ⟨k + 1, by omega, by go_num, _, rfl⟩
      case measure => simp [intOf]; omega
    · have hkn : k = n := by omega
      subst hkn
      have x3 : wA.cell? ⟨w.heap.size, 3, none⟩ = some (.int .i64 0) := (h0.pull 1).cell 3
      have x4 : wA.cell? ⟨w.heap.size, 4, none⟩ = some (.int .i64 0) := (h0.pull 1).cell 4
      have x5 : wA.cell? ⟨w.heap.size, 5, none⟩ = some (.int .i64 0) := (h0.pull 1).cell 5
      have x6 : wA.cell? ⟨w.heap.size, 6, none⟩ = some (.int .i64 0) := (h0.pull 1).cell 6
      have x8 : wA.cell? ⟨w.heap.size, 8, none⟩ = some (.int .i64 0) := (h0.pull 1).cell 8
      have H2 := Lib.hid ((h1.pull 2).below)
      have hkz : ¬ (k : Int) < k := by omega
      clear h1
      go_wp2
      go_ret
      exact ⟨rfl, H2.out⟩
set_option maxRecDepth 100000 in
set_option maxHeartbeats 6400000 in
theorem within_done (A B : Option Addr) (n c d : Nat) (th sp bg op en fa er by_ ga : Int) (ms : List Mv) (w : World) (hA : Sl w A n 6 (mvsC ms)) (hB : Sl w B n 6 (mvsC ms)) (hn : ms.length = n) (hf : fa ≠ 0) (hb : n ≤ 4611686018427387904) :
    Calls Try.prog 26 #[.agg #[.int .i64 th, .int .i64 sp, .int .i64 bg, .int .i64 en, .int .i64 fa, .int .i64 er, .int .i64 by_, .int .i64 op, .int .i64 ga, .slice A n c], .agg #[.int .i64 th, .int .i64 sp, .int .i64 bg, .int .i64 en, .int .i64 fa, .int .i64 er, .int .i64 by_, .int .i64 op, .int .i64 ga, .slice B n d]] w fun e w' => e = .returned (.bool true) ∧ Below w.heap.size w w' := by
  have h0 := ((Star.begin w).new (.cells #[.int .i64 th, .int .i64 sp, .int .i64 bg, .int .i64 en, .int .i64 fa, .int .i64 er, .int .i64 by_, .int .i64 op, .int .i64 ga, .slice A n c] 36)).new (.cells #[.int .i64 th, .int .i64 sp, .int .i64 bg, .int .i64 en, .int .i64 fa, .int .i64 er, .int .i64 by_, .int .i64 op, .int .i64 ga, .slice B n d] 36)
  simp only [World.size_alloc] at h0
  have HA := Lib.hid hA
  have HB := Lib.hid hB
  have HN := Lib.hid hn
  have hff : (fa == 0) = false := by simpa using hf
  clear hA hB hn hf
  go_enter Try.func26, Try.ntmps26
  go_wp2
  generalize (w.alloc (.cells #[.int .i64 th, .int .i64 sp, .int .i64 bg, .int .i64 en, .int .i64 fa, .int .i64 er, .int .i64 by_, .int .i64 op, .int .i64 ga, .slice A n c] 36)).alloc (.cells #[.int .i64 th, .int .i64 sp, .int .i64 bg, .int .i64 en, .int .i64 fa, .int .i64 er, .int .i64 by_, .int .i64 op, .int .i64 ga, .slice B n d] 36) = wA at h0 ⊢
  go_loopw [5] (fun i wr => ∃ k : Nat, k ≤ n ∧ i = .int .i64 k ∧ ∃ q, wr = wA.drewN q) (fun i _ => n - (intOf i).toNat)
  case atStart => exact ⟨0, Nat.zero_le _, rfl, 0, rfl⟩
  case round =>
    obtain ⟨k, hk, rfl, q, rfl⟩ := hrel
    have h1 := h0.drewN q
    have ea : wA.cell? ⟨w.heap.size, 9, none⟩ = some (.slice A n c) := (h0.pull 1).cell 9
    have eb : wA.cell? ⟨w.heap.size + 1, 9, none⟩ = some (.slice B n d) := h0.cell 9
    by_cases hlt : k < n
    · obtain ⟨x, hx⟩ : ∃ m, ms[k]? = some m := ⟨_, List.getElem?_eq_getElem (by have := HN.out; omega)⟩
      obtain ⟨g, o, rfl, hg, ca⟩ := HA.out.row hlt (by omega)
      obtain ⟨g', o', rfl, hg', cb⟩ := HB.out.row (k := k) (by omega) (by omega)
      have fa' : ∀ j u, (mvC x)[j]? = some u → j < 6 → wA.cell? ⟨g, o + k * 6 + j, none⟩ = some u := fun j u hu hj => ((h0.pull 2).oldCell hg).trans (ca j u (by rw [mvsC_at hx hj]; exact hu))
      have fb' : ∀ j u, (mvC x)[j]? = some u → j < 6 → wA.cell? ⟨g', o' + k * 6 + j, none⟩ = some u := fun j u hu hj => ((h0.pull 2).oldCell hg').trans (cb j u (by rw [mvsC_at hx hj]; exact hu))
      have a0 := fa' 0 _ rfl (by omega)
      have a1 := fa' 1 _ rfl (by omega)
      have a2 := fa' 2 _ rfl (by omega)
      have a3 := fa' 3 _ rfl (by omega)
      have a4 := fa' 4 _ rfl (by omega)
      have a5 := fa' 5 _ rfl (by omega)
      have b0 := fb' 0 _ rfl (by omega)
      have b1 := fb' 1 _ rfl (by omega)
      have b2 := fb' 2 _ rfl (by omega)
      have b3 := fb' 3 _ rfl (by omega)
      have b4 := fb' 4 _ rfl (by omega)
      have b5 := fb' 5 _ rfl (by omega)
      simp only [Nat.add_zero] at a0 b0
      have hq := fun w => mv_neq x.step x.write x.cell x.x x.own x.gate w
      have hkz : (k : Int) < n := by omega
      clear fa' fb' ca cb hx h1 hg hg'
      go_wp2
      go_quiet (fail)
      go_wp2
      go_roundw
      case rel => exact ⟨k + 1, by omega, by go_num, _, rfl⟩
      case measure => simp [intOf]; omega
    · have hkn : k = n := by omega
      subst hkn
      have x3 : wA.cell? ⟨w.heap.size, 3, none⟩ = some (.int .i64 en) := (h0.pull 1).cell 3
      have x4 : wA.cell? ⟨w.heap.size, 4, none⟩ = some (.int .i64 fa) := (h0.pull 1).cell 4
      have x5 : wA.cell? ⟨w.heap.size, 5, none⟩ = some (.int .i64 er) := (h0.pull 1).cell 5
      have x6 : wA.cell? ⟨w.heap.size, 6, none⟩ = some (.int .i64 by_) := (h0.pull 1).cell 6
      have x8 : wA.cell? ⟨w.heap.size, 8, none⟩ = some (.int .i64 ga) := (h0.pull 1).cell 8
      have y3 : wA.cell? ⟨w.heap.size + 1, 3, none⟩ = some (.int .i64 en) := h0.cell 3
      have y4 : wA.cell? ⟨w.heap.size + 1, 4, none⟩ = some (.int .i64 fa) := h0.cell 4
      have y5 : wA.cell? ⟨w.heap.size + 1, 5, none⟩ = some (.int .i64 er) := h0.cell 5
      have y6 : wA.cell? ⟨w.heap.size + 1, 6, none⟩ = some (.int .i64 by_) := h0.cell 6
      have y8 : wA.cell? ⟨w.heap.size + 1, 8, none⟩ = some (.int .i64 ga) := h0.cell 8
      have H2 := Lib.hid ((h1.pull 2).below)
      have hkz : ¬ (k : Int) < k := by omega
      clear h1
      go_wp2
      go_ret
      exact ⟨rfl, H2.out⟩
theorem within_any {x y : Sto} (h : Within x y) (A B : Option Addr) (n c m d : Nat) (w : World) (hA : Sl w A n 6 (mvsC x.moves)) (hB : Sl w B m 6 (mvsC y.moves)) (hn : x.moves.length = n) (hm : y.moves.length = m) (hb : m ≤ 4611686018427387904) :
    Calls Try.prog 26 #[.agg (stoC x (.slice A n c)).toArray, .agg (stoC y (.slice B m d)).toArray] w fun e w' => e = .returned (.bool true) ∧ Below w.heap.size w w' := by
  by_cases hf : x.fate = 0
  · obtain ⟨q1, q2, q3, q4⟩ := h.live hf
    obtain ⟨r, hr⟩ := h.mv
    have h1 := h.th
    have h2 := h.st
    have h3 := h.bg
    have h4 := h.op
    obtain ⟨th, sp, bg, en, fa, er, by_, op, ga, ms⟩ := x
    obtain ⟨th2, sp2, bg2, en2, fa2, er2, by2, op2, ga2, ns⟩ := y
    dsimp only at hf q1 q2 q3 q4 hr h1 h2 h3 h4 hA hB hn hm
    subst hf q1 q2 q3 q4 hr h1 h2 h3 h4
    exact within_live A B n c m d _ _ _ _ _ _ _ _ _ ms (ms ++ r) w hA hB hn hm (by rw [← hn, ← hm, List.length_append]; omega) (fun k x hx => by rw [List.getElem?_append_left (List.getElem?_eq_some_iff.1 hx).1]; exact hx) hb
  · have e := h.done hf
    subst e
    obtain rfl : n = m := hn.symm.trans hm
    obtain ⟨th, sp, bg, en, fa, er, by_, op, ga, ms⟩ := x
    exact within_done A B n c d th sp bg op en fa er by_ ga ms w hA hB hn hf hb
end Go.Proofs.Ytfekjbaojefhoaa
namespace Go.Proofs.Ytfekjbaojefhoaa
open Go.RowKit Go.Shelf
set_option linter.unusedVariables false

theorem Sl.cutTo {w : World} {A : Option Addr} {n size : Nat} {xs : List Value} (h : Sl w A n size xs) {k : Nat} (hk : k ≤ n) : Sl w A k size (xs.take (k * size)) := by
  have hle : k * size ≤ n * size := Nat.mul_le_mul_right _ hk
  refine ⟨by rw [List.length_take, h.1]; omega, fun h0 => ?_⟩
  obtain ⟨g, o, e, hc⟩ := h.2 (by omega)
  refine ⟨g, o, e, fun j u hu => hc j u ?_⟩
  rw [List.getElem?_take] at hu
  split at hu
  · exact hu
  · cases hu
theorem evsC_take (es : List Ev) (k : Nat) : (evsC es).take (k * 10) = evsC (es.take k) := by
  rw [evsC, flat_take k ev_len, evsC, List.map_take]
theorem bld_moves (evs : List Ev) : ∀ s ∈ bldS evs, s.moves.length ≤ evs.length := by
  intro s hs
  unfold bldS at hs
  cases hr : runE evs with
  | none => rw [hr] at hs; cases hs
  | some t =>
    rw [hr] at hs
    have hi := inv_run (evs := evs) (Nat.le_refl _) (by rw [List.take_length]; exact hr)
    obtain ⟨i, hi2, rfl⟩ := List.mem_iff_getElem.1 hs
    exact hi.moves i _ (List.getElem?_eq_getElem hi2)
theorem bld_few (evs : List Ev) : (bldS evs).length ≤ evs.length + 8 := by
  unfold bldS
  cases hr : runE evs with
  | none => simp
  | some t =>
    have hi := inv_run (evs := evs) (Nat.le_refl _) (by rw [List.take_length]; exact hr)
    have := hi.few
    have := cnt_le t.opn
    show t.sts.length ≤ _
    omega
def c0Of (cut : Int) : Int := if cut < 0 then -(cut + 1) else cut
set_option maxRecDepth 100000 in
set_option maxHeartbeats 12800000 in
theorem grows_walk (A : Option Addr) (n c : Nat) (evs : List Ev) (cut : Int) (w : World) (hE : Sl w A n 10 (evsC evs)) (hn : evs.length = n) (hnc : n ≤ c) (hbig : n * 80 ≤ 140737488355328) (hcut : -9223372036854775808 ≤ cut ∧ cut ≤ 9223372036854775807) :
    Calls Try.prog 7 #[.slice A n c, .int .i64 cut] w fun e w' => e = .returned (.bool true) ∧ Below w.heap.size w w' := by
  have HE := Lib.hid hE
  have HN := Lib.hid hn
  obtain ⟨c0, hc0⟩ : ∃ c0 : Nat, c0Of cut = (c0 : Int) := ⟨(c0Of cut).toNat, by unfold c0Of; split <;> omega⟩
  have HC0 := Lib.hid hc0
  have h63 : c0 ≤ 9223372036854775807 := by have := hc0; unfold c0Of at this; split at this <;> omega
  obtain ⟨k, hk⟩ : ∃ k : Nat, k = c0 % (n + 1) := ⟨_, rfl⟩
  have hkn : k ≤ n := by have := Nat.mod_lt c0 (show 0 < n + 1 by omega); omega
  have hkz : (c0 : Int) % ((n : Int) + 1) = (k : Int) := by rw [hk, Int.natCast_emod, Int.natCast_add, Int.natCast_one]
  have HK := Lib.hid hkz
  obtain ⟨hcut1, hcut2⟩ := hcut
  have h0 := Star.begin w
  clear hE hn hc0 hk hkz
  go_enter Try.func7, Try.ntmps7
  go_wp2_with fail
  refine (awake_any _).mono ?_
  rintro e' w1 ⟨rfl, hb1⟩
  have h1 := Star.of_below h0 hb1
  clear h0 hb1
  go_upto_if 17 with fail
  go_cut [1] (fun v wx => v = .int .i64 (c0 : Int) ∧ wx = w1)
  case first =>
    by_cases hneg : cut < 0
    · have e1 : -(cut + 1) = (c0 : Int) := by have := HC0.out; unfold c0Of at this; rw [if_pos hneg] at this; exact this
      have E1 := Lib.hid e1
      clear e1
      go_wp2
      go_meet
      exact ⟨by rw [E1.out], rfl⟩
    · have e1 : cut = (c0 : Int) := by have := HC0.out; unfold c0Of at this; rw [if_neg hneg] at this; exact this
      have E1 := Lib.hid e1
      clear e1
      go_wp2
      go_meet
      exact ⟨by rw [E1.out], rfl⟩
  case rest =>
    obtain ⟨rfl, rfl⟩ := hcut
    obtain ⟨w1, rfl⟩ : ∃ w1 : World, w1 = wc := ⟨_, rfl⟩
    have B1 := Lib.hid (build_any A n c evs w1 (HE.out.after (by omega) h1) HN.out hbig)
    have H1 := Lib.hid h1
    clear h1
    go_wp2_with fail
    rw [HK.out]
    refine B1.out.mono ?_
    rintro e' w2 ⟨a2, c2, rfl, h2⟩
    have h3 := h2.frame (L := [_]) H1.out
    have B2 := Lib.hid (build_any A k c (evs.take k) w2 (by have := ((HE.out.after (by omega) h3.swap).cutTo hkn); rw [evsC_take] at this; exact this) (by rw [List.length_take]; have := HN.out; omega) (by omega))
    have H3 := Lib.hid h3
    clear h2 h3 B1 H1
    go_wp2_with fail
    refine B2.out.mono ?_
    rintro e' w3 ⟨a3, c3, rfl, h4⟩
    have h5 := h4.frame (L := [_]) H3.out
    clear h4 B2 H3
    by_cases hok : bldOk evs = true
    case neg =>
      have hok' : bldOk evs = false := by simpa using hok
      obtain ⟨q1, q2, q3⟩ := grows_bad (k := k) hok' (by rw [HN.out]; exact hkn)
      have e1 : bldCode evs = 210 := by simp [bldCode, hok']
      have H5 := Lib.hid (h5.pull 2).below
      rw [e1]
      rw [HN.out] at q1
      by_cases hlt : bldAt evs < k
      · obtain ⟨r1, r2⟩ := q2 hlt
        have e2 : bldCode (evs.take k) = 210 := by simp [bldCode, r1]
        rw [e2, r2]
        clear h5 q1 q2 q3 e1 e2 r1 r2 hok hok'
        generalize bldAt evs = at0 at hlt ⊢
        have hd : decide (at0 < k) = true := by simpa using hlt
        go_wp2
        go_ret
        exact ⟨rfl, H5.out⟩
      · have r1 := q3 (by omega)
        have e2 : bldCode (evs.take k) = 0 := by simp [bldCode, r1]
        rw [e2]
        clear h5 q2 q3 e1 e2 r1 hok hok'
        generalize bldAt evs = at0 at hlt q1 ⊢
        have hd : decide (at0 < k) = false := by simpa using hlt
        have hd2 : decide (at0 < n) = true := by simpa using q1
        go_wp2
        go_ret
        exact ⟨rfl, H5.out⟩
    case pos =>
      obtain ⟨q1, q2, q3⟩ := grows_ok k hok
      have e1 : bldCode evs = 0 := by simp [bldCode, hok]
      have e2 : bldCode (evs.take k) = 0 := by simp [bldCode, q1]
      rw [e1, e2]
      have hmv : ∀ s ∈ bldS evs, s.moves.length * 48 ≤ 140737488355328 := fun s hs => by have := bld_moves evs s hs; have := HN.out; omega
      have hmv2 : ∀ s ∈ bldS (evs.take k), s.moves.length * 48 ≤ 140737488355328 := fun s hs => by have := bld_moves _ s hs; rw [List.length_take] at this; have := HN.out; omega
      have hfew := bld_few evs
      rw [HN.out] at hfew
      obtain ⟨vs, hS1, _⟩ := stories_read (h5.pull 1) rfl hmv
      obtain ⟨us, hS2, _⟩ := stories_read h5 rfl hmv2
      have H5 := Lib.hid (h5.pick 3 [2])
      have Q3 := Lib.hid q3
      clear h5 hmv hmv2 q1 q3 e1 e2 hok
      generalize bldS evs = al at q2 Q3 hfew hS1 ⊢
      generalize bldS (evs.take k) = so at q2 Q3 hS2 ⊢
      generalize bldAt evs = at0
      generalize bldAt (evs.take k) = to0
      obtain ⟨n1, hn1⟩ : ∃ n1, n1 = al.length := ⟨_, rfl⟩
      obtain ⟨n2, hn2⟩ : ∃ n2, n2 = so.length := ⟨_, rfl⟩
      rw [← hn1] at q2 hfew hS1 ⊢
      rw [← hn2] at q2 hS2 ⊢
      have HS1 := Lib.hid hS1
      have HS2 := Lib.hid hS2
      have hd : decide (n1 < n2) = false := by simp; omega
      clear hn1 hn2 hS1 hS2
      go_wp2_with fail
      go_loopw [13] (fun i wr => ∃ j : Nat, j ≤ n2 ∧ i = .int .i64 j ∧ Star w3 wr [oldA w3]) (fun i _ => n2 - (intOf i).toNat)
      case atStart => exact ⟨0, Nat.zero_le _, rfl, Star.begin w3⟩
      case round =>
        obtain ⟨j, hj, rfl, hR⟩ := hrel
        by_cases hlt : j < n2
        · obtain ⟨x, hx⟩ : ∃ x, so[j]? = some x := ⟨_, List.getElem?_eq_getElem (by have := HS2.out.ns; omega)⟩
          obtain ⟨y, hy, hw⟩ := Q3.out j x hx
          obtain ⟨v, hv⟩ : ∃ v, vs[j]? = some v := ⟨_, List.getElem?_eq_getElem (by have := HS1.out.nv; omega)⟩
          obtain ⟨u, hu⟩ : ∃ v, us[j]? = some v := ⟨_, List.getElem?_eq_getElem (by have := HS2.out.nv; omega)⟩
          obtain ⟨MA, ma, mc, rfl, hma, hmsA, hmbA⟩ := (HS2.out.after hR).mv j x u hx hu
          obtain ⟨MB, mb, md, rfl, hmb, hmsB, hmbB⟩ := (HS1.out.after hR).mv j y v hy hv
          obtain ⟨g, o, rfl, hg, ca⟩ := HS2.out.row.row hlt (by omega)
          obtain ⟨g', o', rfl, hg', cb⟩ := HS1.out.row.row (k := j) (by omega) (by omega)
          have fa' : ∀ i z, (stoC x (.slice MA ma mc))[i]? = some z → i < 10 → wr.cell? ⟨g, o + j * 10 + i, none⟩ = some z := fun i z hz hi => (hR.oldCell hg).trans (ca i z (by rw [stosC_at hx hu hi]; exact hz))
          have fb' : ∀ i z, (stoC y (.slice MB mb md))[i]? = some z → i < 10 → wr.cell? ⟨g', o' + j * 10 + i, none⟩ = some z := fun i z hz hi => (hR.oldCell hg').trans (cb i z (by rw [stosC_at hy hv hi]; exact hz))
          have a0 := fa' 0 _ rfl (by omega)
          have a1 := fa' 1 _ rfl (by omega)
          have a2 := fa' 2 _ rfl (by omega)
          have a3 := fa' 3 _ rfl (by omega)
          have a4 := fa' 4 _ rfl (by omega)
          have a5 := fa' 5 _ rfl (by omega)
          have a6 := fa' 6 _ rfl (by omega)
          have a7 := fa' 7 _ rfl (by omega)
          have a8 := fa' 8 _ rfl (by omega)
          have a9 := fa' 9 _ rfl (by omega)
          have b0 := fb' 0 _ rfl (by omega)
          have b1 := fb' 1 _ rfl (by omega)
          have b2 := fb' 2 _ rfl (by omega)
          have b3 := fb' 3 _ rfl (by omega)
          have b4 := fb' 4 _ rfl (by omega)
          have b5 := fb' 5 _ rfl (by omega)
          have b6 := fb' 6 _ rfl (by omega)
          have b7 := fb' 7 _ rfl (by omega)
          have b8 := fb' 8 _ rfl (by omega)
          have b9 := fb' 9 _ rfl (by omega)
          simp only [Nat.add_zero] at a0 b0
          have WI := Lib.hid (within_any hw MA MB ma mc mb md wr.drew hmsA hmsB hma hmb (by omega))
          have hjz : (j : Int) < n2 := by omega
          have hjz1 : (j : Int) < n1 := by omega
          have HR := Lib.hid hR
          clear fa' fb' ca cb hx hy hw hv hu hR hma hmsA hmbA hmb hmsB hmbB hg hg'
          go_wp2_with fail
          go_still_tail 8, (by kernel_rfl)
          change wpList _ _ _ _ _ wr.drew
          go_wp2_with fail
          refine WI.out.mono ?_
          rintro e' w5 ⟨rfl, hb5⟩
          have HR2 := Lib.hid (HR.out.drew.of_below hb5)
          clear WI hb5
          go_wp2
          go_roundw
          case rel => exact ⟨j + 1, by omega, by go_num, HR2.out⟩
          case measure => simp [intOf]; omega
        · have hjn : j = n2 := by omega
          subst hjn
          have H2 := Lib.hid ((H5.out.of_below hR.below).below)
          have hjz : ¬ (j : Int) < j := by omega
          clear hR
          go_wp2
          go_ret
          exact ⟨rfl, H2.out⟩
end Go.Proofs.Ytfekjbaojefhoaa
namespace Go.Proofs.Ytfekjbaojefhoaa
open Go.RowKit Go.Shelf
set_option linter.unusedVariables false

theorem evC_one (e : Ev) : ∀ u ∈ evC e, u.oneCell' = true := by intro u hu; simp only [evC, List.mem_cons, List.not_mem_nil, or_false] at hu; rcases hu with rfl | rfl | rfl | rfl | rfl | rfl | rfl | rfl | rfl | rfl <;> rfl
theorem evsC_snoc (es : List Ev) (e : Ev) : evsC (es ++ [e]) = evsC es ++ evC e := by simp [evsC]
theorem sto_one (s : Sto) (a : Option Addr) (k c : Nat) : ∀ u ∈ stoC s (.slice a k c), u.oneCell' = true := by intro u hu; simp only [stoC, List.mem_cons, List.not_mem_nil, or_false] at hu; rcases hu with rfl | rfl | rfl | rfl | rfl | rfl | rfl | rfl | rfl | rfl <;> rfl
theorem filt_le {α : Type} (p : α → Bool) (l : List α) (j : Nat) (h : j ≤ l.length) : ((l.take j).filter p).length ≤ j := by
  have := List.length_filter_le p (l.take j)
  rw [List.length_take] at this
  omega
/-- of stories with their slices those of one thread, as far as the walk has come -/
def ownP (t : Int) (al : List Sto) (vs : List Value) (j : Nat) : List (Sto × Value) := ((al.zip vs).take j).filter fun p => ofT t p.1
def ownS (t : Int) (al : List Sto) (vs : List Value) (j : Nat) : List Sto := (ownP t al vs j).map (·.1)
def ownV (t : Int) (al : List Sto) (vs : List Value) (j : Nat) : List Value := (ownP t al vs j).map (·.2)
theorem own_len (t : Int) (al : List Sto) (vs : List Value) (j : Nat) : (ownV t al vs j).length = (ownS t al vs j).length := by rw [ownV, ownS, List.length_map, List.length_map]
theorem own_all {t : Int} {al : List Sto} {vs : List Value} (h : vs.length = al.length) : ownS t al vs al.length = al.filter (ofT t) := by
  have e : (al.zip vs).take al.length = al.zip vs := List.take_of_length_le (by rw [List.length_zip]; omega)
  rw [ownS, ownP, e]
  have := List.filter_map (f := fun p : Sto × Value => p.1) (p := ofT t) (l := al.zip vs)
  rw [List.map_fst_zip (by omega)] at this
  exact this.symm
theorem own_succ {t : Int} {al : List Sto} {vs : List Value} {j : Nat} {s : Sto} {v : Value} (hs : al[j]? = some s) (hv : vs[j]? = some v) : ownP t al vs (j + 1) = ownP t al vs j ++ (if ofT t s = true then [(s, v)] else []) := by
  have hz : (al.zip vs)[j]? = some (s, v) := by rw [List.getElem?_zip_eq_some]; exact ⟨hs, hv⟩
  rw [ownP, take_succ hz, List.filter_append, ownP]
  congr 1
  by_cases h : ofT t s = true
  · rw [if_pos h, List.filter_cons, if_pos h]; rfl
  · rw [if_neg h, List.filter_cons, if_neg h]; rfl
theorem own_mem {t : Int} {al : List Sto} {vs : List Value} {j i : Nat} {s : Sto} {v : Value} (hs : (ownS t al vs j)[i]? = some s) (hv : (ownV t al vs j)[i]? = some v) : ∃ k : Nat, al[k]? = some s ∧ vs[k]? = some v := by
  rw [ownS, List.getElem?_map] at hs
  rw [ownV, List.getElem?_map] at hv
  cases hp : (ownP t al vs j)[i]? with
  | none => rw [hp] at hs; cases hs
  | some p =>
    rw [hp] at hs hv
    injection hs with hs
    injection hv with hv
    have hm : p ∈ ownP t al vs j := List.mem_of_getElem? hp
    have hm2 : p ∈ al.zip vs := List.mem_of_mem_take (List.mem_filter.1 hm).1
    obtain ⟨k, hk⟩ := List.mem_iff_getElem?.1 hm2
    rw [List.getElem?_zip_eq_some] at hk
    exact ⟨k, hs ▸ hk.1, hv ▸ hk.2⟩
theorem bld_half (evs : List Ev) : 2 * (bldS evs).length ≤ evs.length + 8 := by
  unfold bldS
  cases hr : runE evs with
  | none => simp
  | some t =>
    have hi := inv_run (evs := evs) (Nat.le_refl _) (by rw [List.take_length]; exact hr)
    have := hi.few
    have := cnt_le t.opn
    show 2 * t.sts.length ≤ _
    omega
set_option maxRecDepth 100000 in
set_option maxHeartbeats 12800000 in
theorem apart_walk (A : Option Addr) (n c : Nat) (evs : List Ev) (t : Int) (w : World) (hE : Sl w A n 10 (evsC evs)) (hn : evs.length = n) (hbig : n * 80 ≤ 140737488355328) :
    Calls Try.prog 8 #[.slice A n c, .int .i64 t] w fun e w' => e = .returned (.bool true) ∧ Below w.heap.size w w' := by
  obtain ⟨i0, hi, hz0, hz1, hz2⟩ := info_parts Try.info26
  obtain ⟨i1, gi, gz0, gz1, gz2⟩ := info_parts Try.info36
  have HE := Lib.hid hE
  have HN := Lib.hid hn
  have h0 := Star.begin w
  clear hE hn
  go_enter Try.func8, Try.ntmps8
  go_wp2_with fail
  refine (awake_any _).mono ?_
  rintro e' w1 ⟨rfl, hb1⟩
  have h1 := Star.of_below h0 hb1
  have B1 := Lib.hid (build_any A n c evs w1 (HE.out.after (by omega) h1) HN.out (by omega))
  have H1 := Lib.hid h1
  clear h0 hb1 h1
  go_wp2_with fail
  refine B1.out.mono ?_
  rintro e' w2 ⟨a2, c2, rfl, h2⟩
  have h3 := h2.frame (L := [_]) H1.out
  clear h2 B1 H1
  by_cases hok : bldOk evs = true
  case neg =>
    have e1 : bldCode evs = 210 := by simp [bldCode, hok]
    have H5 := Lib.hid (h3.pull 1).below
    rw [e1]
    clear h3 e1 hok
    go_wp2
    go_ret
    exact ⟨rfl, H5.out⟩
  case pos =>
    obtain ⟨p1, p2⟩ := apart_mine t hok
    obtain ⟨p3, p4⟩ := apart_quiet hok
    have e1 : bldCode evs = 0 := by simp [bldCode, hok]
    rw [e1]
    have e2 : bldCode (evs.filter (evT t)) = 0 := by simp [bldCode, p1]
    have e3 : bldCode (evs.filter notSlots) = 0 := by simp [bldCode, p3]
    have hmv : ∀ s ∈ bldS evs, s.moves.length * 48 ≤ 140737488355328 := fun s hs => by have := bld_moves evs s hs; have := HN.out; omega
    have hfew := bld_half evs
    rw [HN.out] at hfew
    obtain ⟨vs, hS1, hvs⟩ := stories_read h3 rfl hmv
    have HMV := Lib.hid hmv
    have HP := Lib.hid (⟨p2, p4, e2, e3⟩ : bldS (evs.filter (evT t)) = (bldS evs).filter (ofT t) ∧ bldS (evs.filter notSlots) = bldS evs ∧ bldCode (evs.filter (evT t)) = 0 ∧ bldCode (evs.filter notSlots) = 0)
    have HO := Lib.hid (h3.pull 1)
    have HEV := Lib.hid (HE.out.after (by omega) (h3.pull 1))
    have HS1 := Lib.hid hS1
    have HVS := Lib.hid hvs
    clear h3 p1 p2 p3 p4 e1 e2 e3 hok hmv hS1 hvs
    generalize bldS evs = al at hfew HMV HP HO HS1
    generalize bldAt evs = at0
    have hl1 : ∀ j, j ≤ n → ((evs.take j).filter (evT t)).length ≤ j := fun j hj => filt_le _ _ _ (by rw [HN.out]; exact hj)
    have hl2 : ∀ j, j ≤ n → ((evs.take j).filter notSlots).length ≤ j := fun j hj => filt_le _ _ _ (by rw [HN.out]; exact hj)
    have HL := Lib.hid (⟨hl1, hl2⟩ : _ ∧ _)
    clear hl1 hl2
    go_wp2_with fail
    go_loopw [9, 10, 11] (fun u v i wr => ∃ j : Nat, j ≤ n ∧ i = .int .i64 j ∧ ∃ a q b r, u = .slice a ((evs.take j).filter (evT t)).length q ∧ v = .slice b ((evs.take j).filter notSlots).length r ∧ Star w2 wr [rowA 26 10 (.slice a ((evs.take j).filter (evT t)).length q) ((evs.take j).filter (evT t)).length (evsC ((evs.take j).filter (evT t))), rowA 26 10 (.slice b ((evs.take j).filter notSlots).length r) ((evs.take j).filter notSlots).length (evsC ((evs.take j).filter notSlots)), oldA w2]) (fun _ _ i _ => n - (intOf i).toNat)
    case atStart => exact ⟨0, Nat.zero_le _, rfl, none, 0, none, 0, rfl, rfl, ((Star.begin w2).rowNil 26 10).rowNil 26 10⟩
    case round =>
      obtain ⟨j, hj, rfl, a, q, b, r, rfl, rfl, hR⟩ := hrel
      have k1 := HL.out.1 j hj
      have k2 := HL.out.2 j hj
      by_cases hlt : j < n
      · obtain ⟨e, he⟩ : ∃ e, evs[j]? = some e := ⟨_, List.getElem?_eq_getElem (by have := HN.out; omega)⟩
        obtain ⟨g, o, rfl, hg, hcl⟩ := HEV.out.row hlt (by omega)
        have hT := take_succ he
        have hf1 : (evs.take (j + 1)).filter (evT t) = (evs.take j).filter (evT t) ++ (if e.thread = t then [e] else []) := by
          rw [hT, List.filter_append]
          congr 1
          by_cases h : e.thread = t <;> simp [evT, h]
        have hf2 : (evs.take (j + 1)).filter notSlots = (evs.take j).filter notSlots ++ (if e.kind = 6 then [] else [e]) := by
          rw [hT, List.filter_append]
          congr 1
          by_cases h : e.kind = 6 <;> simp [notSlots, h]
        have HF := Lib.hid (⟨hf1, hf2⟩ : _ ∧ _)
        have hcell : ∀ i u, (evC e)[i]? = some u → i < 10 → w2.cell? ⟨g, o + j * 10 + i, none⟩ = some u := fun i u hu hi => hcl i u (by rw [evsC_at he hi]; exact hu)
        have HCL := Lib.hid hcell
        have HG := Lib.hid hg
        generalize (evs.take j).filter (evT t) = m1 at hR HF k1 ⊢
        generalize (evs.take j).filter notSlots = m2 at hR HF k2 ⊢
        have hR0 := hR
        clear hT hf1 hf2 hcl hcell he hg hR
        have hjz : (j : Int) < n := by omega
        have x0 : wr.cell? ⟨g, o + j * 10, none⟩ = some (.int .i64 e.kind) := ((hR0.pull 2).oldCell HG.out).trans (HCL.out 0 _ rfl (by omega))
        have x1 : wr.cell? ⟨g, o + j * 10 + 1, none⟩ = some (.int .i64 e.step) := ((hR0.pull 2).oldCell HG.out).trans (HCL.out 1 _ rfl (by omega))
        have x2 : wr.cell? ⟨g, o + j * 10 + 2, none⟩ = some (.int .i64 e.thread) := ((hR0.pull 2).oldCell HG.out).trans (HCL.out 2 _ rfl (by omega))
        have x3 : wr.cell? ⟨g, o + j * 10 + 3, none⟩ = some (.int .i64 e.stamp) := ((hR0.pull 2).oldCell HG.out).trans (HCL.out 3 _ rfl (by omega))
        have x4 : wr.cell? ⟨g, o + j * 10 + 4, none⟩ = some (.int .i64 e.cell) := ((hR0.pull 2).oldCell HG.out).trans (HCL.out 4 _ rfl (by omega))
        have x5 : wr.cell? ⟨g, o + j * 10 + 5, none⟩ = some (.int .i64 e.x) := ((hR0.pull 2).oldCell HG.out).trans (HCL.out 5 _ rfl (by omega))
        have x6 : wr.cell? ⟨g, o + j * 10 + 6, none⟩ = some (.bool e.own) := ((hR0.pull 2).oldCell HG.out).trans (HCL.out 6 _ rfl (by omega))
        have x7 : wr.cell? ⟨g, o + j * 10 + 7, none⟩ = some (.int .i64 e.gate) := ((hR0.pull 2).oldCell HG.out).trans (HCL.out 7 _ rfl (by omega))
        have x8 : wr.cell? ⟨g, o + j * 10 + 8, none⟩ = some (.int .i64 e.e) := ((hR0.pull 2).oldCell HG.out).trans (HCL.out 8 _ rfl (by omega))
        have x9 : wr.cell? ⟨g, o + j * 10 + 9, none⟩ = some (.int .i64 e.by_) := ((hR0.pull 2).oldCell HG.out).trans (HCL.out 9 _ rfl (by omega))
        have HR0 := Lib.hid hR0
        by_cases ht : e.thread = t
        · have htb : (e.thread == t) = true := by simpa using ht
          have HT := Lib.hid ht
          clear ht
          have hN := (hR0.new (.cells (evC e).toArray 26)).pull 1
          by_cases hk : e.kind = 6
          · have hkb : (e.kind != 6) = false := by simpa using hk
            have HK := Lib.hid hk
            clear hk
            go_wp2_with (at_builtin; refine wpList_append_star rfl (.tmp 45) (.tmp 50) 23 rfl 26 i0 _ 10 80 Try.underlying23 hi hz0 hz1 hz2 rfl (by decide) _ m1.length _ rfl hN ⟨wr.heap.size, 0, none⟩ 1 1 (evC e) rfl rfl (cell_list_new _ _ rfl _ _) (evC_one e) (by simp only [maxLen]; omega) (by omega) ?_; intro a' q' w5 h5; have h6 := h5.pick 4 [0, 2, 3]; have y0 : w5.cell? ⟨g, o + j * 10, none⟩ = some (.int .i64 e.kind) := ((h6.pull 2).oldCell HG.out).trans (HCL.out 0 _ rfl (by omega)); have y1 : w5.cell? ⟨g, o + j * 10 + 1, none⟩ = some (.int .i64 e.step) := ((h6.pull 2).oldCell HG.out).trans (HCL.out 1 _ rfl (by omega)); have y2 : w5.cell? ⟨g, o + j * 10 + 2, none⟩ = some (.int .i64 e.thread) := ((h6.pull 2).oldCell HG.out).trans (HCL.out 2 _ rfl (by omega)); have y3 : w5.cell? ⟨g, o + j * 10 + 3, none⟩ = some (.int .i64 e.stamp) := ((h6.pull 2).oldCell HG.out).trans (HCL.out 3 _ rfl (by omega)); have y4 : w5.cell? ⟨g, o + j * 10 + 4, none⟩ = some (.int .i64 e.cell) := ((h6.pull 2).oldCell HG.out).trans (HCL.out 4 _ rfl (by omega)); have y5 : w5.cell? ⟨g, o + j * 10 + 5, none⟩ = some (.int .i64 e.x) := ((h6.pull 2).oldCell HG.out).trans (HCL.out 5 _ rfl (by omega)); have y6 : w5.cell? ⟨g, o + j * 10 + 6, none⟩ = some (.bool e.own) := ((h6.pull 2).oldCell HG.out).trans (HCL.out 6 _ rfl (by omega)); have y7 : w5.cell? ⟨g, o + j * 10 + 7, none⟩ = some (.int .i64 e.gate) := ((h6.pull 2).oldCell HG.out).trans (HCL.out 7 _ rfl (by omega)); have y8 : w5.cell? ⟨g, o + j * 10 + 8, none⟩ = some (.int .i64 e.e) := ((h6.pull 2).oldCell HG.out).trans (HCL.out 8 _ rfl (by omega)); have y9 : w5.cell? ⟨g, o + j * 10 + 9, none⟩ = some (.int .i64 e.by_) := ((h6.pull 2).oldCell HG.out).trans (HCL.out 9 _ rfl (by omega)); have H6 := Lib.hid h6; clear h5 h6)
            go_roundw
            case rel =>
              have f1 := HF.out.1
              have f2 := HF.out.2
              rw [if_pos HT.out] at f1
              rw [if_pos HK.out, List.append_nil] at f2
              refine ⟨j + 1, by omega, by go_num, a', q', b, r, by rw [f1, List.length_append, List.length_cons, List.length_nil], by rw [f2], ?_⟩
              rw [f1, f2, evsC_snoc, List.length_append, List.length_cons, List.length_nil]
              exact H6.out
            case measure => simp [intOf]; omega
          · have hkb : (e.kind != 6) = true := by simpa using hk
            have HK := Lib.hid hk
            clear hk
            go_wp2_with (first | (at_builtin; refine wpList_append_star rfl (.tmp 45) (.tmp 50) 23 rfl 26 i0 _ 10 80 Try.underlying23 hi hz0 hz1 hz2 rfl (by decide) _ m1.length _ rfl hN ⟨wr.heap.size, 0, none⟩ 1 1 (evC e) rfl rfl (cell_list_new _ _ rfl _ _) (evC_one e) (by simp only [maxLen]; omega) (by omega) ?_; intro a' q' w5 h5; have h6 := h5.pick 4 [0, 2, 3]; have y0 : w5.cell? ⟨g, o + j * 10, none⟩ = some (.int .i64 e.kind) := ((h6.pull 2).oldCell HG.out).trans (HCL.out 0 _ rfl (by omega)); have y1 : w5.cell? ⟨g, o + j * 10 + 1, none⟩ = some (.int .i64 e.step) := ((h6.pull 2).oldCell HG.out).trans (HCL.out 1 _ rfl (by omega)); have y2 : w5.cell? ⟨g, o + j * 10 + 2, none⟩ = some (.int .i64 e.thread) := ((h6.pull 2).oldCell HG.out).trans (HCL.out 2 _ rfl (by omega)); have y3 : w5.cell? ⟨g, o + j * 10 + 3, none⟩ = some (.int .i64 e.stamp) := ((h6.pull 2).oldCell HG.out).trans (HCL.out 3 _ rfl (by omega)); have y4 : w5.cell? ⟨g, o + j * 10 + 4, none⟩ = some (.int .i64 e.cell) := ((h6.pull 2).oldCell HG.out).trans (HCL.out 4 _ rfl (by omega)); have y5 : w5.cell? ⟨g, o + j * 10 + 5, none⟩ = some (.int .i64 e.x) := ((h6.pull 2).oldCell HG.out).trans (HCL.out 5 _ rfl (by omega)); have y6 : w5.cell? ⟨g, o + j * 10 + 6, none⟩ = some (.bool e.own) := ((h6.pull 2).oldCell HG.out).trans (HCL.out 6 _ rfl (by omega)); have y7 : w5.cell? ⟨g, o + j * 10 + 7, none⟩ = some (.int .i64 e.gate) := ((h6.pull 2).oldCell HG.out).trans (HCL.out 7 _ rfl (by omega)); have y8 : w5.cell? ⟨g, o + j * 10 + 8, none⟩ = some (.int .i64 e.e) := ((h6.pull 2).oldCell HG.out).trans (HCL.out 8 _ rfl (by omega)); have y9 : w5.cell? ⟨g, o + j * 10 + 9, none⟩ = some (.int .i64 e.by_) := ((h6.pull 2).oldCell HG.out).trans (HCL.out 9 _ rfl (by omega)); have hN2 := (h6.new (.cells (evC e).toArray 26)).pull 2; have tok : True := trivial; clear h5) | (at_builtin; refine wpList_append_star rfl (.tmp 58) (.tmp 63) 23 rfl 26 i0 _ 10 80 Try.underlying23 hi hz0 hz1 hz2 rfl (by decide) _ m2.length _ rfl hN2 ⟨w5.heap.size, 0, none⟩ 1 1 (evC e) rfl rfl (cell_list_new _ _ rfl _ _) (evC_one e) (by simp only [maxLen]; omega) (by omega) ?_; intro b' r' w7 h7; have H8 := Lib.hid (h7.pick 4 [2, 0, 3]); clear h7))
            go_roundw
            case rel =>
              have f1 := HF.out.1
              have f2 := HF.out.2
              rw [if_pos HT.out] at f1
              rw [if_neg HK.out] at f2
              refine ⟨j + 1, by omega, by go_num, a', q', b', r', by rw [f1, List.length_append, List.length_cons, List.length_nil], by rw [f2, List.length_append, List.length_cons, List.length_nil], ?_⟩
              rw [f1, f2, evsC_snoc, evsC_snoc, List.length_append, List.length_append, List.length_cons, List.length_nil]
              exact H8.out
            case measure => simp [intOf]; omega
        · have htb : (e.thread == t) = false := by simpa using ht
          have HT := Lib.hid ht
          clear ht
          by_cases hk : e.kind = 6
          · have hkb : (e.kind != 6) = false := by simpa using hk
            have HK := Lib.hid hk
            clear hk
            clear hR0
            go_wp2
            go_roundw
            case rel =>
              have f1 := HF.out.1
              have f2 := HF.out.2
              rw [if_neg HT.out, List.append_nil] at f1
              rw [if_pos HK.out, List.append_nil] at f2
              exact ⟨j + 1, by omega, by go_num, a, q, b, r, by rw [f1], by rw [f2], by rw [f1, f2]; exact HR0.out⟩
            case measure => simp [intOf]; omega
          · have hkb : (e.kind != 6) = true := by simpa using hk
            have HK := Lib.hid hk
            clear hk
            have hN := (hR0.new (.cells (evC e).toArray 26)).pull 2
            clear hR0
            go_wp2_with (at_builtin; refine wpList_append_star rfl (.tmp 58) (.tmp 63) 23 rfl 26 i0 _ 10 80 Try.underlying23 hi hz0 hz1 hz2 rfl (by decide) _ m2.length _ rfl hN ⟨wr.heap.size, 0, none⟩ 1 1 (evC e) rfl rfl (cell_list_new _ _ rfl _ _) (evC_one e) (by simp only [maxLen]; omega) (by omega) ?_; intro b' r' w7 h7; have H8 := Lib.hid (h7.pick 4 [2, 0, 3]); clear h7)
            go_roundw
            case rel =>
              have f1 := HF.out.1
              have f2 := HF.out.2
              rw [if_neg HT.out, List.append_nil] at f1
              rw [if_neg HK.out] at f2
              refine ⟨j + 1, by omega, by go_num, a, q, b', r', by rw [f1], by rw [f2, List.length_append, List.length_cons, List.length_nil], ?_⟩
              rw [f1, f2, evsC_snoc, List.length_append, List.length_cons, List.length_nil]
              exact H8.out
            case measure => simp [intOf]; omega
      · have hjn : j = n := by omega
        subst hjn
        have e0 : evs.take j = evs := List.take_of_length_le (by rw [HN.out]; omega)
        rw [e0] at hR k1 k2 ⊢
        obtain ⟨p1, p2, p3, p4⟩ := HP.out
        have hjz : ¬ (j : Int) < j := by omega
        have B2 := build_any a (evs.filter (evT t)).length q (evs.filter (evT t)) wr hR.rowSl rfl (by omega)
        rw [p1, p3] at B2
        have B3 := fun W' (h : Star w2 W' [rowA 26 10 (.slice b (evs.filter notSlots).length r) (evs.filter notSlots).length (evsC (evs.filter notSlots)), oldA w2]) => build_any b (evs.filter notSlots).length r (evs.filter notSlots) W' h.rowSl rfl (by omega)
        rw [p2, p4] at B3
        have B2 := Lib.hid B2
        have B3 := Lib.hid B3
        have HR := Lib.hid hR
        clear hR p1 p2 p3 p4 e0
        generalize bldAt (evs.filter (evT t)) = at1 at B2
        generalize bldAt (evs.filter notSlots) = at2 at B3
        go_wp2_with fail
        refine B2.out.mono ?_
        rintro e' w3 ⟨a3, c3, rfl, h4⟩
        have h5 := h4.frame (L := [_]) HR.out
        have B4 := Lib.hid (B3.out w3 (h5.pick 4 [2, 3]))
        have H5 := Lib.hid h5
        clear h4 h5 B2 B3 HR
        go_wp2_with fail
        refine B4.out.mono ?_
        rintro e' w6 ⟨a4, c4, rfl, h6⟩
        have h7 := h6.frame (L := [_]) H5.out
        clear h6 B4 H5
        generalize evs.filter (evT t) = m1 at h7 ⊢
        generalize evs.filter notSlots = m2 at h7 ⊢
        have hfl : (al.filter (ofT t)).length ≤ al.length := List.length_filter_le _ _
        obtain ⟨us, hL, _⟩ := stories_read (h7.pull 1) rfl (fun s hs => HMV.out s (List.mem_filter.1 hs).1)
        obtain ⟨xs, hM, _⟩ := stories_read h7 rfl HMV.out
        have HL6 := Lib.hid hL
        have HM6 := Lib.hid hM
        have HS6 := Lib.hid (HS1.out.after (h7.pull 4))
        have H7 := Lib.hid (h7.pull 4)
        have h8 := (Star.begin w6).rowNil 36 10
        have hvl : vs.length = al.length := HS1.out.nv
        have HVL := Lib.hid hvl
        obtain ⟨n1, hn1⟩ : ∃ n1, n1 = al.length := ⟨_, rfl⟩
        have HN1 := Lib.hid hn1
        rw [← hn1] at hfew hfl HS6 HM6 ⊢
        clear h7 hL hM hvl hn1
        go_wp2_with fail
        go_loopw [18, 19] (fun u i wr => ∃ j : Nat, j ≤ n1 ∧ i = .int .i64 j ∧ ∃ a q, u = .slice a (ownS t al vs j).length q ∧ Star w6 wr [rowA 36 10 (.slice a (ownS t al vs j).length q) (ownS t al vs j).length (stosC (ownS t al vs j) (ownV t al vs j)), oldA w6]) (fun _ i _ => n1 - (intOf i).toNat)
        case atStart => exact ⟨0, Nat.zero_le _, rfl, none, 0, rfl, h8⟩
        case round =>
          clear h8
          obtain ⟨j, hj, rfl, a, q, rfl, hR⟩ := hrel
          have hol : (ownS t al vs j).length ≤ j := by
            rw [ownS, List.length_map, ownP]
            have := List.length_filter_le (fun p : Sto × Value => ofT t p.1) ((al.zip vs).take j)
            rw [List.length_take] at this
            omega
          by_cases hlt : j < n1
          · obtain ⟨s, hs⟩ : ∃ s, al[j]? = some s := ⟨_, List.getElem?_eq_getElem (by have := HN1.out; omega)⟩
            obtain ⟨v, hv⟩ : ∃ v, vs[j]? = some v := ⟨_, List.getElem?_eq_getElem (by have := HN1.out; have := HVL.out; omega)⟩
            obtain ⟨MA, mk, mc, rfl, -⟩ := HS6.out.mv j s v hs hv
            obtain ⟨g, o, rfl, hg, ca⟩ := HS6.out.row.row hlt (by omega)
            have z0 : wr.cell? ⟨g, o + j * 10, none⟩ = some (.int .i64 s.thread) := ((hR.pull 1).oldCell hg).trans (ca 0 _ (by rw [stosC_at hs hv (by omega)]; rfl))
            have z1 : wr.cell? ⟨g, o + j * 10 + 1, none⟩ = some (.int .i64 s.stamp) := ((hR.pull 1).oldCell hg).trans (ca 1 _ (by rw [stosC_at hs hv (by omega)]; rfl))
            have z2 : wr.cell? ⟨g, o + j * 10 + 2, none⟩ = some (.int .i64 s.begin_) := ((hR.pull 1).oldCell hg).trans (ca 2 _ (by rw [stosC_at hs hv (by omega)]; rfl))
            have z3 : wr.cell? ⟨g, o + j * 10 + 3, none⟩ = some (.int .i64 s.end_) := ((hR.pull 1).oldCell hg).trans (ca 3 _ (by rw [stosC_at hs hv (by omega)]; rfl))
            have z4 : wr.cell? ⟨g, o + j * 10 + 4, none⟩ = some (.int .i64 s.fate) := ((hR.pull 1).oldCell hg).trans (ca 4 _ (by rw [stosC_at hs hv (by omega)]; rfl))
            have z5 : wr.cell? ⟨g, o + j * 10 + 5, none⟩ = some (.int .i64 s.e) := ((hR.pull 1).oldCell hg).trans (ca 5 _ (by rw [stosC_at hs hv (by omega)]; rfl))
            have z6 : wr.cell? ⟨g, o + j * 10 + 6, none⟩ = some (.int .i64 s.by_) := ((hR.pull 1).oldCell hg).trans (ca 6 _ (by rw [stosC_at hs hv (by omega)]; rfl))
            have z7 : wr.cell? ⟨g, o + j * 10 + 7, none⟩ = some (.int .i64 s.opens) := ((hR.pull 1).oldCell hg).trans (ca 7 _ (by rw [stosC_at hs hv (by omega)]; rfl))
            have z8 : wr.cell? ⟨g, o + j * 10 + 8, none⟩ = some (.int .i64 s.gate) := ((hR.pull 1).oldCell hg).trans (ca 8 _ (by rw [stosC_at hs hv (by omega)]; rfl))
            have z9 : wr.cell? ⟨g, o + j * 10 + 9, none⟩ = some (.slice MA mk mc) := ((hR.pull 1).oldCell hg).trans (ca 9 _ (by rw [stosC_at hs hv (by omega)]; rfl))
            have hP := own_succ (t := t) hs hv
            have hOS : ownS t al vs (j + 1) = ownS t al vs j ++ (if ofT t s = true then [s] else []) := by
              rw [ownS, hP, List.map_append, ownS]; congr 1; split <;> rfl
            have hOV : ownV t al vs (j + 1) = ownV t al vs j ++ (if ofT t s = true then [.slice MA mk mc] else []) := by
              rw [ownV, hP, List.map_append, ownV]; congr 1; split <;> rfl
            have hOL := own_len t al vs j
            have HOS := Lib.hid (⟨hOS, hOV, hOL⟩ : _ ∧ _ ∧ _)
            have hjz : (j : Int) < n1 := by omega
            clear hP hOS hOV hOL ca hs hv hg
            generalize ownS t al vs j = os at hR hol HOS ⊢
            generalize ownV t al vs j = ov at hR HOS
            by_cases ht : s.thread = t
            · have htb : (s.thread == t) = true := by simpa using ht
              have HT := Lib.hid (show ofT t s = true by simp [ofT, ht])
              have hN := (hR.new (.cells (stoC s (.slice MA mk mc)).toArray 36)).pull 1
              clear ht hR
              go_wp2_with (at_builtin; refine wpList_append_star rfl (.tmp 90) (.tmp 95) 27 rfl 36 i1 _ 10 96 Try.underlying27 gi gz0 gz1 gz2 rfl (by decide) _ os.length _ rfl hN ⟨wr.heap.size, 0, none⟩ 1 1 (stoC s (.slice MA mk mc)) rfl rfl (cell_list_new _ _ rfl _ _) (sto_one s _ _ _) (by simp only [maxLen]; omega) (by omega) ?_; intro a' q' w8 h9; have H9 := Lib.hid (h9.pick 3 [0, 2]); clear h9)
              go_roundw
              case rel =>
                obtain ⟨f1, f2, f3⟩ := HOS.out
                rw [if_pos HT.out] at f1 f2
                refine ⟨j + 1, by omega, by go_num, a', q', by rw [f1, List.length_append, List.length_cons, List.length_nil], ?_⟩
                rw [f1, f2, stosC_snoc f3, List.length_append, List.length_cons, List.length_nil]
                exact H9.out
              case measure => simp [intOf]; omega
            · have htb : (s.thread == t) = false := by simpa using ht
              have HT := Lib.hid (show ¬ ofT t s = true by simp [ofT, ht])
              have HR := Lib.hid hR
              clear ht hR
              go_wp2
              go_roundw
              case rel =>
                obtain ⟨f1, f2, f3⟩ := HOS.out
                rw [if_neg HT.out, List.append_nil] at f1 f2
                exact ⟨j + 1, by omega, by go_num, a, q, by rw [f1], by rw [f1, f2]; exact HR.out⟩
              case measure => simp [intOf]; omega
          · have hjn : j = n1 := by omega
            subst hjn
            have hall : ownS t al vs j = al.filter (ofT t) := by rw [HN1.out]; exact own_all HVL.out
            have hOL := own_len t al vs j
            have hW : Stories wr a (al.filter (ofT t)).length (al.filter (ofT t)) (ownV t al vs j) := ⟨by rw [← hall]; exact hR.rowSl, rfl, by rw [hOL, hall], fun i s v hs hv => by
              obtain ⟨k, k1, k2⟩ := own_mem (by rw [hall]; exact hs) hv
              exact (HS6.out.after (hR.pull 1)).mv k s v k1 k2⟩
            have SA := Lib.hid (sameAll_any a3 a (al.filter (ofT t)).length c3 q (al.filter (ofT t)) us (ownV t al vs j) wr (HL6.out.after (hR.pull 1)) hW (by omega))
            have SB := Lib.hid fun W' (h : Star w6 W' [oldA w6]) => sameAll_any a4 a2 j c4 c2 al xs vs W' (HM6.out.after h) (HS6.out.after h) (by omega)
            have HR := Lib.hid (hR.pull 1)
            have hjz : ¬ (j : Int) < j := by omega
            rw [hall]
            clear hall hOL hW hR
            go_wp2_with fail
            refine SA.out.mono ?_
            rintro e' w9 ⟨rfl, hb9⟩
            have h10 := HR.out.of_below hb9
            have SC := Lib.hid (SB.out w9 (h10.pick 2 [0]))
            have H10 := Lib.hid h10
            clear SA SB HR hb9 h10
            go_wp2_with fail
            refine SC.out.mono ?_
            rintro e' w10 ⟨rfl, hb10⟩
            have hend := H7.out.of_below (H10.out.of_below hb10).below
            have HEND := Lib.hid (HO.out.of_below hend.below).below
            clear SC H10 hb10 hend
            go_wp2
            go_ret
            exact ⟨rfl, HEND.out⟩
end Go.Proofs.Ytfekjbaojefhoaa
