/- The test of a story within another: lemmas for the laws of ghost. -/
import Derived.Test.YtfekjbaojefhoaaGr3
import Derived.Test.YtfekjbaojefhoaaGr2
namespace Go.Proofs.Ytfekjbaojefhoaa
open Go.RowKit Go.Shelf
set_option linter.unusedVariables false

set_option maxRecDepth 100000 in
set_option maxHeartbeats 6400000 in
theorem within_live (A B : Option Addr) (n c m d : Nat) (th sp bg op en2 fa2 er2 by2 ga2 : Int) (ms ns : List Mv) (w : World) (hA : Sl w A n 6 (mvsC ms)) (hB : Sl w B m 6 (mvsC ns)) (hn : ms.length = n) (hm : ns.length = m) (hnm : n ≤ m) (hpre : ∀ (k : Nat) (x : Mv), ms[k]? = some x → ns[k]? = some x) (hb : m ≤ 4611686018427387904) :
    Calls Try.prog 26 #[.agg #[.int .i64 th, .int .i64 sp, .int .i64 bg, .int .i64 0, .int .i64 0, .int .i64 0, .int .i64 0, .int .i64 op, .int .i64 0, .slice A n c], .agg #[.int .i64 th, .int .i64 sp, .int .i64 bg, .int .i64 en2, .int .i64 fa2, .int .i64 er2, .int .i64 by2, .int .i64 op, .int .i64 ga2, .slice B m d]] w fun e w' => e = .returned (.bool true) ∧ Below w.heap.size w w' := by
  have h0 := ((Star.begin w).new (.cells #[.int .i64 th, .int .i64 sp, .int .i64 bg, .int .i64 0, .int .i64 0, .int .i64 0, .int .i64 0, .int .i64 op, .int .i64 0, .slice A n c] 36)).new (.cells #[.int .i64 th, .int .i64 sp, .int .i64 bg, .int .i64 en2, .int .i64 fa2, .int .i64 er2, .int .i64 by2, .int .i64 op, .int .i64 ga2, .slice B m d] 36)
  simp only [World.size_alloc] at h0
  have HA := Lib.hid hA
  have HB := Lib.hid hB
  have HN := Lib.hid (⟨hn, hm⟩ : ms.length = n ∧ ns.length = m)
  have HP := Lib.hid hpre
  have hd : decide (m < n) = false := by simp; omega
  clear hA hB hn hm hpre
  go_enter Try.func26, Try.ntmps26
  go_wp2
  generalize (w.alloc (.cells #[.int .i64 th, .int .i64 sp, .int .i64 bg, .int .i64 0, .int .i64 0, .int .i64 0, .int .i64 0, .int .i64 op, .int .i64 0, .slice A n c] 36)).alloc (.cells #[.int .i64 th, .int .i64 sp, .int .i64 bg, .int .i64 en2, .int .i64 fa2, .int .i64 er2, .int .i64 by2, .int .i64 op, .int .i64 ga2, .slice B m d] 36) = wA at h0 ⊢
  go_loopw [5] (fun i wr => ∃ k : Nat, k ≤ n ∧ i = .int .i64 k ∧ ∃ q, wr = wA.drewN q) (fun i _ => n - (intOf i).toNat)
  case atStart => exact ⟨0, Nat.zero_le _, rfl, 0, rfl⟩
  case round =>
    obtain ⟨k, hk, rfl, q, rfl⟩ := hrel
    have h1 := h0.drewN q
    have ea : wA.cell? ⟨w.heap.size, 9, none⟩ = some (.slice A n c) := (h0.pull 1).cell 9
    have eb : wA.cell? ⟨w.heap.size + 1, 9, none⟩ = some (.slice B m d) := h0.cell 9
    by_cases hlt : k < n
    · obtain ⟨x, hx⟩ : ∃ m, ms[k]? = some m := ⟨_, List.getElem?_eq_getElem (by have := HN.out; omega)⟩
      have hy := HP.out k x hx
      obtain ⟨g, o, rfl, hg, ca⟩ := HA.out.row hlt (by omega)
      obtain ⟨g', o', rfl, hg', cb⟩ := HB.out.row (k := k) (by omega) (by omega)
      have fa' : ∀ j u, (mvC x)[j]? = some u → j < 6 → wA.cell? ⟨g, o + k * 6 + j, none⟩ = some u := fun j u hu hj => ((h0.pull 2).oldCell hg).trans (ca j u (by rw [mvsC_at hx hj]; exact hu))
      have fb' : ∀ j u, (mvC x)[j]? = some u → j < 6 → wA.cell? ⟨g', o' + k * 6 + j, none⟩ = some u := fun j u hu hj => ((h0.pull 2).oldCell hg').trans (cb j u (by rw [mvsC_at hy hj]; exact hu))
      have a0 := fa' 0 _ rfl (by omega)
      have a1 := fa' 1 _ rfl (by omega)
      have a2 := fa' 2 _ rfl (by omega)
      have a3 := fa' 3 _ rfl (by omega)
      have a4 := fa' 4 _ rfl (by omega)
      have a5 := fa' 5 _ rfl (by omega)
      have b0 := fb' 0 _ rfl (by omega)
      have b1 := fb' 1 _ rfl (by omega)
      have b2 := fb' 2 _ rfl (by omega)
      have b3 := fb' 3 _ rfl (by omega)
      have b4 := fb' 4 _ rfl (by omega)
      have b5 := fb' 5 _ rfl (by omega)
      simp only [Nat.add_zero] at a0 b0
      have hq := fun w => mv_neq x.step x.write x.cell x.x x.own x.gate w
      have hkz : (k : Int) < n := by omega
      have hkm : (k : Int) < m := by omega
      clear fa' fb' ca cb hx hy h1 hg hg'
      go_wp2
      go_quiet (fail)
      go_wp2
      go_roundw
      case rel => exact ⟨k + 1, by omega, by go_num, _, rfl⟩
      case measure => simp [intOf]; omega
    · have hkn : k = n := by omega
      subst hkn
      have x3 : wA.cell? ⟨w.heap.size, 3, none⟩ = some (.int .i64 0) := (h0.pull 1).cell 3
      have x4 : wA.cell? ⟨w.heap.size, 4, none⟩ = some (.int .i64 0) := (h0.pull 1).cell 4
      have x5 : wA.cell? ⟨w.heap.size, 5, none⟩ = some (.int .i64 0) := (h0.pull 1).cell 5
      have x6 : wA.cell? ⟨w.heap.size, 6, none⟩ = some (.int .i64 0) := (h0.pull 1).cell 6
      have x8 : wA.cell? ⟨w.heap.size, 8, none⟩ = some (.int .i64 0) := (h0.pull 1).cell 8
      have H2 := Lib.hid ((h1.pull 2).below)
      have hkz : ¬ (k : Int) < k := by omega
      clear h1
      go_wp2
      go_ret
      exact ⟨rfl, H2.out⟩
set_option maxRecDepth 100000 in
set_option maxHeartbeats 6400000 in
theorem within_done (A B : Option Addr) (n c d : Nat) (th sp bg op en fa er by_ ga : Int) (ms : List Mv) (w : World) (hA : Sl w A n 6 (mvsC ms)) (hB : Sl w B n 6 (mvsC ms)) (hn : ms.length = n) (hf : fa ≠ 0) (hb : n ≤ 4611686018427387904) :
    Calls Try.prog 26 #[.agg #[.int .i64 th, .int .i64 sp, .int .i64 bg, .int .i64 en, .int .i64 fa, .int .i64 er, .int .i64 by_, .int .i64 op, .int .i64 ga, .slice A n c], .agg #[.int .i64 th, .int .i64 sp, .int .i64 bg, .int .i64 en, .int .i64 fa, .int .i64 er, .int .i64 by_, .int .i64 op, .int .i64 ga, .slice B n d]] w fun e w' => e = .returned (.bool true) ∧ Below w.heap.size w w' := by
  have h0 := ((Star.begin w).new (.cells #[.int .i64 th, .int .i64 sp, .int .i64 bg, .int .i64 en, .int .i64 fa, .int .i64 er, .int .i64 by_, .int .i64 op, .int .i64 ga, .slice A n c] 36)).new (.cells #[.int .i64 th, .int .i64 sp, .int .i64 bg, .int .i64 en, .int .i64 fa, .int .i64 er, .int .i64 by_, .int .i64 op, .int .i64 ga, .slice B n d] 36)
  simp only [World.size_alloc] at h0
  have HA := Lib.hid hA
  have HB := Lib.hid hB
  have HN := Lib.hid hn
  have hff : (fa == 0) = false := by simpa using hf
  clear hA hB hn hf
  go_enter Try.func26, Try.ntmps26
  go_wp2
  generalize (w.alloc (.cells #[.int .i64 th, .int .i64 sp, .int .i64 bg, .int .i64 en, .int .i64 fa, .int .i64 er, .int .i64 by_, .int .i64 op, .int .i64 ga, .slice A n c] 36)).alloc (.cells #[.int .i64 th, .int .i64 sp, .int .i64 bg, .int .i64 en, .int .i64 fa, .int .i64 er, .int .i64 by_, .int .i64 op, .int .i64 ga, .slice B n d] 36) = wA at h0 ⊢
  go_loopw [5] (fun i wr => ∃ k : Nat, k ≤ n ∧ i = .int .i64 k ∧ ∃ q, wr = wA.drewN q) (fun i _ => n - (intOf i).toNat)
  case atStart => exact ⟨0, Nat.zero_le _, rfl, 0, rfl⟩
  case round =>
    obtain ⟨k, hk, rfl, q, rfl⟩ := hrel
    have h1 := h0.drewN q
    have ea : wA.cell? ⟨w.heap.size, 9, none⟩ = some (.slice A n c) := (h0.pull 1).cell 9
    have eb : wA.cell? ⟨w.heap.size + 1, 9, none⟩ = some (.slice B n d) := h0.cell 9
    by_cases hlt : k < n
    · obtain ⟨x, hx⟩ : ∃ m, ms[k]? = some m := ⟨_, List.getElem?_eq_getElem (by have := HN.out; omega)⟩
      obtain ⟨g, o, rfl, hg, ca⟩ := HA.out.row hlt (by omega)
      obtain ⟨g', o', rfl, hg', cb⟩ := HB.out.row (k := k) (by omega) (by omega)
      have fa' : ∀ j u, (mvC x)[j]? = some u → j < 6 → wA.cell? ⟨g, o + k * 6 + j, none⟩ = some u := fun j u hu hj => ((h0.pull 2).oldCell hg).trans (ca j u (by rw [mvsC_at hx hj]; exact hu))
      have fb' : ∀ j u, (mvC x)[j]? = some u → j < 6 → wA.cell? ⟨g', o' + k * 6 + j, none⟩ = some u := fun j u hu hj => ((h0.pull 2).oldCell hg').trans (cb j u (by rw [mvsC_at hx hj]; exact hu))
      have a0 := fa' 0 _ rfl (by omega)
      have a1 := fa' 1 _ rfl (by omega)
      have a2 := fa' 2 _ rfl (by omega)
      have a3 := fa' 3 _ rfl (by omega)
      have a4 := fa' 4 _ rfl (by omega)
      have a5 := fa' 5 _ rfl (by omega)
      have b0 := fb' 0 _ rfl (by omega)
      have b1 := fb' 1 _ rfl (by omega)
      have b2 := fb' 2 _ rfl (by omega)
      have b3 := fb' 3 _ rfl (by omega)
      have b4 := fb' 4 _ rfl (by omega)
      have b5 := fb' 5 _ rfl (by omega)
      simp only [Nat.add_zero] at a0 b0
      have hq := fun w => mv_neq x.step x.write x.cell x.x x.own x.gate w
      have hkz : (k : Int) < n := by omega
      clear fa' fb' ca cb hx h1 hg hg'
      go_wp2
      go_quiet (fail)
      go_wp2
      go_roundw
      case rel => exact ⟨k + 1, by omega, by go_num, _, rfl⟩
      case measure => simp [intOf]; omega
    · have hkn : k = n := by omega
      subst hkn
      have x3 : wA.cell? ⟨w.heap.size, 3, none⟩ = some (.int .i64 en) := (h0.pull 1).cell 3
      have x4 : wA.cell? ⟨w.heap.size, 4, none⟩ = some (.int .i64 fa) := (h0.pull 1).cell 4
      have x5 : wA.cell? ⟨w.heap.size, 5, none⟩ = some (.int .i64 er) := (h0.pull 1).cell 5
      have x6 : wA.cell? ⟨w.heap.size, 6, none⟩ = some (.int .i64 by_) := (h0.pull 1).cell 6
      have x8 : wA.cell? ⟨w.heap.size, 8, none⟩ = some (.int .i64 ga) := (h0.pull 1).cell 8
      have y3 : wA.cell? ⟨w.heap.size + 1, 3, none⟩ = some (.int .i64 en) := h0.cell 3
      have y4 : wA.cell? ⟨w.heap.size + 1, 4, none⟩ = some (.int .i64 fa) := h0.cell 4
      have y5 : wA.cell? ⟨w.heap.size + 1, 5, none⟩ = some (.int .i64 er) := h0.cell 5
      have y6 : wA.cell? ⟨w.heap.size + 1, 6, none⟩ = some (.int .i64 by_) := h0.cell 6
      have y8 : wA.cell? ⟨w.heap.size + 1, 8, none⟩ = some (.int .i64 ga) := h0.cell 8
      have H2 := Lib.hid ((h1.pull 2).below)
      have hkz : ¬ (k : Int) < k := by omega
      clear h1
      go_wp2
      go_ret
      exact ⟨rfl, H2.out⟩
theorem within_any {x y : Sto} (h : Within x y) (A B : Option Addr) (n c m d : Nat) (w : World) (hA : Sl w A n 6 (mvsC x.moves)) (hB : Sl w B m 6 (mvsC y.moves)) (hn : x.moves.length = n) (hm : y.moves.length = m) (hb : m ≤ 4611686018427387904) :
    Calls Try.prog 26 #[.agg (stoC x (.slice A n c)).toArray, .agg (stoC y (.slice B m d)).toArray] w fun e w' => e = .returned (.bool true) ∧ Below w.heap.size w w' := by
  by_cases hf : x.fate = 0
  · obtain ⟨q1, q2, q3, q4⟩ := h.live hf
    obtain ⟨r, hr⟩ := h.mv
    have h1 := h.th
    have h2 := h.st
    have h3 := h.bg
    have h4 := h.op
    obtain ⟨th, sp, bg, en, fa, er, by_, op, ga, ms⟩ := x
    obtain ⟨th2, sp2, bg2, en2, fa2, er2, by2, op2, ga2, ns⟩ := y
    dsimp only at hf q1 q2 q3 q4 hr h1 h2 h3 h4 hA hB hn hm
    subst hf q1 q2 q3 q4 hr h1 h2 h3 h4
    exact within_live A B n c m d _ _ _ _ _ _ _ _ _ ms (ms ++ r) w hA hB hn hm (by rw [← hn, ← hm, List.length_append]; omega) (fun k x hx => by rw [List.getElem?_append_left (List.getElem?_eq_some_iff.1 hx).1]; exact hx) hb
  · have e := h.done hf
    subst e
    obtain rfl : n = m := hn.symm.trans hm
    obtain ⟨th, sp, bg, en, fa, er, by_, op, ga, ms⟩ := x
    exact within_done A B n c d th sp bg op en fa er by_ ga ms w hA hB hn hf hb
end Go.Proofs.Ytfekjbaojefhoaa
