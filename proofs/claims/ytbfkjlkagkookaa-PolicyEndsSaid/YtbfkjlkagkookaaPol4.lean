/- Contract of the document's Verdict, walked: lemmas for the laws of policy. -/
import Derived.Test.YtbfkjlkagkookaaPol3
namespace Go.Proofs.Ytbfkjlkagkookaa
open Go.RowKit
set_option linter.unusedVariables false

section
variable (c : Cfg) (stamp defers : Int) (A : Option Addr) (n cap : Nat) (vs : List Vic) (w : World)
set_option maxHeartbeats 800000 in
theorem rverdict_bad (h : okC c = false ∨ defers < 0) : Calls Try.prog 10 #[.agg c.cs.toArray, .int .i64 stamp, .int .i64 defers, .slice A n cap] w fun e w' => e = .returned (.tuple #[.int .i64 0, .int .i64 1]) ∧ Below w.heap.size w w' := by
  have hC : ∀ w, Calls Try.prog 13 #[.agg c.cs.toArray] w fun e w' => e = .returned (.int .i64 (chk c)) ∧ Below w.heap.size w w' := rcheck_any c
  have hk : chk c = if okC c then 0 else 1 := rfl
  have h' : Hid (okC c = false ∨ defers < 0) := h
  clear h
  obtain ⟨x1, x2, x3, x4, x5, x6⟩ := c
  show Calls Try.prog 10 #[.agg #[.int .i64 x1, .int .i64 x2, .int .i64 x3, .int .i64 x4, .int .i64 x5, .int .i64 x6], .int .i64 stamp, .int .i64 defers, .slice A n cap] w _
  have HC := Lib.hid hC
  clear hC
  have hB := (Below.refl w.heap.size w).alloc (Nat.le_refl _) (.cells #[.int .i64 x1, .int .i64 x2, .int .i64 x3, .int .i64 x4, .int .i64 x5, .int .i64 x6] 23)
  cases ho : okC ⟨x1, x2, x3, x4, x5, x6⟩
  · rw [ho] at hk
    have Hk := Lib.hid hk
    clear hk ho h'
    go_enter Try.func10, Try.ntmps10
    go_wp2_with fail
    refine (HC.out _).mono ?_
    rintro e w1 ⟨rfl, hb1⟩
    rw [Hk.out]
    go_wp2
    go_ret2
    exact ⟨rfl, hB.trans (hb1.mono (by simp))⟩
  · rw [ho] at hk
    have hd : defers < 0 := by rcases h'.out with h | h; (· rw [ho] at h; cases h); exact h
    have Hk := Lib.hid hk
    clear hk ho h'
    go_enter Try.func10, Try.ntmps10
    go_wp2_with fail
    refine (HC.out _).mono ?_
    rintro e w1 ⟨rfl, hb1⟩
    rw [Hk.out]
    go_wp2
    go_ret2
    exact ⟨rfl, hB.trans (hb1.mono (by simp))⟩

set_option maxHeartbeats 1600000 in
theorem rverdict_ok (ho : okC c = true) (hd : 0 ≤ defers) (hv : VSl w A n vs) (hn : n ≤ 9223372036854775807) : Calls Try.prog 10 #[.agg c.cs.toArray, .int .i64 stamp, .int .i64 defers, .slice A n cap] w fun e w' => e = .returned (.tuple #[.int .i64 (verd c stamp defers n vs), .int .i64 0]) ∧ Below w.heap.size w w' := by
  have hC : ∀ w, Calls Try.prog 13 #[.agg c.cs.toArray] w fun e w' => e = .returned (.int .i64 (chk c)) ∧ Below w.heap.size w w' := rcheck_any c
  have hk : chk c = if okC c then 0 else 1 := rfl
  rw [ho] at hk
  have ht := okC_tag ho
  have hvd : verd c stamp defers n vs = if c.tag = 2 then rule2V c.bias c.defer_ n defers else if c.tag = 3 then rule3V vs stamp else 1 := rfl
  clear ho
  obtain ⟨x1, x2, x3, x4, x5, x6⟩ := c
  simp only at ht
  show Calls Try.prog 10 #[.agg #[.int .i64 x1, .int .i64 x2, .int .i64 x3, .int .i64 x4, .int .i64 x5, .int .i64 x6], .int .i64 stamp, .int .i64 defers, .slice A n cap] w _
  have HC := Lib.hid hC
  have Hk := Lib.hid hk
  have Hvd := Lib.hid hvd
  have Hv := Lib.hid hv
  clear hC hk hvd hv
  have hS := (Star.begin w).new (.cells #[.int .i64 x1, .int .i64 x2, .int .i64 x3, .int .i64 x4, .int .i64 x5, .int .i64 x6] 23)
  rcases ht with rfl | rfl | rfl
  · have Hvd' : Hid (verd ⟨x1, x2, x3, 1, x5, x6⟩ stamp defers n vs = 1) := Hvd.out
    go_enter Try.func10, Try.ntmps10
    go_wp2_with fail
    refine (HC.out _).mono ?_
    rintro e w1 ⟨rfl, hb1⟩
    rw [Hk.out]
    have hS1 := hS.of_below hb1
    have c3 : w1.cell? ⟨w.heap.size, 3, none⟩ = some (.int .i64 1) := hS1.cell 3
    go_wp2
    go_ret2
    exact ⟨by rw [Hvd'.out]; rfl, hS1.swap.below⟩
  · have Hvd' : Hid (verd ⟨x1, x2, x3, 2, x5, x6⟩ stamp defers n vs = rule2V x5 x6 n defers) := Hvd.out
    by_cases h1 : x5 < n
    · by_cases h2 : defers < x6
      · have E : Hid (rule2V x5 x6 n defers = 2) := if_pos ⟨h1, h2⟩
        go_enter Try.func10, Try.ntmps10
        go_wp2_with fail
        refine (HC.out _).mono ?_
        rintro e w1 ⟨rfl, hb1⟩
        rw [Hk.out]
        have hS1 := hS.of_below hb1
        have c3 : w1.cell? ⟨w.heap.size, 3, none⟩ = some (.int .i64 2) := hS1.cell 3
        have c4 : w1.cell? ⟨w.heap.size, 4, none⟩ = some (.int .i64 x5) := hS1.cell 4
        have c5 : w1.cell? ⟨w.heap.size, 5, none⟩ = some (.int .i64 x6) := hS1.cell 5
        go_wp2
        go_ret2
        exact ⟨by rw [Hvd'.out, E.out]; rfl, hS1.swap.below⟩
      · have E : Hid (rule2V x5 x6 n defers = 1) := if_neg fun h => h2 h.2
        go_enter Try.func10, Try.ntmps10
        go_wp2_with fail
        refine (HC.out _).mono ?_
        rintro e w1 ⟨rfl, hb1⟩
        rw [Hk.out]
        have hS1 := hS.of_below hb1
        have c3 : w1.cell? ⟨w.heap.size, 3, none⟩ = some (.int .i64 2) := hS1.cell 3
        have c4 : w1.cell? ⟨w.heap.size, 4, none⟩ = some (.int .i64 x5) := hS1.cell 4
        have c5 : w1.cell? ⟨w.heap.size, 5, none⟩ = some (.int .i64 x6) := hS1.cell 5
        go_wp2
        go_ret2
        exact ⟨by rw [Hvd'.out, E.out]; rfl, hS1.swap.below⟩
    · have E : Hid (rule2V x5 x6 n defers = 1) := if_neg fun h => h1 h.1
      go_enter Try.func10, Try.ntmps10
      go_wp2_with fail
      refine (HC.out _).mono ?_
      rintro e w1 ⟨rfl, hb1⟩
      rw [Hk.out]
      have hS1 := hS.of_below hb1
      have c3 : w1.cell? ⟨w.heap.size, 3, none⟩ = some (.int .i64 2) := hS1.cell 3
      have c4 : w1.cell? ⟨w.heap.size, 4, none⟩ = some (.int .i64 x5) := hS1.cell 4
      go_wp2
      go_ret2
      exact ⟨by rw [Hvd'.out, E.out]; rfl, hS1.swap.below⟩
  · have Hvd' : Hid (verd ⟨x1, x2, x3, 3, x5, x6⟩ stamp defers n vs = rule3V vs stamp) := Hvd.out
    have hvl := Hv.out.1
    go_enter Try.func10, Try.ntmps10
    go_wp2_with fail
    refine (HC.out _).mono ?_
    rintro e w1 ⟨rfl, hb1⟩
    rw [Hk.out]
    have hS1 := hS.of_below hb1
    have c3 : w1.cell? ⟨w.heap.size, 3, none⟩ = some (.int .i64 3) := hS1.cell 3
    clear hb1
    go_wp2
    go_loopw [10] (fun i wr => ∃ k : Nat, k ≤ n ∧ i = .int .i64 k ∧ Hid (lessV (vs.take k) stamp = false) ∧ Star w wr [cellsA w.heap.size #[.int .i64 x1, .int .i64 x2, .int .i64 x3, .int .i64 3, .int .i64 x5, .int .i64 x6] 23, oldA w]) (fun i _ => n - (intOf i).toNat)
    case atStart => exact ⟨0, Nat.zero_le _, rfl, by simp [Hid, lessV], hS1⟩
    case round =>
      obtain ⟨k, hk, rfl, hl, hR⟩ := hrel
      clear c3 hS1 hS
      by_cases hkn : k < n
      · obtain ⟨v, hvk⟩ : ∃ v, vs[k]? = some v := ⟨_, List.getElem?_eq_getElem (by omega)⟩
        obtain ⟨g, o, rfl, c0, c1, c2, c3⟩ := Hv.out.2 k v hvk
        have hg : g < w.heap.size := World.block_lt_of_cell? w _ c0
        have ho := fun j => hR.swap.oldCell (p := ⟨g, j, none⟩) hg
        rw [← ho] at c0 c1 c2 c3
        have ht := lessV_take (stamp := stamp) hvk
        have hof := lessV_of (stamp := stamp) hvk
        obtain ⟨v1, v2, v3, v4⟩ := v
        have Hvk := Lib.hid hvk
        clear ho hvk
        by_cases hs : v3 < stamp
        · have E : Hid (rule3V vs stamp = 3) := if_pos (hof hs)
          clear hof ht
          go_wp2
          go_ret2
          exact ⟨by rw [Hvd'.out, E.out]; rfl, hR.swap.below⟩
        · have E : Hid (lessV (vs.take (k + 1)) stamp = false) := by rw [ht, hl.out]; exact decide_eq_false hs
          clear hof ht
          go_wp2
          go_roundw
          case rel => exact ⟨k + 1, by omega, by go_num, E, hR⟩
          case measure => simp [intOf]; omega
      · have E : Hid (rule3V vs stamp = 1) := by
          have := hl.out
          rw [List.take_of_length_le (by omega)] at this
          exact if_neg (by rw [this]; simp)
        go_wp2
        go_ret2
        exact ⟨by rw [Hvd'.out, E.out]; rfl, hR.swap.below⟩
end
end Go.Proofs.Ytbfkjlkagkookaa
