/- The law PolicyEnds, walked: who wins under each tag; how often a judge defers. Printed by gen_ends.py. -/
import Derived.Test.YtbfkjlkagkookaaPolA
namespace Go.Proofs.Ytbfkjlkagkookaa
open Go.RowKit
set_option linter.unusedVariables false

theorem notLess_step {vs : List Vic} {k : Nat} {v : Vic} {stamp : Int} {b : Bool} (hv : vs[k]? = some v) (h : lessV (vs.take k) stamp = !b) : lessV (vs.take (k + 1)) stamp = !(b && decide (stamp ≤ v.2.2.1)) := by
  rw [lessV_take hv, h]
  by_cases hs : stamp ≤ v.2.2.1
  · have : ¬ v.2.2.1 < stamp := by omega
    simp [hs, this]
  · have : v.2.2.1 < stamp := by omega
    simp [hs, this]

set_option maxHeartbeats 1600000 in
theorem ends_bad (c : Cfg) (A : Option Addr) (len cap : Nat) (w : World) (ho : okC c = false) :
    Calls Try.prog 6 #[.agg c.cs.toArray, .slice A len cap] w fun e w' => e = .returned (.bool true) ∧ Below w.heap.size w w' := by
  have hN := fun w0 => new_bad c w0 ho
  obtain ⟨x1, x2, x3, x4, x5, x6⟩ := c
  have HN : Hid (∀ w0, Calls Try.prog 12 #[.agg #[.int .i64 x1, .int .i64 x2, .int .i64 x3, .int .i64 x4, .int .i64 x5, .int .i64 x6]] w0 fun e w' => e = .returned (.tuple #[.pointer none, .int .i64 1]) ∧ Below w0.heap.size w0 w') := hN
  show Calls Try.prog 6 #[.agg #[.int .i64 x1, .int .i64 x2, .int .i64 x3, .int .i64 x4, .int .i64 x5, .int .i64 x6], .slice A len cap] w _
  have h1 := (Star.begin w).new (.cells #[.int .i64 x1, .int .i64 x2, .int .i64 x3, .int .i64 x4, .int .i64 x5, .int .i64 x6] 23)
  clear hN ho
  go_enter Try.func6, Try.ntmps6
  go_wp2_with fail
  refine (awake_any _ w _ h1).mono ?_
  rintro e w1 ⟨rfl, h2⟩
  clear h1
  have c0 : w1.cell? ⟨w.heap.size, 0, none⟩ = some (.int .i64 x1) := h2.cell 0
  have c1 : w1.cell? ⟨w.heap.size, 1, none⟩ = some (.int .i64 x2) := h2.cell 1
  have c2 : w1.cell? ⟨w.heap.size, 2, none⟩ = some (.int .i64 x3) := h2.cell 2
  have c3 : w1.cell? ⟨w.heap.size, 3, none⟩ = some (.int .i64 x4) := h2.cell 3
  have c4 : w1.cell? ⟨w.heap.size, 4, none⟩ = some (.int .i64 x5) := h2.cell 4
  have c5 : w1.cell? ⟨w.heap.size, 5, none⟩ = some (.int .i64 x6) := h2.cell 5
  go_wp2_with fail
  refine (HN.out _).mono ?_
  rintro e w2 ⟨rfl, b2⟩
  have h3 := h2.of_below b2
  go_wp2
  go_ret
  exact ⟨rfl, h3.swap.below⟩

set_option maxHeartbeats 6400000 in
set_option maxRecDepth 100000 in
theorem ends_1 (x1 x2 x3 x5 x6 : Int) (A : Option Addr) (len cap : Nat) (w : World) (hA : OpsAt w A len) (hlen : len ≤ 9223372036854775807) (ho : okC ⟨x1, x2, x3, 1, x5, x6⟩ = true) :
    Calls Try.prog 6 #[.agg #[.int .i64 x1, .int .i64 x2, .int .i64 x3, .int .i64 1, .int .i64 x5, .int .i64 x6], .slice A len cap] w fun e w' => e = .returned (.bool true) ∧ Below w.heap.size w w' := by
  have NC : Hid (∀ R W w0, Star W w0 R → Calls Try.prog 12 #[.agg #[.int .i64 x1, .int .i64 x2, .int .i64 x3, .int .i64 1, .int .i64 x5, .int .i64 x6]] w0 fun e w' => ∃ b, e = .returned (.tuple #[.pointer (some ⟨b, 0, none⟩), .int .i64 0]) ∧ Star W w' (judgeA 56 b ⟨x1, x2, x3, 1, x5, x6⟩ 0 :: R)) := fun R W w0 h => new_ok ⟨x1, x2, x3, 1, x5, x6⟩ R W w0 ho h
  have DC : Hid (∀ R W w0 b e stamp B l cap vs, Star W w0 (judgeA 56 b ⟨x1, x2, x3, 1, x5, x6⟩ e :: R) → 0 ≤ e → VSl w0 B l vs → l ≤ 9223372036854775807 → Calls Try.prog 15 #[.pointer (some ⟨b, 0, none⟩), .int .i64 stamp, .slice B l cap] w0 fun ex w' => ex = .returned (.int .i64 (verd ⟨x1, x2, x3, 1, x5, x6⟩ stamp e l vs)) ∧ Star W w' (judgeA 56 b ⟨x1, x2, x3, 1, x5, x6⟩ (decD ⟨x1, x2, x3, 1, x5, x6⟩ stamp e l vs) :: R)) := fun R W w0 b e stamp B l cap vs h he hv hn => decide_any ⟨x1, x2, x3, 1, x5, x6⟩ R W w0 b e stamp B l cap vs h ho he hv hn
  have hx6 : x6 ≤ 64 := by simp [okC, inB] at ho; omega
  have h1 := (Star.begin w).new (.cells #[.int .i64 x1, .int .i64 x2, .int .i64 x3, .int .i64 1, .int .i64 x5, .int .i64 x6] 23)
  have HA := Lib.hid hA
  clear ho hA
  go_enter Try.func6, Try.ntmps6
  go_wp2_with fail
  refine (awake_any _ w _ h1).mono ?_
  rintro e w1 ⟨rfl, h2⟩
  clear h1
  have c0 : w1.cell? ⟨w.heap.size, 0, none⟩ = some (.int .i64 x1) := h2.cell 0
  have c1 : w1.cell? ⟨w.heap.size, 1, none⟩ = some (.int .i64 x2) := h2.cell 1
  have c2 : w1.cell? ⟨w.heap.size, 2, none⟩ = some (.int .i64 x3) := h2.cell 2
  have c3 : w1.cell? ⟨w.heap.size, 3, none⟩ = some (.int .i64 1) := h2.cell 3
  have c4 : w1.cell? ⟨w.heap.size, 4, none⟩ = some (.int .i64 x5) := h2.cell 4
  have c5 : w1.cell? ⟨w.heap.size, 5, none⟩ = some (.int .i64 x6) := h2.cell 5
  go_wp2_with fail
  refine (NC.out _ w _ h2).mono ?_
  rintro e w2 ⟨bj, rfl, h3⟩
  clear h2 c0 c1 c2 c3 c4 c5 NC
  go_wp2
  go_loopw [8, 9] (fun dv i wr => ∃ k : Nat, k ≤ len ∧ i = .int .i64 k ∧ ∃ p, dv = .int .i64 p ∧ 0 ≤ p ∧ Star w wr [judgeA 56 bj ⟨x1, x2, x3, 1, x5, x6⟩ p, cellsA w.heap.size #[.int .i64 x1, .int .i64 x2, .int .i64 x3, .int .i64 1, .int .i64 x5, .int .i64 x6] 23, oldA w]) (fun _ i _ => len - (intOf i).toNat)
  case atStart => exact ⟨0, Nat.zero_le _, rfl, 0, rfl, by decide, h3⟩
  case round =>
    obtain ⟨k, hk, rfl, p, rfl, hp, hR⟩ := hrel
    clear h3
    by_cases hkl : k < len
    · obtain ⟨g, o, other, reset, stamp, B, l, cb, vs, rfl, hg, c0, c1, c2, c3, hvs, hb⟩ := HA.out k hkl
      have ho := fun i => (hR.pull 2).oldCell (p := ⟨g, i, none⟩) hg
      rw [← ho] at c0 c1 c2 c3
      have Hvs := Lib.hid hvs
      have hl : l ≤ 9223372036854775807 := by omega
      have hvl := hvs.1
      clear ho hvs HA
      have h0 := hR.new (.cells #[.bool other, .bool reset, .int .i64 stamp, .slice B l cb] 44)
      clear hR
      cases reset
      case true =>
        have P := Lib.hid hp
        clear hp
        go_wp2_with fail
        refine (reset_any ⟨x1, x2, x3, 1, x5, x6⟩ _ w _ bj p (h0.pull 1)).mono ?_
        rintro e w6 ⟨rfl, hs1⟩
        go_wp2
        go_roundw
        case rel => exact ⟨k + 1, by omega, by go_num, 0, rfl, by decide, hs1.pick 4 [0, 2, 3]⟩
        case measure => simp [intOf]; omega
      case false =>
        go_wp2
        generalize World.alloc wr _ = wO at h0 ⊢
        generalize wr.heap.size = gO at h0 ⊢
        have o2 : wO.cell? ⟨gO, 2, none⟩ = some (.int .i64 stamp) := h0.cell 2
        have o3 : wO.cell? ⟨gO, 3, none⟩ = some (.slice B l cb) := h0.cell 3
        have HV : Hid (VSl wO B l vs) := Hvs.out.below (h0.pull 3).below
        clear c0 c1 c2 c3 Hvs
        go_loopw [11, 12] (fun lb j wi => ∃ q : Nat, q ≤ l ∧ j = .int .i64 q ∧ ∃ b m, lb = .bool b ∧ Hid (lessV (vs.take q) stamp = !b) ∧ wi = wO.drewN m) (fun _ j _ => l - (intOf j).toNat)
        case atStart => exact ⟨0, Nat.zero_le _, rfl, true, 0, rfl, by simp [Hid, lessV], rfl⟩
        case round =>
          obtain ⟨q, hq, rfl, b, m, rfl, hle, rfl⟩ := hrel
          by_cases hql : q < l
          · obtain ⟨v, hvq⟩ : ∃ v, vs[q]? = some v := ⟨_, List.getElem?_eq_getElem (by omega)⟩
            obtain ⟨g2, o4, rfl, a0, a1, a2, a3⟩ := HV.out.2 q v hvq
            have hst := Lib.hid (notLess_step hvq hle.out)
            obtain ⟨v1, v2, v3, v4⟩ := v
            clear hvq a0 a1 a3 hle h0
            cases b
            case false =>
              go_wp2
              go_quiet (fail)
              go_wp2
              go_roundw
              case rel => exact ⟨q + 1, by omega, by go_num, false, _, rfl, hst, rfl⟩
              case measure => simp [intOf]; omega
            case true =>
              by_cases hsv : stamp ≤ v3
              · have hst2 : Hid (lessV (vs.take (q + 1)) stamp = !true) := by have := hst.out; simp only [hsv, decide_true, Bool.and_true] at this; exact this
                clear hst
                go_wp2
                go_quiet (fail)
                go_wp2
                go_roundw
                case rel => exact ⟨q + 1, by omega, by go_num, true, _, rfl, hst2, rfl⟩
                case measure => simp [intOf]; omega
              · have hst2 : Hid (lessV (vs.take (q + 1)) stamp = !false) := by have := hst.out; simp only [hsv, decide_false, Bool.and_false] at this; exact this
                clear hst
                go_wp2
                go_quiet (fail)
                go_wp2
                go_roundw
                case rel => exact ⟨q + 1, by omega, by go_num, false, _, by rw [decide_eq_false (p := stamp ≤ v3) (by omega)], hst2, rfl⟩
                case measure => simp [intOf]; omega
          · have hlv : lessV vs stamp = !b := by have := hle.out; rwa [List.take_of_length_le (by omega)] at this
            have hz : verd ⟨x1, x2, x3, 1, x5, x6⟩ stamp p l vs = 1 := rfl
            have hd : decD ⟨x1, x2, x3, 1, x5, x6⟩ stamp p l vs = if verd ⟨x1, x2, x3, 1, x5, x6⟩ stamp p l vs = 2 then p + 1 else p := rfl
            have h4 := h0.drewN m
            clear h0 hle
            have hz1 := hz
            cases b
            case false =>
              have hd1 : decD ⟨x1, x2, x3, 1, x5, x6⟩ stamp p l vs = p := by rw [hd, hz1]; rfl
              have Hz := Lib.hid hz1
              have Hd := Lib.hid hd1
              clear hz hd hz1 hd1
              go_wp2_with fail
              refine (DC.out _ w _ bj p stamp B l cb vs (h4.pull 1) hp HV.out hl).mono ?_
              rintro e w8 ⟨rfl, h5⟩
              rw [Hd.out] at h5
              rw [Hz.out]
              have q3 : w8.cell? ⟨gO, 3, none⟩ = some (.slice B l cb) := (h5.pull 1).cell 3
              have r3 : w8.cell? ⟨w.heap.size, 3, none⟩ = some (.int .i64 1) := (h5.pull 2).cell 3
              have r4 : w8.cell? ⟨w.heap.size, 4, none⟩ = some (.int .i64 x5) := (h5.pull 2).cell 4
              have r5 : w8.cell? ⟨w.heap.size, 5, none⟩ = some (.int .i64 x6) := (h5.pull 2).cell 5
              clear o2 o3 h4
              go_wp2
              go_roundw
              case rel => exact ⟨k + 1, by omega, by go_num, p, rfl, hp, h5.pick 4 [0, 2, 3]⟩
              case measure => simp [intOf]; omega
            case true =>
              have hd1 : decD ⟨x1, x2, x3, 1, x5, x6⟩ stamp p l vs = p := by rw [hd, hz1]; rfl
              have Hz := Lib.hid hz1
              have Hd := Lib.hid hd1
              clear hz hd hz1 hd1
              go_wp2_with fail
              refine (DC.out _ w _ bj p stamp B l cb vs (h4.pull 1) hp HV.out hl).mono ?_
              rintro e w8 ⟨rfl, h5⟩
              rw [Hd.out] at h5
              rw [Hz.out]
              have q3 : w8.cell? ⟨gO, 3, none⟩ = some (.slice B l cb) := (h5.pull 1).cell 3
              have r3 : w8.cell? ⟨w.heap.size, 3, none⟩ = some (.int .i64 1) := (h5.pull 2).cell 3
              have r4 : w8.cell? ⟨w.heap.size, 4, none⟩ = some (.int .i64 x5) := (h5.pull 2).cell 4
              have r5 : w8.cell? ⟨w.heap.size, 5, none⟩ = some (.int .i64 x6) := (h5.pull 2).cell 5
              clear o2 o3 h4
              go_wp2
              go_roundw
              case rel => exact ⟨k + 1, by omega, by go_num, p, rfl, hp, h5.pick 4 [0, 2, 3]⟩
              case measure => simp [intOf]; omega
    · go_wp2_with fail
      refine (defers_any ⟨x1, x2, x3, 1, x5, x6⟩ _ w _ bj p hR).mono ?_
      rintro e w9 ⟨rfl, rfl⟩
      have hpp : (p == p) = true := by simp
      go_wp2
      go_ret
      exact ⟨rfl, (hR.pull 2).below⟩

set_option maxHeartbeats 6400000 in
set_option maxRecDepth 100000 in
theorem ends_2 (x1 x2 x3 x5 x6 : Int) (A : Option Addr) (len cap : Nat) (w : World) (hA : OpsAt w A len) (hlen : len ≤ 9223372036854775807) (ho : okC ⟨x1, x2, x3, 2, x5, x6⟩ = true) :
    Calls Try.prog 6 #[.agg #[.int .i64 x1, .int .i64 x2, .int .i64 x3, .int .i64 2, .int .i64 x5, .int .i64 x6], .slice A len cap] w fun e w' => e = .returned (.bool true) ∧ Below w.heap.size w w' := by
  have NC : Hid (∀ R W w0, Star W w0 R → Calls Try.prog 12 #[.agg #[.int .i64 x1, .int .i64 x2, .int .i64 x3, .int .i64 2, .int .i64 x5, .int .i64 x6]] w0 fun e w' => ∃ b, e = .returned (.tuple #[.pointer (some ⟨b, 0, none⟩), .int .i64 0]) ∧ Star W w' (judgeA 56 b ⟨x1, x2, x3, 2, x5, x6⟩ 0 :: R)) := fun R W w0 h => new_ok ⟨x1, x2, x3, 2, x5, x6⟩ R W w0 ho h
  have DC : Hid (∀ R W w0 b e stamp B l cap vs, Star W w0 (judgeA 56 b ⟨x1, x2, x3, 2, x5, x6⟩ e :: R) → 0 ≤ e → VSl w0 B l vs → l ≤ 9223372036854775807 → Calls Try.prog 15 #[.pointer (some ⟨b, 0, none⟩), .int .i64 stamp, .slice B l cap] w0 fun ex w' => ex = .returned (.int .i64 (verd ⟨x1, x2, x3, 2, x5, x6⟩ stamp e l vs)) ∧ Star W w' (judgeA 56 b ⟨x1, x2, x3, 2, x5, x6⟩ (decD ⟨x1, x2, x3, 2, x5, x6⟩ stamp e l vs) :: R)) := fun R W w0 b e stamp B l cap vs h he hv hn => decide_any ⟨x1, x2, x3, 2, x5, x6⟩ R W w0 b e stamp B l cap vs h ho he hv hn
  have hx6 : x6 ≤ 64 := by simp [okC, inB] at ho; omega
  have h1 := (Star.begin w).new (.cells #[.int .i64 x1, .int .i64 x2, .int .i64 x3, .int .i64 2, .int .i64 x5, .int .i64 x6] 23)
  have HA := Lib.hid hA
  clear ho hA
  go_enter Try.func6, Try.ntmps6
  go_wp2_with fail
  refine (awake_any _ w _ h1).mono ?_
  rintro e w1 ⟨rfl, h2⟩
  clear h1
  have c0 : w1.cell? ⟨w.heap.size, 0, none⟩ = some (.int .i64 x1) := h2.cell 0
  have c1 : w1.cell? ⟨w.heap.size, 1, none⟩ = some (.int .i64 x2) := h2.cell 1
  have c2 : w1.cell? ⟨w.heap.size, 2, none⟩ = some (.int .i64 x3) := h2.cell 2
  have c3 : w1.cell? ⟨w.heap.size, 3, none⟩ = some (.int .i64 2) := h2.cell 3
  have c4 : w1.cell? ⟨w.heap.size, 4, none⟩ = some (.int .i64 x5) := h2.cell 4
  have c5 : w1.cell? ⟨w.heap.size, 5, none⟩ = some (.int .i64 x6) := h2.cell 5
  go_wp2_with fail
  refine (NC.out _ w _ h2).mono ?_
  rintro e w2 ⟨bj, rfl, h3⟩
  clear h2 c0 c1 c2 c3 c4 c5 NC
  go_wp2
  go_loopw [8, 9] (fun dv i wr => ∃ k : Nat, k ≤ len ∧ i = .int .i64 k ∧ ∃ p, dv = .int .i64 p ∧ 0 ≤ p ∧ Star w wr [judgeA 56 bj ⟨x1, x2, x3, 2, x5, x6⟩ p, cellsA w.heap.size #[.int .i64 x1, .int .i64 x2, .int .i64 x3, .int .i64 2, .int .i64 x5, .int .i64 x6] 23, oldA w]) (fun _ i _ => len - (intOf i).toNat)
  case atStart => exact ⟨0, Nat.zero_le _, rfl, 0, rfl, by decide, h3⟩
  case round =>
    obtain ⟨k, hk, rfl, p, rfl, hp, hR⟩ := hrel
    clear h3
    by_cases hkl : k < len
    · obtain ⟨g, o, other, reset, stamp, B, l, cb, vs, rfl, hg, c0, c1, c2, c3, hvs, hb⟩ := HA.out k hkl
      have ho := fun i => (hR.pull 2).oldCell (p := ⟨g, i, none⟩) hg
      rw [← ho] at c0 c1 c2 c3
      have Hvs := Lib.hid hvs
      have hl : l ≤ 9223372036854775807 := by omega
      have hvl := hvs.1
      clear ho hvs HA
      have h0 := hR.new (.cells #[.bool other, .bool reset, .int .i64 stamp, .slice B l cb] 44)
      clear hR
      cases reset
      case true =>
        have P := Lib.hid hp
        clear hp
        go_wp2_with fail
        refine (reset_any ⟨x1, x2, x3, 2, x5, x6⟩ _ w _ bj p (h0.pull 1)).mono ?_
        rintro e w6 ⟨rfl, hs1⟩
        go_wp2
        go_roundw
        case rel => exact ⟨k + 1, by omega, by go_num, 0, rfl, by decide, hs1.pick 4 [0, 2, 3]⟩
        case measure => simp [intOf]; omega
      case false =>
        go_wp2
        generalize World.alloc wr _ = wO at h0 ⊢
        generalize wr.heap.size = gO at h0 ⊢
        have o2 : wO.cell? ⟨gO, 2, none⟩ = some (.int .i64 stamp) := h0.cell 2
        have o3 : wO.cell? ⟨gO, 3, none⟩ = some (.slice B l cb) := h0.cell 3
        have HV : Hid (VSl wO B l vs) := Hvs.out.below (h0.pull 3).below
        clear c0 c1 c2 c3 Hvs
        go_loopw [11, 12] (fun lb j wi => ∃ q : Nat, q ≤ l ∧ j = .int .i64 q ∧ ∃ b m, lb = .bool b ∧ Hid (lessV (vs.take q) stamp = !b) ∧ wi = wO.drewN m) (fun _ j _ => l - (intOf j).toNat)
        case atStart => exact ⟨0, Nat.zero_le _, rfl, true, 0, rfl, by simp [Hid, lessV], rfl⟩
        case round =>
          obtain ⟨q, hq, rfl, b, m, rfl, hle, rfl⟩ := hrel
          by_cases hql : q < l
          · obtain ⟨v, hvq⟩ : ∃ v, vs[q]? = some v := ⟨_, List.getElem?_eq_getElem (by omega)⟩
            obtain ⟨g2, o4, rfl, a0, a1, a2, a3⟩ := HV.out.2 q v hvq
            have hst := Lib.hid (notLess_step hvq hle.out)
            obtain ⟨v1, v2, v3, v4⟩ := v
            clear hvq a0 a1 a3 hle h0
            cases b
            case false =>
              go_wp2
              go_quiet (fail)
              go_wp2
              go_roundw
              case rel => exact ⟨q + 1, by omega, by go_num, false, _, rfl, hst, rfl⟩
              case measure => simp [intOf]; omega
            case true =>
              by_cases hsv : stamp ≤ v3
              · have hst2 : Hid (lessV (vs.take (q + 1)) stamp = !true) := by have := hst.out; simp only [hsv, decide_true, Bool.and_true] at this; exact this
                clear hst
                go_wp2
                go_quiet (fail)
                go_wp2
                go_roundw
                case rel => exact ⟨q + 1, by omega, by go_num, true, _, rfl, hst2, rfl⟩
                case measure => simp [intOf]; omega
              · have hst2 : Hid (lessV (vs.take (q + 1)) stamp = !false) := by have := hst.out; simp only [hsv, decide_false, Bool.and_false] at this; exact this
                clear hst
                go_wp2
                go_quiet (fail)
                go_wp2
                go_roundw
                case rel => exact ⟨q + 1, by omega, by go_num, false, _, by rw [decide_eq_false (p := stamp ≤ v3) (by omega)], hst2, rfl⟩
                case measure => simp [intOf]; omega
          · have hlv : lessV vs stamp = !b := by have := hle.out; rwa [List.take_of_length_le (by omega)] at this
            have hz : verd ⟨x1, x2, x3, 2, x5, x6⟩ stamp p l vs = rule2V x5 x6 l p := rfl
            have hd : decD ⟨x1, x2, x3, 2, x5, x6⟩ stamp p l vs = if verd ⟨x1, x2, x3, 2, x5, x6⟩ stamp p l vs = 2 then p + 1 else p := rfl
            have h4 := h0.drewN m
            clear h0 hle
            cases b
            case false =>
              by_cases e1 : x5 < l
              · by_cases e2 : p < x6
                · have hz1 : verd ⟨x1, x2, x3, 2, x5, x6⟩ stamp p l vs = 2 := hz.trans (if_pos ⟨e1, e2⟩)
                  have hd1 : decD ⟨x1, x2, x3, 2, x5, x6⟩ stamp p l vs = (p + 1) := by rw [hd, hz1]; rfl
                  have Hz := Lib.hid hz1
                  have Hd := Lib.hid hd1
                  clear hz hd hz1 hd1
                  go_wp2_with fail
                  refine (DC.out _ w _ bj p stamp B l cb vs (h4.pull 1) hp HV.out hl).mono ?_
                  rintro e w8 ⟨rfl, h5⟩
                  rw [Hd.out] at h5
                  rw [Hz.out]
                  have q3 : w8.cell? ⟨gO, 3, none⟩ = some (.slice B l cb) := (h5.pull 1).cell 3
                  have r3 : w8.cell? ⟨w.heap.size, 3, none⟩ = some (.int .i64 2) := (h5.pull 2).cell 3
                  have r4 : w8.cell? ⟨w.heap.size, 4, none⟩ = some (.int .i64 x5) := (h5.pull 2).cell 4
                  have r5 : w8.cell? ⟨w.heap.size, 5, none⟩ = some (.int .i64 x6) := (h5.pull 2).cell 5
                  clear o2 o3 h4
                  go_wp2
                  go_roundw
                  case rel => exact ⟨k + 1, by omega, by go_num, (p + 1), rfl, by omega, h5.pick 4 [0, 2, 3]⟩
                  case measure => simp [intOf]; omega
                · have hz1 : verd ⟨x1, x2, x3, 2, x5, x6⟩ stamp p l vs = 1 := hz.trans (if_neg fun h => e2 h.2)
                  have hd1 : decD ⟨x1, x2, x3, 2, x5, x6⟩ stamp p l vs = p := by rw [hd, hz1]; rfl
                  have Hz := Lib.hid hz1
                  have Hd := Lib.hid hd1
                  clear hz hd hz1 hd1
                  go_wp2_with fail
                  refine (DC.out _ w _ bj p stamp B l cb vs (h4.pull 1) hp HV.out hl).mono ?_
                  rintro e w8 ⟨rfl, h5⟩
                  rw [Hd.out] at h5
                  rw [Hz.out]
                  have q3 : w8.cell? ⟨gO, 3, none⟩ = some (.slice B l cb) := (h5.pull 1).cell 3
                  have r3 : w8.cell? ⟨w.heap.size, 3, none⟩ = some (.int .i64 2) := (h5.pull 2).cell 3
                  have r4 : w8.cell? ⟨w.heap.size, 4, none⟩ = some (.int .i64 x5) := (h5.pull 2).cell 4
                  have r5 : w8.cell? ⟨w.heap.size, 5, none⟩ = some (.int .i64 x6) := (h5.pull 2).cell 5
                  clear o2 o3 h4
                  go_wp2
                  go_roundw
                  case rel => exact ⟨k + 1, by omega, by go_num, p, rfl, hp, h5.pick 4 [0, 2, 3]⟩
                  case measure => simp [intOf]; omega
              · have hz1 : verd ⟨x1, x2, x3, 2, x5, x6⟩ stamp p l vs = 1 := hz.trans (if_neg fun h => e1 h.1)
                have hd1 : decD ⟨x1, x2, x3, 2, x5, x6⟩ stamp p l vs = p := by rw [hd, hz1]; rfl
                have Hz := Lib.hid hz1
                have Hd := Lib.hid hd1
                clear hz hd hz1 hd1
                go_wp2_with fail
                refine (DC.out _ w _ bj p stamp B l cb vs (h4.pull 1) hp HV.out hl).mono ?_
                rintro e w8 ⟨rfl, h5⟩
                rw [Hd.out] at h5
                rw [Hz.out]
                have q3 : w8.cell? ⟨gO, 3, none⟩ = some (.slice B l cb) := (h5.pull 1).cell 3
                have r3 : w8.cell? ⟨w.heap.size, 3, none⟩ = some (.int .i64 2) := (h5.pull 2).cell 3
                have r4 : w8.cell? ⟨w.heap.size, 4, none⟩ = some (.int .i64 x5) := (h5.pull 2).cell 4
                have r5 : w8.cell? ⟨w.heap.size, 5, none⟩ = some (.int .i64 x6) := (h5.pull 2).cell 5
                clear o2 o3 h4
                go_wp2
                go_roundw
                case rel => exact ⟨k + 1, by omega, by go_num, p, rfl, hp, h5.pick 4 [0, 2, 3]⟩
                case measure => simp [intOf]; omega
            case true =>
              by_cases e1 : x5 < l
              · by_cases e2 : p < x6
                · have hz1 : verd ⟨x1, x2, x3, 2, x5, x6⟩ stamp p l vs = 2 := hz.trans (if_pos ⟨e1, e2⟩)
                  have hd1 : decD ⟨x1, x2, x3, 2, x5, x6⟩ stamp p l vs = (p + 1) := by rw [hd, hz1]; rfl
                  have Hz := Lib.hid hz1
                  have Hd := Lib.hid hd1
                  clear hz hd hz1 hd1
                  go_wp2_with fail
                  refine (DC.out _ w _ bj p stamp B l cb vs (h4.pull 1) hp HV.out hl).mono ?_
                  rintro e w8 ⟨rfl, h5⟩
                  rw [Hd.out] at h5
                  rw [Hz.out]
                  have q3 : w8.cell? ⟨gO, 3, none⟩ = some (.slice B l cb) := (h5.pull 1).cell 3
                  have r3 : w8.cell? ⟨w.heap.size, 3, none⟩ = some (.int .i64 2) := (h5.pull 2).cell 3
                  have r4 : w8.cell? ⟨w.heap.size, 4, none⟩ = some (.int .i64 x5) := (h5.pull 2).cell 4
                  have r5 : w8.cell? ⟨w.heap.size, 5, none⟩ = some (.int .i64 x6) := (h5.pull 2).cell 5
                  clear o2 o3 h4
                  go_wp2
                  go_roundw
                  case rel => exact ⟨k + 1, by omega, by go_num, (p + 1), rfl, by omega, h5.pick 4 [0, 2, 3]⟩
                  case measure => simp [intOf]; omega
                · have hz1 : verd ⟨x1, x2, x3, 2, x5, x6⟩ stamp p l vs = 1 := hz.trans (if_neg fun h => e2 h.2)
                  have hd1 : decD ⟨x1, x2, x3, 2, x5, x6⟩ stamp p l vs = p := by rw [hd, hz1]; rfl
                  have Hz := Lib.hid hz1
                  have Hd := Lib.hid hd1
                  clear hz hd hz1 hd1
                  go_wp2_with fail
                  refine (DC.out _ w _ bj p stamp B l cb vs (h4.pull 1) hp HV.out hl).mono ?_
                  rintro e w8 ⟨rfl, h5⟩
                  rw [Hd.out] at h5
                  rw [Hz.out]
                  have q3 : w8.cell? ⟨gO, 3, none⟩ = some (.slice B l cb) := (h5.pull 1).cell 3
                  have r3 : w8.cell? ⟨w.heap.size, 3, none⟩ = some (.int .i64 2) := (h5.pull 2).cell 3
                  have r4 : w8.cell? ⟨w.heap.size, 4, none⟩ = some (.int .i64 x5) := (h5.pull 2).cell 4
                  have r5 : w8.cell? ⟨w.heap.size, 5, none⟩ = some (.int .i64 x6) := (h5.pull 2).cell 5
                  clear o2 o3 h4
                  go_wp2
                  go_roundw
                  case rel => exact ⟨k + 1, by omega, by go_num, p, rfl, hp, h5.pick 4 [0, 2, 3]⟩
                  case measure => simp [intOf]; omega
              · have hz1 : verd ⟨x1, x2, x3, 2, x5, x6⟩ stamp p l vs = 1 := hz.trans (if_neg fun h => e1 h.1)
                have hd1 : decD ⟨x1, x2, x3, 2, x5, x6⟩ stamp p l vs = p := by rw [hd, hz1]; rfl
                have Hz := Lib.hid hz1
                have Hd := Lib.hid hd1
                clear hz hd hz1 hd1
                go_wp2_with fail
                refine (DC.out _ w _ bj p stamp B l cb vs (h4.pull 1) hp HV.out hl).mono ?_
                rintro e w8 ⟨rfl, h5⟩
                rw [Hd.out] at h5
                rw [Hz.out]
                have q3 : w8.cell? ⟨gO, 3, none⟩ = some (.slice B l cb) := (h5.pull 1).cell 3
                have r3 : w8.cell? ⟨w.heap.size, 3, none⟩ = some (.int .i64 2) := (h5.pull 2).cell 3
                have r4 : w8.cell? ⟨w.heap.size, 4, none⟩ = some (.int .i64 x5) := (h5.pull 2).cell 4
                have r5 : w8.cell? ⟨w.heap.size, 5, none⟩ = some (.int .i64 x6) := (h5.pull 2).cell 5
                clear o2 o3 h4
                go_wp2
                go_roundw
                case rel => exact ⟨k + 1, by omega, by go_num, p, rfl, hp, h5.pick 4 [0, 2, 3]⟩
                case measure => simp [intOf]; omega
    · go_wp2_with fail
      refine (defers_any ⟨x1, x2, x3, 2, x5, x6⟩ _ w _ bj p hR).mono ?_
      rintro e w9 ⟨rfl, rfl⟩
      have hpp : (p == p) = true := by simp
      go_wp2
      go_ret
      exact ⟨rfl, (hR.pull 2).below⟩

set_option maxHeartbeats 6400000 in
set_option maxRecDepth 100000 in
theorem ends_3 (x1 x2 x3 x5 x6 : Int) (A : Option Addr) (len cap : Nat) (w : World) (hA : OpsAt w A len) (hlen : len ≤ 9223372036854775807) (ho : okC ⟨x1, x2, x3, 3, x5, x6⟩ = true) :
    Calls Try.prog 6 #[.agg #[.int .i64 x1, .int .i64 x2, .int .i64 x3, .int .i64 3, .int .i64 x5, .int .i64 x6], .slice A len cap] w fun e w' => e = .returned (.bool true) ∧ Below w.heap.size w w' := by
  have NC : Hid (∀ R W w0, Star W w0 R → Calls Try.prog 12 #[.agg #[.int .i64 x1, .int .i64 x2, .int .i64 x3, .int .i64 3, .int .i64 x5, .int .i64 x6]] w0 fun e w' => ∃ b, e = .returned (.tuple #[.pointer (some ⟨b, 0, none⟩), .int .i64 0]) ∧ Star W w' (judgeA 56 b ⟨x1, x2, x3, 3, x5, x6⟩ 0 :: R)) := fun R W w0 h => new_ok ⟨x1, x2, x3, 3, x5, x6⟩ R W w0 ho h
  have DC : Hid (∀ R W w0 b e stamp B l cap vs, Star W w0 (judgeA 56 b ⟨x1, x2, x3, 3, x5, x6⟩ e :: R) → 0 ≤ e → VSl w0 B l vs → l ≤ 9223372036854775807 → Calls Try.prog 15 #[.pointer (some ⟨b, 0, none⟩), .int .i64 stamp, .slice B l cap] w0 fun ex w' => ex = .returned (.int .i64 (verd ⟨x1, x2, x3, 3, x5, x6⟩ stamp e l vs)) ∧ Star W w' (judgeA 56 b ⟨x1, x2, x3, 3, x5, x6⟩ (decD ⟨x1, x2, x3, 3, x5, x6⟩ stamp e l vs) :: R)) := fun R W w0 b e stamp B l cap vs h he hv hn => decide_any ⟨x1, x2, x3, 3, x5, x6⟩ R W w0 b e stamp B l cap vs h ho he hv hn
  have hx6 : x6 ≤ 64 := by simp [okC, inB] at ho; omega
  have h1 := (Star.begin w).new (.cells #[.int .i64 x1, .int .i64 x2, .int .i64 x3, .int .i64 3, .int .i64 x5, .int .i64 x6] 23)
  have HA := Lib.hid hA
  clear ho hA
  go_enter Try.func6, Try.ntmps6
  go_wp2_with fail
  refine (awake_any _ w _ h1).mono ?_
  rintro e w1 ⟨rfl, h2⟩
  clear h1
  have c0 : w1.cell? ⟨w.heap.size, 0, none⟩ = some (.int .i64 x1) := h2.cell 0
  have c1 : w1.cell? ⟨w.heap.size, 1, none⟩ = some (.int .i64 x2) := h2.cell 1
  have c2 : w1.cell? ⟨w.heap.size, 2, none⟩ = some (.int .i64 x3) := h2.cell 2
  have c3 : w1.cell? ⟨w.heap.size, 3, none⟩ = some (.int .i64 3) := h2.cell 3
  have c4 : w1.cell? ⟨w.heap.size, 4, none⟩ = some (.int .i64 x5) := h2.cell 4
  have c5 : w1.cell? ⟨w.heap.size, 5, none⟩ = some (.int .i64 x6) := h2.cell 5
  go_wp2_with fail
  refine (NC.out _ w _ h2).mono ?_
  rintro e w2 ⟨bj, rfl, h3⟩
  clear h2 c0 c1 c2 c3 c4 c5 NC
  go_wp2
  go_loopw [8, 9] (fun dv i wr => ∃ k : Nat, k ≤ len ∧ i = .int .i64 k ∧ ∃ p, dv = .int .i64 p ∧ 0 ≤ p ∧ Star w wr [judgeA 56 bj ⟨x1, x2, x3, 3, x5, x6⟩ p, cellsA w.heap.size #[.int .i64 x1, .int .i64 x2, .int .i64 x3, .int .i64 3, .int .i64 x5, .int .i64 x6] 23, oldA w]) (fun _ i _ => len - (intOf i).toNat)
  case atStart => exact ⟨0, Nat.zero_le _, rfl, 0, rfl, by decide, h3⟩
  case round =>
    obtain ⟨k, hk, rfl, p, rfl, hp, hR⟩ := hrel
    clear h3
    by_cases hkl : k < len
    · obtain ⟨g, o, other, reset, stamp, B, l, cb, vs, rfl, hg, c0, c1, c2, c3, hvs, hb⟩ := HA.out k hkl
      have ho := fun i => (hR.pull 2).oldCell (p := ⟨g, i, none⟩) hg
      rw [← ho] at c0 c1 c2 c3
      have Hvs := Lib.hid hvs
      have hl : l ≤ 9223372036854775807 := by omega
      have hvl := hvs.1
      clear ho hvs HA
      have h0 := hR.new (.cells #[.bool other, .bool reset, .int .i64 stamp, .slice B l cb] 44)
      clear hR
      cases reset
      case true =>
        have P := Lib.hid hp
        clear hp
        go_wp2_with fail
        refine (reset_any ⟨x1, x2, x3, 3, x5, x6⟩ _ w _ bj p (h0.pull 1)).mono ?_
        rintro e w6 ⟨rfl, hs1⟩
        go_wp2
        go_roundw
        case rel => exact ⟨k + 1, by omega, by go_num, 0, rfl, by decide, hs1.pick 4 [0, 2, 3]⟩
        case measure => simp [intOf]; omega
      case false =>
        go_wp2
        generalize World.alloc wr _ = wO at h0 ⊢
        generalize wr.heap.size = gO at h0 ⊢
        have o2 : wO.cell? ⟨gO, 2, none⟩ = some (.int .i64 stamp) := h0.cell 2
        have o3 : wO.cell? ⟨gO, 3, none⟩ = some (.slice B l cb) := h0.cell 3
        have HV : Hid (VSl wO B l vs) := Hvs.out.below (h0.pull 3).below
        clear c0 c1 c2 c3 Hvs
        go_loopw [11, 12] (fun lb j wi => ∃ q : Nat, q ≤ l ∧ j = .int .i64 q ∧ ∃ b m, lb = .bool b ∧ Hid (lessV (vs.take q) stamp = !b) ∧ wi = wO.drewN m) (fun _ j _ => l - (intOf j).toNat)
        case atStart => exact ⟨0, Nat.zero_le _, rfl, true, 0, rfl, by simp [Hid, lessV], rfl⟩
        case round =>
          obtain ⟨q, hq, rfl, b, m, rfl, hle, rfl⟩ := hrel
          by_cases hql : q < l
          · obtain ⟨v, hvq⟩ : ∃ v, vs[q]? = some v := ⟨_, List.getElem?_eq_getElem (by omega)⟩
            obtain ⟨g2, o4, rfl, a0, a1, a2, a3⟩ := HV.out.2 q v hvq
            have hst := Lib.hid (notLess_step hvq hle.out)
            obtain ⟨v1, v2, v3, v4⟩ := v
            clear hvq a0 a1 a3 hle h0
            cases b
            case false =>
              go_wp2
              go_quiet (fail)
              go_wp2
              go_roundw
              case rel => exact ⟨q + 1, by omega, by go_num, false, _, rfl, hst, rfl⟩
              case measure => simp [intOf]; omega
            case true =>
              by_cases hsv : stamp ≤ v3
              · have hst2 : Hid (lessV (vs.take (q + 1)) stamp = !true) := by have := hst.out; simp only [hsv, decide_true, Bool.and_true] at this; exact this
                clear hst
                go_wp2
                go_quiet (fail)
                go_wp2
                go_roundw
                case rel => exact ⟨q + 1, by omega, by go_num, true, _, rfl, hst2, rfl⟩
                case measure => simp [intOf]; omega
              · have hst2 : Hid (lessV (vs.take (q + 1)) stamp = !false) := by have := hst.out; simp only [hsv, decide_false, Bool.and_false] at this; exact this
                clear hst
                go_wp2
                go_quiet (fail)
                go_wp2
                go_roundw
                case rel => exact ⟨q + 1, by omega, by go_num, false, _, by rw [decide_eq_false (p := stamp ≤ v3) (by omega)], hst2, rfl⟩
                case measure => simp [intOf]; omega
          · have hlv : lessV vs stamp = !b := by have := hle.out; rwa [List.take_of_length_le (by omega)] at this
            have hz : verd ⟨x1, x2, x3, 3, x5, x6⟩ stamp p l vs = rule3V vs stamp := rfl
            have hd : decD ⟨x1, x2, x3, 3, x5, x6⟩ stamp p l vs = if verd ⟨x1, x2, x3, 3, x5, x6⟩ stamp p l vs = 2 then p + 1 else p := rfl
            have h4 := h0.drewN m
            clear h0 hle
            cases b
            case false =>
              have hz1 : verd ⟨x1, x2, x3, 3, x5, x6⟩ stamp p l vs = 3 := hz.trans (if_pos hlv)
              have hd1 : decD ⟨x1, x2, x3, 3, x5, x6⟩ stamp p l vs = p := by rw [hd, hz1]; rfl
              have Hz := Lib.hid hz1
              have Hd := Lib.hid hd1
              clear hz hd hz1 hd1
              go_wp2_with fail
              refine (DC.out _ w _ bj p stamp B l cb vs (h4.pull 1) hp HV.out hl).mono ?_
              rintro e w8 ⟨rfl, h5⟩
              rw [Hd.out] at h5
              rw [Hz.out]
              have q3 : w8.cell? ⟨gO, 3, none⟩ = some (.slice B l cb) := (h5.pull 1).cell 3
              have r3 : w8.cell? ⟨w.heap.size, 3, none⟩ = some (.int .i64 3) := (h5.pull 2).cell 3
              have r4 : w8.cell? ⟨w.heap.size, 4, none⟩ = some (.int .i64 x5) := (h5.pull 2).cell 4
              have r5 : w8.cell? ⟨w.heap.size, 5, none⟩ = some (.int .i64 x6) := (h5.pull 2).cell 5
              clear o2 o3 h4
              go_wp2
              go_roundw
              case rel => exact ⟨k + 1, by omega, by go_num, p, rfl, hp, h5.pick 4 [0, 2, 3]⟩
              case measure => simp [intOf]; omega
            case true =>
              have hz1 : verd ⟨x1, x2, x3, 3, x5, x6⟩ stamp p l vs = 1 := hz.trans (if_neg (by rw [hlv]; simp))
              have hd1 : decD ⟨x1, x2, x3, 3, x5, x6⟩ stamp p l vs = p := by rw [hd, hz1]; rfl
              have Hz := Lib.hid hz1
              have Hd := Lib.hid hd1
              clear hz hd hz1 hd1
              go_wp2_with fail
              refine (DC.out _ w _ bj p stamp B l cb vs (h4.pull 1) hp HV.out hl).mono ?_
              rintro e w8 ⟨rfl, h5⟩
              rw [Hd.out] at h5
              rw [Hz.out]
              have q3 : w8.cell? ⟨gO, 3, none⟩ = some (.slice B l cb) := (h5.pull 1).cell 3
              have r3 : w8.cell? ⟨w.heap.size, 3, none⟩ = some (.int .i64 3) := (h5.pull 2).cell 3
              have r4 : w8.cell? ⟨w.heap.size, 4, none⟩ = some (.int .i64 x5) := (h5.pull 2).cell 4
              have r5 : w8.cell? ⟨w.heap.size, 5, none⟩ = some (.int .i64 x6) := (h5.pull 2).cell 5
              clear o2 o3 h4
              go_wp2
              go_roundw
              case rel => exact ⟨k + 1, by omega, by go_num, p, rfl, hp, h5.pick 4 [0, 2, 3]⟩
              case measure => simp [intOf]; omega
    · go_wp2_with fail
      refine (defers_any ⟨x1, x2, x3, 3, x5, x6⟩ _ w _ bj p hR).mono ?_
      rintro e w9 ⟨rfl, rfl⟩
      have hpp : (p == p) = true := by simp
      go_wp2
      go_ret
      exact ⟨rfl, (hR.pull 2).below⟩

theorem ends_walk (c : Cfg) (A : Option Addr) (len cap : Nat) (w : World) (hA : OpsAt w A len) (hlen : len ≤ 9223372036854775807) :
    Calls Try.prog 6 #[.agg c.cs.toArray, .slice A len cap] w fun e w' => e = .returned (.bool true) ∧ Below w.heap.size w w' := by
  cases h1 : okC c
  · exact ends_bad c A len cap w h1
  · obtain ⟨x1, x2, x3, x4, x5, x6⟩ := c
    have ht := okC_tag h1
    simp only at ht
    rcases ht with rfl | rfl | rfl
    · exact ends_1 x1 x2 x3 x5 x6 A len cap w hA hlen h1
    · exact ends_2 x1 x2 x3 x5 x6 A len cap w hA hlen h1
    · exact ends_3 x1 x2 x3 x5 x6 A len cap w hA hlen h1
end Go.Proofs.Ytbfkjlkagkookaa
