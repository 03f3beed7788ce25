/- Contracts of policy's Verdict and of all that it calls, walked: lemmas for the laws of policy. -/
import Derived.Test.YtbfkjlkagkookaaMaps
import Derived.Test.YtbfkjlkagkookaaProg
import Derived.StillTailTactics
import Derived.WalkSpells
import Derived.WalkLawsBesides
import Derived.Laws.EntriesVeiled
import Derived.Lib.Hide
import Derived.BigRegion
import Derived.Deep.RegionHeld3
import Derived.Deep.RegionWith
namespace Go.Proofs.Ytbfkjlkagkookaa
open Go.RowKit
set_option linter.unusedVariables false

theorem Star.of_below {W w w' : World} {L : List HA} (h : Star W w L) (hb : Below w.heap.size w w') : Star W w' L :=
  ⟨⟨hb.os.trans h.1.os, hb.tape.trans h.1.tape, hb.output.trans h.1.output⟩, h.2.up fun k o hk => by
    have hlt : k < w.heap.size := by
      rcases Nat.lt_or_ge k w.heap.size with hlt | hge
      · exact hlt
      · simp only [heapOf] at hk; rw [Array.getElem?_eq_none hge] at hk; cases hk
    simp only [heapOf] at hk ⊢
    rw [hb.block k hlt]; exact hk⟩

structure Cfg where
  cells : Int
  slots : Int
  bits : Int
  tag : Int
  bias : Int
  defer_ : Int
def Cfg.cs (c : Cfg) : List Value := [.int .i64 c.cells, .int .i64 c.slots, .int .i64 c.bits, .int .i64 c.tag, .int .i64 c.bias, .int .i64 c.defer_]
def inB (n lo hi : Int) : Bool := decide (lo ≤ n) && decide (n ≤ hi)
/-- may a config be? -/
def okC (c : Cfg) : Bool := inB c.cells 1 256 && inB c.slots 1 8 && inB c.bits 1 128 && inB c.tag 1 3 && inB c.bias 0 8 && inB c.defer_ 0 64

set_option maxHeartbeats 400000 in
theorem in_any (n lo hi : Int) (w : World) : Calls Try.prog 24 #[.int .i64 n, .int .i64 lo, .int .i64 hi] w fun e w' => e = .returned (.bool (inB n lo hi)) ∧ w = w' := by
  by_cases h1 : lo ≤ n
  · by_cases h2 : n ≤ hi
    · have e : inB n lo hi = true := by simp [inB, h1, h2]
      have E := Lib.hid e
      clear e
      go_enter Try.func24, Try.ntmps24
      go_wp2
      go_ret
      exact ⟨by rw [E.out]; rfl, rfl⟩
    · have e : inB n lo hi = false := by simp [inB, h2]
      have E := Lib.hid e
      clear e
      go_enter Try.func24, Try.ntmps24
      go_wp2
      go_ret
      exact ⟨by rw [E.out]; rfl, rfl⟩
  · have e : inB n lo hi = false := by simp [inB, h1]
    have E := Lib.hid e
    clear e
    go_enter Try.func24, Try.ntmps24
    go_wp2
    go_ret
    exact ⟨by rw [E.out]; rfl, rfl⟩
set_option maxHeartbeats 400000 in
theorem rin_any (n lo hi : Int) (w : World) : Calls Try.prog 23 #[.int .i64 n, .int .i64 lo, .int .i64 hi] w fun e w' => e = .returned (.bool (inB n lo hi)) ∧ w = w' := by
  by_cases h1 : lo ≤ n
  · by_cases h2 : n ≤ hi
    · have e : inB n lo hi = true := by simp [inB, h1, h2]
      have E := Lib.hid e
      clear e
      go_enter Try.func23, Try.ntmps23
      go_wp2
      go_ret
      exact ⟨by rw [E.out]; rfl, rfl⟩
    · have e : inB n lo hi = false := by simp [inB, h2]
      have E := Lib.hid e
      clear e
      go_enter Try.func23, Try.ntmps23
      go_wp2
      go_ret
      exact ⟨by rw [E.out]; rfl, rfl⟩
  · have e : inB n lo hi = false := by simp [inB, h1]
    have E := Lib.hid e
    clear e
    go_enter Try.func23, Try.ntmps23
    go_wp2
    go_ret
    exact ⟨by rw [E.out]; rfl, rfl⟩

def chk (c : Cfg) : Int := if okC c then 0 else 1
set_option maxHeartbeats 1000000 in
theorem check_any (c : Cfg) (w : World) : Calls Try.prog 21 #[.agg c.cs.toArray] w fun e w' => e = .returned (.int .i64 (chk c)) ∧ Below w.heap.size w w' := by
  obtain ⟨x1, x2, x3, x4, x5, x6⟩ := c
  show Calls Try.prog 21 #[.agg #[.int .i64 x1, .int .i64 x2, .int .i64 x3, .int .i64 x4, .int .i64 x5, .int .i64 x6]] w _
  have hS := (Star.begin w).new (.cells #[.int .i64 x1, .int .i64 x2, .int .i64 x3, .int .i64 x4, .int .i64 x5, .int .i64 x6] 23)
  have hB := hS.drop.below
  cases b1 : inB x1 1 256
  · have e : chk ⟨x1, x2, x3, x4, x5, x6⟩ = 1 := by simp [chk, okC, b1]
    have E := Lib.hid e
    clear e
    go_enter Try.func21, Try.ntmps21
    go_wp2_with (go_at_call 24; refine (in_any _ _ _ _).mono ?_; rintro e w' ⟨rfl, rfl⟩)
    go_ret
    exact ⟨by rw [E.out]; rfl, hB⟩
  cases b2 : inB x2 1 8
  · have e : chk ⟨x1, x2, x3, x4, x5, x6⟩ = 1 := by simp [chk, okC, b2]
    have E := Lib.hid e
    clear e
    go_enter Try.func21, Try.ntmps21
    go_wp2_with (go_at_call 24; refine (in_any _ _ _ _).mono ?_; rintro e w' ⟨rfl, rfl⟩)
    go_ret
    exact ⟨by rw [E.out]; rfl, hB⟩
  cases b3 : inB x3 1 128
  · have e : chk ⟨x1, x2, x3, x4, x5, x6⟩ = 1 := by simp [chk, okC, b3]
    have E := Lib.hid e
    clear e
    go_enter Try.func21, Try.ntmps21
    go_wp2_with (go_at_call 24; refine (in_any _ _ _ _).mono ?_; rintro e w' ⟨rfl, rfl⟩)
    go_ret
    exact ⟨by rw [E.out]; rfl, hB⟩
  cases b4 : inB x4 1 3
  · have e : chk ⟨x1, x2, x3, x4, x5, x6⟩ = 1 := by simp [chk, okC, b4]
    have E := Lib.hid e
    clear e
    go_enter Try.func21, Try.ntmps21
    go_wp2_with (go_at_call 24; refine (in_any _ _ _ _).mono ?_; rintro e w' ⟨rfl, rfl⟩)
    go_ret
    exact ⟨by rw [E.out]; rfl, hB⟩
  cases b5 : inB x5 0 8
  · have e : chk ⟨x1, x2, x3, x4, x5, x6⟩ = 1 := by simp [chk, okC, b5]
    have E := Lib.hid e
    clear e
    go_enter Try.func21, Try.ntmps21
    go_wp2_with (go_at_call 24; refine (in_any _ _ _ _).mono ?_; rintro e w' ⟨rfl, rfl⟩)
    go_ret
    exact ⟨by rw [E.out]; rfl, hB⟩
  cases b6 : inB x6 0 64
  · have e : chk ⟨x1, x2, x3, x4, x5, x6⟩ = 1 := by simp [chk, okC, b6]
    have E := Lib.hid e
    clear e
    go_enter Try.func21, Try.ntmps21
    go_wp2_with (go_at_call 24; refine (in_any _ _ _ _).mono ?_; rintro e w' ⟨rfl, rfl⟩)
    go_ret
    exact ⟨by rw [E.out]; rfl, hB⟩
  · have e : chk ⟨x1, x2, x3, x4, x5, x6⟩ = 0 := by simp [chk, okC, b1, b2, b3, b4, b5, b6]
    have E := Lib.hid e
    clear e
    go_enter Try.func21, Try.ntmps21
    go_wp2_with (go_at_call 24; refine (in_any _ _ _ _).mono ?_; rintro e w' ⟨rfl, rfl⟩)
    go_ret
    exact ⟨by rw [E.out]; rfl, hB⟩
set_option maxHeartbeats 1000000 in
theorem rcheck_any (c : Cfg) (w : World) : Calls Try.prog 13 #[.agg c.cs.toArray] w fun e w' => e = .returned (.int .i64 (chk c)) ∧ Below w.heap.size w w' := by
  obtain ⟨x1, x2, x3, x4, x5, x6⟩ := c
  show Calls Try.prog 13 #[.agg #[.int .i64 x1, .int .i64 x2, .int .i64 x3, .int .i64 x4, .int .i64 x5, .int .i64 x6]] w _
  have hS := (Star.begin w).new (.cells #[.int .i64 x1, .int .i64 x2, .int .i64 x3, .int .i64 x4, .int .i64 x5, .int .i64 x6] 23)
  have hB := hS.drop.below
  cases b1 : inB x1 1 256
  · have e : chk ⟨x1, x2, x3, x4, x5, x6⟩ = 1 := by simp [chk, okC, b1]
    have E := Lib.hid e
    clear e
    go_enter Try.func13, Try.ntmps13
    go_wp2_with (go_at_call 23; refine (rin_any _ _ _ _).mono ?_; rintro e w' ⟨rfl, rfl⟩)
    go_ret
    exact ⟨by rw [E.out]; rfl, hB⟩
  cases b2 : inB x2 1 8
  · have e : chk ⟨x1, x2, x3, x4, x5, x6⟩ = 1 := by simp [chk, okC, b2]
    have E := Lib.hid e
    clear e
    go_enter Try.func13, Try.ntmps13
    go_wp2_with (go_at_call 23; refine (rin_any _ _ _ _).mono ?_; rintro e w' ⟨rfl, rfl⟩)
    go_ret
    exact ⟨by rw [E.out]; rfl, hB⟩
  cases b3 : inB x3 1 128
  · have e : chk ⟨x1, x2, x3, x4, x5, x6⟩ = 1 := by simp [chk, okC, b3]
    have E := Lib.hid e
    clear e
    go_enter Try.func13, Try.ntmps13
    go_wp2_with (go_at_call 23; refine (rin_any _ _ _ _).mono ?_; rintro e w' ⟨rfl, rfl⟩)
    go_ret
    exact ⟨by rw [E.out]; rfl, hB⟩
  cases b4 : inB x4 1 3
  · have e : chk ⟨x1, x2, x3, x4, x5, x6⟩ = 1 := by simp [chk, okC, b4]
    have E := Lib.hid e
    clear e
    go_enter Try.func13, Try.ntmps13
    go_wp2_with (go_at_call 23; refine (rin_any _ _ _ _).mono ?_; rintro e w' ⟨rfl, rfl⟩)
    go_ret
    exact ⟨by rw [E.out]; rfl, hB⟩
  cases b5 : inB x5 0 8
  · have e : chk ⟨x1, x2, x3, x4, x5, x6⟩ = 1 := by simp [chk, okC, b5]
    have E := Lib.hid e
    clear e
    go_enter Try.func13, Try.ntmps13
    go_wp2_with (go_at_call 23; refine (rin_any _ _ _ _).mono ?_; rintro e w' ⟨rfl, rfl⟩)
    go_ret
    exact ⟨by rw [E.out]; rfl, hB⟩
  cases b6 : inB x6 0 64
  · have e : chk ⟨x1, x2, x3, x4, x5, x6⟩ = 1 := by simp [chk, okC, b6]
    have E := Lib.hid e
    clear e
    go_enter Try.func13, Try.ntmps13
    go_wp2_with (go_at_call 23; refine (rin_any _ _ _ _).mono ?_; rintro e w' ⟨rfl, rfl⟩)
    go_ret
    exact ⟨by rw [E.out]; rfl, hB⟩
  · have e : chk ⟨x1, x2, x3, x4, x5, x6⟩ = 0 := by simp [chk, okC, b1, b2, b3, b4, b5, b6]
    have E := Lib.hid e
    clear e
    go_enter Try.func13, Try.ntmps13
    go_wp2_with (go_at_call 23; refine (rin_any _ _ _ _).mono ?_; rintro e w' ⟨rfl, rfl⟩)
    go_ret
    exact ⟨by rw [E.out]; rfl, hB⟩
end Go.Proofs.Ytbfkjlkagkookaa
