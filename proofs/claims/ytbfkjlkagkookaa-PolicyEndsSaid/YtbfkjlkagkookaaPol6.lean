/- Contracts of the judges, walked: lemmas for the laws of policy. -/
import Derived.Test.YtbfkjlkagkookaaPol5
namespace Go.Proofs.Ytbfkjlkagkookaa
open Go.RowKit
set_option linter.unusedVariables false

/-- a judge: its config and its counter -/
def judgeA (t : TypeId) (b : Nat) (c : Cfg) (d : Int) : HA := cellsA b #[.int .i64 c.cells, .int .i64 c.slots, .int .i64 c.bits, .int .i64 c.tag, .int .i64 c.bias, .int .i64 c.defer_, .int .i64 d] t
def decD (c : Cfg) (stamp d : Int) (n : Nat) (vs : List Vic) : Int := if verd c stamp d n vs = 2 then d + 1 else d

section
variable (c : Cfg) (R : List HA) (W w : World)
set_option maxHeartbeats 400000 in
theorem new_bad (ho : okC c = false) : Calls Try.prog 12 #[.agg c.cs.toArray] w fun e w' => e = .returned (.tuple #[.pointer none, .int .i64 1]) ∧ Below w.heap.size w w' := by
  have hC : ∀ w, Calls Try.prog 21 #[.agg c.cs.toArray] w fun e w' => e = .returned (.int .i64 (chk c)) ∧ Below w.heap.size w w' := check_any c
  have hk : chk c = 1 := by simp [chk, ho]
  rw [hk] at hC
  clear hk ho
  obtain ⟨x1, x2, x3, x4, x5, x6⟩ := c
  show Calls Try.prog 12 #[.agg #[.int .i64 x1, .int .i64 x2, .int .i64 x3, .int .i64 x4, .int .i64 x5, .int .i64 x6]] w _
  have HC := Lib.hid hC
  clear hC
  have hB := (Below.refl w.heap.size w).alloc (Nat.le_refl _) (.cells #[.int .i64 x1, .int .i64 x2, .int .i64 x3, .int .i64 x4, .int .i64 x5, .int .i64 x6] 23)
  go_enter Try.func12, Try.ntmps12
  go_wp2_with fail
  refine (HC.out _).mono ?_
  rintro e w1 ⟨rfl, hb1⟩
  go_wp2
  go_ret2
  exact ⟨rfl, hB.trans (hb1.mono (by simp))⟩
set_option maxHeartbeats 400000 in
theorem new_ok (ho : okC c = true) (hS : Star W w R) : Calls Try.prog 12 #[.agg c.cs.toArray] w fun e w' => ∃ b, e = .returned (.tuple #[.pointer (some ⟨b, 0, none⟩), .int .i64 0]) ∧ Star W w' (judgeA 56 b c 0 :: R) := by
  have hC : ∀ w, Calls Try.prog 21 #[.agg c.cs.toArray] w fun e w' => e = .returned (.int .i64 (chk c)) ∧ Below w.heap.size w w' := check_any c
  have hk : chk c = 0 := by simp [chk, ho]
  rw [hk] at hC
  clear hk ho
  obtain ⟨x1, x2, x3, x4, x5, x6⟩ := c
  show Calls Try.prog 12 #[.agg #[.int .i64 x1, .int .i64 x2, .int .i64 x3, .int .i64 x4, .int .i64 x5, .int .i64 x6]] w _
  have HC := Lib.hid hC
  clear hC
  have h1 := hS.new (.cells #[.int .i64 x1, .int .i64 x2, .int .i64 x3, .int .i64 x4, .int .i64 x5, .int .i64 x6] 23)
  go_enter Try.func12, Try.ntmps12
  go_wp2_with fail
  refine (HC.out _).mono ?_
  rintro e w1 ⟨rfl, hb1⟩
  have h2 := h1.of_below hb1
  have c0 : w1.cell? ⟨w.heap.size, 0, none⟩ = some (.int .i64 x1) := h2.cell 0
  have c1 : w1.cell? ⟨w.heap.size, 1, none⟩ = some (.int .i64 x2) := h2.cell 1
  have c2 : w1.cell? ⟨w.heap.size, 2, none⟩ = some (.int .i64 x3) := h2.cell 2
  have c3 : w1.cell? ⟨w.heap.size, 3, none⟩ = some (.int .i64 x4) := h2.cell 3
  have c4 : w1.cell? ⟨w.heap.size, 4, none⟩ = some (.int .i64 x5) := h2.cell 4
  have c5 : w1.cell? ⟨w.heap.size, 5, none⟩ = some (.int .i64 x6) := h2.cell 5
  have h3 := h2.drop.new (.cells #[.int .i64 x1, .int .i64 x2, .int .i64 x3, .int .i64 x4, .int .i64 x5, .int .i64 x6, .int .i64 0] 56)
  clear h1 hb1 hS h2
  go_wp2
  go_ret2
  exact ⟨_, rfl, h3⟩

variable (b : Nat) (d : Int)
set_option maxHeartbeats 400000 in
theorem reset_any (hS : Star W w (judgeA 56 b c d :: R)) : Calls Try.prog 14 #[.pointer (some ⟨b, 0, none⟩)] w fun e w' => e = .returned (.tuple #[]) ∧ Star W w' (judgeA 56 b c 0 :: R) := by
  have c6 : w.cell? ⟨b, 6, none⟩ = some (.int .i64 d) := hS.cell 6
  have f6 := hS.frozen 6
  have hS2 : Star W (w.setCell ⟨b, 6, none⟩ (.int .i64 0)) (judgeA 56 b c 0 :: R) := hS.set 6 (.int .i64 0)
  clear hS
  go_enter Try.func14, Try.ntmps14
  go_wp2
  go_end0
  exact ⟨rfl, hS2⟩
set_option maxHeartbeats 400000 in
theorem defers_any (hS : Star W w (judgeA 56 b c d :: R)) : Calls Try.prog 17 #[.pointer (some ⟨b, 0, none⟩)] w fun e w' => e = .returned (.int .i64 d) ∧ w = w' := by
  have c6 : w.cell? ⟨b, 6, none⟩ = some (.int .i64 d) := hS.cell 6
  clear hS
  go_enter Try.func17, Try.ntmps17
  go_wp2
  go_ret
  exact ⟨rfl, rfl⟩
def promV (c : Cfg) (d : Int) : Bool := decide (c.tag = 2) && decide (c.defer_ ≤ d)
set_option maxHeartbeats 400000 in
theorem prom_any (hS : Star W w (judgeA 56 b c d :: R)) : Calls Try.prog 18 #[.pointer (some ⟨b, 0, none⟩)] w fun e w' => e = .returned (.bool (promV c d)) ∧ ∃ m, w' = w.drewN m := by
  have hp : promV c d = (decide (c.tag = 2) && decide (c.defer_ ≤ d)) := rfl
  have c3 : w.cell? ⟨b, 3, none⟩ = some (.int .i64 c.tag) := hS.cell 3
  have c5 : w.cell? ⟨b, 5, none⟩ = some (.int .i64 c.defer_) := hS.cell 5
  have c6 : w.cell? ⟨b, 6, none⟩ = some (.int .i64 d) := hS.cell 6
  generalize c.tag = t at hp c3
  generalize c.defer_ = f at hp c5
  have Hp := Lib.hid hp
  clear hS hp
  by_cases h1 : t = 2
  · subst h1
    by_cases h2 : f ≤ d
    · go_enter Try.func18, Try.ntmps18
      go_wp2
      go_quiet (fail)
      go_wp2
      go_ret
      exact ⟨by rw [Hp.out]; simp [h2], _, rfl⟩
    · go_enter Try.func18, Try.ntmps18
      go_wp2
      go_quiet (fail)
      go_wp2
      go_ret
      exact ⟨by rw [Hp.out]; simp, _, rfl⟩
  · have h1' : (t == 2) = false := by simpa using h1
    go_enter Try.func18, Try.ntmps18
    go_wp2
    go_quiet (fail)
    go_wp2
    go_ret
    exact ⟨by rw [Hp.out]; simp [h1], _, rfl⟩
set_option maxHeartbeats 400000 in
theorem rprom_any (hS : Star W w (judgeA 42 b c d :: R)) : Calls Try.prog 19 #[.pointer (some ⟨b, 0, none⟩)] w fun e w' => e = .returned (.bool (promV c d)) ∧ ∃ m, w' = w.drewN m := by
  have hp : promV c d = (decide (c.tag = 2) && decide (c.defer_ ≤ d)) := rfl
  have c3 : w.cell? ⟨b, 3, none⟩ = some (.int .i64 c.tag) := hS.cell 3
  have c5 : w.cell? ⟨b, 5, none⟩ = some (.int .i64 c.defer_) := hS.cell 5
  have c6 : w.cell? ⟨b, 6, none⟩ = some (.int .i64 d) := hS.cell 6
  generalize c.tag = t at hp c3
  generalize c.defer_ = f at hp c5
  have Hp := Lib.hid hp
  clear hS hp
  by_cases h1 : t = 2
  · subst h1
    by_cases h2 : f ≤ d
    · go_enter Try.func19, Try.ntmps19
      go_wp2
      go_quiet (fail)
      go_wp2
      go_ret
      exact ⟨by rw [Hp.out]; simp [h2], _, rfl⟩
    · go_enter Try.func19, Try.ntmps19
      go_wp2
      go_quiet (fail)
      go_wp2
      go_ret
      exact ⟨by rw [Hp.out]; simp, _, rfl⟩
  · have h1' : (t == 2) = false := by simpa using h1
    go_enter Try.func19, Try.ntmps19
    go_wp2
    go_quiet (fail)
    go_wp2
    go_ret
    exact ⟨by rw [Hp.out]; simp [h1], _, rfl⟩
end
set_option maxHeartbeats 400000 in
theorem biased_any (R : List HA) (W w : World) (hS : Star W w R) : Calls Try.prog 20 #[] w fun e w' => e = .returned (.agg #[.int .i64 1, .int .i64 1, .int .i64 1, .int .i64 2, .int .i64 1, .int .i64 2]) ∧ Star W w' R := by
  have h1 := hS.new (.cells #[.int .i64 1, .int .i64 1, .int .i64 1, .int .i64 2, .int .i64 1, .int .i64 2] 23)
  go_enter Try.func20, Try.ntmps20
  go_wp2
  exact bodyPost_ret (v := .agg #[.int .i64 1, .int .i64 1, .int .i64 1, .int .i64 2, .int .i64 1, .int .i64 2]) (by simp [results, Try.results20, go_sem]) rfl ⟨rfl, h1.drop⟩

set_option maxHeartbeats 1600000 in
theorem decide_any (c : Cfg) (R : List HA) (W w : World) (b : Nat) (d stamp : Int) (A : Option Addr) (n cap : Nat) (vs : List Vic) (hS : Star W w (judgeA 56 b c d :: R)) (ho : okC c = true) (hd : 0 ≤ d) (hv : VSl w A n vs) (hn : n ≤ 9223372036854775807) :
    Calls Try.prog 15 #[.pointer (some ⟨b, 0, none⟩), .int .i64 stamp, .slice A n cap] w fun e w' => e = .returned (.int .i64 (verd c stamp d n vs)) ∧ Star W w' (judgeA 56 b c (decD c stamp d n vs) :: R) := by
  have hV := fun w hv => verdict_ok c stamp d A n cap vs w ho hd hv hn
  have hD : decD c stamp d n vs = if verd c stamp d n vs = 2 then d + 1 else d := rfl
  have hd64 : verd c stamp d n vs = 2 → d ≤ 64 := by
    intro h2
    have hdef : c.defer_ ≤ 64 := by simp [okC, inB] at ho; omega
    simp only [verd, rule2V, rule3V] at h2
    repeat' split at h2
    all_goals first | omega | (exfalso; omega)
  clear ho
  obtain ⟨x1, x2, x3, x4, x5, x6⟩ := c
  generalize verd ⟨x1, x2, x3, x4, x5, x6⟩ stamp d n vs = z at hV hD hd64 ⊢
  generalize decD ⟨x1, x2, x3, x4, x5, x6⟩ stamp d n vs = d' at hD ⊢
  have hV' : ∀ w, VSl w A n vs → Calls Try.prog 9 #[.agg #[.int .i64 x1, .int .i64 x2, .int .i64 x3, .int .i64 x4, .int .i64 x5, .int .i64 x6], .int .i64 stamp, .int .i64 d, .slice A n cap] w fun e w' => e = .returned (.tuple #[.int .i64 z, .int .i64 0]) ∧ Below w.heap.size w w' := hV
  have HV := Lib.hid hV'
  have hvd : VSl w.drew A n vs := hv
  have Hv := Lib.hid hvd
  have Hd := Lib.hid hd
  clear hV hV' hv hvd hd
  have c0 : w.cell? ⟨b, 0, none⟩ = some (.int .i64 x1) := hS.cell 0
  have c1 : w.cell? ⟨b, 1, none⟩ = some (.int .i64 x2) := hS.cell 1
  have c2 : w.cell? ⟨b, 2, none⟩ = some (.int .i64 x3) := hS.cell 2
  have c3 : w.cell? ⟨b, 3, none⟩ = some (.int .i64 x4) := hS.cell 3
  have c4 : w.cell? ⟨b, 4, none⟩ = some (.int .i64 x5) := hS.cell 4
  have c5 : w.cell? ⟨b, 5, none⟩ = some (.int .i64 x6) := hS.cell 5
  have c6 : w.cell? ⟨b, 6, none⟩ = some (.int .i64 d) := hS.cell 6
  by_cases h2 : z = 2
  · subst h2
    have hd64' := hd64 rfl
    obtain rfl : d' = d + 1 := by rw [hD]; rfl
    have hdl : 0 ≤ d := Hd.out
    clear hD hd64
    go_enter Try.func15, Try.ntmps15
    go_wp2
    go_region_held3 (fun w' => w'.cell? ⟨b, 0, none⟩ = some (.int .i64 x1) ∧ w'.cell? ⟨b, 1, none⟩ = some (.int .i64 x2) ∧ w'.cell? ⟨b, 2, none⟩ = some (.int .i64 x3) ∧ w'.cell? ⟨b, 3, none⟩ = some (.int .i64 x4) ∧ w'.cell? ⟨b, 4, none⟩ = some (.int .i64 x5) ∧ w'.cell? ⟨b, 5, none⟩ = some (.int .i64 x6) ∧ w'.cell? ⟨b, 6, none⟩ = some (.int .i64 d)) (go_keep) (
      (go_at_call 9; refine (HV.out _ Hv.out).mono ?_; rintro e w1 ⟨rfl, hb1⟩; have hS1 := (Star.drew hS).of_below hb1; have k0 := hS1.cell 0; have k1 := hS1.cell 1; have k2 := hS1.cell 2; have k3 := hS1.cell 3; have k4 := hS1.cell 4; have k5 := hS1.cell 5; have k6 := hS1.cell 6))
    all_goals
      have f6 := hS1.frozen 6
      have hS2 : Star W (w1.setCell ⟨b, 6, none⟩ (.int .i64 (d + 1))) (judgeA 56 b ⟨x1, x2, x3, x4, x5, x6⟩ (d + 1) :: R) := hS1.set 6 (.int .i64 (d + 1))
      clear hS hS1
      go_wp2
      go_ret
      exact ⟨rfl, hS2⟩
  · obtain rfl : d' = d := by rw [hD, if_neg h2]
    have hz2 : (z == 2) = false := by simpa using h2
    clear hD hd64 h2
    go_enter Try.func15, Try.ntmps15
    go_wp2
    go_region_held3 (fun w' => w'.cell? ⟨b, 0, none⟩ = some (.int .i64 x1) ∧ w'.cell? ⟨b, 1, none⟩ = some (.int .i64 x2) ∧ w'.cell? ⟨b, 2, none⟩ = some (.int .i64 x3) ∧ w'.cell? ⟨b, 3, none⟩ = some (.int .i64 x4) ∧ w'.cell? ⟨b, 4, none⟩ = some (.int .i64 x5) ∧ w'.cell? ⟨b, 5, none⟩ = some (.int .i64 x6) ∧ w'.cell? ⟨b, 6, none⟩ = some (.int .i64 d')) (go_keep) (
      (go_at_call 9; refine (HV.out _ Hv.out).mono ?_; rintro e w1 ⟨rfl, hb1⟩; have hS1 := (Star.drew hS).of_below hb1; have k0 := hS1.cell 0; have k1 := hS1.cell 1; have k2 := hS1.cell 2; have k3 := hS1.cell 3; have k4 := hS1.cell 4; have k5 := hS1.cell 5; have k6 := hS1.cell 6))
    all_goals
      clear hS
      go_wp2
      go_ret
      exact ⟨rfl, hS1⟩

set_option maxHeartbeats 1600000 in
theorem rdecide_any (c : Cfg) (R : List HA) (W w : World) (b : Nat) (d stamp : Int) (A : Option Addr) (n cap : Nat) (vs : List Vic) (hS : Star W w (judgeA 42 b c d :: R)) (ho : okC c = true) (hd : 0 ≤ d) (hv : VSl w A n vs) (hn : n ≤ 9223372036854775807) :
    Calls Try.prog 16 #[.pointer (some ⟨b, 0, none⟩), .int .i64 stamp, .slice A n cap] w fun e w' => e = .returned (.int .i64 (verd c stamp d n vs)) ∧ Star W w' (judgeA 42 b c (decD c stamp d n vs) :: R) := by
  have hV := fun w hv => rverdict_ok c stamp d A n cap vs w ho hd hv hn
  have hD : decD c stamp d n vs = if verd c stamp d n vs = 2 then d + 1 else d := rfl
  have hd64 : verd c stamp d n vs = 2 → d ≤ 64 := by
    intro h2
    have hdef : c.defer_ ≤ 64 := by simp [okC, inB] at ho; omega
    simp only [verd, rule2V, rule3V] at h2
    repeat' split at h2
    all_goals first | omega | (exfalso; omega)
  clear ho
  obtain ⟨x1, x2, x3, x4, x5, x6⟩ := c
  generalize verd ⟨x1, x2, x3, x4, x5, x6⟩ stamp d n vs = z at hV hD hd64 ⊢
  generalize decD ⟨x1, x2, x3, x4, x5, x6⟩ stamp d n vs = d' at hD ⊢
  have hV' : ∀ w, VSl w A n vs → Calls Try.prog 10 #[.agg #[.int .i64 x1, .int .i64 x2, .int .i64 x3, .int .i64 x4, .int .i64 x5, .int .i64 x6], .int .i64 stamp, .int .i64 d, .slice A n cap] w fun e w' => e = .returned (.tuple #[.int .i64 z, .int .i64 0]) ∧ Below w.heap.size w w' := hV
  have HV := Lib.hid hV'
  have hvd : VSl w.drew A n vs := hv
  have Hv := Lib.hid hvd
  have Hd := Lib.hid hd
  clear hV hV' hv hvd hd
  have c0 : w.cell? ⟨b, 0, none⟩ = some (.int .i64 x1) := hS.cell 0
  have c1 : w.cell? ⟨b, 1, none⟩ = some (.int .i64 x2) := hS.cell 1
  have c2 : w.cell? ⟨b, 2, none⟩ = some (.int .i64 x3) := hS.cell 2
  have c3 : w.cell? ⟨b, 3, none⟩ = some (.int .i64 x4) := hS.cell 3
  have c4 : w.cell? ⟨b, 4, none⟩ = some (.int .i64 x5) := hS.cell 4
  have c5 : w.cell? ⟨b, 5, none⟩ = some (.int .i64 x6) := hS.cell 5
  have c6 : w.cell? ⟨b, 6, none⟩ = some (.int .i64 d) := hS.cell 6
  by_cases h2 : z = 2
  · subst h2
    have hd64' := hd64 rfl
    obtain rfl : d' = d + 1 := by rw [hD]; rfl
    have hdl : 0 ≤ d := Hd.out
    clear hD hd64
    go_enter Try.func16, Try.ntmps16
    go_wp2
    go_region_held3 (fun w' => w'.cell? ⟨b, 0, none⟩ = some (.int .i64 x1) ∧ w'.cell? ⟨b, 1, none⟩ = some (.int .i64 x2) ∧ w'.cell? ⟨b, 2, none⟩ = some (.int .i64 x3) ∧ w'.cell? ⟨b, 3, none⟩ = some (.int .i64 x4) ∧ w'.cell? ⟨b, 4, none⟩ = some (.int .i64 x5) ∧ w'.cell? ⟨b, 5, none⟩ = some (.int .i64 x6) ∧ w'.cell? ⟨b, 6, none⟩ = some (.int .i64 d)) (go_keep) (
      (go_at_call 10; refine (HV.out _ Hv.out).mono ?_; rintro e w1 ⟨rfl, hb1⟩; have hS1 := (Star.drew hS).of_below hb1; have k0 := hS1.cell 0; have k1 := hS1.cell 1; have k2 := hS1.cell 2; have k3 := hS1.cell 3; have k4 := hS1.cell 4; have k5 := hS1.cell 5; have k6 := hS1.cell 6))
    all_goals
      have f6 := hS1.frozen 6
      have hS2 : Star W (w1.setCell ⟨b, 6, none⟩ (.int .i64 (d + 1))) (judgeA 42 b ⟨x1, x2, x3, x4, x5, x6⟩ (d + 1) :: R) := hS1.set 6 (.int .i64 (d + 1))
      clear hS hS1
      go_wp2
      go_ret
      exact ⟨rfl, hS2⟩
  · obtain rfl : d' = d := by rw [hD, if_neg h2]
    have hz2 : (z == 2) = false := by simpa using h2
    clear hD hd64 h2
    go_enter Try.func16, Try.ntmps16
    go_wp2
    go_region_held3 (fun w' => w'.cell? ⟨b, 0, none⟩ = some (.int .i64 x1) ∧ w'.cell? ⟨b, 1, none⟩ = some (.int .i64 x2) ∧ w'.cell? ⟨b, 2, none⟩ = some (.int .i64 x3) ∧ w'.cell? ⟨b, 3, none⟩ = some (.int .i64 x4) ∧ w'.cell? ⟨b, 4, none⟩ = some (.int .i64 x5) ∧ w'.cell? ⟨b, 5, none⟩ = some (.int .i64 x6) ∧ w'.cell? ⟨b, 6, none⟩ = some (.int .i64 d')) (go_keep) (
      (go_at_call 10; refine (HV.out _ Hv.out).mono ?_; rintro e w1 ⟨rfl, hb1⟩; have hS1 := (Star.drew hS).of_below hb1; have k0 := hS1.cell 0; have k1 := hS1.cell 1; have k2 := hS1.cell 2; have k3 := hS1.cell 3; have k4 := hS1.cell 4; have k5 := hS1.cell 5; have k6 := hS1.cell 6))
    all_goals
      clear hS
      go_wp2
      go_ret
      exact ⟨rfl, hS1⟩
end Go.Proofs.Ytbfkjlkagkookaa
