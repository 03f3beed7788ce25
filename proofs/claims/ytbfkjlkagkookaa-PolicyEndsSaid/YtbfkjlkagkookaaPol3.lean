/- Contract of policy's Verdict, walked: lemmas for the laws of policy. -/
import Derived.Test.YtbfkjlkagkookaaPol2
namespace Go.Proofs.Ytbfkjlkagkookaa
open Go.RowKit
set_option linter.unusedVariables false

/-- the verdict, where the config may be -/
def verd (c : Cfg) (stamp defers : Int) (n : Nat) (vs : List Vic) : Int := if c.tag = 2 then rule2V c.bias c.defer_ n defers else if c.tag = 3 then rule3V vs stamp else 1
theorem okC_tag {c : Cfg} (h : okC c = true) : c.tag = 1 ∨ c.tag = 2 ∨ c.tag = 3 := by
  simp only [okC, inB, Bool.and_eq_true, decide_eq_true_eq] at h
  omega

section
variable (c : Cfg) (stamp defers : Int) (A : Option Addr) (n cap : Nat) (vs : List Vic) (w : World)
set_option maxHeartbeats 800000 in
theorem verdict_bad (h : okC c = false ∨ defers < 0) : Calls Try.prog 9 #[.agg c.cs.toArray, .int .i64 stamp, .int .i64 defers, .slice A n cap] w fun e w' => e = .returned (.tuple #[.int .i64 0, .int .i64 1]) ∧ Below w.heap.size w w' := by
  have hC : ∀ w, Calls Try.prog 21 #[.agg c.cs.toArray] w fun e w' => e = .returned (.int .i64 (chk c)) ∧ Below w.heap.size w w' := check_any c
  have hk : chk c = if okC c then 0 else 1 := rfl
  have h' : Hid (okC c = false ∨ defers < 0) := h
  clear h
  obtain ⟨x1, x2, x3, x4, x5, x6⟩ := c
  show Calls Try.prog 9 #[.agg #[.int .i64 x1, .int .i64 x2, .int .i64 x3, .int .i64 x4, .int .i64 x5, .int .i64 x6], .int .i64 stamp, .int .i64 defers, .slice A n cap] w _
  have HC := Lib.hid hC
  clear hC
  have hB := (Below.refl w.heap.size w).alloc (Nat.le_refl _) (.cells #[.int .i64 x1, .int .i64 x2, .int .i64 x3, .int .i64 x4, .int .i64 x5, .int .i64 x6] 23)
  cases ho : okC ⟨x1, x2, x3, x4, x5, x6⟩
  · rw [ho] at hk
    have Hk := Lib.hid hk
    clear hk ho h'
    go_enter Try.func9, Try.ntmps9
    go_wp2_with fail
    refine (HC.out _).mono ?_
    rintro e w1 ⟨rfl, hb1⟩
    rw [Hk.out]
    go_wp2
    go_ret2
    exact ⟨rfl, hB.trans (hb1.mono (by simp))⟩
  · rw [ho] at hk
    have hd : defers < 0 := by rcases h'.out with h | h; (· rw [ho] at h; cases h); exact h
    have Hk := Lib.hid hk
    clear hk ho h'
    go_enter Try.func9, Try.ntmps9
    go_wp2_with fail
    refine (HC.out _).mono ?_
    rintro e w1 ⟨rfl, hb1⟩
    rw [Hk.out]
    go_wp2
    go_ret2
    exact ⟨rfl, hB.trans (hb1.mono (by simp))⟩

set_option maxHeartbeats 1600000 in
theorem verdict_ok (ho : okC c = true) (hd : 0 ≤ defers) (hv : VSl w A n vs) (hn : n ≤ 9223372036854775807) : Calls Try.prog 9 #[.agg c.cs.toArray, .int .i64 stamp, .int .i64 defers, .slice A n cap] w fun e w' => e = .returned (.tuple #[.int .i64 (verd c stamp defers n vs), .int .i64 0]) ∧ Below w.heap.size w w' := by
  have hC : ∀ w, Calls Try.prog 21 #[.agg c.cs.toArray] w fun e w' => e = .returned (.int .i64 (chk c)) ∧ Below w.heap.size w w' := check_any c
  have hk : chk c = if okC c then 0 else 1 := rfl
  rw [ho] at hk
  have hR1 := fun w => rule1 c stamp defers A n cap w
  have hR2 := fun w => rule2 c stamp defers A n cap w
  have hR3 := fun w hv => rule3 c stamp defers A n cap w vs hv hn
  have ht := okC_tag ho
  have hvd : verd c stamp defers n vs = if c.tag = 2 then rule2V c.bias c.defer_ n defers else if c.tag = 3 then rule3V vs stamp else 1 := rfl
  clear ho
  obtain ⟨x1, x2, x3, x4, x5, x6⟩ := c
  simp only at ht
  show Calls Try.prog 9 #[.agg #[.int .i64 x1, .int .i64 x2, .int .i64 x3, .int .i64 x4, .int .i64 x5, .int .i64 x6], .int .i64 stamp, .int .i64 defers, .slice A n cap] w _
  simp only [comm] at hR1 hR2 hR3
  have HC := Lib.hid hC
  have Hk := Lib.hid hk
  have H1 := Lib.hid hR1
  have H2 := Lib.hid hR2
  have H3 := Lib.hid hR3
  have Hvd := Lib.hid hvd
  have Hv := Lib.hid hv
  clear hC hk hR1 hR2 hR3 hvd hv
  have hS := (Star.begin w).new (.cells #[.int .i64 x1, .int .i64 x2, .int .i64 x3, .int .i64 x4, .int .i64 x5, .int .i64 x6] 23)
  rcases ht with rfl | rfl | rfl
  · have Hvd' : Hid (verd ⟨x1, x2, x3, 1, x5, x6⟩ stamp defers n vs = 1) := Hvd.out
    go_enter Try.func9, Try.ntmps9
    go_wp2_with fail
    refine (HC.out _).mono ?_
    rintro e w1 ⟨rfl, hb1⟩
    rw [Hk.out]
    have hS1 := hS.of_below hb1
    have c0 : w1.cell? ⟨w.heap.size, 0, none⟩ = some (.int .i64 x1) := hS1.cell 0
    have c1 : w1.cell? ⟨w.heap.size, 1, none⟩ = some (.int .i64 x2) := hS1.cell 1
    have c2 : w1.cell? ⟨w.heap.size, 2, none⟩ = some (.int .i64 x3) := hS1.cell 2
    have c3 : w1.cell? ⟨w.heap.size, 3, none⟩ = some (.int .i64 1) := hS1.cell 3
    have c4 : w1.cell? ⟨w.heap.size, 4, none⟩ = some (.int .i64 x5) := hS1.cell 4
    have c5 : w1.cell? ⟨w.heap.size, 5, none⟩ = some (.int .i64 x6) := hS1.cell 5
    clear hb1
    go_wp2
    go_region_held3 (fun w' => w'.cell? ⟨w.heap.size, 0, none⟩ = some (.int .i64 x1) ∧ w'.cell? ⟨w.heap.size, 1, none⟩ = some (.int .i64 x2) ∧ w'.cell? ⟨w.heap.size, 2, none⟩ = some (.int .i64 x3) ∧ w'.cell? ⟨w.heap.size, 3, none⟩ = some (.int .i64 1) ∧ w'.cell? ⟨w.heap.size, 4, none⟩ = some (.int .i64 x5) ∧ w'.cell? ⟨w.heap.size, 5, none⟩ = some (.int .i64 x6)) (go_keep) (first
      | (go_at_call 22; refine (rules_any _ w _ hS1.drew).mono ?_; rintro e w2 ⟨bm, rfl, hS2⟩; have g0 := hS2.swap.cell 0; have g1 := hS2.swap.cell 1; have g2 := hS2.swap.cell 2; have g3 := hS2.swap.cell 3; have g4 := hS2.swap.cell 4; have g5 := hS2.swap.cell 5; have hl : (Instr.lookup 51 (.map (some bm)) (.int .i64 1) false).run Try.prog w2 = .ok (.func (.func 25) #[] #[]) w2 := run_lookup_m Try.underlying51 Try.underlying3 encI_key encI_inj zero50 hS2 1 false)
      | (go_at_call 25; refine (H1.out _).mono ?_; rintro e w3 ⟨rfl, hb3⟩; have k0 := (hS2.of_below hb3).swap.cell 0; have k1 := (hS2.of_below hb3).swap.cell 1; have k2 := (hS2.of_below hb3).swap.cell 2; have k3 := (hS2.of_below hb3).swap.cell 3; have k4 := (hS2.of_below hb3).swap.cell 4; have k5 := (hS2.of_below hb3).swap.cell 5))
    all_goals
      go_wp2
      go_ret2
      exact ⟨by rw [Hvd'.out]; rfl, ((hS2.of_below hb3).pull 2).below⟩
  · have Hvd' : Hid (verd ⟨x1, x2, x3, 2, x5, x6⟩ stamp defers n vs = rule2V x5 x6 n defers) := Hvd.out
    go_enter Try.func9, Try.ntmps9
    go_wp2_with fail
    refine (HC.out _).mono ?_
    rintro e w1 ⟨rfl, hb1⟩
    rw [Hk.out]
    have hS1 := hS.of_below hb1
    have c0 : w1.cell? ⟨w.heap.size, 0, none⟩ = some (.int .i64 x1) := hS1.cell 0
    have c1 : w1.cell? ⟨w.heap.size, 1, none⟩ = some (.int .i64 x2) := hS1.cell 1
    have c2 : w1.cell? ⟨w.heap.size, 2, none⟩ = some (.int .i64 x3) := hS1.cell 2
    have c3 : w1.cell? ⟨w.heap.size, 3, none⟩ = some (.int .i64 2) := hS1.cell 3
    have c4 : w1.cell? ⟨w.heap.size, 4, none⟩ = some (.int .i64 x5) := hS1.cell 4
    have c5 : w1.cell? ⟨w.heap.size, 5, none⟩ = some (.int .i64 x6) := hS1.cell 5
    clear hb1
    go_wp2
    go_region_held3 (fun w' => w'.cell? ⟨w.heap.size, 0, none⟩ = some (.int .i64 x1) ∧ w'.cell? ⟨w.heap.size, 1, none⟩ = some (.int .i64 x2) ∧ w'.cell? ⟨w.heap.size, 2, none⟩ = some (.int .i64 x3) ∧ w'.cell? ⟨w.heap.size, 3, none⟩ = some (.int .i64 2) ∧ w'.cell? ⟨w.heap.size, 4, none⟩ = some (.int .i64 x5) ∧ w'.cell? ⟨w.heap.size, 5, none⟩ = some (.int .i64 x6)) (go_keep) (first
      | (go_at_call 22; refine (rules_any _ w _ hS1.drew).mono ?_; rintro e w2 ⟨bm, rfl, hS2⟩; have g0 := hS2.swap.cell 0; have g1 := hS2.swap.cell 1; have g2 := hS2.swap.cell 2; have g3 := hS2.swap.cell 3; have g4 := hS2.swap.cell 4; have g5 := hS2.swap.cell 5; have hl : (Instr.lookup 51 (.map (some bm)) (.int .i64 2) false).run Try.prog w2 = .ok (.func (.func 26) #[] #[]) w2 := run_lookup_m Try.underlying51 Try.underlying3 encI_key encI_inj zero50 hS2 2 false)
      | (go_at_call 26; refine (H2.out _).mono ?_; rintro e w3 ⟨rfl, hb3⟩; have k0 := (hS2.of_below hb3).swap.cell 0; have k1 := (hS2.of_below hb3).swap.cell 1; have k2 := (hS2.of_below hb3).swap.cell 2; have k3 := (hS2.of_below hb3).swap.cell 3; have k4 := (hS2.of_below hb3).swap.cell 4; have k5 := (hS2.of_below hb3).swap.cell 5))
    all_goals
      go_wp2
      go_ret2
      exact ⟨by rw [Hvd'.out]; rfl, ((hS2.of_below hb3).pull 2).below⟩
  · have Hvd' : Hid (verd ⟨x1, x2, x3, 3, x5, x6⟩ stamp defers n vs = rule3V vs stamp) := Hvd.out
    go_enter Try.func9, Try.ntmps9
    go_wp2_with fail
    refine (HC.out _).mono ?_
    rintro e w1 ⟨rfl, hb1⟩
    rw [Hk.out]
    have hS1 := hS.of_below hb1
    have c0 : w1.cell? ⟨w.heap.size, 0, none⟩ = some (.int .i64 x1) := hS1.cell 0
    have c1 : w1.cell? ⟨w.heap.size, 1, none⟩ = some (.int .i64 x2) := hS1.cell 1
    have c2 : w1.cell? ⟨w.heap.size, 2, none⟩ = some (.int .i64 x3) := hS1.cell 2
    have c3 : w1.cell? ⟨w.heap.size, 3, none⟩ = some (.int .i64 3) := hS1.cell 3
    have c4 : w1.cell? ⟨w.heap.size, 4, none⟩ = some (.int .i64 x5) := hS1.cell 4
    have c5 : w1.cell? ⟨w.heap.size, 5, none⟩ = some (.int .i64 x6) := hS1.cell 5
    clear hb1
    go_wp2
    go_region_held3 (fun w' => w'.cell? ⟨w.heap.size, 0, none⟩ = some (.int .i64 x1) ∧ w'.cell? ⟨w.heap.size, 1, none⟩ = some (.int .i64 x2) ∧ w'.cell? ⟨w.heap.size, 2, none⟩ = some (.int .i64 x3) ∧ w'.cell? ⟨w.heap.size, 3, none⟩ = some (.int .i64 3) ∧ w'.cell? ⟨w.heap.size, 4, none⟩ = some (.int .i64 x5) ∧ w'.cell? ⟨w.heap.size, 5, none⟩ = some (.int .i64 x6)) (go_keep) (first
      | (go_at_call 22; refine (rules_any _ w _ hS1.drew).mono ?_; rintro e w2 ⟨bm, rfl, hS2⟩; have g0 := hS2.swap.cell 0; have g1 := hS2.swap.cell 1; have g2 := hS2.swap.cell 2; have g3 := hS2.swap.cell 3; have g4 := hS2.swap.cell 4; have g5 := hS2.swap.cell 5; have hl : (Instr.lookup 51 (.map (some bm)) (.int .i64 3) false).run Try.prog w2 = .ok (.func (.func 27) #[] #[]) w2 := run_lookup_m Try.underlying51 Try.underlying3 encI_key encI_inj zero50 hS2 3 false)
      | (go_at_call 27; refine (H3.out _ (Hv.out.below (hS2.drop.pull 1).below)).mono ?_; rintro e w3 ⟨rfl, hb3⟩; have k0 := (hS2.of_below hb3).swap.cell 0; have k1 := (hS2.of_below hb3).swap.cell 1; have k2 := (hS2.of_below hb3).swap.cell 2; have k3 := (hS2.of_below hb3).swap.cell 3; have k4 := (hS2.of_below hb3).swap.cell 4; have k5 := (hS2.of_below hb3).swap.cell 5))
    all_goals
      go_wp2
      go_ret2
      exact ⟨by rw [Hvd'.out]; rfl, ((hS2.of_below hb3).pull 2).below⟩
end
end Go.Proofs.Ytbfkjlkagkookaa
