/- The test of an event, walked: lemmas for the laws of ghost. Printed by gen_gh3.py. -/
import Derived.Test.YtfekjbaojefhoaaGh2
namespace Go.Proofs.Ytfekjbaojefhoaa
open Go.RowKit
set_option linter.unusedVariables false

theorem zero3 (w : World) : (zeroValue 3).run Try.prog w = .ok (.int .i64 0) w := by kernel_rfl
section
variable (k st th sp ce x : Int) (ow : Bool) (ga er by_ : Int) (step : Int) (mb : Nat) (m : List (Int × Value)) (A : Option Addr) (n c : Nat) (sts : List Sto) (vs : List Value) (opn : Int → Option Nat) (R : List HA) (W w : World)
set_option maxHeartbeats 3200000 in
set_option maxRecDepth 100000 in
theorem right_raw (hS : Star W w (mapA encI mb m :: rowA 36 10 (.slice A n c) n (stosC sts vs) :: R)) (hn : sts.length = n) (hv : vs.length = n) (hm : ∀ t, lookM m t = (opn t).map fun i : Nat => Value.int .i64 (i : Int)) (hlt : ∀ t i, opn t = some i → i < n) :
    Calls Try.prog 29 #[.agg #[.int .i64 k, .int .i64 st, .int .i64 th, .int .i64 sp, .int .i64 ce, .int .i64 x, .bool ow, .int .i64 ga, .int .i64 er, .int .i64 by_], .int .i64 step, .map (some mb), .slice A n c] w fun e' w' => e' = .returned (.bool (okHead step ⟨k, st, th, sp, ce, x, ow, ga, er, by_⟩ && okTail ⟨sts, opn, step⟩ ⟨k, st, th, sp, ce, x, ow, ga, er, by_⟩)) ∧ Below w.heap.size w w' := by
  have h0 := (Star.begin w).new (.cells #[.int .i64 k, .int .i64 st, .int .i64 th, .int .i64 sp, .int .i64 ce, .int .i64 x, .bool ow, .int .i64 ga, .int .i64 er, .int .i64 by_] 26)
  have hN := hS.new (.cells #[.int .i64 k, .int .i64 st, .int .i64 th, .int .i64 sp, .int .i64 ce, .int .i64 x, .bool ow, .int .i64 ga, .int .i64 er, .int .i64 by_] 26)
  have H0 := Lib.hid ((h0.pull 1).below)
  generalize hwO : w.alloc (.cells #[.int .i64 k, .int .i64 st, .int .i64 th, .int .i64 sp, .int .i64 ce, .int .i64 x, .bool ow, .int .i64 ga, .int .i64 er, .int .i64 by_] 26) = wO at h0 hN H0
  generalize hgO : w.heap.size = gO at h0 hN H0
  have e0 : wO.cell? ⟨gO, 0, none⟩ = some (.int .i64 k) := h0.cell 0
  have e1 : wO.cell? ⟨gO, 1, none⟩ = some (.int .i64 st) := h0.cell 1
  have e2 : wO.cell? ⟨gO, 2, none⟩ = some (.int .i64 th) := h0.cell 2
  have e3 : wO.cell? ⟨gO, 3, none⟩ = some (.int .i64 sp) := h0.cell 3
  have hlk : (Instr.lookup 59 (.map (some mb)) (.int .i64 th) true).run Try.prog wO = .ok (.tuple #[((opn th).map fun i : Nat => Value.int .i64 (i : Int)).getD (.int .i64 0), .bool (opn th).isSome]) wO := by
    have := run_lookup_m Try.underlying59 Try.underlying3 encI_key encI_inj zero3 (hN.pull 1) th true
    rw [hm, if_pos rfl, Option.isSome_map] at this
    exact this
  clear hm

  by_cases c0 : k < 1
  · have Ho : okHead step ⟨k, st, th, sp, ce, x, ow, ga, er, by_⟩ = false := by simp only [okHead, decide_eq_false_iff_not]; omega
    rw [Ho, Bool.false_and]
    clear hlk Ho
    subst hwO hgO
    go_enter Try.func29, Try.ntmps29
    go_wp2
    go_ret
    exact ⟨rfl, H0.out⟩
  by_cases c1 : 6 < k
  · have Ho : okHead step ⟨k, st, th, sp, ce, x, ow, ga, er, by_⟩ = false := by simp only [okHead, decide_eq_false_iff_not]; omega
    rw [Ho, Bool.false_and]
    clear hlk Ho
    subst hwO hgO
    go_enter Try.func29, Try.ntmps29
    go_wp2
    go_ret
    exact ⟨rfl, H0.out⟩
  by_cases c2 : th < 1
  · have Ho : okHead step ⟨k, st, th, sp, ce, x, ow, ga, er, by_⟩ = false := by simp only [okHead, decide_eq_false_iff_not]; omega
    rw [Ho, Bool.false_and]
    clear hlk Ho
    subst hwO hgO
    go_enter Try.func29, Try.ntmps29
    go_wp2
    go_ret
    exact ⟨rfl, H0.out⟩
  by_cases c3 : 8 < th
  · have Ho : okHead step ⟨k, st, th, sp, ce, x, ow, ga, er, by_⟩ = false := by simp only [okHead, decide_eq_false_iff_not]; omega
    rw [Ho, Bool.false_and]
    clear hlk Ho
    subst hwO hgO
    go_enter Try.func29, Try.ntmps29
    go_wp2
    go_ret
    exact ⟨rfl, H0.out⟩
  by_cases c4 : st < 1
  · have Ho : okHead step ⟨k, st, th, sp, ce, x, ow, ga, er, by_⟩ = false := by simp only [okHead, decide_eq_false_iff_not]; omega
    rw [Ho, Bool.false_and]
    clear hlk Ho
    subst hwO hgO
    go_enter Try.func29, Try.ntmps29
    go_wp2
    go_ret
    exact ⟨rfl, H0.out⟩
  by_cases c5 : st < step
  · have Ho : okHead step ⟨k, st, th, sp, ce, x, ow, ga, er, by_⟩ = false := by simp only [okHead, decide_eq_false_iff_not]; omega
    rw [Ho, Bool.false_and]
    clear hlk Ho
    subst hwO hgO
    go_enter Try.func29, Try.ntmps29
    go_wp2
    go_ret
    exact ⟨rfl, H0.out⟩
  by_cases c6 : sp < 1
  · have Ho : okHead step ⟨k, st, th, sp, ce, x, ow, ga, er, by_⟩ = false := by simp only [okHead, decide_eq_false_iff_not]; omega
    rw [Ho, Bool.false_and]
    clear hlk Ho
    subst hwO hgO
    go_enter Try.func29, Try.ntmps29
    go_wp2
    go_ret
    exact ⟨rfl, H0.out⟩
  by_cases c7 : st < sp
  · have Ho : okHead step ⟨k, st, th, sp, ce, x, ow, ga, er, by_⟩ = false := by simp only [okHead, decide_eq_false_iff_not]; omega
    rw [Ho, Bool.false_and]
    clear hlk Ho
    subst hwO hgO
    go_enter Try.func29, Try.ntmps29
    go_wp2
    go_ret
    exact ⟨rfl, H0.out⟩
  have Ho : okHead step ⟨k, st, th, sp, ce, x, ow, ga, er, by_⟩ = true := by simp only [okHead, decide_eq_true_eq]; omega
  rw [Ho, Bool.true_and]
  cases ho : opn th with
  | none =>
    rw [ho] at hlk
    simp only [Option.map_none, Option.getD_none, Option.isSome_none] at hlk
    have Ht : okTail ⟨sts, opn, step⟩ ⟨k, st, th, sp, ce, x, ow, ga, er, by_⟩ = decide (k = 1 ∨ k = 6) := by simp only [okTail, ho, first]
    rw [Ht]
    by_cases k1 : k = 1
    · subst k1
      clear Ht Ho ho
      subst hwO hgO
      go_enter Try.func29, Try.ntmps29
      go_wp2
      go_ret
      exact ⟨by simp, H0.out⟩
    · by_cases k6 : k = 6
      · subst k6
        clear Ht Ho ho
        subst hwO hgO
        go_enter Try.func29, Try.ntmps29
        go_wp2
        go_ret
        exact ⟨by simp, H0.out⟩
      · have kk1 : (k == 1) = false := by simpa using k1
        have kk6 : (k == 6) = false := by simpa using k6
        clear Ht Ho ho
        subst hwO hgO
        go_enter Try.func29, Try.ntmps29
        go_wp2
        go_quiet (fail)
        go_wp2
        go_ret
        exact ⟨by simp [k1, k6], (H0.out.trans ⟨rfl, rfl, rfl, Nat.le_refl _, fun _ _ => rfl⟩)⟩
  | some i =>
    rw [ho] at hlk
    simp only [Option.map_some, Option.getD_some, Option.isSome_some] at hlk
    have hi := hlt th i ho
    obtain ⟨s, hs⟩ : ∃ s, sts[i]? = some s := ⟨_, List.getElem?_eq_getElem (by omega)⟩
    obtain ⟨v, hvv⟩ : ∃ v, vs[i]? = some v := ⟨_, List.getElem?_eq_getElem (by omega)⟩
    have Ht : okTail ⟨sts, opn, step⟩ ⟨k, st, th, sp, ce, x, ow, ga, er, by_⟩ = (!decide (k = 1 ∨ k = 6) && decide (s.stamp = sp)) := by simp only [okTail, ho, first, hs, Option.map_some, Option.some.injEq]
    rw [Ht]
    obtain ⟨g, rfl, _, _, hc, _⟩ := (hN.pull 2).rowAt (by omega)
    have f1 : wO.cell? ⟨g, i * 10 + 1, none⟩ = some (.int .i64 s.stamp) := by rw [hc _ (by omega), stosC_at hs hvv (by omega)]; rfl
    have hiz : (i : Int) < n := by omega
    clear hc hlt
    by_cases k1 : k = 1
    · subst k1
      clear Ht Ho ho
      subst hwO hgO
      go_enter Try.func29, Try.ntmps29
      go_wp2
      go_ret
      exact ⟨by simp, H0.out⟩
    · by_cases k6 : k = 6
      · subst k6
        clear Ht Ho ho
        subst hwO hgO
        go_enter Try.func29, Try.ntmps29
        go_wp2
        go_ret
        exact ⟨by simp, H0.out⟩
      · have kk1 : (k == 1) = false := by simpa using k1
        have kk6 : (k == 6) = false := by simpa using k6
        have hd : decide (k = 1 ∨ k = 6) = false := by simp [k1, k6]
        have hb : (s.stamp == sp) = decide (s.stamp = sp) := by by_cases h : s.stamp = sp <;> simp [h]
        rw [hd]
        clear Ht Ho ho hd hs
        subst hwO hgO
        go_enter Try.func29, Try.ntmps29
        go_wp2
        go_quiet (fail)
        go_wp2
        go_ret
        exact ⟨by rw [← hb]; rfl, (H0.out.trans ⟨rfl, rfl, rfl, Nat.le_refl _, fun _ _ => rfl⟩)⟩
end
theorem right_any (e : Ev) (step : Int) (mb : Nat) (m : List (Int × Value)) (A : Option Addr) (n c : Nat) (sts : List Sto) (vs : List Value) (opn : Int → Option Nat) (R : List HA) (W w : World)
    (hS : Star W w (mapA encI mb m :: rowA 36 10 (.slice A n c) n (stosC sts vs) :: R)) (hn : sts.length = n) (hv : vs.length = n) (hm : ∀ t, lookM m t = (opn t).map fun i : Nat => Value.int .i64 (i : Int)) (hlt : ∀ t i, opn t = some i → i < n) :
    Calls Try.prog 29 #[.agg (evC e).toArray, .int .i64 step, .map (some mb), .slice A n c] w fun e' w' => e' = .returned (.bool (okHead step e && okTail ⟨sts, opn, step⟩ e)) ∧ Below w.heap.size w w' := by
  obtain ⟨k, st, th, sp, ce, x, ow, ga, er, by_⟩ := e
  exact right_raw k st th sp ce x ow ga er by_ step mb m A n c sts vs opn R W w hS hn hv hm hlt
end Go.Proofs.Ytfekjbaojefhoaa
