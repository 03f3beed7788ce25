/- sameInts: lemmas for the laws of layer 22. -/
import Derived.Test.YtljdkfhkpjjfgaaOp9
namespace Go.Proofs.Ytljdkfhkpjjfgaa
open Go.RowKit Go.Shelf
set_option linter.unusedVariables false

set_option maxRecDepth 100000 in
set_option maxHeartbeats 6400000 in
theorem sameInts_any (xs ys : List Int) (A B : Option Addr) (n m c d : Nat) (w : World) (hA : Sl w A n 1 (intsC xs)) (hB : Sl w B m 1 (intsC ys)) (hb : n ≤ 9223372036854775807) :
    Calls Try.prog 13 #[.slice A n c, .slice B m d] w fun e w' => e = .returned (.bool (decide (xs = ys))) ∧ ∃ q, w' = w.drewN q := by
  have hn : xs.length = n := by have := hA.1; simp only [intsC, List.length_map] at this; omega
  have hm : ys.length = m := by have := hB.1; simp only [intsC, List.length_map] at this; omega
  by_cases hnm : n = m
  · subst hnm
    have HA := Lib.hid hA
    have HB := Lib.hid hB
    have HN := Lib.hid hn
    have HM := Lib.hid hm
    clear hA hB hn hm
    go_enter Try.func13, Try.ntmps13
    go_wp2_with fail
    go_loopw [5] (fun i wr => ∃ k : Nat, k ≤ n ∧ i = .int .i64 k ∧ (∃ q, wr = w.drewN q) ∧ Hid (xs.take k = ys.take k)) (fun i _ => n - (intOf i).toNat)
    case atStart => exact ⟨0, Nat.zero_le _, rfl, ⟨0, rfl⟩, Lib.hid (by simp)⟩
    case round =>
      obtain ⟨k, hk, rfl, ⟨q, rfl⟩, hE⟩ := hrel
      by_cases hlt : k < n
      · obtain ⟨x, hx⟩ : ∃ p, xs[k]? = some p := ⟨_, List.getElem?_eq_getElem (by have := HN.out; omega)⟩
        obtain ⟨y, hy⟩ : ∃ p, ys[k]? = some p := ⟨_, List.getElem?_eq_getElem (by have := HM.out; omega)⟩
        obtain ⟨g, o, rfl, hg, ca⟩ := HA.out.row hlt (by omega)
        obtain ⟨g', o', rfl, hg', cb⟩ := HB.out.row hlt (by omega)
        have a0 : w.cell? ⟨g, o + k * 1 + 0, none⟩ = some (.int .i64 x) := ca 0 _ (by simp [intsC, hx])
        have b0 : w.cell? ⟨g', o' + k * 1 + 0, none⟩ = some (.int .i64 y) := cb 0 _ (by simp [intsC, hy])
        simp only [Nat.add_zero, Nat.mul_one] at a0 b0
        have hkz : (k : Int) < n := by omega
        by_cases hxy : x = y
        · have hb0 : (x != y) = false := by simpa using hxy
          have e1 : xs.take (k + 1) = ys.take (k + 1) := by rw [take_succ hx, take_succ hy, hE.out, hxy]
          have E1 := Lib.hid e1
          clear ca cb hx hy hE e1 hxy
          go_wp2
          go_quiet (fail)
          go_wp2
          go_roundw
          case rel => exact ⟨k + 1, by omega, by go_num, ⟨_, rfl⟩, E1⟩
          case measure => simp [intOf]; omega
        · have hb0 : (x != y) = true := by simpa using hxy
          have e1 : decide (xs = ys) = false := by
            rw [decide_eq_false_iff_not]
            rintro rfl
            rw [hx] at hy
            injection hy with hy
            exact hxy hy
          have E1 := Lib.hid e1
          clear ca cb hx hy hE e1 hxy
          go_wp2
          go_quiet (fail)
          go_wp2
          go_ret
          exact ⟨by rw [E1.out]; rfl, _, by first | rfl | (rw [World.drewN_drewN]) | (simp)⟩
      · have hkn : k = n := by omega
        have e1 := hE.out
        rw [List.take_of_length_le (by have := HN.out; omega), List.take_of_length_le (by have := HM.out; omega)] at e1
        have e2 : decide (xs = ys) = true := by simpa using e1
        have E2 := Lib.hid e2
        have hkz : ¬ (k : Int) < n := by omega
        clear hE e1 e2
        go_wp2
        go_ret
        exact ⟨by rw [E2.out]; rfl, _, rfl⟩
  · have e1 : decide (xs = ys) = false := by
      rw [decide_eq_false_iff_not]
      rintro rfl
      omega
    have E1 := Lib.hid e1
    have hne : ((n : Int) != (m : Int)) = true := by
      rw [bne_iff_ne]
      omega
    clear hA hB e1
    go_enter Try.func13, Try.ntmps13
    go_wp2
    go_ret
    exact ⟨by rw [E1.out]; rfl, 0, rfl⟩
end Go.Proofs.Ytljdkfhkpjjfgaa
