/- trial -/
import Derived.Test.YtaobddimjccbnaaT3
namespace Go.Proofs.Ytaobddimjccbnaa
open Go.RowKit
set_option linter.unusedVariables false

/-- what 'does' leaves -/
def Did (W : World) (b b' : Nat) (most : Int) (R : List HA) (e : Ending) (w' : World) : Prop :=
  e = .returned (.bool true) ∧ ∃ ys : List Int, (ys.length : Int) ≤ most ∧ Star W w' (stackA 67 b most ys :: stackA 62 b' most ys :: R)

theorem did_mk {W : World} {b b' : Nat} {most : Int} {R : List HA} {w' : World} {v : Bool} {A : HA} (ys : List Int) (hv : v = true) (hl : (ys.length : Int) ≤ most) (h : Star W w' (stackA 67 b most ys :: stackA 62 b' most ys :: A :: R)) :
    Did W b b' most R (.returned (.bool v)) w' := ⟨by rw [hv], ys, hl, (h.pull 2).drop⟩

section
variable (b b' : Nat) (most : Int) (xs : List Int) (o : Bool) (x : Int) (R : List HA) (W w : World) (hS : Star W w (stackA 67 b most xs :: stackA 62 b' most xs :: R)) (hl : (xs.length : Int) ≤ most)
include hS hl

set_option maxHeartbeats 1000000 in
set_option maxRecDepth 100000 in
theorem does1 (hm : most ≤ 256) : Calls Try.prog 26 #[.pointer (some ⟨b, 0, none⟩), .pointer (some ⟨b', 0, none⟩), .agg #[.bool o, .int .i64 1, .int .i64 x]] w (Did W b b' most R) := by
  have hB := (hS.new (.cells #[.bool o, .int .i64 1, .int .i64 x] 58)).push 2
  by_cases hf : most ≤ xs.length
  · go_enter Try.func26, Try.ntmps26
    go_wp2_with fail
    refine (push_full b most xs x _ W _ hB hf).mono ?_
    rintro e w2 ⟨rfl, hS2⟩
    have d2 : w2.cell? ⟨w.heap.size, 2, none⟩ = some (.int .i64 x) := (hS2.pull 2).cell 2
    go_wp2_with fail
    refine (rpush_full b' most xs x _ W _ hS2.swap hf).mono ?_
    rintro e w3 ⟨rfl, hS3⟩
    go_wp2
    go_ret
    exact did_mk xs (by simp) hl hS3.swap
  · have hf' : (xs.length : Int) < most := by omega
    clear hf
    go_enter Try.func26, Try.ntmps26
    go_wp2_with fail
    refine (push_ok b most xs x _ W _ hB hf' (by omega)).mono ?_
    rintro e w2 ⟨rfl, hS2⟩
    have d2 : w2.cell? ⟨w.heap.size, 2, none⟩ = some (.int .i64 x) := (hS2.pull 2).cell 2
    go_wp2_with fail
    refine (rpush_ok b' most xs x _ W _ hS2.swap hf' (by omega)).mono ?_
    rintro e w3 ⟨rfl, hS3⟩
    go_wp2
    go_ret
    exact did_mk (xs ++ [x]) (by simp) (by simp; omega) hS3.swap

set_option maxHeartbeats 1000000 in
set_option maxRecDepth 100000 in
theorem does2 (hm : most ≤ 256) : Calls Try.prog 26 #[.pointer (some ⟨b, 0, none⟩), .pointer (some ⟨b', 0, none⟩), .agg #[.bool o, .int .i64 2, .int .i64 x]] w (Did W b b' most R) := by
  have hB := (hS.new (.cells #[.bool o, .int .i64 2, .int .i64 x] 58)).push 2
  rcases List.eq_nil_or_concat xs with rfl | ⟨ys, y, rfl⟩
  · go_enter Try.func26, Try.ntmps26
    go_wp2_with fail
    refine (pop_none b most _ W _ hB).mono ?_
    rintro e w2 ⟨rfl, rfl⟩
    go_wp2_with fail
    refine (rpop_none b' most _ W _ hB.swap).mono ?_
    rintro e w3 ⟨rfl, rfl⟩
    go_wp2
    go_ret
    exact did_mk [] (by simp) hl hB
  · rw [List.concat_eq_append] at hB hl
    simp only [List.length_append, List.length_cons, List.length_nil] at hl
    go_enter Try.func26, Try.ntmps26
    go_wp2_with fail
    refine (pop_some b most ys y _ W _ hB).mono ?_
    rintro e w2 ⟨rfl, hS2⟩
    go_wp2_with fail
    refine (rpop_some b' most ys y _ W _ hS2.swap (by omega)).mono ?_
    rintro e w3 ⟨rfl, hS3⟩
    go_wp2
    go_ret
    exact did_mk ys (by simp) (by omega) hS3.swap

set_option maxHeartbeats 1000000 in
set_option maxRecDepth 100000 in
theorem does3 : Calls Try.prog 26 #[.pointer (some ⟨b, 0, none⟩), .pointer (some ⟨b', 0, none⟩), .agg #[.bool o, .int .i64 3, .int .i64 x]] w (Did W b b' most R) := by
  have hB := (hS.new (.cells #[.bool o, .int .i64 3, .int .i64 x] 58)).push 2
  by_cases hk : x < 0 ∨ (xs.length : Int) ≤ x
  · have Hk := Lib.hid hk
    clear hk
    go_enter Try.func26, Try.ntmps26
    go_wp2_with fail
    refine (peek_out b most xs x _ W _ hB Hk.out).mono ?_
    rintro e w2 ⟨rfl, rfl⟩
    go_wp2_with fail
    refine (rpeek_out b' most xs x _ W _ hB.swap Hk.out).mono ?_
    rintro e w3 ⟨rfl, rfl⟩
    go_wp2
    go_ret
    exact did_mk xs (by simp) hl hB
  · obtain ⟨h0, h1⟩ : 0 ≤ x ∧ x < (xs.length : Int) := by omega
    clear hk
    go_enter Try.func26, Try.ntmps26
    go_wp2_with fail
    refine (peek_in b most xs x _ W _ hB h0 h1).mono ?_
    rintro e w2 ⟨rfl, hS2⟩
    have d2 : w2.cell? ⟨w.heap.size, 2, none⟩ = some (.int .i64 x) := (hS2.pull 2).cell 2
    go_wp2_with fail
    refine (rpeek_in b' most xs x _ W _ hS2.swap h0 h1).mono ?_
    rintro e w3 ⟨rfl, hS3⟩
    go_wp2
    go_ret
    exact did_mk xs (by simp) hl hS3.swap

set_option maxHeartbeats 1000000 in
set_option maxRecDepth 100000 in
theorem does4 : Calls Try.prog 26 #[.pointer (some ⟨b, 0, none⟩), .pointer (some ⟨b', 0, none⟩), .agg #[.bool o, .int .i64 4, .int .i64 x]] w (Did W b b' most R) := by
  have hB := (hS.new (.cells #[.bool o, .int .i64 4, .int .i64 x] 58)).push 2
  by_cases h2 : xs.length < 2
  · go_enter Try.func26, Try.ntmps26
    go_wp2_with fail
    refine (swap_no b most xs _ W _ hB h2).mono ?_
    rintro e w2 ⟨rfl, rfl⟩
    go_wp2_with fail
    refine (rswap_no b' most xs _ W _ hB.swap h2).mono ?_
    rintro e w3 ⟨rfl, rfl⟩
    go_wp2
    go_ret
    exact did_mk xs (by simp) hl hB
  · obtain ⟨ys, p, q, rfl⟩ : ∃ ys p q, xs = ys ++ [p, q] := by
      rcases List.eq_nil_or_concat xs with rfl | ⟨zs, q, rfl⟩
      · simp at h2
      · rcases List.eq_nil_or_concat zs with rfl | ⟨ys, p, rfl⟩
        · simp at h2
        · exact ⟨ys, p, q, by simp⟩
    clear h2
    simp only [List.length_append, List.length_cons, List.length_nil] at hl
    go_enter Try.func26, Try.ntmps26
    go_wp2_with fail
    refine (swap_ok b most ys p q _ W _ hB).mono ?_
    rintro e w2 ⟨rfl, hS2⟩
    go_wp2_with fail
    refine (rswap_ok b' most ys p q _ W _ hS2.swap).mono ?_
    rintro e w3 ⟨rfl, hS3⟩
    go_wp2
    go_ret
    exact did_mk (ys ++ [q, p]) (by simp) (by simp; omega) hS3.swap

set_option maxHeartbeats 1000000 in
set_option maxRecDepth 100000 in
theorem does5 (hm : most ≤ 256) : Calls Try.prog 26 #[.pointer (some ⟨b, 0, none⟩), .pointer (some ⟨b', 0, none⟩), .agg #[.bool o, .int .i64 5, .int .i64 x]] w (Did W b b' most R) := by
  have hB := (hS.new (.cells #[.bool o, .int .i64 5, .int .i64 x] 58)).push 2
  by_cases hk : x < 0 ∨ (xs.length : Int) < x
  · have Hk := Lib.hid hk
    clear hk
    obtain ⟨r, hr⟩ : ∃ r : Int, (if x < 0 then 1 else 12) = r := ⟨_, rfl⟩
    have Hr := Lib.hid hr
    clear hr
    go_enter Try.func26, Try.ntmps26
    go_wp2_with fail
    refine (cut_no b most xs x _ W _ hB Hk.out).mono ?_
    rintro e w2 ⟨rfl, rfl⟩
    rw [Hr.out]
    go_wp2_with fail
    refine (rcut_no b' most xs x _ W _ hB.swap Hk.out).mono ?_
    rintro e w3 ⟨rfl, rfl⟩
    rw [Hr.out]
    go_wp2
    go_ret
    exact did_mk xs (by simp) hl hB
  · obtain ⟨h0, h1⟩ : 0 ≤ x ∧ x ≤ (xs.length : Int) := by omega
    clear hk
    obtain ⟨k, rfl⟩ := Int.eq_ofNat_of_zero_le h0
    obtain ⟨ys, zs, rfl, hz⟩ : ∃ ys zs : List Int, xs = ys ++ zs ∧ k = zs.length := ⟨xs.take (xs.length - k), xs.drop (xs.length - k), by simp, by simp; omega⟩
    have Hz := Lib.hid hz
    clear hz
    simp only [List.length_append] at hl h1
    have Hz2 : k = zs.length := Hz.out
    have hzl : zs.length ≤ 256 := by omega
    have hyl : ys.length ≤ 256 := by omega
    have hyl2 : (ys.length : Int) ≤ most := by omega
    clear Hz2 h1 hl
    go_enter Try.func26, Try.ntmps26
    go_wp2_with fail
    refine (cut_ok b most ys zs k _ W _ hB (by have := Hz.out; omega)).mono ?_
    rintro e w2 ⟨rfl, hS2⟩
    have d2 : w2.cell? ⟨w.heap.size, 2, none⟩ = some (.int .i64 k) := (hS2.pull 2).cell 2
    go_wp2_with fail
    refine (rcut_ok b' most ys zs k _ W _ hS2.swap (by have := Hz.out; omega) (by omega) (by omega)).mono ?_
    rintro e w3 ⟨rfl, hS3⟩
    go_wp2
    go_ret
    exact did_mk ys (by simp) hyl2 hS3.swap

set_option maxHeartbeats 1000000 in
set_option maxRecDepth 100000 in
theorem does6 : Calls Try.prog 26 #[.pointer (some ⟨b, 0, none⟩), .pointer (some ⟨b', 0, none⟩), .agg #[.bool o, .int .i64 6, .int .i64 x]] w (Did W b b' most R) := by
  have hB := (hS.new (.cells #[.bool o, .int .i64 6, .int .i64 x] 58)).push 2
  have h0 : 0 ≤ most := by omega
  go_enter Try.func26, Try.ntmps26
  go_wp2_with fail
  refine (clear_any b most xs _ W _ hB).mono ?_
  rintro e w2 ⟨rfl, hS2⟩
  obtain ⟨a, n, c, rfl, h1⟩ := stack_open hS2.swap
  have c1 : w2.cell? ⟨b', 1, none⟩ = some (.slice a xs.length c) := h1.cell 1
  have f1 := h1.frozen
  go_wp2
  go_ret
  have h2 := stack_shut (((h1.set 1 (.slice none 0 0)).swap.drop.rowNil 3 1).swap) (xs := []) rfl
  exact did_mk [] (by simp) h0 h2.swap

set_option maxHeartbeats 1000000 in
set_option maxRecDepth 100000 in
theorem does0 (k : Int) (h1 : k ≠ 1) (h2 : k ≠ 2) (h3 : k ≠ 3) (h4 : k ≠ 4) (h5 : k ≠ 5) (h6 : k ≠ 6) (h7 : k ≠ 7) :
    Calls Try.prog 26 #[.pointer (some ⟨b, 0, none⟩), .pointer (some ⟨b', 0, none⟩), .agg #[.bool o, .int .i64 k, .int .i64 x]] w (Did W b b' most R) := by
  have hB := (hS.new (.cells #[.bool o, .int .i64 k, .int .i64 x] 58)).push 2
  have t1 : (k == 1) = false := beq_eq_false_iff_ne.2 h1
  have t2 : (k == 2) = false := beq_eq_false_iff_ne.2 h2
  have t3 : (k == 3) = false := beq_eq_false_iff_ne.2 h3
  have t4 : (k == 4) = false := beq_eq_false_iff_ne.2 h4
  have t5 : (k == 5) = false := beq_eq_false_iff_ne.2 h5
  have t6 : (k == 6) = false := beq_eq_false_iff_ne.2 h6
  have t7 : (k == 7) = false := beq_eq_false_iff_ne.2 h7
  clear h1 h2 h3 h4 h5 h6 h7
  go_enter Try.func26, Try.ntmps26
  go_wp2
  go_ret
  exact did_mk xs rfl hl hB

set_option maxHeartbeats 1000000 in
set_option maxRecDepth 100000 in
theorem does7 (hm : most ≤ 256) : Calls Try.prog 26 #[.pointer (some ⟨b, 0, none⟩), .pointer (some ⟨b', 0, none⟩), .agg #[.bool o, .int .i64 7, .int .i64 x]] w (Did W b b' most R) := by
  have hB := (hS.new (.cells #[.bool o, .int .i64 7, .int .i64 x] 58)).push 2
  obtain ⟨i0, hi, hz0, hz1, hz2⟩ := info_parts Try.info3
  have hl' : xs.length ≤ 256 := by omega
  go_enter Try.func26, Try.ntmps26
  go_wp2_with fail
  refine (all_any b most xs _ W _ hB (by omega)).mono ?_
  rintro e w2 ⟨a, c, rfl, hS2⟩
  have hA := hS2.rowSl
  obtain ⟨a', n', c', hn', h1⟩ := stack_open (hS2.pull 2)
  subst hn'
  have c1 : w2.cell? ⟨b', 1, none⟩ = some (.slice a' xs.length c') := h1.cell 1
  have hA' := h1.swap.rowSl
  have f1 := h1.frozen
  go_wp2_with fail
  refine (same_any a a' xs.length xs.length c c' xs xs _ rfl rfl hA hA' (by omega) (by omega)).mono ?_
  rintro e w3 ⟨rfl, q, rfl⟩
  have hS3 := hS2.drewN q
  have hd : decide (xs = xs) = true := by simp
  rw [hd]
  clear hd hA hA' h1 c1 f1 hB hS hS2
  generalize w2.drewN q = w3 at *
  go_wp2
  go_loopw [20] (fun i wr => ∃ k : Nat, k ≤ xs.length ∧ i = .int .i64 k ∧ ∃ ys : List Value, Star W wr (rowA 3 1 (.slice a xs.length c) xs.length ys :: stackA 67 b most xs :: stackA 62 b' most xs :: cellsA w.heap.size #[.bool o, .int .i64 7, .int .i64 x] 58 :: R)) (fun i _ => xs.length - (intOf i).toNat)
  case atStart => exact ⟨0, Nat.zero_le _, rfl, _, hS3⟩
  case round =>
    obtain ⟨k, hk, rfl, ys, hR⟩ := hrel
    by_cases hlt : k < xs.length
    · obtain ⟨g, rfl, hnc, hcm, hc, hf⟩ := hR.rowAt (by omega)
      have hck := hc k (by omega)
      have hlen := hR.rowLen
      rw [List.getElem?_eq_getElem (by omega)] at hck
      clear hc
      go_wp2
      go_roundw
      case rel => exact ⟨k + 1, by omega, by go_num, _, hR.rowSet k (.int .i64 (-7))⟩
      case measure => simp [intOf]; omega
    · have hN := ((hR.new (.cells #[.int .i64 1, .int .i64 2] 3)).pull 1)
      go_wp2_with (at_builtin; refine wpList_append_star rfl _ _ 22 rfl 3 i0 _ 1 8 Try.underlying22 hi hz0 hz1 hz2 rfl (by decide) _ _ _ rfl hN ⟨wr.heap.size, 0, none⟩ 2 2 [.int .i64 1, .int .i64 2] rfl rfl (cell_two_new _ _ _ _) (by simp [Value.oneCell']) (by simp only [maxLen]; omega) (by omega) ?_; intro a' c' w1 hS1)
      go_ret
      exact did_mk xs rfl hl (hS1.drop.drop)
end
end Go.Proofs.Ytaobddimjccbnaa
