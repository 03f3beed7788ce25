/- The law StackAny, walked. -/
import Derived.Test.YtaobddimjccbnaaG3
namespace Go.Proofs.Ytaobddimjccbnaa
open Go.RowKit
set_option linter.unusedVariables false

/-- the two stacks of one list -/
def pairL (a b : Nat) (xs : List ByteArray) (W : World) : List HA := [stackG 69 9 1 a 256 xs.length (strs xs), stackG 72 45 3 b 256 xs.length (thingsFrom 0 xs), oldA W]
theorem strs_snoc (xs : List ByteArray) (x : ByteArray) : strs (xs ++ [x]) = strs xs ++ [.string x] := by simp [strs]
theorem pair_snoc {W w : World} {a b : Nat} {xs : List ByteArray} {x : ByteArray}
    (h : Star W w [stackG 72 45 3 b 256 (xs.length + 1) (thingsFrom 0 xs ++ [.string x, .int .i64 xs.length, .int .i64 7]), stackG 69 9 1 a 256 (xs.length + 1) (strs xs ++ [.string x]), oldA W]) : Star W w (pairL a b (xs ++ [x]) W) := by
  have h2 := h.swap
  simp only [pairL, strs_snoc, things_snoc, List.length_append, List.length_cons, List.length_nil, Nat.zero_add]
  exact h2

section
variable (A : Option Addr) (len cap : Nat) (ss : List ByteArray) (cut : Int) (W : World)

set_option maxHeartbeats 2000000 in
set_option maxRecDepth 100000 in
theorem any_ok1 (hz : ss.length = len) (hA : Sl W A len 1 (strs ss)) (hlt : ∀ g o, A = some ⟨g, o, none⟩ → 0 < len → g < W.heap.size) (hlen : len ≤ 9223372036854775807) (hN : len ≤ 256) (N : Nat) (hNN : N = len) (hc : 0 ≤ cut) (hc2 : cut ≤ N) :
    Calls Try.prog 4 #[.slice A len cap, .int .i64 cut] W fun e w' => e = .returned (.bool true) ∧ Below W.heap.size W w' := by
  have hS := Star.begin W
  have HN := Lib.hid hNN
  have hN1 : N ≤ 256 := by omega
  have hN2 : N ≤ len := by omega
  clear hNN
  go_enter Try.func4, Try.ntmps4
  go_wp2_with fail
  refine (awake_any _ W _ hS).mono ?_
  rintro e w1 ⟨rfl, hS1⟩
  go_wp2_with fail
  refine (snew_ok 256 _ W _ hS1 (by omega) (by omega)).mono ?_
  rintro e w2 ⟨a, rfl, hS2⟩
  go_wp2_with fail
  refine (tnew_ok 256 _ W _ hS2 (by omega) (by omega)).mono ?_
  rintro e w3 ⟨b, rfl, hS3⟩
  have hP : Star W w3 (pairL a b [] W) := hS3.swap
  clear hS1 hS2 hS3
  go_wp2
  rw [show Value.int .i64 (len : Int) = Value.int .i64 (N : Int) by rw [HN.out]]
  go_loopw [11] (fun i wr => ∃ xs : List ByteArray, xs.length ≤ N ∧ Hid (xs = ss.take xs.length) ∧ i = .int .i64 xs.length ∧ Star W wr (pairL a b xs W)) (fun i _ => N - (intOf i).toNat)
  case atStart => exact ⟨[], Nat.zero_le _, rfl, rfl, hP⟩
  case round =>
    obtain ⟨xs, hk, Hx, rfl, hS5⟩ := hrel
    by_cases hkl : xs.length < N
    · obtain ⟨g, o, u, rfl, hu, hcu⟩ := hA.at1 (show xs.length < len by omega)
      obtain ⟨x, rfl, hx⟩ := strs_get hu
      have Hx1 := Lib.hid hx
      have hg := hlt g o rfl (by omega)
      clear hx hu hA hlt
      have hcr := hcu
      rw [← (hS5.pull 2).oldCell (p := ⟨g, o + xs.length, none⟩) hg] at hcr
      go_wp2_with fail
      refine (spush a 256 xs.length (strs xs) x _ W _ hS5 (by omega) (by omega)).mono ?_
      rintro e w6 ⟨rfl, hS6⟩
      have hcr6 := hcu
      rw [← (hS6.pull 2).oldCell (p := ⟨g, o + xs.length, none⟩) hg] at hcr6
      go_wp2_with fail
      refine (tpush b 256 xs.length (thingsFrom 0 xs) x xs.length 7 _ W _ hS6.swap (by omega) (by omega)).mono ?_
      rintro e w7 ⟨rfl, hS7⟩
      go_wp2
      go_roundw
      case rel => exact ⟨xs ++ [x], by simp; omega, by simp only [List.length_append, List.length_cons, List.length_nil]; rw [take_snoc Hx1.out, ← Hx.out]; rfl, by simp, pair_snoc hS7⟩
      case measure => simp [intOf]; omega
    · have hkk : xs.length = N := by omega
      obtain ⟨c, rfl⟩ := Int.eq_ofNat_of_zero_le hc
      obtain ⟨ys, zs, rfl, hzc⟩ : ∃ ys zs : List ByteArray, xs = ys ++ zs ∧ zs.length = c := ⟨xs.take (xs.length - c), xs.drop (xs.length - c), by simp, by simp; omega⟩
      simp only [List.length_append] at hkk
      have hyl : ys.length ≤ len := by omega
      have hL : (N : Int) - (c : Int) = (ys.length : Int) := by omega
      have Hy : Hid (ys = ss.take ys.length) := by
        have h1 := congrArg (List.take ys.length) Hx.out
        rw [List.take_take, List.take_append_of_le_length (Nat.le_refl _), List.take_of_length_le (Nat.le_refl _), Nat.min_eq_left (by simp)] at h1
        exact h1
      have hS5' : Star W wr [stackG 69 9 1 a 256 (ys.length + zs.length) (strs (ys ++ zs)), stackG 72 45 3 b 256 (ys.length + zs.length) (thingsFrom 0 (ys ++ zs)), oldA W] := by
        have h1 := hS5; simp only [pairL, List.length_append] at h1; exact h1
      have hge : N ≤ ys.length + zs.length := by omega
      have Hkk := Lib.hid hkk
      have Hzc := Lib.hid hzc
      have HL := Lib.hid hL
      clear hkk hzc hL hS5 hkl hk
      go_wp2_with fail
      refine (scut_ok a 256 zs.length ys.length c (strs (ys ++ zs)) _ W _ hS5' (by have := Hzc.out; omega)).mono ?_
      rintro e w6 ⟨rfl, hS6⟩
      go_wp2_with fail
      refine (tcut_ok b 256 zs.length ys.length c (thingsFrom 0 (ys ++ zs)) _ W _ hS6.swap (by have := Hzc.out; omega)).mono ?_
      rintro e w7 ⟨rfl, hS7⟩
      have hS8 : Star W w7 (pairL a b ys W) := by
        have h1 := hS7.swap
        rw [things_take, List.take_append_of_le_length (Nat.le_refl _), List.take_of_length_le (Nat.le_refl _)] at h1
        have e1 : (strs (ys ++ zs)).take ys.length = strs ys := by simp [strs]
        rw [e1] at h1
        exact h1
      clear hS7 hS6 hS5'
      have hL := HL.out
      have tl : ((ys.length : Int) != ys.length) = false := by simp
      go_wp2_with fail
      refine (slen a 256 ys.length (strs ys) _ W _ hS8).mono ?_
      rintro e w8 ⟨rfl, rfl⟩
      go_wp2_with fail
      refine (tlen b 256 ys.length (thingsFrom 0 ys) _ W _ hS8.swap).mono ?_
      rintro e w9 ⟨rfl, rfl⟩
      go_wp2
      go_loopw [17] (fun i wr => ∃ k : Nat, k ≤ ys.length ∧ i = .int .i64 k ∧ Star W wr (pairL a b ys W)) (fun i _ => ys.length - (intOf i).toNat)
      case atStart => exact ⟨0, Nat.zero_le _, rfl, hS8⟩
      case round =>
        obtain ⟨k, hk, rfl, hS9⟩ := hrel
        clear hL
        by_cases hkl : k < ys.length
        · obtain ⟨x, hx⟩ : ∃ x, ys[k]? = some x := ⟨_, List.getElem?_eq_getElem hkl⟩
          obtain ⟨g, o, u, rfl, hu, hcu⟩ := hA.at1 (show k < len by omega)
          have hux : u = .string x := by
            obtain ⟨y, rfl, hy⟩ := strs_get hu
            have h2 := hx
            rw [Hy.out, List.getElem?_take, if_pos hkl, hy] at h2
            injection h2 with h2; rw [h2]
          subst hux
          have hg := hlt g o rfl (by omega)
          have hsx : (strs ys)[ys.length - 1 - ((ys.length : Int) - 1 - k).toNat]? = some (.string x) := by
            rw [show ys.length - 1 - ((ys.length : Int) - 1 - k).toNat = k by omega]; simp [strs, hx]
          obtain ⟨t1, t2, t3⟩ := things_at ys 0 k x hx
          rw [show k = ys.length - 1 - ((ys.length : Int) - 1 - k).toNat by omega] at t1 t2 t3
          rw [show (0 + (ys.length - 1 - ((ys.length : Int) - 1 - k).toNat) : Nat) = k by omega] at t2
          clear hA hu hx hlt
          have P1 := Lib.hid (speek a 256 ys.length (strs ys) ((ys.length : Int) - 1 - k) x _ W _ hS9 (by omega) (by omega) hsx)
          have P2 : Hid (∀ (R : List HA) (w : World), Star W w (stackG 72 45 3 b 256 ys.length (thingsFrom 0 ys) :: R) → Calls Try.prog 23 #[.pointer (some ⟨b, 0, none⟩), .int .i64 ((ys.length : Int) - 1 - k)] w fun e w' => e = .returned (.tuple #[.agg #[.string x, .int .i64 k, .int .i64 7], .int .i64 0]) ∧ Star W w' (stackG 72 45 3 b 256 ys.length (thingsFrom 0 ys) :: R)) :=
            fun R w h => tpeek_in b 256 ys.length (thingsFrom 0 ys) ((ys.length : Int) - 1 - k) x k 7 R W w h (by omega) (by omega) t1 t2 t3
          clear hsx t1 t2 t3
          go_wp2_with fail
          refine P1.out.mono ?_
          rintro e w10 ⟨rfl, hS10⟩
          go_wp2_with fail
          refine (P2.out _ _ hS10.swap).mono ?_
          rintro e w11 ⟨rfl, hS11⟩
          have hg11 : g < w11.heap.size := by have := (hS11.pull 2).oldSize; omega
          rw [← (hS11.pull 2).oldCell (p := ⟨g, o + k, none⟩) hg] at hcu
          have tn := fun w => thing_neq x x k k 7 7 w
          clear P1 P2 hS10 hS9
          go_wp2
          go_quiet (fail)
          go_wp2
          go_roundw
          case rel => exact ⟨k + 1, by omega, by go_num, (hS11.swap.new _).drop.drewN _⟩
          case measure => simp [intOf]; omega
        · have hkk2 : k = ys.length := by omega
          subst hkk2
          clear hkl
          go_wp2_with fail
          refine (tpeek_out b 256 ys.length (thingsFrom 0 ys) ys.length _ W _ hS9.swap (by omega)).mono ?_
          rintro e w10 ⟨rfl, hS10⟩
          have te := fun w => thing_eql ⟨#[]⟩ ⟨#[]⟩ 0 0 0 0 w
          go_wp2
          go_ret
          exact ⟨by simp, ((hS10.pull 2).new _ |>.swap).below⟩
set_option maxHeartbeats 2000000 in
set_option maxRecDepth 100000 in
theorem any_ok2 (hz : ss.length = len) (hA : Sl W A len 1 (strs ss)) (hlt : ∀ g o, A = some ⟨g, o, none⟩ → 0 < len → g < W.heap.size) (hlen : len ≤ 9223372036854775807) (hN : 256 < len) (N : Nat) (hNN : N = 256) (hc : 0 ≤ cut) (hc2 : cut ≤ N) :
    Calls Try.prog 4 #[.slice A len cap, .int .i64 cut] W fun e w' => e = .returned (.bool true) ∧ Below W.heap.size W w' := by
  have hS := Star.begin W
  have HN := Lib.hid hNN
  have hN1 : N ≤ 256 := by omega
  have hN2 : N ≤ len := by omega
  clear hNN
  go_enter Try.func4, Try.ntmps4
  go_wp2_with fail
  refine (awake_any _ W _ hS).mono ?_
  rintro e w1 ⟨rfl, hS1⟩
  go_wp2_with fail
  refine (snew_ok 256 _ W _ hS1 (by omega) (by omega)).mono ?_
  rintro e w2 ⟨a, rfl, hS2⟩
  go_wp2_with fail
  refine (tnew_ok 256 _ W _ hS2 (by omega) (by omega)).mono ?_
  rintro e w3 ⟨b, rfl, hS3⟩
  have hP : Star W w3 (pairL a b [] W) := hS3.swap
  clear hS1 hS2 hS3
  go_wp2
  rw [show Value.int .i64 256 = Value.int .i64 (N : Int) by rw [HN.out]; rfl]
  go_loopw [11] (fun i wr => ∃ xs : List ByteArray, xs.length ≤ N ∧ Hid (xs = ss.take xs.length) ∧ i = .int .i64 xs.length ∧ Star W wr (pairL a b xs W)) (fun i _ => N - (intOf i).toNat)
  case atStart => exact ⟨[], Nat.zero_le _, rfl, rfl, hP⟩
  case round =>
    obtain ⟨xs, hk, Hx, rfl, hS5⟩ := hrel
    by_cases hkl : xs.length < N
    · obtain ⟨g, o, u, rfl, hu, hcu⟩ := hA.at1 (show xs.length < len by omega)
      obtain ⟨x, rfl, hx⟩ := strs_get hu
      have Hx1 := Lib.hid hx
      have hg := hlt g o rfl (by omega)
      clear hx hu hA hlt
      have hcr := hcu
      rw [← (hS5.pull 2).oldCell (p := ⟨g, o + xs.length, none⟩) hg] at hcr
      go_wp2_with fail
      refine (spush a 256 xs.length (strs xs) x _ W _ hS5 (by omega) (by omega)).mono ?_
      rintro e w6 ⟨rfl, hS6⟩
      have hcr6 := hcu
      rw [← (hS6.pull 2).oldCell (p := ⟨g, o + xs.length, none⟩) hg] at hcr6
      go_wp2_with fail
      refine (tpush b 256 xs.length (thingsFrom 0 xs) x xs.length 7 _ W _ hS6.swap (by omega) (by omega)).mono ?_
      rintro e w7 ⟨rfl, hS7⟩
      go_wp2
      go_roundw
      case rel => exact ⟨xs ++ [x], by simp; omega, by simp only [List.length_append, List.length_cons, List.length_nil]; rw [take_snoc Hx1.out, ← Hx.out]; rfl, by simp, pair_snoc hS7⟩
      case measure => simp [intOf]; omega
    · have hkk : xs.length = N := by omega
      obtain ⟨c, rfl⟩ := Int.eq_ofNat_of_zero_le hc
      obtain ⟨ys, zs, rfl, hzc⟩ : ∃ ys zs : List ByteArray, xs = ys ++ zs ∧ zs.length = c := ⟨xs.take (xs.length - c), xs.drop (xs.length - c), by simp, by simp; omega⟩
      simp only [List.length_append] at hkk
      have hyl : ys.length ≤ len := by omega
      have hL : (N : Int) - (c : Int) = (ys.length : Int) := by omega
      have Hy : Hid (ys = ss.take ys.length) := by
        have h1 := congrArg (List.take ys.length) Hx.out
        rw [List.take_take, List.take_append_of_le_length (Nat.le_refl _), List.take_of_length_le (Nat.le_refl _), Nat.min_eq_left (by simp)] at h1
        exact h1
      have hS5' : Star W wr [stackG 69 9 1 a 256 (ys.length + zs.length) (strs (ys ++ zs)), stackG 72 45 3 b 256 (ys.length + zs.length) (thingsFrom 0 (ys ++ zs)), oldA W] := by
        have h1 := hS5; simp only [pairL, List.length_append] at h1; exact h1
      have hge : N ≤ ys.length + zs.length := by omega
      have Hkk := Lib.hid hkk
      have Hzc := Lib.hid hzc
      have HL := Lib.hid hL
      clear hkk hzc hL hS5 hkl hk
      go_wp2_with fail
      refine (scut_ok a 256 zs.length ys.length c (strs (ys ++ zs)) _ W _ hS5' (by have := Hzc.out; omega)).mono ?_
      rintro e w6 ⟨rfl, hS6⟩
      go_wp2_with fail
      refine (tcut_ok b 256 zs.length ys.length c (thingsFrom 0 (ys ++ zs)) _ W _ hS6.swap (by have := Hzc.out; omega)).mono ?_
      rintro e w7 ⟨rfl, hS7⟩
      have hS8 : Star W w7 (pairL a b ys W) := by
        have h1 := hS7.swap
        rw [things_take, List.take_append_of_le_length (Nat.le_refl _), List.take_of_length_le (Nat.le_refl _)] at h1
        have e1 : (strs (ys ++ zs)).take ys.length = strs ys := by simp [strs]
        rw [e1] at h1
        exact h1
      clear hS7 hS6 hS5'
      have hL := HL.out
      have tl : ((ys.length : Int) != ys.length) = false := by simp
      go_wp2_with fail
      refine (slen a 256 ys.length (strs ys) _ W _ hS8).mono ?_
      rintro e w8 ⟨rfl, rfl⟩
      go_wp2_with fail
      refine (tlen b 256 ys.length (thingsFrom 0 ys) _ W _ hS8.swap).mono ?_
      rintro e w9 ⟨rfl, rfl⟩
      go_wp2
      go_loopw [17] (fun i wr => ∃ k : Nat, k ≤ ys.length ∧ i = .int .i64 k ∧ Star W wr (pairL a b ys W)) (fun i _ => ys.length - (intOf i).toNat)
      case atStart => exact ⟨0, Nat.zero_le _, rfl, hS8⟩
      case round =>
        obtain ⟨k, hk, rfl, hS9⟩ := hrel
        clear hL
        by_cases hkl : k < ys.length
        · obtain ⟨x, hx⟩ : ∃ x, ys[k]? = some x := ⟨_, List.getElem?_eq_getElem hkl⟩
          obtain ⟨g, o, u, rfl, hu, hcu⟩ := hA.at1 (show k < len by omega)
          have hux : u = .string x := by
            obtain ⟨y, rfl, hy⟩ := strs_get hu
            have h2 := hx
            rw [Hy.out, List.getElem?_take, if_pos hkl, hy] at h2
            injection h2 with h2; rw [h2]
          subst hux
          have hg := hlt g o rfl (by omega)
          have hsx : (strs ys)[ys.length - 1 - ((ys.length : Int) - 1 - k).toNat]? = some (.string x) := by
            rw [show ys.length - 1 - ((ys.length : Int) - 1 - k).toNat = k by omega]; simp [strs, hx]
          obtain ⟨t1, t2, t3⟩ := things_at ys 0 k x hx
          rw [show k = ys.length - 1 - ((ys.length : Int) - 1 - k).toNat by omega] at t1 t2 t3
          rw [show (0 + (ys.length - 1 - ((ys.length : Int) - 1 - k).toNat) : Nat) = k by omega] at t2
          clear hA hu hx hlt
          have P1 := Lib.hid (speek a 256 ys.length (strs ys) ((ys.length : Int) - 1 - k) x _ W _ hS9 (by omega) (by omega) hsx)
          have P2 : Hid (∀ (R : List HA) (w : World), Star W w (stackG 72 45 3 b 256 ys.length (thingsFrom 0 ys) :: R) → Calls Try.prog 23 #[.pointer (some ⟨b, 0, none⟩), .int .i64 ((ys.length : Int) - 1 - k)] w fun e w' => e = .returned (.tuple #[.agg #[.string x, .int .i64 k, .int .i64 7], .int .i64 0]) ∧ Star W w' (stackG 72 45 3 b 256 ys.length (thingsFrom 0 ys) :: R)) :=
            fun R w h => tpeek_in b 256 ys.length (thingsFrom 0 ys) ((ys.length : Int) - 1 - k) x k 7 R W w h (by omega) (by omega) t1 t2 t3
          clear hsx t1 t2 t3
          go_wp2_with fail
          refine P1.out.mono ?_
          rintro e w10 ⟨rfl, hS10⟩
          go_wp2_with fail
          refine (P2.out _ _ hS10.swap).mono ?_
          rintro e w11 ⟨rfl, hS11⟩
          have hg11 : g < w11.heap.size := by have := (hS11.pull 2).oldSize; omega
          rw [← (hS11.pull 2).oldCell (p := ⟨g, o + k, none⟩) hg] at hcu
          have tn := fun w => thing_neq x x k k 7 7 w
          clear P1 P2 hS10 hS9
          go_wp2
          go_quiet (fail)
          go_wp2
          go_roundw
          case rel => exact ⟨k + 1, by omega, by go_num, (hS11.swap.new _).drop.drewN _⟩
          case measure => simp [intOf]; omega
        · have hkk2 : k = ys.length := by omega
          subst hkk2
          clear hkl
          go_wp2_with fail
          refine (tpeek_out b 256 ys.length (thingsFrom 0 ys) ys.length _ W _ hS9.swap (by omega)).mono ?_
          rintro e w10 ⟨rfl, hS10⟩
          have te := fun w => thing_eql ⟨#[]⟩ ⟨#[]⟩ 0 0 0 0 w
          go_wp2
          go_ret
          exact ⟨by simp, ((hS10.pull 2).new _ |>.swap).below⟩
set_option maxHeartbeats 2000000 in
set_option maxRecDepth 100000 in
theorem any_bad1 (hz : ss.length = len) (hA : Sl W A len 1 (strs ss)) (hlt : ∀ g o, A = some ⟨g, o, none⟩ → 0 < len → g < W.heap.size) (hlen : len ≤ 9223372036854775807) (hN : len ≤ 256) (N : Nat) (hNN : N = len) (hc : cut < 0 ∨ (N : Int) < cut) :
    Calls Try.prog 4 #[.slice A len cap, .int .i64 cut] W fun e w' => e = .returned (.bool true) ∧ Below W.heap.size W w' := by
  have hS := Star.begin W
  have HN := Lib.hid hNN
  have hN1 : N ≤ 256 := by omega
  have hN2 : N ≤ len := by omega
  have Hc := Lib.hid hc
  clear hc
  clear hNN
  go_enter Try.func4, Try.ntmps4
  go_wp2_with fail
  refine (awake_any _ W _ hS).mono ?_
  rintro e w1 ⟨rfl, hS1⟩
  go_wp2_with fail
  refine (snew_ok 256 _ W _ hS1 (by omega) (by omega)).mono ?_
  rintro e w2 ⟨a, rfl, hS2⟩
  go_wp2_with fail
  refine (tnew_ok 256 _ W _ hS2 (by omega) (by omega)).mono ?_
  rintro e w3 ⟨b, rfl, hS3⟩
  have hP : Star W w3 (pairL a b [] W) := hS3.swap
  clear hS1 hS2 hS3
  go_wp2
  rw [show Value.int .i64 (len : Int) = Value.int .i64 (N : Int) by rw [HN.out]]
  go_loopw [11] (fun i wr => ∃ xs : List ByteArray, xs.length ≤ N ∧ Hid (xs = ss.take xs.length) ∧ i = .int .i64 xs.length ∧ Star W wr (pairL a b xs W)) (fun i _ => N - (intOf i).toNat)
  case atStart => exact ⟨[], Nat.zero_le _, rfl, rfl, hP⟩
  case round =>
    obtain ⟨xs, hk, Hx, rfl, hS5⟩ := hrel
    by_cases hkl : xs.length < N
    · obtain ⟨g, o, u, rfl, hu, hcu⟩ := hA.at1 (show xs.length < len by omega)
      obtain ⟨x, rfl, hx⟩ := strs_get hu
      have Hx1 := Lib.hid hx
      have hg := hlt g o rfl (by omega)
      clear hx hu hA hlt
      have hcr := hcu
      rw [← (hS5.pull 2).oldCell (p := ⟨g, o + xs.length, none⟩) hg] at hcr
      go_wp2_with fail
      refine (spush a 256 xs.length (strs xs) x _ W _ hS5 (by omega) (by omega)).mono ?_
      rintro e w6 ⟨rfl, hS6⟩
      have hcr6 := hcu
      rw [← (hS6.pull 2).oldCell (p := ⟨g, o + xs.length, none⟩) hg] at hcr6
      go_wp2_with fail
      refine (tpush b 256 xs.length (thingsFrom 0 xs) x xs.length 7 _ W _ hS6.swap (by omega) (by omega)).mono ?_
      rintro e w7 ⟨rfl, hS7⟩
      go_wp2
      go_roundw
      case rel => exact ⟨xs ++ [x], by simp; omega, by simp only [List.length_append, List.length_cons, List.length_nil]; rw [take_snoc Hx1.out, ← Hx.out]; rfl, by simp, pair_snoc hS7⟩
      case measure => simp [intOf]; omega
    · have hkk : xs.length = N := by omega
      obtain rfl : N = xs.length := hkk.symm
      obtain ⟨r, hr⟩ : ∃ r : Int, (if cut < 0 then 1 else 12) = r := ⟨_, rfl⟩
      have Hr := Lib.hid hr
      have hr1 : Hid ((cut < 0 ∧ r = 1) ∨ (0 ≤ cut ∧ (xs.length : Int) < cut ∧ r = 12)) := by
        have h1 := Hc.out
        by_cases h0 : cut < 0
        · left; rw [if_pos h0] at hr; exact ⟨h0, hr.symm⟩
        · right; rw [if_neg h0] at hr; exact ⟨by omega, by omega, hr.symm⟩
      clear hr hkl hk
      have tl : ((xs.length : Int) != xs.length) = false := by simp
      have tr : (r != r) = false := by simp
      go_wp2_with fail
      refine (scut_no a 256 xs.length cut (strs xs) _ W _ hS5 Hc.out).mono ?_
      rintro e w6 ⟨rfl, rfl⟩
      rw [Hr.out]
      go_wp2_with fail
      refine (tcut_no b 256 xs.length cut (thingsFrom 0 xs) _ W _ hS5.swap Hc.out).mono ?_
      rintro e w7 ⟨rfl, rfl⟩
      rw [Hr.out]
      have hS8 := hS5
      clear hS5
      obtain ⟨ys, rfl⟩ : ∃ ys, ys = xs := ⟨_, rfl⟩
      have Hy := Hx
      have hyl : ys.length ≤ len := hN2
      have Hr1 := hr1
      clear hr1
      rcases Hr1.out with ⟨c1, c2⟩ | ⟨c1, c3, c2⟩
      all_goals
        subst c2
        clear Hr Hr1 tr
        go_wp2_with fail
        refine (slen a 256 ys.length (strs ys) _ W _ hS8).mono ?_
        rintro e w8 ⟨rfl, rfl⟩
        go_wp2_with fail
        refine (tlen b 256 ys.length (thingsFrom 0 ys) _ W _ hS8.swap).mono ?_
        rintro e w9 ⟨rfl, rfl⟩
        go_wp2
        go_loopw [17] (fun i wr => ∃ k : Nat, k ≤ ys.length ∧ i = .int .i64 k ∧ Star W wr (pairL a b ys W)) (fun i _ => ys.length - (intOf i).toNat)
        case atStart => exact ⟨0, Nat.zero_le _, rfl, hS8⟩
        case round =>
          obtain ⟨k, hk, rfl, hS9⟩ := hrel
          by_cases hkl : k < ys.length
          · obtain ⟨x, hx⟩ : ∃ x, ys[k]? = some x := ⟨_, List.getElem?_eq_getElem hkl⟩
            obtain ⟨g, o, u, rfl, hu, hcu⟩ := hA.at1 (show k < len by omega)
            have hux : u = .string x := by
              obtain ⟨y, rfl, hy⟩ := strs_get hu
              have h2 := hx
              rw [Hy.out, List.getElem?_take, if_pos hkl, hy] at h2
              injection h2 with h2; rw [h2]
            subst hux
            have hg := hlt g o rfl (by omega)
            have hsx : (strs ys)[ys.length - 1 - ((ys.length : Int) - 1 - k).toNat]? = some (.string x) := by
              rw [show ys.length - 1 - ((ys.length : Int) - 1 - k).toNat = k by omega]; simp [strs, hx]
            obtain ⟨t1, t2, t3⟩ := things_at ys 0 k x hx
            rw [show k = ys.length - 1 - ((ys.length : Int) - 1 - k).toNat by omega] at t1 t2 t3
            rw [show (0 + (ys.length - 1 - ((ys.length : Int) - 1 - k).toNat) : Nat) = k by omega] at t2
            clear hA hu hx hlt
            have P1 := Lib.hid (speek a 256 ys.length (strs ys) ((ys.length : Int) - 1 - k) x _ W _ hS9 (by omega) (by omega) hsx)
            have P2 : Hid (∀ (R : List HA) (w : World), Star W w (stackG 72 45 3 b 256 ys.length (thingsFrom 0 ys) :: R) → Calls Try.prog 23 #[.pointer (some ⟨b, 0, none⟩), .int .i64 ((ys.length : Int) - 1 - k)] w fun e w' => e = .returned (.tuple #[.agg #[.string x, .int .i64 k, .int .i64 7], .int .i64 0]) ∧ Star W w' (stackG 72 45 3 b 256 ys.length (thingsFrom 0 ys) :: R)) :=
              fun R w h => tpeek_in b 256 ys.length (thingsFrom 0 ys) ((ys.length : Int) - 1 - k) x k 7 R W w h (by omega) (by omega) t1 t2 t3
            clear hsx t1 t2 t3
            go_wp2_with fail
            refine P1.out.mono ?_
            rintro e w10 ⟨rfl, hS10⟩
            go_wp2_with fail
            refine (P2.out _ _ hS10.swap).mono ?_
            rintro e w11 ⟨rfl, hS11⟩
            have hg11 : g < w11.heap.size := by have := (hS11.pull 2).oldSize; omega
            rw [← (hS11.pull 2).oldCell (p := ⟨g, o + k, none⟩) hg] at hcu
            have tn := fun w => thing_neq x x k k 7 7 w
            clear P1 P2 hS10 hS9
            go_wp2
            go_quiet (fail)
            go_wp2
            go_roundw
            case rel => exact ⟨k + 1, by omega, by go_num, (hS11.swap.new _).drop.drewN _⟩
            case measure => simp [intOf]; omega
          · have hkk2 : k = ys.length := by omega
            subst hkk2
            clear hkl
            go_wp2_with fail
            refine (tpeek_out b 256 ys.length (thingsFrom 0 ys) ys.length _ W _ hS9.swap (by omega)).mono ?_
            rintro e w10 ⟨rfl, hS10⟩
            have te := fun w => thing_eql ⟨#[]⟩ ⟨#[]⟩ 0 0 0 0 w
            go_wp2
            go_ret
            exact ⟨by simp, ((hS10.pull 2).new _ |>.swap).below⟩
set_option maxHeartbeats 2000000 in
set_option maxRecDepth 100000 in
theorem any_bad2 (hz : ss.length = len) (hA : Sl W A len 1 (strs ss)) (hlt : ∀ g o, A = some ⟨g, o, none⟩ → 0 < len → g < W.heap.size) (hlen : len ≤ 9223372036854775807) (hN : 256 < len) (N : Nat) (hNN : N = 256) (hc : cut < 0 ∨ (N : Int) < cut) :
    Calls Try.prog 4 #[.slice A len cap, .int .i64 cut] W fun e w' => e = .returned (.bool true) ∧ Below W.heap.size W w' := by
  have hS := Star.begin W
  have HN := Lib.hid hNN
  have hN1 : N ≤ 256 := by omega
  have hN2 : N ≤ len := by omega
  have Hc := Lib.hid hc
  clear hc
  clear hNN
  go_enter Try.func4, Try.ntmps4
  go_wp2_with fail
  refine (awake_any _ W _ hS).mono ?_
  rintro e w1 ⟨rfl, hS1⟩
  go_wp2_with fail
  refine (snew_ok 256 _ W _ hS1 (by omega) (by omega)).mono ?_
  rintro e w2 ⟨a, rfl, hS2⟩
  go_wp2_with fail
  refine (tnew_ok 256 _ W _ hS2 (by omega) (by omega)).mono ?_
  rintro e w3 ⟨b, rfl, hS3⟩
  have hP : Star W w3 (pairL a b [] W) := hS3.swap
  clear hS1 hS2 hS3
  go_wp2
  rw [show Value.int .i64 256 = Value.int .i64 (N : Int) by rw [HN.out]; rfl]
  go_loopw [11] (fun i wr => ∃ xs : List ByteArray, xs.length ≤ N ∧ Hid (xs = ss.take xs.length) ∧ i = .int .i64 xs.length ∧ Star W wr (pairL a b xs W)) (fun i _ => N - (intOf i).toNat)
  case atStart => exact ⟨[], Nat.zero_le _, rfl, rfl, hP⟩
  case round =>
    obtain ⟨xs, hk, Hx, rfl, hS5⟩ := hrel
    by_cases hkl : xs.length < N
    · obtain ⟨g, o, u, rfl, hu, hcu⟩ := hA.at1 (show xs.length < len by omega)
      obtain ⟨x, rfl, hx⟩ := strs_get hu
      have Hx1 := Lib.hid hx
      have hg := hlt g o rfl (by omega)
      clear hx hu hA hlt
      have hcr := hcu
      rw [← (hS5.pull 2).oldCell (p := ⟨g, o + xs.length, none⟩) hg] at hcr
      go_wp2_with fail
      refine (spush a 256 xs.length (strs xs) x _ W _ hS5 (by omega) (by omega)).mono ?_
      rintro e w6 ⟨rfl, hS6⟩
      have hcr6 := hcu
      rw [← (hS6.pull 2).oldCell (p := ⟨g, o + xs.length, none⟩) hg] at hcr6
      go_wp2_with fail
      refine (tpush b 256 xs.length (thingsFrom 0 xs) x xs.length 7 _ W _ hS6.swap (by omega) (by omega)).mono ?_
      rintro e w7 ⟨rfl, hS7⟩
      go_wp2
      go_roundw
      case rel => exact ⟨xs ++ [x], by simp; omega, by simp only [List.length_append, List.length_cons, List.length_nil]; rw [take_snoc Hx1.out, ← Hx.out]; rfl, by simp, pair_snoc hS7⟩
      case measure => simp [intOf]; omega
    · have hkk : xs.length = N := by omega
      obtain rfl : N = xs.length := hkk.symm
      obtain ⟨r, hr⟩ : ∃ r : Int, (if cut < 0 then 1 else 12) = r := ⟨_, rfl⟩
      have Hr := Lib.hid hr
      have hr1 : Hid ((cut < 0 ∧ r = 1) ∨ (0 ≤ cut ∧ (xs.length : Int) < cut ∧ r = 12)) := by
        have h1 := Hc.out
        by_cases h0 : cut < 0
        · left; rw [if_pos h0] at hr; exact ⟨h0, hr.symm⟩
        · right; rw [if_neg h0] at hr; exact ⟨by omega, by omega, hr.symm⟩
      clear hr hkl hk
      have tl : ((xs.length : Int) != xs.length) = false := by simp
      have tr : (r != r) = false := by simp
      go_wp2_with fail
      refine (scut_no a 256 xs.length cut (strs xs) _ W _ hS5 Hc.out).mono ?_
      rintro e w6 ⟨rfl, rfl⟩
      rw [Hr.out]
      go_wp2_with fail
      refine (tcut_no b 256 xs.length cut (thingsFrom 0 xs) _ W _ hS5.swap Hc.out).mono ?_
      rintro e w7 ⟨rfl, rfl⟩
      rw [Hr.out]
      have hS8 := hS5
      clear hS5
      obtain ⟨ys, rfl⟩ : ∃ ys, ys = xs := ⟨_, rfl⟩
      have Hy := Hx
      have hyl : ys.length ≤ len := hN2
      have Hr1 := hr1
      clear hr1
      rcases Hr1.out with ⟨c1, c2⟩ | ⟨c1, c3, c2⟩
      all_goals
        subst c2
        clear Hr Hr1 tr
        go_wp2_with fail
        refine (slen a 256 ys.length (strs ys) _ W _ hS8).mono ?_
        rintro e w8 ⟨rfl, rfl⟩
        go_wp2_with fail
        refine (tlen b 256 ys.length (thingsFrom 0 ys) _ W _ hS8.swap).mono ?_
        rintro e w9 ⟨rfl, rfl⟩
        go_wp2
        go_loopw [17] (fun i wr => ∃ k : Nat, k ≤ ys.length ∧ i = .int .i64 k ∧ Star W wr (pairL a b ys W)) (fun i _ => ys.length - (intOf i).toNat)
        case atStart => exact ⟨0, Nat.zero_le _, rfl, hS8⟩
        case round =>
          obtain ⟨k, hk, rfl, hS9⟩ := hrel
          by_cases hkl : k < ys.length
          · obtain ⟨x, hx⟩ : ∃ x, ys[k]? = some x := ⟨_, List.getElem?_eq_getElem hkl⟩
            obtain ⟨g, o, u, rfl, hu, hcu⟩ := hA.at1 (show k < len by omega)
            have hux : u = .string x := by
              obtain ⟨y, rfl, hy⟩ := strs_get hu
              have h2 := hx
              rw [Hy.out, List.getElem?_take, if_pos hkl, hy] at h2
              injection h2 with h2; rw [h2]
            subst hux
            have hg := hlt g o rfl (by omega)
            have hsx : (strs ys)[ys.length - 1 - ((ys.length : Int) - 1 - k).toNat]? = some (.string x) := by
              rw [show ys.length - 1 - ((ys.length : Int) - 1 - k).toNat = k by omega]; simp [strs, hx]
            obtain ⟨t1, t2, t3⟩ := things_at ys 0 k x hx
            rw [show k = ys.length - 1 - ((ys.length : Int) - 1 - k).toNat by omega] at t1 t2 t3
            rw [show (0 + (ys.length - 1 - ((ys.length : Int) - 1 - k).toNat) : Nat) = k by omega] at t2
            clear hA hu hx hlt
            have P1 := Lib.hid (speek a 256 ys.length (strs ys) ((ys.length : Int) - 1 - k) x _ W _ hS9 (by omega) (by omega) hsx)
            have P2 : Hid (∀ (R : List HA) (w : World), Star W w (stackG 72 45 3 b 256 ys.length (thingsFrom 0 ys) :: R) → Calls Try.prog 23 #[.pointer (some ⟨b, 0, none⟩), .int .i64 ((ys.length : Int) - 1 - k)] w fun e w' => e = .returned (.tuple #[.agg #[.string x, .int .i64 k, .int .i64 7], .int .i64 0]) ∧ Star W w' (stackG 72 45 3 b 256 ys.length (thingsFrom 0 ys) :: R)) :=
              fun R w h => tpeek_in b 256 ys.length (thingsFrom 0 ys) ((ys.length : Int) - 1 - k) x k 7 R W w h (by omega) (by omega) t1 t2 t3
            clear hsx t1 t2 t3
            go_wp2_with fail
            refine P1.out.mono ?_
            rintro e w10 ⟨rfl, hS10⟩
            go_wp2_with fail
            refine (P2.out _ _ hS10.swap).mono ?_
            rintro e w11 ⟨rfl, hS11⟩
            have hg11 : g < w11.heap.size := by have := (hS11.pull 2).oldSize; omega
            rw [← (hS11.pull 2).oldCell (p := ⟨g, o + k, none⟩) hg] at hcu
            have tn := fun w => thing_neq x x k k 7 7 w
            clear P1 P2 hS10 hS9
            go_wp2
            go_quiet (fail)
            go_wp2
            go_roundw
            case rel => exact ⟨k + 1, by omega, by go_num, (hS11.swap.new _).drop.drewN _⟩
            case measure => simp [intOf]; omega
          · have hkk2 : k = ys.length := by omega
            subst hkk2
            clear hkl
            go_wp2_with fail
            refine (tpeek_out b 256 ys.length (thingsFrom 0 ys) ys.length _ W _ hS9.swap (by omega)).mono ?_
            rintro e w10 ⟨rfl, hS10⟩
            have te := fun w => thing_eql ⟨#[]⟩ ⟨#[]⟩ 0 0 0 0 w
            go_wp2
            go_ret
            exact ⟨by simp, ((hS10.pull 2).new _ |>.swap).below⟩
end
end Go.Proofs.Ytaobddimjccbnaa
