/- Contracts of the stack and of the reference, walked: lemmas for the laws of the stack. -/
import Derived.Test.YtaobddimjccbnaaT3
namespace Go.Proofs.Ytaobddimjccbnaa
open Go.RowKit
set_option linter.unusedVariables false

theorem and255 (x : Int) : ∃ m : Nat, bits .and .i64 x 255 = (m : Int) ∧ m ≤ 255 := by
  refine ⟨(BitVec.ofInt 64 x &&& BitVec.ofInt 64 255).toNat, ?_, ?_⟩
  · show IntKind.i64.wrap ((BitVec.ofInt 64 x &&& BitVec.ofInt 64 255).toNat : Int) = _
    have h : (BitVec.ofInt 64 x &&& BitVec.ofInt 64 255).toNat ≤ 255 := by
      rw [BitVec.toNat_and]; exact Nat.and_le_right
    exact IntWalk.i64_in _ (by omega)
  · rw [BitVec.toNat_and]; exact Nat.and_le_right

theorem back_sl {W w : World} {A : Option Addr} {len K : Nat} {zs xs : List Int} {R : List HA} (hA : Sl W A len 1 (ints zs)) (hlt : ∀ g o, A = some ⟨g, o, none⟩ → 0 < len → g < W.heap.size) (hz : zs.length = len) (hx : xs = zs.take K) (hS : Star W w (oldA W :: R)) : Sl w A xs.length 1 (ints xs) := by
  refine ⟨by simp [ints], fun h0 => ?_⟩
  have hle : xs.length ≤ len := by rw [hx, List.length_take]; omega
  obtain ⟨g, o, rfl, hc⟩ := hA.2 (by omega)
  refine ⟨g, o, rfl, fun j u hu => ?_⟩
  rw [hS.oldCell (p := ⟨g, o + j, none⟩) (hlt g o rfl (by omega))]
  refine hc j u ?_
  subst hx
  rw [ints_take, List.getElem?_take] at hu
  split at hu
  · exact hu
  · cases hu

set_option maxHeartbeats 2000000 in
set_option maxRecDepth 100000 in
theorem back_any (most : Int) (A : Option Addr) (len cap : Nat) (zs : List Int) (W : World) (hz : zs.length = len) (hA : Sl W A len 1 (ints zs)) (hlt : ∀ g o, A = some ⟨g, o, none⟩ → 0 < len → g < W.heap.size) (hlen : len ≤ 9223372036854775807) (hcap : len ≤ cap) (hcap2 : cap ≤ 9223372036854775807) :
    Calls Try.prog 3 #[.int .i64 most, .slice A len cap] W fun e w' => e = .returned (.bool true) ∧ Below W.heap.size W w' := by
  have hS := Star.begin W
  obtain ⟨m, hm, hm2⟩ := and255 most
  obtain ⟨n, hn, hn1, hn2⟩ : ∃ n : Nat, 1 + (m : Int) = n ∧ 1 ≤ n ∧ n ≤ 256 := ⟨m + 1, by omega, by omega, by omega⟩
  go_enter Try.func3, Try.ntmps3
  go_wp2_with fail
  refine (awake_any _ W _ hS).mono ?_
  rintro e w1 ⟨rfl, hS1⟩
  go_wp2_with fail
  refine (new_ok n _ W _ hS1 (by omega) (by omega)).mono ?_
  rintro e w2 ⟨b, rfl, hS2⟩
  clear hm hm2 hn
  go_wp2
  go_loopw [9] (fun i wr => ∃ k : Nat, k ≤ len ∧ i = .int .i64 k ∧ ∃ xs, Hid (xs = zs.take (min n k)) ∧ Star W wr [stackA 67 b n xs, oldA W]) (fun i _ => len - (intOf i).toNat)
  case atStart => exact ⟨0, Nat.zero_le _, rfl, [], by simp [Hid], hS2⟩
  case round =>
    obtain ⟨k, hk, rfl, xs, Hx, hS3⟩ := hrel
    have hxl : xs.length = min n k := by rw [Hx.out]; simp; omega
    by_cases hkl : k < len
    · obtain ⟨g, o, u, rfl, hu, hcu⟩ := hA.at1 hkl
      obtain ⟨x, rfl, hx⟩ := ints_get hu
      have Hx1 := Lib.hid hx
      have hg := hlt g o rfl (by omega)
      rw [← (hS3.pull 1).oldCell (p := ⟨g, o + k, none⟩) hg] at hcu
      clear hx hu hA hlt hS2
      by_cases hkm : k < n
      · have hxl2 : xs.length = k := by omega
        have Hxl := Lib.hid hxl2
        clear hxl hxl2
        go_wp2_with fail
        refine (push_ok b n xs x _ W _ hS3 (by have := Hxl.out; omega) (by have := Hxl.out; omega)).mono ?_
        rintro e w4 ⟨rfl, hS4⟩
        go_wp2
        go_roundw
        case rel => exact ⟨k + 1, by omega, by go_num, _, by rw [Hx.out, Nat.min_eq_right (by omega), Nat.min_eq_right (by omega), take_snoc Hx1.out]; rfl, hS4⟩
        case measure => simp [intOf]; omega
      · have hxl2 : xs.length = n := by omega
        have Hxl := Lib.hid hxl2
        clear hxl hxl2
        go_wp2_with fail
        refine (push_full b n xs x _ W _ hS3 (by have := Hxl.out; omega)).mono ?_
        rintro e w4 ⟨rfl, hS4⟩
        go_wp2
        go_roundw
        case rel => exact ⟨k + 1, by omega, by go_num, _, by rw [Hx.out, Nat.min_eq_left (by omega), Nat.min_eq_left (by omega)]; rfl, hS4⟩
        case measure => simp [intOf]; omega
    · have hkk : k = len := by omega
      subst hkk
      clear hS2 hkl
      have hxl3 : xs.length ≤ 256 := by omega
      by_cases hmn : (n : Int) ≤ (k : Int)
      · have hxK : xs.length = n := by omega
        have hnc : (n : Int) ≤ (cap : Int) := by omega
        have hnc' : n ≤ cap := by omega
        have hn0 : (0 : Int) ≤ (n : Int) := by omega
        have HxK := Lib.hid hxK
        have hxk : xs.length ≤ k := by omega
        clear hxl hxK
        have hsl : Hid (∀ w' R', Star W w' (oldA W :: R') → Sl w' A n 1 (ints xs)) := fun w' R' h => by have := back_sl hA hlt hz Hx.out h; rwa [HxK.out] at this
        go_wp2_with fail
        refine (copy_any b n xs _ W _ hS3 (by omega)).mono ?_
        rintro e w4 ⟨c, rfl, hS4⟩
        go_wp2
        go_loopw [13] (fun i wr => ∃ j : Nat, j ≤ xs.length ∧ i = .int .i64 ((j : Int) - 1) ∧ Star W wr [stackA 67 b n (xs.take j), stackA 67 c n xs, oldA W]) (fun i _ => (intOf i + 1).toNat)
        case atStart => exact ⟨xs.length, Nat.le_refl _, by rw [HxK.out], by rw [List.take_of_length_le (Nat.le_refl _)]; exact hS4.pick 3 [1, 0, 2]⟩
        case round =>
          obtain ⟨j, hj, rfl, hS5⟩ := hrel
          by_cases hj0 : j = 0
          · subst hj0
            go_wp2_with fail
            refine (pop_none b n _ W _ hS5).mono ?_
            rintro e w6 ⟨rfl, rfl⟩
            have hd : decide (xs = xs) = true := by simp
            go_wp2
            go_region_held3 (fun w' => True) (trivial) (first
              | (go_at_call 11; refine (len_any b n [] _ W _ hS5.drew).mono ?_; rintro e w7 ⟨rfl, rfl⟩)
              | (go_at_call 13; refine (all_any c n xs _ W _ (hS5.drew.pick 3 [1, 0, 2]) (by omega)).mono ?_; rintro e w8 ⟨a3, c3, rfl, hS8⟩)
              | (go_at_call 12; refine (same_any a3 A xs.length n c3 cap xs xs _ rfl HxK.out hS8.rowSl (hsl.out _ _ (hS8.pull 3)) (by omega) (by omega)).mono ?_; rintro e w9 ⟨rfl, nq, rfl⟩))
            all_goals
              go_wp2
              go_ret
              exact ⟨by simp, ((hS8.pull 3).drewN _).below⟩
          · obtain ⟨i, rfl⟩ : ∃ i, j = i + 1 := ⟨j - 1, by omega⟩
            obtain ⟨x, hx⟩ : ∃ x, xs[i]? = some x := ⟨_, List.getElem?_eq_getElem (by omega)⟩
            obtain ⟨g, o, u, rfl, hu, hcu⟩ := hA.at1 (show i < k by omega)
            have hux : u = .int .i64 x := by
              obtain ⟨y, rfl, hy⟩ := ints_get hu
              have h2 := hx
              rw [Hx.out, List.getElem?_take] at h2
              split at h2
              · rw [hy] at h2; injection h2 with h2; rw [h2]
              · cases h2
            subst hux
            have hg := hlt g o rfl (by omega)
            rw [take_snoc hx] at hS5
            clear hA hu hx hlt
            go_wp2_with fail
            refine (pop_some b n (xs.take i) x _ W _ hS5).mono ?_
            rintro e w6 ⟨rfl, hS6⟩
            rw [← (hS6.pull 2).oldCell (p := ⟨g, o + i, none⟩) hg] at hcu
            have hxx : (x != x) = false := by simp
            go_wp2
            go_roundw
            case rel => exact ⟨i, by omega, by go_num, hS6⟩
            case measure => simp [intOf]
      · have hmn' : (k : Int) < (n : Int) := by omega
        have hxK : xs.length = k := by omega
        have hnc : (k : Int) ≤ (cap : Int) := by omega
        have hnc' : k ≤ cap := by omega
        have hn0 : (0 : Int) ≤ (k : Int) := by omega
        clear hmn
        have HxK := Lib.hid hxK
        have hxk : xs.length ≤ k := by omega
        clear hxl hxK
        have hsl : Hid (∀ w' R', Star W w' (oldA W :: R') → Sl w' A k 1 (ints xs)) := fun w' R' h => by have := back_sl hA hlt hz Hx.out h; rwa [HxK.out] at this
        go_wp2_with fail
        refine (copy_any b n xs _ W _ hS3 (by omega)).mono ?_
        rintro e w4 ⟨c, rfl, hS4⟩
        go_wp2
        go_loopw [13] (fun i wr => ∃ j : Nat, j ≤ xs.length ∧ i = .int .i64 ((j : Int) - 1) ∧ Star W wr [stackA 67 b n (xs.take j), stackA 67 c n xs, oldA W]) (fun i _ => (intOf i + 1).toNat)
        case atStart => exact ⟨xs.length, Nat.le_refl _, by rw [HxK.out], by rw [List.take_of_length_le (Nat.le_refl _)]; exact hS4.pick 3 [1, 0, 2]⟩
        case round =>
          obtain ⟨j, hj, rfl, hS5⟩ := hrel
          by_cases hj0 : j = 0
          · subst hj0
            go_wp2_with fail
            refine (pop_none b n _ W _ hS5).mono ?_
            rintro e w6 ⟨rfl, rfl⟩
            have hd : decide (xs = xs) = true := by simp
            go_wp2
            go_region_held3 (fun w' => True) (trivial) (first
              | (go_at_call 11; refine (len_any b n [] _ W _ hS5.drew).mono ?_; rintro e w7 ⟨rfl, rfl⟩)
              | (go_at_call 13; refine (all_any c n xs _ W _ (hS5.drew.pick 3 [1, 0, 2]) (by omega)).mono ?_; rintro e w8 ⟨a3, c3, rfl, hS8⟩)
              | (go_at_call 12; refine (same_any a3 A xs.length k c3 cap xs xs _ rfl HxK.out hS8.rowSl (hsl.out _ _ (hS8.pull 3)) (by omega) (by omega)).mono ?_; rintro e w9 ⟨rfl, nq, rfl⟩))
            all_goals
              go_wp2
              go_ret
              exact ⟨by simp, ((hS8.pull 3).drewN _).below⟩
          · obtain ⟨i, rfl⟩ : ∃ i, j = i + 1 := ⟨j - 1, by omega⟩
            obtain ⟨x, hx⟩ : ∃ x, xs[i]? = some x := ⟨_, List.getElem?_eq_getElem (by omega)⟩
            obtain ⟨g, o, u, rfl, hu, hcu⟩ := hA.at1 (show i < k by omega)
            have hux : u = .int .i64 x := by
              obtain ⟨y, rfl, hy⟩ := ints_get hu
              have h2 := hx
              rw [Hx.out, List.getElem?_take] at h2
              split at h2
              · rw [hy] at h2; injection h2 with h2; rw [h2]
              · cases h2
            subst hux
            have hg := hlt g o rfl (by omega)
            rw [take_snoc hx] at hS5
            clear hA hu hx hlt
            go_wp2_with fail
            refine (pop_some b n (xs.take i) x _ W _ hS5).mono ?_
            rintro e w6 ⟨rfl, hS6⟩
            rw [← (hS6.pull 2).oldCell (p := ⟨g, o + i, none⟩) hg] at hcu
            have hxx : (x != x) = false := by simp
            go_wp2
            go_roundw
            case rel => exact ⟨i, by omega, by go_num, hS6⟩
            case measure => simp [intOf]
end Go.Proofs.Ytaobddimjccbnaa
