/- trial -/
import Derived.Test.YtaobddimjccbnaaT4
namespace Go.Proofs.Ytaobddimjccbnaa
open Go.RowKit
set_option linter.unusedVariables false

/-- the script's cells: slot by slot -/
def ScriptAt (w : World) (A : Option Addr) (len : Nat) : Prop := ∀ k, k < len → ∃ (g off : Nat) (o : Bool) (kd x : Int), A = some ⟨g, off, none⟩ ∧ g < w.heap.size ∧ w.cell? ⟨g, off + k * 3, none⟩ = some (.bool o) ∧ w.cell? ⟨g, off + k * 3 + 1, none⟩ = some (.int .i64 kd) ∧ w.cell? ⟨g, off + k * 3 + 2, none⟩ = some (.int .i64 x)

def PlaysInv (W : World) (a x b y : Value) (wr : World) : Prop :=
  ∃ (ba bx bb b' : Nat) (m1 m2 : Int) (xs ys : List Int), a = .pointer (some ⟨ba, 0, none⟩) ∧ x = .pointer (some ⟨bx, 0, none⟩) ∧ b = .pointer (some ⟨bb, 0, none⟩) ∧ y = .pointer (some ⟨b', 0, none⟩) ∧
    m1 ≤ 256 ∧ m2 ≤ 256 ∧ (xs.length : Int) ≤ m1 ∧ (ys.length : Int) ≤ m2 ∧
    Star W wr (stackA 67 ba m1 xs :: stackA 62 bx m1 xs :: stackA 67 bb m2 ys :: stackA 62 b' m2 ys :: oldA W :: [])

theorem does_any (b b' : Nat) (most : Int) (xs : List Int) (o : Bool) (kd x : Int) (R : List HA) (W w : World) (hS : Star W w (stackA 67 b most xs :: stackA 62 b' most xs :: R)) (hl : (xs.length : Int) ≤ most) (hm : most ≤ 256) :
    Calls Try.prog 26 #[.pointer (some ⟨b, 0, none⟩), .pointer (some ⟨b', 0, none⟩), .agg #[.bool o, .int .i64 kd, .int .i64 x]] w (Did W b b' most R) := by
  by_cases h1 : kd = 1
  · subst h1; exact does1 b b' most xs o x R W w hS hl hm
  by_cases h2 : kd = 2
  · subst h2; exact does2 b b' most xs o x R W w hS hl hm
  by_cases h3 : kd = 3
  · subst h3; exact does3 b b' most xs o x R W w hS hl
  by_cases h4 : kd = 4
  · subst h4; exact does4 b b' most xs o x R W w hS hl
  by_cases h5 : kd = 5
  · subst h5; exact does5 b b' most xs o x R W w hS hl hm
  by_cases h6 : kd = 6
  · subst h6; exact does6 b b' most xs o x R W w hS hl
  by_cases h7 : kd = 7
  · subst h7; exact does7 b b' most xs o x R W w hS hl hm
  exact does0 b b' most xs o x R W w hS hl kd h1 h2 h3 h4 h5 h6 h7

set_option maxHeartbeats 8000000 in
set_option maxRecDepth 100000 in
theorem plays_any (one two : Int) (A : Option Addr) (len cap : Nat) (W : World) (hlen : len ≤ 9223372036854775807) (hsc : ScriptAt W A len) (h1 : 1 ≤ one) (h2 : one ≤ 256) (h3 : 1 ≤ two) (h4 : two ≤ 256) :
    Calls Try.prog 5 #[.int .i64 one, .int .i64 two, .slice A len cap] W fun e w' => e = .returned (.bool true) ∧ Below W.heap.size W w' := by
  have hS := Star.begin W
  go_enter Try.func5, Try.ntmps5
  go_wp2_with fail
  refine (awake_any _ W _ hS).mono ?_
  rintro e w1 ⟨rfl, hS1⟩
  go_wp2_with fail
  refine (new_ok one _ W _ hS1 h1 h2).mono ?_
  rintro e w2 ⟨ba, rfl, hS2⟩
  go_wp2_with fail
  refine (rnew_ok one _ W _ hS2 h1 h2).mono ?_
  rintro e w3 ⟨bx, rfl, hS3⟩
  go_wp2_with fail
  refine (new_ok two _ W _ hS3 h3 h4).mono ?_
  rintro e w4 ⟨bb, rfl, hS4⟩
  go_wp2_with fail
  refine (rnew_ok two _ W _ hS4 h3 h4).mono ?_
  rintro e w5 ⟨b', rfl, hS5⟩
  go_wp2
  go_loopw [8, 10, 12, 14, 16] (fun a x b y i wr => PlaysInv W a x b y wr ∧ ∃ k : Nat, k ≤ len ∧ i = .int .i64 k) (fun _ _ _ _ i _ => len - (intOf i).toNat)
  case atStart => exact ⟨⟨ba, bx, bb, b', one, two, [], [], rfl, rfl, rfl, rfl, h2, h4, by simp; omega, by simp; omega, hS5.pick 5 [3, 2, 1, 0, 4]⟩, 0, Nat.zero_le _, rfl⟩
  case round =>
    obtain ⟨⟨ba, bx, bb, b', m1, m2, xs, ys, rfl, rfl, rfl, rfl, hm1, hm2, hx, hy, hS6⟩, k, hk, rfl⟩ := hrel
    by_cases hlt : k < len
    · obtain ⟨g, off, o, kd, x, rfl, hg, d0, d1, d2⟩ := hsc k hlt
      have ho := fun j => (hS6.pull 4).oldCell (p := ⟨g, j, none⟩) hg
      rw [← ho] at d0 d1 d2
      clear ho hsc
      go_wp2_with fail
      · have hB := (hS6.new (.cells #[.bool true, .int .i64 8, .int .i64 x] 58)).pick 6 [3, 4, 1, 2, 5, 0]
        refine (copy_any bb m2 ys _ W _ hB (by omega)).mono ?_
        rintro e w7 ⟨bn, rfl, hS7⟩
        go_wp2_with fail
        refine (rcopy b' m2 ys _ W _ (hS7.pick 3 [2, 0, 1]) (by omega)).mono ?_
        rintro e w8 ⟨bm, rfl, hS8⟩
        have hS9 := hS8.pick 8 [2, 0, 3, 1, 6]
        clear hS7 hS8 hB hS6 hx
        obtain ⟨a1, n1, q1, hn1, hX⟩ := stack_open (hS9.pick 5 [1, 0, 2, 3, 4])
        obtain ⟨a2, n2, q2, hn2, hY⟩ := stack_open (hS9.pick 5 [3, 0, 1, 2, 4])
        subst hn1
        subst hn2
        have e10 : w8.cell? ⟨bm, 0, none⟩ = some (.int .i64 m2) := hX.cell 0
        have e11 : w8.cell? ⟨bm, 1, none⟩ = some (.slice a1 ys.length q1) := hX.cell 1
        have e20 : w8.cell? ⟨b', 0, none⟩ = some (.int .i64 m2) := hY.cell 0
        have e21 : w8.cell? ⟨b', 1, none⟩ = some (.slice a2 ys.length q2) := hY.cell 1
        clear hX hY
        have b1 : ((ys.length : Int) != ys.length) = false := by simp
        have b2 : ((m2 - (ys.length : Int)) != m2 - ys.length) = false := by simp
        have b3 : ((ys.length : Int) != ys.length) = false := by simp
        have b4 : ((m2 - (ys.length : Int)) != m2 - ys.length) = false := by simp
        go_wp2_with fail
        go_quiet (first | (go_at_call 11; first | with_reducible exact quiet_left (len_any bn m2 ys _ W _ (hS9.drewN _)) | with_reducible exact quiet_add_left (len_any bb m2 ys _ W _ ((hS9.pick 5 [2, 0, 1, 3, 4]).drewN _)) | with_reducible exact quiet_left (len_any bb m2 ys _ W _ ((hS9.pick 5 [2, 0, 1, 3, 4]).drewN _))) | (go_at_call 27; first | with_reducible exact quiet_some (room_any bn m2 ys _ W _ (hS9.drewN _) (by omega) (by omega) (by omega)) | with_reducible exact quiet_some (room_any bb m2 ys _ W _ ((hS9.pick 5 [2, 0, 1, 3, 4]).drewN _) (by omega) (by omega) (by omega))))
        go_wp2
        go_roundw
        case rel => exact ⟨⟨bn, bm, bb, b', m2, m2, ys, ys, rfl, rfl, rfl, rfl, hm2, hm2, hy, hy, hS9.drewN _⟩, k + 1, by omega, by go_num⟩
        case measure => simp [intOf]; omega
      · have hB := (hS6.new (.cells #[.bool false, .int .i64 8, .int .i64 x] 58)).pick 6 [1, 2, 3, 4, 5, 0]
        refine (copy_any ba m1 xs _ W _ hB (by omega)).mono ?_
        rintro e w7 ⟨bn, rfl, hS7⟩
        have d1' : w7.cell? ⟨wr.heap.size, 1, none⟩ = some (.int .i64 8) := (hS7.pull 6).cell 1
        go_wp2_with fail
        refine (rcopy bx m1 xs _ W _ (hS7.pick 3 [2, 0, 1]) (by omega)).mono ?_
        rintro e w8 ⟨bm, rfl, hS8⟩
        have hS9 := hS8.pick 8 [3, 1, 2, 0, 6]
        clear hS7 hS8 hB hS6 hy
        obtain ⟨a1, n1, q1, hn1, hX⟩ := stack_open (hS9.pick 5 [1, 0, 2, 3, 4])
        obtain ⟨a2, n2, q2, hn2, hY⟩ := stack_open (hS9.pick 5 [3, 0, 1, 2, 4])
        subst hn1
        subst hn2
        have e10 : w8.cell? ⟨bx, 0, none⟩ = some (.int .i64 m1) := hX.cell 0
        have e11 : w8.cell? ⟨bx, 1, none⟩ = some (.slice a1 xs.length q1) := hX.cell 1
        have e20 : w8.cell? ⟨bm, 0, none⟩ = some (.int .i64 m1) := hY.cell 0
        have e21 : w8.cell? ⟨bm, 1, none⟩ = some (.slice a2 xs.length q2) := hY.cell 1
        clear hX hY
        have b1 : ((xs.length : Int) != xs.length) = false := by simp
        have b2 : ((m1 - (xs.length : Int)) != m1 - xs.length) = false := by simp
        have b3 : ((xs.length : Int) != xs.length) = false := by simp
        have b4 : ((m1 - (xs.length : Int)) != m1 - xs.length) = false := by simp
        go_wp2_with fail
        go_quiet (first | (go_at_call 11; first | with_reducible exact quiet_left (len_any ba m1 xs _ W _ (hS9.drewN _)) | with_reducible exact quiet_add_left (len_any bn m1 xs _ W _ ((hS9.pick 5 [2, 0, 1, 3, 4]).drewN _)) | with_reducible exact quiet_left (len_any bn m1 xs _ W _ ((hS9.pick 5 [2, 0, 1, 3, 4]).drewN _))) | (go_at_call 27; first | with_reducible exact quiet_some (room_any ba m1 xs _ W _ (hS9.drewN _) (by omega) (by omega) (by omega)) | with_reducible exact quiet_some (room_any bn m1 xs _ W _ ((hS9.pick 5 [2, 0, 1, 3, 4]).drewN _) (by omega) (by omega) (by omega))))
        go_wp2
        go_roundw
        case rel => exact ⟨⟨ba, bx, bn, bm, m1, m1, xs, xs, rfl, rfl, rfl, rfl, hm1, hm1, hx, hx, hS9.drewN _⟩, k + 1, by omega, by go_num⟩
        case measure => simp [intOf]; omega
      · have hB := (hS6.new (.cells #[.bool true, .int .i64 kd, .int .i64 x] 58)).pick 6 [3, 4, 1, 2, 5, 0]
        refine (does_any bb b' m2 ys true kd x _ W _ hB hy hm2).mono ?_
        rintro e w8 ⟨rfl, zs, hz, hS8⟩
        have hS9 := hS8.pick 6 [2, 3, 0, 1, 4]
        clear hS8 hB hS6 hy
        obtain ⟨a1, n1, q1, hn1, hX⟩ := stack_open (hS9.pick 5 [1, 0, 2, 3, 4])
        obtain ⟨a2, n2, q2, hn2, hY⟩ := stack_open (hS9.pick 5 [3, 0, 1, 2, 4])
        subst hn1
        subst hn2
        have e10 : w8.cell? ⟨bx, 0, none⟩ = some (.int .i64 m1) := hX.cell 0
        have e11 : w8.cell? ⟨bx, 1, none⟩ = some (.slice a1 xs.length q1) := hX.cell 1
        have e20 : w8.cell? ⟨b', 0, none⟩ = some (.int .i64 m2) := hY.cell 0
        have e21 : w8.cell? ⟨b', 1, none⟩ = some (.slice a2 zs.length q2) := hY.cell 1
        clear hX hY
        have b1 : ((xs.length : Int) != xs.length) = false := by simp
        have b2 : ((m1 - (xs.length : Int)) != m1 - xs.length) = false := by simp
        have b3 : ((zs.length : Int) != zs.length) = false := by simp
        have b4 : ((m2 - (zs.length : Int)) != m2 - zs.length) = false := by simp
        go_wp2_with fail
        go_quiet (first | (go_at_call 11; first | with_reducible exact quiet_left (len_any ba m1 xs _ W _ (hS9.drewN _)) | with_reducible exact quiet_add_left (len_any bb m2 zs _ W _ ((hS9.pick 5 [2, 0, 1, 3, 4]).drewN _)) | with_reducible exact quiet_left (len_any bb m2 zs _ W _ ((hS9.pick 5 [2, 0, 1, 3, 4]).drewN _))) | (go_at_call 27; first | with_reducible exact quiet_some (room_any ba m1 xs _ W _ (hS9.drewN _) (by omega) (by omega) (by omega)) | with_reducible exact quiet_some (room_any bb m2 zs _ W _ ((hS9.pick 5 [2, 0, 1, 3, 4]).drewN _) (by omega) (by omega) (by omega))))
        go_wp2
        go_roundw
        case rel => exact ⟨⟨ba, bx, bb, b', m1, m2, xs, zs, rfl, rfl, rfl, rfl, hm1, hm2, hx, hz, hS9.drewN _⟩, k + 1, by omega, by go_num⟩
        case measure => simp [intOf]; omega
      · have hB := (hS6.new (.cells #[.bool false, .int .i64 kd, .int .i64 x] 58)).pick 6 [1, 2, 3, 4, 5, 0]
        refine (does_any ba bx m1 xs false kd x _ W _ hB hx hm1).mono ?_
        rintro e w8 ⟨rfl, zs, hz, hS8⟩
        have hS9 := hS8.pick 6 [0, 1, 2, 3, 4]
        clear hS8 hB hS6 hx
        obtain ⟨a1, n1, q1, hn1, hX⟩ := stack_open (hS9.pick 5 [1, 0, 2, 3, 4])
        obtain ⟨a2, n2, q2, hn2, hY⟩ := stack_open (hS9.pick 5 [3, 0, 1, 2, 4])
        subst hn1
        subst hn2
        have e10 : w8.cell? ⟨bx, 0, none⟩ = some (.int .i64 m1) := hX.cell 0
        have e11 : w8.cell? ⟨bx, 1, none⟩ = some (.slice a1 zs.length q1) := hX.cell 1
        have e20 : w8.cell? ⟨b', 0, none⟩ = some (.int .i64 m2) := hY.cell 0
        have e21 : w8.cell? ⟨b', 1, none⟩ = some (.slice a2 ys.length q2) := hY.cell 1
        clear hX hY
        have b1 : ((zs.length : Int) != zs.length) = false := by simp
        have b2 : ((m1 - (zs.length : Int)) != m1 - zs.length) = false := by simp
        have b3 : ((ys.length : Int) != ys.length) = false := by simp
        have b4 : ((m2 - (ys.length : Int)) != m2 - ys.length) = false := by simp
        go_wp2_with fail
        go_quiet (first | (go_at_call 11; first | with_reducible exact quiet_left (len_any ba m1 zs _ W _ (hS9.drewN _)) | with_reducible exact quiet_add_left (len_any bb m2 ys _ W _ ((hS9.pick 5 [2, 0, 1, 3, 4]).drewN _)) | with_reducible exact quiet_left (len_any bb m2 ys _ W _ ((hS9.pick 5 [2, 0, 1, 3, 4]).drewN _))) | (go_at_call 27; first | with_reducible exact quiet_some (room_any ba m1 zs _ W _ (hS9.drewN _) (by omega) (by omega) (by omega)) | with_reducible exact quiet_some (room_any bb m2 ys _ W _ ((hS9.pick 5 [2, 0, 1, 3, 4]).drewN _) (by omega) (by omega) (by omega))))
        go_wp2
        go_roundw
        case rel => exact ⟨⟨ba, bx, bb, b', m1, m2, zs, ys, rfl, rfl, rfl, rfl, hm1, hm2, hz, hy, hS9.drewN _⟩, k + 1, by omega, by go_num⟩
        case measure => simp [intOf]; omega
    · obtain ⟨a1, n1, q1, hn1, hX⟩ := stack_open (hS6.pick 5 [1, 0, 2, 3, 4])
      subst hn1
      obtain ⟨a2, n2, q2, hn2, hY⟩ := stack_open (hX.pick 6 [4, 0, 1, 2, 3, 5])
      subst hn2
      have hA := (hY.pick 7 [4, 0, 1, 2, 3, 5, 6]).drew
      have e11 : wr.cell? ⟨bx, 1, none⟩ = some (.slice a1 xs.length q1) := hX.cell 1
      have e21 : wr.cell? ⟨b', 1, none⟩ = some (.slice a2 ys.length q2) := hY.cell 1
      clear hX hY hsc
      have tok1 : True := trivial
      have tok2 : True := trivial
      have d0 : decide (xs = xs) = true := by simp
      have d1 : decide (ys = ys) = true := by simp
      go_wp2
      go_region_held3 (fun w' => w'.cell? ⟨bx, 1, none⟩ = some (.slice a1 xs.length q1) ∧ w'.cell? ⟨b', 1, none⟩ = some (.slice a2 ys.length q2)) (go_keep) (first
        | (go_at_call 13; have _t := tok1; refine (all_any ba m1 xs _ W _ hA (by omega)).mono ?_; rintro e w7 ⟨a3, c3, rfl, hS7⟩; have g1 := (hS7.pull 4).cell 1; have g2 := (hS7.pull 2).cell 1; clear tok1)
        | (go_at_call 12; have _t := tok2; refine (same_any a3 a1 xs.length xs.length c3 q1 xs xs _ rfl rfl hS7.rowSl (hS7.pull 5).rowSl (by omega) (by omega)).mono ?_; rintro e w8 ⟨rfl, nq, rfl⟩; clear tok2)
        | (go_at_call 13; refine (all_any bb m2 ys _ W _ ((hS7.pull 6).drewN nq) (by omega)).mono ?_; rintro e w9 ⟨a4, c4, rfl, hS9⟩; have g3 := (hS9.pull 6).cell 1; have g4 := (hS9.pull 4).cell 1)
        | (go_at_call 12; refine (same_any a4 a2 ys.length ys.length c4 q2 ys ys _ rfl rfl hS9.rowSl (hS9.pull 5).rowSl (by omega) (by omega)).mono ?_; rintro e w10 ⟨rfl, nq2, rfl⟩))
      all_goals
        go_wp2
        go_ret
        exact ⟨by simp, ((hS9.pull 8).drewN _).below⟩
set_option maxHeartbeats 2000000 in
set_option maxRecDepth 100000 in
theorem plays_bad1 (one two : Int) (v : Value) (W : World) (h1 : one < 1 ∨ 256 < one) :
    Calls Try.prog 5 #[.int .i64 one, .int .i64 two, v] W fun e w' => e = .returned (.bool true) ∧ Below W.heap.size W w' := by
  have hS := Star.begin W
  by_cases h2 : two < 1 ∨ 256 < two
  · go_enter Try.func5, Try.ntmps5
    go_wp2_with fail
    refine (awake_any _ W _ hS).mono ?_
    rintro e w1 ⟨rfl, hS1⟩
    go_wp2_with fail
    refine (new_bad one _ h1).mono ?_
    rintro e w2 ⟨rfl, rfl⟩
    go_wp2_with fail
    refine (rnew_bad one _ h1).mono ?_
    rintro e w3 ⟨rfl, rfl⟩
    go_wp2_with fail
    refine (new_bad two _ h2).mono ?_
    rintro e w4 ⟨rfl, rfl⟩
    go_wp2_with fail
    refine (rnew_bad two _ h2).mono ?_
    rintro e w5 ⟨rfl, rfl⟩
    go_wp2
    go_ret
    exact ⟨rfl, hS1.below⟩
  · obtain ⟨h3, h4⟩ : 1 ≤ two ∧ two ≤ 256 := by omega
    clear h2
    go_enter Try.func5, Try.ntmps5
    go_wp2_with fail
    refine (awake_any _ W _ hS).mono ?_
    rintro e w1 ⟨rfl, hS1⟩
    go_wp2_with fail
    refine (new_bad one _ h1).mono ?_
    rintro e w2 ⟨rfl, rfl⟩
    go_wp2_with fail
    refine (rnew_bad one _ h1).mono ?_
    rintro e w3 ⟨rfl, rfl⟩
    go_wp2_with fail
    refine (new_ok two _ W _ hS1 h3 h4).mono ?_
    rintro e w4 ⟨bb, rfl, hS4⟩
    go_wp2_with fail
    refine (rnew_ok two _ W _ hS4 h3 h4).mono ?_
    rintro e w5 ⟨b', rfl, hS5⟩
    go_wp2
    go_ret
    exact ⟨rfl, hS5.drop.drop.below⟩
set_option maxHeartbeats 2000000 in
set_option maxRecDepth 100000 in
theorem plays_bad2 (one two : Int) (v : Value) (W : World) (h1 : 1 ≤ one) (h2 : one ≤ 256) (h3 : two < 1 ∨ 256 < two) :
    Calls Try.prog 5 #[.int .i64 one, .int .i64 two, v] W fun e w' => e = .returned (.bool true) ∧ Below W.heap.size W w' := by
  have hS := Star.begin W
  have H3 := Lib.hid h3
  clear h3
  go_enter Try.func5, Try.ntmps5
  go_wp2_with fail
  refine (awake_any _ W _ hS).mono ?_
  rintro e w1 ⟨rfl, hS1⟩
  go_wp2_with fail
  refine (new_ok one _ W _ hS1 h1 h2).mono ?_
  rintro e w2 ⟨ba, rfl, hS2⟩
  go_wp2_with fail
  refine (rnew_ok one _ W _ hS2 h1 h2).mono ?_
  rintro e w3 ⟨bx, rfl, hS3⟩
  go_wp2_with fail
  refine (new_bad two _ H3.out).mono ?_
  rintro e w4 ⟨rfl, rfl⟩
  go_wp2_with fail
  refine (rnew_bad two _ H3.out).mono ?_
  rintro e w5 ⟨rfl, rfl⟩
  go_wp2
  go_ret
  exact ⟨rfl, hS3.drop.drop.below⟩
end Go.Proofs.Ytaobddimjccbnaa
