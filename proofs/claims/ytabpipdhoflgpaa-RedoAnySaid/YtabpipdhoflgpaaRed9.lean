/- The law RedoPlays, walked. Printed by gen_redoplays.py. -/
import Derived.Test.YtabpipdhoflgpaaRed8
namespace Go.Proofs.Ytabpipdhoflgpaa
open Go.RowKit
set_option linter.unusedVariables false

set_option maxHeartbeats 1600000 in
set_option maxRecDepth 100000 in
theorem awake_any (R : List HA) (W w : World) (hS : Star W w R) : Calls Try.prog 5 #[] w fun e w' => e = .returned (.bool true) ∧ Star W w' R := by
  have sa : ∀ (b : Nat) R w, Star W w (LS.A b 2 [] :: R) → _ := fun b R w h => sput_room b 2 [] R W w 5 ⟨#[97]⟩ h (by simp) (by simp) (by simp)
  have sb : ∀ (b : Nat) R w, Star W w (LS.A b 2 [(5, ⟨#[97]⟩)] :: R) → _ := fun b R w h => sput_room b 2 [(5, ⟨#[97]⟩)] R W w 3 ⟨#[98]⟩ h (by simp) (by simp) (by simp)
  have sc : ∀ (b : Nat) R w, Star W w (LS.A b 2 [(5, ⟨#[97]⟩), (3, ⟨#[98]⟩)] :: R) → _ := fun b R w h => sput_hit b 2 [(5, ⟨#[97]⟩), (3, ⟨#[98]⟩)] R W w 5 ⟨#[99]⟩ ⟨#[97]⟩ 0 h rfl
  have sd : ∀ (b : Nat) R w, Star W w (LS.A b 2 [(5, ⟨#[99]⟩), (3, ⟨#[98]⟩)] :: R) → _ := fun b R w h => sput_full b 2 [(5, ⟨#[99]⟩), (3, ⟨#[98]⟩)] R W w 9 ⟨#[100]⟩ h (by simp) (by simp)
  have sg : ∀ (b : Nat) R w, Star W w (LS.A b 2 [(5, ⟨#[99]⟩), (3, ⟨#[98]⟩)] :: R) → _ := fun b R w h => sget_hit b 2 [(5, ⟨#[99]⟩), (3, ⟨#[98]⟩)] R W w 5 ⟨#[99]⟩ h (by simp)
  have st : ∀ (b : Nat) R w, Star W w (LS.A b 2 [(5, ⟨#[99]⟩), (3, ⟨#[98]⟩)] :: R) → _ := fun b R w h => sat_ok b 2 [(5, ⟨#[99]⟩), (3, ⟨#[98]⟩)] R W w 0 5 ⟨#[99]⟩ h (by simp) rfl
  have sl : ∀ (b : Nat) R w, Star W w (LS.A b 2 [(5, ⟨#[99]⟩), (3, ⟨#[98]⟩)] :: R) → _ := fun b R w h => slen_any b 2 [(5, ⟨#[99]⟩), (3, ⟨#[98]⟩)] R W w h
  go_enter Try.func5, Try.ntmps5
  go_wp2_with fail
  refine (inew_bad 0 w (by decide)).mono ?_
  rintro e w1 ⟨rfl, rfl⟩
  go_wp2_with fail
  refine (snew_ok 2 R W w hS (by decide) (by decide)).mono ?_
  rintro e w2 ⟨b, rfl, h1⟩
  clear hS
  go_wp2_with fail
  refine (sa b _ _ h1).mono ?_
  rintro e w3 ⟨rfl, h2⟩
  clear h1 sa
  go_wp2_with fail
  refine (sb b _ _ h2).mono ?_
  rintro e w4 ⟨rfl, h3⟩
  clear h2 sb
  go_wp2_with fail
  refine (sc b _ _ h3).mono ?_
  rintro e w5 ⟨rfl, h4⟩
  clear h3 sc
  go_wp2_with fail
  refine (sd b _ _ h4).mono ?_
  rintro e w6 ⟨rfl, m, rfl⟩
  have h5 := h4.drewN m
  clear h4 sd
  generalize w5.drewN m = w6 at h5 ⊢
  go_wp2_with fail
  refine (sg b _ _ h5).mono ?_
  rintro e w7 ⟨rfl, rfl⟩
  clear sg
  go_wp2_with fail
  refine (st b _ _ h5).mono ?_
  rintro e w8 ⟨rfl, rfl⟩
  clear st
  go_wp2_with fail
  refine (sl b _ _ h5).mono ?_
  rintro e w9 ⟨rfl, rfl⟩
  go_wp2
  go_ret
  exact ⟨rfl, h5.drop⟩

/-- a script, cell by cell -/
def ScriptAt (w : World) (A : Option Addr) (len : Nat) : Prop := ∀ k, k < len → ∃ (g off : Nat) (o : Bool) (kd K V : Int), A = some ⟨g, off, none⟩ ∧ g < w.heap.size ∧ w.cell? ⟨g, off + k * 4, none⟩ = some (.bool o) ∧ w.cell? ⟨g, off + k * 4 + 1, none⟩ = some (.int .i64 kd) ∧ w.cell? ⟨g, off + k * 4 + 2, none⟩ = some (.int .i64 K) ∧ w.cell? ⟨g, off + k * 4 + 3, none⟩ = some (.int .i64 V)
abbrev KV := List (Int × Int)

set_option maxHeartbeats 2000000 in
set_option maxRecDepth 100000 in
theorem plays_bad1 (one two : Int) (v : Value) (W : World) (h1 : one < 1 ∨ 4096 < one) :
    Calls Try.prog 4 #[.int .i64 one, .int .i64 two, v] W fun e w' => e = .returned (.bool true) ∧ Below W.heap.size W w' := by
  have hS := Star.begin W
  by_cases h2 : two < 1 ∨ 4096 < two
  · go_enter Try.func4, Try.ntmps4
    go_wp2_with fail
    refine (awake_any _ W _ hS).mono ?_
    rintro e w1 ⟨rfl, hS1⟩
    go_wp2_with fail
    refine (inew_bad one w1 h1).mono ?_
    rintro e w2 ⟨rfl, rfl⟩
    go_wp2_with fail
    refine (inew_bad two w1 h2).mono ?_
    rintro e w2 ⟨rfl, rfl⟩
    go_wp2_with fail
    refine (rnew_bad one w1 h1).mono ?_
    rintro e w2 ⟨rfl, rfl⟩
    go_wp2_with fail
    refine (rnew_bad two w1 h2).mono ?_
    rintro e w2 ⟨rfl, rfl⟩
    go_wp2
    go_ret
    exact ⟨rfl, hS1.below⟩
  · go_enter Try.func4, Try.ntmps4
    go_wp2_with fail
    refine (awake_any _ W _ hS).mono ?_
    rintro e w1 ⟨rfl, hS1⟩
    go_wp2_with fail
    refine (inew_bad one w1 h1).mono ?_
    rintro e w2 ⟨rfl, rfl⟩
    go_wp2_with fail
    refine (inew_ok two _ W _ hS1 (by omega) (by omega)).mono ?_
    rintro e w2 ⟨b1, rfl, hS2⟩
    go_wp2_with fail
    refine (rnew_bad one w2 h1).mono ?_
    rintro e w3 ⟨rfl, rfl⟩
    go_wp2_with fail
    refine (rnew_ok two _ W _ hS2 (by omega) (by omega)).mono ?_
    rintro e w3 ⟨b2, rfl, hS3⟩
    go_wp2
    go_ret
    exact ⟨rfl, (hS3.pull 2).below⟩
set_option maxHeartbeats 2000000 in
set_option maxRecDepth 100000 in
theorem plays_bad2 (one two : Int) (v : Value) (W : World) (h1 : 1 ≤ one) (h1' : one ≤ 4096) (h2 : two < 1 ∨ 4096 < two) :
    Calls Try.prog 4 #[.int .i64 one, .int .i64 two, v] W fun e w' => e = .returned (.bool true) ∧ Below W.heap.size W w' := by
  have hS := Star.begin W
  go_enter Try.func4, Try.ntmps4
  go_wp2_with fail
  refine (awake_any _ W _ hS).mono ?_
  rintro e w1 ⟨rfl, hS1⟩
  go_wp2_with fail
  refine (inew_ok one _ W _ hS1 h1 h1').mono ?_
  rintro e w2 ⟨b1, rfl, hS2⟩
  go_wp2_with fail
  refine (inew_bad two w2 h2).mono ?_
  rintro e w3 ⟨rfl, rfl⟩
  go_wp2_with fail
  refine (rnew_ok one _ W _ hS2 h1 h1').mono ?_
  rintro e w3 ⟨b2, rfl, hS3⟩
  go_wp2_with fail
  refine (rnew_bad two w3 h2).mono ?_
  rintro e w4 ⟨rfl, rfl⟩
  go_wp2
  go_ret
  exact ⟨rfl, (hS3.pull 2).below⟩

set_option maxHeartbeats 8000000 in
set_option maxRecDepth 100000 in
theorem plays_any (one two : Int) (A : Option Addr) (len cap : Nat) (W : World) (hlen : len ≤ 9223372036854775807) (hsc : ScriptAt W A len) (h1 : 1 ≤ one) (h2 : one ≤ 4096) (h3 : 1 ≤ two) (h4 : two ≤ 4096) :
    Calls Try.prog 4 #[.int .i64 one, .int .i64 two, .slice A len cap] W fun e w' => e = .returned (.bool true) ∧ Below W.heap.size W w' := by
  have hS := Star.begin W
  have HSC := Lib.hid hsc
  clear hsc
  go_enter Try.func4, Try.ntmps4
  go_wp2_with fail
  refine (awake_any _ W _ hS).mono ?_
  rintro e w1 ⟨rfl, hS1⟩
  go_wp2_with fail
  refine (inew_ok one _ W _ hS1 h1 h2).mono ?_
  rintro e w2 ⟨ba, rfl, hS2⟩
  go_wp2_with fail
  refine (inew_ok two _ W _ hS2 h3 h4).mono ?_
  rintro e w3 ⟨bb, rfl, hS3⟩
  go_wp2_with fail
  refine (rnew_ok one _ W _ hS3 h1 h2).mono ?_
  rintro e w4 ⟨bx, rfl, hS4⟩
  go_wp2_with fail
  refine (rnew_ok two _ W _ hS4 h3 h4).mono ?_
  rintro e w5 ⟨b', rfl, hS5⟩
  clear hS hS1 hS2 hS3 hS4
  go_wp2
  go_loopw [16] (fun i wr => ∃ k : Nat, k ≤ len ∧ i = .int .i64 k ∧ ∃ xs ys : KV, (xs.length : Int) ≤ one ∧ (ys.length : Int) ≤ two ∧ Star W wr [LI.A ba one xs, rlogA bx one xs, LI.A bb two ys, rlogA b' two ys, oldA W]) (fun i _ => len - (intOf i).toNat)
  case atStart => exact ⟨0, Nat.zero_le _, rfl, [], [], by simp; omega, by simp; omega, hS5.pick 5 [3, 1, 2, 0, 4]⟩
  case round =>
    clear hS5
    obtain ⟨k, hk, rfl, xs, ys, hx, hy, hS6⟩ := hrel
    by_cases hlt : k < len
    · obtain ⟨g, off, o, kd, K, V, rfl, hg, d0, d1, d2, d3⟩ := HSC.out k hlt
      have ho := fun j => (hS6.pull 4).oldCell (p := ⟨g, j, none⟩) hg
      rw [← ho] at d0 d1 d2 d3
      clear ho HSC
      cases o
      case false =>
        have hB := hS6
        go_wp2_with fail
        refine (does_any _ W _ ba bx one xs false K V kd hB h2 hx).mono ?_
        rintro e w8 ⟨rfl, zs, hz, hS8⟩
        have hS9 : Star W w8 [LI.A ba one zs, rlogA bx one zs, LI.A bb two ys, rlogA b' two ys, oldA W] := hS8.pick 5 [0, 1, 2, 3, 4]
        clear hS8 hB hS6
        obtain ⟨a1, c1, a1', c1', hX⟩ := rlog_open (hS9.pick 5 [1, 0, 2, 3, 4])
        obtain ⟨a2, c2, a2', c2', hY⟩ := rlog_open (hS9.pick 5 [3, 0, 1, 2, 4])
        have e1 : w8.cell? ⟨bx, 1, none⟩ = some (.slice a1 zs.length c1) := hX.cell 1
        have e2 : w8.cell? ⟨b', 1, none⟩ = some (.slice a2 ys.length c2) := hY.cell 1
        clear hX hY d0 d1 d2 d3
        have b1 : ((zs.length : Int) != zs.length) = false := by simp
        have b2 : ((ys.length : Int) != ys.length) = false := by simp
        have HS := Lib.hid hS9
        clear hS9
        go_wp2
        go_quiet (first | (go_at_call 16; first | with_reducible exact quiet_left (ilen_any ba one zs _ W _ (HS.out.drewN _)) | with_reducible exact quiet_add_left (ilen_any bb two ys _ W _ ((HS.out.pick 5 [2, 0, 1, 3, 4]).drewN _)) | with_reducible exact quiet_left (ilen_any bb two ys _ W _ ((HS.out.pick 5 [2, 0, 1, 3, 4]).drewN _))))
        go_wp2
        go_roundw
        case rel => exact ⟨k + 1, by omega, by go_num, zs, ys, hz, hy, HS.out.drewN _⟩
        case measure => simp [intOf]; omega
      case true =>
        have hB := hS6.pick 5 [2, 3, 0, 1, 4]
        go_wp2_with fail
        refine (does_any _ W _ bb b' two ys true K V kd hB h4 hy).mono ?_
        rintro e w8 ⟨rfl, zs, hz, hS8⟩
        have hS9 : Star W w8 [LI.A ba one xs, rlogA bx one xs, LI.A bb two zs, rlogA b' two zs, oldA W] := hS8.pick 5 [2, 3, 0, 1, 4]
        clear hS8 hB hS6
        obtain ⟨a1, c1, a1', c1', hX⟩ := rlog_open (hS9.pick 5 [1, 0, 2, 3, 4])
        obtain ⟨a2, c2, a2', c2', hY⟩ := rlog_open (hS9.pick 5 [3, 0, 1, 2, 4])
        have e1 : w8.cell? ⟨bx, 1, none⟩ = some (.slice a1 xs.length c1) := hX.cell 1
        have e2 : w8.cell? ⟨b', 1, none⟩ = some (.slice a2 zs.length c2) := hY.cell 1
        clear hX hY d0 d1 d2 d3
        have b1 : ((xs.length : Int) != xs.length) = false := by simp
        have b2 : ((zs.length : Int) != zs.length) = false := by simp
        have HS := Lib.hid hS9
        clear hS9
        go_wp2
        go_quiet (first | (go_at_call 16; first | with_reducible exact quiet_left (ilen_any ba one xs _ W _ (HS.out.drewN _)) | with_reducible exact quiet_add_left (ilen_any bb two zs _ W _ ((HS.out.pick 5 [2, 0, 1, 3, 4]).drewN _)) | with_reducible exact quiet_left (ilen_any bb two zs _ W _ ((HS.out.pick 5 [2, 0, 1, 3, 4]).drewN _))))
        go_wp2
        go_roundw
        case rel => exact ⟨k + 1, by omega, by go_num, xs, zs, hx, hz, HS.out.drewN _⟩
        case measure => simp [intOf]; omega
    · obtain ⟨a1, c1, a1', c1', hX⟩ := rlog_open (hS6.pick 5 [1, 0, 2, 3, 4])
      obtain ⟨a2, c2, a2', c2', hY⟩ := rlog_open (hX.pick 7 [5, 0, 1, 2, 3, 4, 6])
      have e1 : wr.cell? ⟨bx, 1, none⟩ = some (.slice a1 xs.length c1) := hX.cell 1
      have e2 : wr.cell? ⟨bx, 2, none⟩ = some (.slice a1' xs.length c1') := hX.cell 2
      have e3 : wr.cell? ⟨b', 1, none⟩ = some (.slice a2 ys.length c2) := hY.cell 1
      have HX := Lib.hid hX
      have HY := Lib.hid hY
      have HA := Lib.hid hS6
      have hkl : ¬ (k : Int) < len := by omega
      clear hX hY hS6 HSC
      go_wp2
      go_loopw [18] (fun i wn => ∃ q : Nat, q ≤ xs.length ∧ i = .int .i64 q ∧ wn = wr) (fun i _ => xs.length - (intOf i).toNat)
      case atStart => exact ⟨0, Nat.zero_le _, rfl, rfl⟩
      case round =>
        obtain ⟨q, hq, rfl, rfl⟩ := hrel
        by_cases hql : q < xs.length
        · obtain ⟨⟨x, v⟩, hxv⟩ : ∃ u, xs[q]? = some u := ⟨_, List.getElem?_eq_getElem hql⟩
          have IA := Lib.hid (iat_ok ba one xs _ W _ q x v HA.out (by omega) hxv)
          obtain ⟨g1, rfl, _, _, hc1, _⟩ := (HX.out.pull 1).rowAt (by omega)
          obtain ⟨g2, rfl, _, _, hc2, _⟩ := (HX.out.pull 2).rowAt (by omega)
          have f1 := hc1 q (by omega)
          have f2 := hc2 q (by omega)
          simp only [ints, List.getElem?_map, hxv, Option.map_some] at f1 f2
          have hqz : (q : Int) < xs.length := by omega
          clear hc1 hc2 hxv
          go_wp2_with fail
          refine IA.out.mono ?_
          rintro e wx ⟨rfl, rfl⟩
          go_wp2
          go_roundw
          case rel => exact ⟨q + 1, by omega, by go_num, by first | rfl | trivial⟩
          case measure => simp [intOf]; omega
        · have hA := (HY.out.pick 9 [6, 0, 1, 2, 3, 4, 5, 7, 8]).drew
          clear HX HY HA
          have tok1 : True := trivial
          have tok2 : True := trivial
          have d0 : decide (xs.map (fun x : Int × Int => x.1) = xs.map (fun x : Int × Int => x.1)) = true := by simp
          have d1 : decide (ys.map (fun x : Int × Int => x.1) = ys.map (fun x : Int × Int => x.1)) = true := by simp
          have hqz : ¬ (q : Int) < xs.length := by omega
          go_wp2
          go_region_held3 (fun w' => w'.cell? ⟨bx, 1, none⟩ = some (.slice a1 xs.length c1) ∧ w'.cell? ⟨b', 1, none⟩ = some (.slice a2 ys.length c2)) (go_keep) (first
            | (go_at_call 19; have _t := tok1; refine (ikeys_any ba one xs _ W _ hA (by omega)).mono ?_; rintro e w7 ⟨a3, c3, rfl, hS7⟩; have g1 := (hS7.pull 5).cell 1; have g2 := (hS7.pull 2).cell 1; clear tok1)
            | (go_at_call 18; have _t := tok2; refine (same_any a3 a1 xs.length xs.length c3 c1 _ _ _ (by simp) (by simp) hS7.rowSl (hS7.pull 6).rowSl (by omega) (by omega)).mono ?_; rintro e w8 ⟨rfl, nq, rfl⟩; clear tok2)
            | (go_at_call 19; refine (ikeys_any bb two ys _ W _ ((hS7.pull 8).drewN nq) (by omega)).mono ?_; rintro e w9 ⟨a4, c4, rfl, hS9⟩; have g3 := (hS9.pull 7).cell 1; have g4 := (hS9.pull 4).cell 1)
            | (go_at_call 18; refine (same_any a4 a2 ys.length ys.length c4 c2 _ _ _ (by simp) (by simp) hS9.rowSl (hS9.pull 5).rowSl (by omega) (by omega)).mono ?_; rintro e w10 ⟨rfl, nq2, rfl⟩))
          all_goals
            go_wp2
            go_ret
            exact ⟨by simp, ((hS9.pull 10).drewN _).below⟩
theorem plays_walk (one two : Int) (A : Option Addr) (len cap : Nat) (W : World) (hlen : len ≤ maxLen) (hsc : ScriptAt W A len) :
    Calls Try.prog 4 #[.int .i64 one, .int .i64 two, .slice A len cap] W fun e w' => e = .returned (.bool true) ∧ Below W.heap.size W w' := by
  by_cases h1 : one < 1 ∨ 4096 < one
  · exact plays_bad1 one two _ W h1
  · by_cases h2 : two < 1 ∨ 4096 < two
    · exact plays_bad2 one two _ W (by omega) (by omega) h2
    · exact plays_any one two A len cap W (by simpa [maxLen] using hlen) hsc (by omega) (by omega) (by omega) (by omega)
end Go.Proofs.Ytabpipdhoflgpaa
