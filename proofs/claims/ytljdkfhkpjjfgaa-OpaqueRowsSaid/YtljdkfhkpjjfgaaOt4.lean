/- OpaqueRows' walk: lemmas for the laws of layer 22. -/
import Derived.Test.YtljdkfhkpjjfgaaOt3
namespace Go.Proofs.Ytljdkfhkpjjfgaa
open Go.RowKit Go.Shelf
set_option linter.unusedVariables false

/-- stories of one's own, read as stories -/
theorem stories_read {W w : World} {L : List HA} {a : Option Addr} {n c : Nat} {sts : List Sto} (h : Star W w (storiesA (.slice a n c) sts :: L)) (hn : sts.length = n) (hb : ∀ s ∈ sts, s.moves.length * 48 ≤ 140737488355328) : ∃ vs, Stories w a n sts vs := by
  obtain ⟨vs, hvl, h1⟩ := stories_open h
  subst hn
  refine ⟨vs, h1.rowSl, rfl, hvl, fun i s v hs hv => ?_⟩
  have h2 := (h1.pull 1).focus i (movesL_get hs hv)
  obtain ⟨A, k, rfl⟩ := h2.form
  exact ⟨A, _, k, rfl, rfl, h2.rowSl, hb s (List.mem_of_getElem? hs)⟩
theorem xor_ne (x : Int) : bits BinOp.xor IntKind.i64 x 1 ≠ x := by
  intro h
  obtain ⟨A, hA⟩ : ∃ A, BitVec.ofInt 64 x = A := ⟨_, rfl⟩
  have e : bits BinOp.xor IntKind.i64 x 1 = IntKind.i64.wrap ((A ^^^ 1#64).toNat : Int) := by rw [← hA]; rfl
  have h1 : A = A ^^^ 1#64 := by
    apply BitVec.eq_of_toNat_eq
    have h2 : A.toNat = (x % 18446744073709551616).toNat := by rw [← hA, BitVec.toNat_ofInt]; rfl
    have h3 := (A ^^^ 1#64).isLt
    rw [h2, ← h, e, IntKind.wrap_i64]
    omega
  have h2 : A ^^^ A = A ^^^ (A ^^^ 1#64) := congrArg (A ^^^ ·) h1
  rw [← BitVec.xor_assoc, BitVec.xor_self, BitVec.zero_xor] at h2
  exact absurd h2 (by decide)
theorem mvsC_set {ms : List Mv} {j : Nat} {m : Mv} (h : ms[j]? = some m) (y : Int) : (mvsC ms).set (j * 6 + 3) (.int .i64 y) = mvsC (ms.set j { m with x := y }) := by
  rw [mvsC, flat_set (.int .i64 y) mv_len (by rw [List.getElem?_map, h]; rfl) (by decide), mvsC, List.map_set]
  rfl
theorem natsC_rev (n p : Nat) (hp : p < n) : natsC ((List.range n).reverse.take (p + 1)) = natsC ((List.range n).reverse.take p) ++ [.int .i64 ((n - 1 - p : Nat) : Int)] := by
  have h : (List.range n).reverse[p]? = some (n - 1 - p) := by
    rw [List.getElem?_reverse (by simpa using hp), List.length_range, List.getElem?_range (by omega)]
  rw [take_succ h, natsC_snoc]
theorem stosC_moves {sts : List Sto} {vs : List Value} {i : Nat} {s : Sto} {v : Value} (ms : List Mv) (h : sts[i]? = some s) (hv : vs[i]? = some v) : stosC (sts.set i { s with moves := ms }) vs = stosC sts vs := by
  have h1 : stosC (sts.set i { s with moves := ms }) (vs.set i v) = stosC sts vs := by
    rw [stosC, zip_set, stosC]
    congr 1
    have h3 : (List.zipWith stoC sts vs)[i]? = some (stoC s v) := sto_get h hv
    exact set_same h3
  rwa [set_same hv] at h1
theorem movesL_moves {sts : List Sto} {vs : List Value} {i : Nat} {s : Sto} {v : Value} (ms : List Mv) (hl : ms.length = s.moves.length) (h : sts[i]? = some s) (hv : vs[i]? = some v) : movesL (sts.set i { s with moves := ms }) vs = (movesL sts vs).set i (rowA 46 6 v s.moves.length (mvsC ms)) := by
  have h1 := movesL_set (s' := { s with moves := ms }) (v' := v) h hv
  rw [set_same hv] at h1
  rw [h1]
  show (movesL sts vs).set i (rowA 46 6 v ms.length (mvsC ms)) = _
  rw [hl]
theorem DealsAt.min {w : World} {A : Option Addr} {n m : Nat} (h : DealsAt w A n) (hm : m ≤ n) : DealsAt w A m := fun i hi => h i (by omega)
set_option maxRecDepth 100000 in
set_option maxHeartbeats 6400000 in
theorem rows_walk (SA : Option Addr) (sn sc : Nat) (st : List Int) (B : Option Addr) (n0 c : Nat) (wh : Int) (w : World)
    (hST : Sl w SA sn 1 (intsC st)) (hsb : sn * 8 ≤ 140737488355328) (hD : DealsAt w B n0) (hcap : n0 ≤ c) (hcm : c ≤ maxLen) (hwh : -9223372036854775808 ≤ wh ∧ wh ≤ 9223372036854775807) :
    Calls Try.prog 8 #[.slice SA sn sc, .slice B n0 c, .int .i64 wh] w fun e w' => e = .returned (.bool true) ∧ Below w.heap.size w w' := by
  have HST := Lib.hid hST
  have HD := Lib.hid hD
  obtain ⟨c0, hc0⟩ : ∃ c0 : Nat, c0Of wh = (c0 : Int) := ⟨(c0Of wh).toNat, by unfold c0Of; split <;> omega⟩
  have HC0 := Lib.hid hc0
  have h63 : c0 ≤ 9223372036854775807 := by have := hc0; unfold c0Of at this; split at this <;> omega
  obtain ⟨hw1, hw2⟩ := hwh
  clear hST hD hc0
  go_enter Try.func8, Try.ntmps8
  go_wp2_with fail
  refine (awake_any _).mono ?_
  rintro e' w1 ⟨rfl, hb1⟩
  have HB1 := Lib.hid hb1
  clear hb1
  go_upto_if 26 with fail
  go_cut [1] (fun v wx => v = .slice B (min n0 200) c ∧ wx = w1)
  case first =>
    by_cases h200 : 200 < n0
    · have h200z : (200 : Int) < n0 := by omega
      obtain ⟨g, o, -, -, -, -, -, -, -, -, -, rfl, -⟩ := HD.out 0 (by omega)
      have hc200 : (200 : Int) ≤ c := by omega
      go_wp2
      go_meet
      exact ⟨by rw [Nat.min_eq_right (by omega)], rfl⟩
    · have h200z : ¬ (200 : Int) < n0 := by omega
      go_wp2
      go_meet
      exact ⟨by rw [Nat.min_eq_left (by omega)], rfl⟩
  case rest =>
    obtain ⟨rfl, rfl⟩ := hcut
    obtain ⟨w1, rfl⟩ : ∃ w1 : World, w1 = wc := ⟨_, rfl⟩
    have hD1 := (HD.out.after ((Star.begin w).of_below HB1.out)).min (show min n0 200 ≤ n0 from Nat.min_le_left _ _)
    have hn : min n0 200 ≤ 200 := Nat.min_le_right _ _
    generalize min n0 200 = n at hD1 hn ⊢
    have RA := Lib.hid (row_any SA sn sc st B n c w1 (HST.out.below (by omega) HB1.out) hsb hD1 hn)
    clear hD1
    go_wp2_with fail
    refine RA.out.mono ?_
    rintro e' w2 hrp
    unfold RowPost at hrp
    obtain ⟨a, q, L, rfl, hL, hS, h8, hP⟩ := hrp
    have h2 := hS.frame (L := [_]) ((Star.begin w).of_below HB1.out)
    have H0 := Lib.hid (Star.rowNil h2 3 1)
    have HL := Lib.hid hL
    have HP := Lib.hid hP
    have H8 := Lib.hid (show ∀ s ∈ L, s.moves.length * 48 ≤ 140737488355328 from fun s hs => by have := h8 s hs; omega)
    clear h2 hS hL hP h8 RA HB1
    obtain ⟨i0, hi0, hz0, hz1, hz2⟩ := info_parts Try.info3
    go_wp2_with fail
    go_loopw [9, 10] (fun l2 i wr => ∃ p : Nat, p ≤ n ∧ i = .int .i64 p ∧ ∃ a2 q2, l2 = .slice a2 p q2 ∧ Star w wr [rowA 3 1 (.slice a2 p q2) p (natsC (List.range p)), storiesA (.slice a n q) L, oldA w]) (fun _ i _ => n - (intOf i).toNat)
    case atStart => exact ⟨0, Nat.zero_le _, rfl, none, 0, rfl, H0.out⟩
    case round =>
      clear H0
      obtain ⟨p, hp, rfl, a2, q2, rfl, hR⟩ := hrel
      by_cases hlt : p < n
      · have hpz : (p : Int) < n := by omega
        have hN := (hR.new (.cells #[.int .i64 p] 3)).pull 1
        clear hR
        go_wp2_with (at_builtin; refine wpList_append_star rfl (.tmp 38) (.tmp 40) 24 rfl 3 i0 _ 1 8 Try.underlying24 hi0 hz0 hz1 hz2 rfl (by decide) _ p _ rfl hN ⟨wr.heap.size, 0, none⟩ 1 1 [.int .i64 p] rfl rfl (cell_list_new _ _ rfl _ _) (by simp [Value.oneCell']) (by simp only [maxLen]; omega) (by omega) ?_; intro a2' q2' w6 h7; have H7 := Lib.hid h7; clear h7 hN)
        go_roundw
        case rel => exact ⟨p + 1, by omega, by go_num, a2', q2', rfl, by rw [List.range_succ, natsC_snoc]; exact H7.out.pick 4 [0, 2, 3]⟩
        case measure => simp [intOf]; omega
      · have hpn : n = p := by omega
        subst hpn
        have hpz : ¬ (n : Int) < n := by omega
        clear hlt hp
        obtain ⟨vs, hT⟩ := stories_read (hR.pull 1) HL.out H8.out
        have ck := check_any SA sn sc st a n q L vs a2 n q2 (intsOf (List.range n)) wr (HST.out.after (by omega) (hR.pull 2)) hsb hT (by omega) (by have := hR.rowSl; rwa [natsC_ints] at this) (by omega)
        rw [show checkP st L (intsOf (List.range n)) = (0, 0) from by rw [← HL.out]; exact row_check HP.out] at ck
        have CK := Lib.hid ck
        have HR := Lib.hid hR
        clear hR hT ck
        go_wp2_with fail
        refine CK.out.mono ?_
        rintro e' w3 ⟨rfl, hb3⟩
        have h3 := HR.out.of_below hb3
        obtain ⟨vs3, hT3⟩ := stories_read (h3.pull 1) HL.out H8.out
        have OR := Lib.hid (order_any a n q L vs3 w3 hT3 (by omega))
        have H3 := Lib.hid h3
        clear h3 hb3 hT3 HR CK
        go_wp2_with fail
        refine OR.out.mono ?_
        rintro e' w4 ⟨ao, qo, rfl, h4⟩
        rw [show orderOf L = List.range n from by rw [← HL.out]; exact row_order HP.out] at h4
        have h5 : Star w w4 [rowA 3 1 (.slice ao n qo) n (natsC (List.range n)), rowA 3 1 (.slice a2 n q2) n (natsC (List.range n)), storiesA (.slice a n q) L, oldA w] := h4.frame (L := [_]) H3.out
        have si := (sameInts_any (intsOf (List.range n)) (intsOf (List.range n)) ao a2 n n qo q2 w4 (by have := h5.rowSl; rwa [natsC_ints] at this) (by have := (h5.pull 1).rowSl; rwa [natsC_ints] at this) (by omega))
        rw [show decide (intsOf (List.range n) = intsOf (List.range n)) = true from decide_eq_true rfl] at si
        have SI := Lib.hid si
        have H5 := Lib.hid (h5.pick 4 [1, 2, 3])
        clear h4 h5 H3 OR si
        go_wp2_with fail
        refine SI.out.mono ?_
        rintro e' w5' ⟨rfl, qq, rfl⟩
        have h6 := H5.out.drewN qq
        generalize w4.drewN qq = w5 at h6 ⊢
        have H6 := Lib.hid h6
        clear h6 H5 SI
        go_upto_if 70 with fail
        go_cut [2] (fun v wx => v = .int .i64 wh ∧ Star w wx [rowA 3 1 (.slice a2 n q2) n (natsC (List.range n)), storiesA (.slice a n q) L, oldA w])
        case first =>
          by_cases h1 : 1 < n
          · have h1z : decide ((1 : Int) < n) = true := by simp; omega
            rw [h1z]
            have T0 := Lib.hid (Star.rowNil H6.out 3 1)
            clear H6
            go_wp2_with fail
            go_loopw [15, 16] (fun l3 i wr => ∃ p : Nat, p ≤ n ∧ i = .int .i64 ((n : Int) - 1 - p) ∧ ∃ a3 q3, l3 = .slice a3 p q3 ∧ Star w wr [rowA 3 1 (.slice a3 p q3) p (natsC ((List.range n).reverse.take p)), rowA 3 1 (.slice a2 n q2) n (natsC (List.range n)), storiesA (.slice a n q) L, oldA w]) (fun _ i _ => (intOf i + 1).toNat)
            case atStart => exact ⟨0, Nat.zero_le _, by go_num, none, 0, rfl, T0.out⟩
            case round =>
              clear T0
              obtain ⟨p, hp, rfl, a3, q3, rfl, hR⟩ := hrel
              by_cases hlt : p < n
              · have hpz : (0 : Int) ≤ (n : Int) - 1 - p := by omega
                have hN := (hR.new (.cells #[.int .i64 ((n : Int) - 1 - p)] 3)).pull 1
                clear hR
                go_wp2_with (at_builtin; refine wpList_append_star rfl (.tmp 78) (.tmp 80) 24 rfl 3 i0 _ 1 8 Try.underlying24 hi0 hz0 hz1 hz2 rfl (by decide) _ p _ rfl hN ⟨wr.heap.size, 0, none⟩ 1 1 [.int .i64 ((n : Int) - 1 - p)] rfl rfl (cell_list_new _ _ rfl _ _) (by simp [Value.oneCell']) (by simp only [maxLen]; omega) (by omega) ?_; intro a3' q3' w6 h7; have H7 := Lib.hid h7; clear h7 hN)
                go_roundw
                case rel =>
                  exact ⟨p + 1, by omega, by go_num, a3', q3', rfl, by rw [natsC_rev n p hlt, show ((n - 1 - p : Nat) : Int) = (n : Int) - 1 - p by omega]; exact H7.out.pick 5 [0, 2, 3, 4]⟩
                case measure => simp [intOf]; omega
              · have hpn : n = p := by omega
                subst hpn
                have hpz : ¬ (0 : Int) ≤ (n : Int) - 1 - n := by omega
                clear hlt hp
                obtain ⟨vs4, hT4⟩ := stories_read (hR.pull 2) HL.out H8.out
                have ck := check_any SA sn sc st a n q L vs4 a3 n q3 (intsOf (List.range n).reverse) wr (HST.out.after (by omega) (hR.pull 3)) hsb hT4 (by omega) (by have := hR.rowSl; rwa [List.take_of_length_le (by simp), natsC_ints] at this) (by omega)
                rw [show checkP st L (intsOf (List.range n).reverse) = (221, 1) from by have := row_turned HP.out (by rw [HL.out]; exact h1); rwa [HL.out] at this] at ck
                have CK := Lib.hid ck
                have HR := Lib.hid (hR.pick 4 [1, 2, 3])
                clear hR hT4 ck
                go_wp2_with fail
                refine CK.out.mono ?_
                rintro e' w6 ⟨rfl, hb6⟩
                have H7 := Lib.hid (HR.out.of_below hb6)
                clear HR hb6 CK
                go_wp2
                go_meet
                exact ⟨rfl, H7.out⟩
          · have h1z : ¬ (1 : Int) < n := by omega
            go_wp2
            go_meet
            exact ⟨rfl, H6.out⟩
        case rest =>
          obtain ⟨rfl, hR⟩ := hcut
          have HR := Lib.hid hR
          clear hR H6
          obtain ⟨w6, rfl⟩ : ∃ w6 : World, w6 = wc := ⟨_, rfl⟩
          go_upto_if 96 with fail
          go_cut [2] (fun v wx => v = .int .i64 (c0 : Int) ∧ wx = w6)
          case first =>
            by_cases hneg : wh < 0
            · have e1 : -(wh + 1) = (c0 : Int) := by have := HC0.out; unfold c0Of at this; rw [if_pos hneg] at this; exact this
              have E1 := Lib.hid e1
              clear e1
              go_wp2
              go_meet
              exact ⟨by rw [E1.out], rfl⟩
            · have e1 : wh = (c0 : Int) := by have := HC0.out; unfold c0Of at this; rw [if_neg hneg] at this; exact this
              have E1 := Lib.hid e1
              clear e1
              go_wp2
              go_meet
              exact ⟨by rw [E1.out], rfl⟩
          case rest =>
            obtain ⟨rfl, rfl⟩ := hcut
            obtain ⟨w6, rfl⟩ : ∃ w6 : World, w6 = wc := ⟨_, rfl⟩
            by_cases hnz : n = 0
            · have hnb : ((n : Int) == 0) = true := by simpa using hnz
              have HB := Lib.hid (HR.out.pull 2).below
              clear hnz HR
              go_wp2
              go_ret
              exact ⟨rfl, HB.out⟩
            · have hnb : ((n : Int) == 0) = false := by simpa using hnz
              have hn0 : 0 < n := by omega
              obtain ⟨t, ht⟩ : ∃ t : Nat, t = c0 % n := ⟨_, rfl⟩
              have htn : t < n := by rw [ht]; exact Nat.mod_lt _ hn0
              have HTZ := Lib.hid (show (c0 : Int) % (n : Int) = (t : Int) by rw [ht, Int.natCast_emod])
              clear ht hnz
              obtain ⟨s, hs⟩ : ∃ s, L[t]? = some s := ⟨_, List.getElem?_eq_getElem (by have := HL.out; omega)⟩
              obtain ⟨vs, hvl, h1⟩ := stories_open (HR.out.pull 1)
              obtain ⟨v, hv⟩ : ∃ v, vs[t]? = some v := ⟨_, List.getElem?_eq_getElem (by have := HL.out; omega)⟩
              rw [HL.out] at h1
              have h2 := (h1.pull 1).focus t (movesL_get hs hv)
              obtain ⟨MA, mc, rfl⟩ := h2.form
              obtain ⟨mk, hmk⟩ : ∃ mk, s.moves.length = mk := ⟨_, rfl⟩
              rw [hmk] at h2 hv
              have hmb : mk * 48 ≤ 140737488355328 := by have := H8.out s (List.mem_of_getElem? hs); omega
              obtain ⟨gL, rfl, -, -, -, -⟩ := (h2.pull 2).rowAt hn0
              have H2 := Lib.hid h2
              have HS := Lib.hid hs
              have HV := Lib.hid hv
              have HVL := Lib.hid hvl
              have HMK := Lib.hid hmk
              clear h1 h2 hs hv hvl hmk HR
              go_upto_block 4 with fail
              rw [HTZ.out]
              go_wp2_with fail
              go_loopw [20] (fun i wr => ∃ p : Nat, p ≤ mk ∧ i = .int .i64 p ∧ Star w wr [rowA 46 6 (.slice MA mk mc) mk (mvsC s.moves), Holds ((movesL L vs).eraseIdx t), rowA 44 10 (.slice (some ⟨gL, 0, none⟩) n q) n (stosC L vs), rowA 3 1 (.slice a2 n q2) n (natsC (List.range n)), oldA w] ∧ Hid (∀ (u : Nat) (z : Mv), u < p → s.moves[u]? = some z → z.write = true)) (fun i _ => mk - (intOf i).toNat)
              case atStart => exact ⟨0, Nat.zero_le _, rfl, H2.out, Lib.hid (fun u z h => absurd h (by omega))⟩
              case round =>
                clear H2
                obtain ⟨p, hp, rfl, hR, hW⟩ := hrel
                have l9 : wr.cell? ⟨gL, t * 10 + 9, none⟩ = some (.slice MA mk mc) := (row_cell (hR.pull 2) HS.out HV.out (j := 9) rfl (by decide)).1
                by_cases hlt : p < mk
                · have hpz : (p : Int) < mk := by omega
                  obtain ⟨m, hm⟩ : ∃ m, s.moves[p]? = some m := ⟨_, List.getElem?_eq_getElem (by have := HMK.out; omega)⟩
                  obtain ⟨gM, rfl, -, -, cM, fM⟩ := hR.rowAt (by omega)
                  have m1 : wr.cell? ⟨gM, p * 6 + 1, none⟩ = some (.bool m.write) := (cM _ (by omega)).trans ((mvsC_at (j := 1) hm (by omega)).trans rfl)
                  have m3 : wr.cell? ⟨gM, p * 6 + 3, none⟩ = some (.int .i64 m.x) := (cM _ (by omega)).trans ((mvsC_at (j := 3) hm (by omega)).trans rfl)
                  have f3 : wr.frozen? ⟨gM, p * 6 + 3, none⟩ = false := fM _
                  have HM := Lib.hid hm
                  clear hm cM fM
                  cases hw : m.write with
                  | true =>
                    rw [hw] at m1
                    have HW := Lib.hid (show ∀ (u : Nat) (z : Mv), u < p + 1 → s.moves[u]? = some z → z.write = true from fun u z hu hz => by
                      by_cases hup : u = p
                      · subst hup
                        rw [HM.out] at hz
                        injection hz with hz
                        rw [← hz]; exact hw
                      · exact hW.out u z (by omega) hz)
                    have HR := Lib.hid hR
                    clear hW hw hR
                    go_wp2
                    go_roundw
                    case rel => exact ⟨p + 1, by omega, by go_num, HR.out, HW⟩
                    case measure => simp [intOf]; omega
                  | false =>
                    rw [hw] at m1
                    obtain ⟨y, hy⟩ : ∃ y, bits BinOp.xor IntKind.i64 m.x 1 = y := ⟨_, rfl⟩
                    have hyn : y ≠ m.x := by rw [← hy]; exact xor_ne _
                    have bad := row_bad (y := y) HP.out HS.out HM.out hw hW.out hyn
                    rw [HL.out] at bad
                    have h3 := Star.rowSet hR (p * 6 + 3) (.int .i64 y)
                    rw [mvsC_set HM.out y] at h3
                    have h4 := Star.unfocus h3 (by rw [movesL_len (by rw [HVL.out]), HL.out]; exact htn)
                    have h5 : Star w (wr.setCell ⟨gM, p * 6 + 3, none⟩ (.int .i64 y)) [Holds (movesL (L.set t { s with moves := s.moves.set p { m with x := y } }) vs), rowA 44 10 (.slice (some ⟨gL, 0, none⟩) n q) n (stosC (L.set t { s with moves := s.moves.set p { m with x := y } }) vs), rowA 3 1 (.slice a2 n q2) n (natsC (List.range n)), oldA w] := by
                      rw [stosC_moves _ HS.out HV.out, movesL_moves _ (by simp) HS.out HV.out, HMK.out]
                      exact h4
                    obtain ⟨L', hL'⟩ : ∃ L', L.set t { s with moves := s.moves.set p { m with x := y } } = L' := ⟨_, rfl⟩
                    rw [hL'] at h5 bad
                    have hl' : L'.length = n := by rw [← hL', List.length_set, HL.out]
                    have h6 : Star w (wr.setCell ⟨gM, p * 6 + 3, none⟩ (.int .i64 y)) [storiesA (.slice (some ⟨gL, 0, none⟩) n q) L', rowA 3 1 (.slice a2 n q2) n (natsC (List.range n)), oldA w] := stories_shut (vs := vs) (by rw [HVL.out, HL.out, hl']) (by rw [hl']; exact h5.swap)
                    obtain ⟨vs5, hT5⟩ := stories_read h6 hl' (by
                      intro x hx
                      rw [← hL'] at hx
                      rcases List.mem_or_eq_of_mem_set hx with hx | rfl
                      · exact H8.out x hx
                      · show (s.moves.set p _).length * 48 ≤ _
                        rw [List.length_set, HMK.out]; exact hmb)
                    have ck := check_any SA sn sc st (some ⟨gL, 0, none⟩) n q L' vs5 a2 n q2 (intsOf (List.range n)) _ (HST.out.after (by omega) (h6.pull 2)) hsb hT5 (by omega) (by have := (h6.pull 1).rowSl; rwa [natsC_ints] at this) (by omega)
                    rw [bad] at ck
                    have CK := Lib.hid ck
                    have H6 := Lib.hid (h6.pull 2).below
                    have HY := Lib.hid hy
                    clear hR hW hw hyn bad h3 h4 h5 hL' hl' h6 hT5 ck hy
                    go_wp2_with fail
                    rw [HY.out]
                    refine CK.out.mono ?_
                    rintro e' w7 ⟨rfl, hb7⟩
                    have HB := Lib.hid (below_next H6.out hb7)
                    clear hb7 H6 CK
                    go_wp2
                    go_ret
                    exact ⟨rfl, HB.out⟩
                · have hpz : ¬ (p : Int) < mk := by omega
                  have HB := Lib.hid (hR.pull 4).below
                  clear hR hW
                  go_wp2
                  go_ret
                  exact ⟨rfl, HB.out⟩
end Go.Proofs.Ytljdkfhkpjjfgaa
