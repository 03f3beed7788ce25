/- The document s Memory, Explained, Leaves, Every: lemmas for the laws of layer 22. -/
import Derived.Test.YtljdkfhkpjjfgaaOrA
namespace Go.Proofs.Ytljdkfhkpjjfgaa
open Go.RowKit Go.Shelf
set_option linter.unusedVariables false

theorem lastL_putF {ps : List (Int × Int)} (hk : KeysOk ps) (k v : Int) : lastL (putL ps k v) = putF (lastL ps) k v := by
  funext x
  rw [lastL_put hk]
  rfl
theorem doc_new {W w : World} {L : List HA} (h : Star W w L) (S : Value) : Star W (w.alloc (.cells #[S, .slice none 0 0] 67)) (docA w.heap.size S [] :: L) :=
  doc_shut (ps := []) rfl (((h.new (.cells #[S, .slice none 0 0] 67)).rowNil 70 2).swap)
set_option maxRecDepth 100000 in
set_option maxHeartbeats 6400000 in
theorem explained_doc (s : Sto) (A : Option Addr) (k c b : Nat) (SA : Option Addr) (sn sc : Nat) (st : List Int) (ps : List (Int × Int)) (R : List HA) (W w : World) (hM : Star W w (docA b (.slice SA sn sc) ps :: R)) (hSt : Sl w SA sn 1 (intsC st)) (hsb : sn * 8 ≤ 140737488355328) (hS : Sl w A k 6 (mvsC s.moves)) (hk : s.moves.length = k) (hbig : k * 48 ≤ 140737488355328) :
    Calls Try.prog 33 #[.pointer (some ⟨b, 0, none⟩), .agg (stoC s (.slice A k c)).toArray] w fun e w' => e = .returned (.bool (explS (docF st ps) (fun _ => none) s.moves)) ∧ Below w.heap.size w w' := by
  obtain ⟨F, hF⟩ : ∃ F, docF st ps = F := ⟨_, rfl⟩
  rw [hF]
  have HF := Lib.hid hF
  obtain ⟨th, sp, bg, en, fa, er, by_, op, ga, ms⟩ := s
  dsimp only at hS hk
  dsimp only [stoC]
  have h0 := (Star.begin w).new (.cells #[.int .i64 th, .int .i64 sp, .int .i64 bg, .int .i64 en, .int .i64 fa, .int .i64 er, .int .i64 by_, .int .i64 op, .int .i64 ga, .slice A k c] 44)
  have h1 := doc_new h0 (.slice none 0 0)
  simp only [World.size_alloc] at h1
  have HM := Lib.hid hM
  have HST := Lib.hid hSt
  have HS := Lib.hid hS
  have HK := Lib.hid hk
  have H1 := Lib.hid h1
  clear hM hS hk h0 h1 hSt hF
  go_enter Try.func33, Try.ntmps33
  go_wp2_with fail
  go_loopw [6] (fun i wr => ∃ j : Nat, j ≤ k ∧ i = .int .i64 j ∧ ∃ own : List (Int × Int), own.length ≤ j ∧ Star w wr [docA (w.heap.size + 1) (.slice none 0 0) own, cellsA w.heap.size #[.int .i64 th, .int .i64 sp, .int .i64 bg, .int .i64 en, .int .i64 fa, .int .i64 er, .int .i64 by_, .int .i64 op, .int .i64 ga, .slice A k c] 44, oldA w] ∧ Hid (explS F (fun _ => none) ms = explS F (lastL own) (ms.drop j) ∧ KeysOk own)) (fun i _ => k - (intOf i).toNat)
  case atStart => exact ⟨0, Nat.zero_le _, rfl, [], by simp, H1.out, Lib.hid ⟨rfl, by unfold KeysOk; simp⟩⟩
  case round =>
    clear H1
    obtain ⟨j, hj, rfl, own, hol, hR, hE⟩ := hrel
    have b9 : wr.cell? ⟨w.heap.size, 9, none⟩ = some (.slice A k c) := ((hR.pull 1).cell 9).trans rfl
    by_cases hlt : j < k
    · obtain ⟨m, hm⟩ : ∃ m, ms[j]? = some m := ⟨_, List.getElem?_eq_getElem (by have := HK.out; omega)⟩
      obtain ⟨g, o, rfl, hg, ca⟩ := HS.out.row hlt (by omega)
      have fm : ∀ i u, (mvC m)[i]? = some u → i < 6 → wr.cell? ⟨g, o + j * 6 + i, none⟩ = some u := fun i u hu hi => ((hR.pull 2).oldCell hg).trans (ca i u (by rw [mvsC_at hm hi]; exact hu))
      have a0 := fm 0 _ rfl (by omega)
      have a1 := fm 1 _ rfl (by omega)
      have a2 := fm 2 _ rfl (by omega)
      have a3 := fm 3 _ rfl (by omega)
      have a4 := fm 4 _ rfl (by omega)
      have a5 := fm 5 _ rfl (by omega)
      simp only [Nat.add_zero] at a0
      have hjz : (j : Int) < k := by omega
      have hdr : ms.drop j = m :: ms.drop (j + 1) := drop_cons hm
      have e0 := hE.out.1
      rw [hdr] at e0
      have hN := hR.new (.cells #[.int .i64 m.step, .bool m.write, .int .i64 m.cell, .int .i64 m.x, .bool m.own, .int .i64 m.gate] 46)
      have hF := hN.frame (L := [_, _, _]) HM.out
      have x1 : (wr.alloc (.cells #[.int .i64 m.step, .bool m.write, .int .i64 m.cell, .int .i64 m.x, .bool m.own, .int .i64 m.gate] 46)).cell? ⟨wr.heap.size, 1, none⟩ = some (.bool m.write) := hN.cell 1
      have x2 : (wr.alloc (.cells #[.int .i64 m.step, .bool m.write, .int .i64 m.cell, .int .i64 m.x, .bool m.own, .int .i64 m.gate] 46)).cell? ⟨wr.heap.size, 2, none⟩ = some (.int .i64 m.cell) := hN.cell 2
      have x3 : (wr.alloc (.cells #[.int .i64 m.step, .bool m.write, .int .i64 m.cell, .int .i64 m.x, .bool m.own, .int .i64 m.gate] 46)).cell? ⟨wr.heap.size, 3, none⟩ = some (.int .i64 m.x) := hN.cell 3
      have GT := Lib.hid (get_any b SA sn sc st ps m.cell _ W _ (hF.pull 3) (HST.out.after (L := [_, _, _]) (by omega) (hN.pull 3)) hsb)
      have PT := Lib.hid (put_any (w.heap.size + 1) (.slice none 0 0) own m.cell m.x _ w _ (hN.pull 1) (by omega))
      obtain ⟨stp, wt, ce, xx, ow, ga2⟩ := m
      dsimp only [mvC] at a0 a1 a2 a3 a4 a5 x1 x2 x3 e0 GT PT hN
      have HKO := Lib.hid hE.out.2
      have HN := Lib.hid hN
      clear fm ca hm hdr hR hN hF hE
      cases wt with
      | true =>
        have e1 : explS F (fun _ => none) ms = explS F (lastL (putL own ce xx)) (ms.drop (j + 1)) := by rw [e0, lastL_putF HKO.out]; rfl
        have E1 := Lib.hid (⟨e1, keys_put HKO.out ce xx⟩ : _ ∧ _)
        have hpl := putL_len own ce xx
        clear e0 e1 GT
        go_wp2_with fail
        refine PT.out.mono ?_
        rintro e' w3 ⟨rfl, h3⟩
        have H3 := Lib.hid (h3.pick 4 [0, 2, 3])
        clear h3 PT HN a0 a1 a2 a3 a4 a5 x1 x2 x3 b9
        go_wp2
        go_roundw
        case rel => exact ⟨j + 1, by omega, by go_num, putL own ce xx, by omega, H3.out, E1⟩
        case measure => simp [intOf]; omega
      | false =>
        have e1 : explS F (fun _ => none) ms = if wantF F (lastL own) ce = xx then explS F (lastL own) (ms.drop (j + 1)) else false := e0
        rw [HF.out] at GT
        have E1 := Lib.hid e1
        obtain ⟨v0, hv0⟩ : ∃ v0, (F ce).getD 0 = v0 := ⟨_, rfl⟩
        rw [hv0] at GT
        have HV := Lib.hid hv0
        clear e0 e1 PT hv0
        obtain ⟨oa, oq, hO⟩ := doc_open (HN.out.pull 1)
        obtain ⟨on, hon⟩ : ∃ on, own.length = on := ⟨_, rfl⟩
        rw [hon] at hO hol
        have o1 : (wr.alloc (.cells #[.int .i64 stp, .bool false, .int .i64 ce, .int .i64 xx, .bool ow, .int .i64 ga2] 46)).cell? ⟨w.heap.size + 1, 1, none⟩ = some (.slice oa on oq) := hO.cell 1
        have HON := Lib.hid hon
        have HO := Lib.hid hO
        clear hon hO
        go_wp2_with fail
        refine GT.out.mono ?_
        rintro e' w3 ⟨rfl, rfl⟩
        clear GT
        go_wp2_with fail
        go_loopw [8, 9] (fun v i wz => ∃ t : Nat, t ≤ on ∧ i = .int .i64 t ∧ (∃ q, wz = (wr.alloc (.cells #[.int .i64 stp, .bool false, .int .i64 ce, .int .i64 xx, .bool ow, .int .i64 ga2] 46)).drewN q) ∧ v = .int .i64 ((lastL (own.take t) ce).getD v0)) (fun _ i _ => on - (intOf i).toNat)
        case atStart => exact ⟨0, Nat.zero_le _, rfl, ⟨0, rfl⟩, rfl⟩
        case round =>
          obtain ⟨t, ht, rfl, ⟨q, rfl⟩, rfl⟩ := hrel
          by_cases hlt2 : t < on
          · obtain ⟨p, hp⟩ : ∃ p, own[t]? = some p := ⟨_, List.getElem?_eq_getElem (by have := HON.out; omega)⟩
            obtain ⟨c, x⟩ := p
            obtain ⟨gw, rfl, -, -, cw, -⟩ := (HO.out.pull 1).rowAt (by omega)
            have c0 : (wr.alloc (.cells #[.int .i64 stp, .bool false, .int .i64 ce, .int .i64 xx, .bool ow, .int .i64 ga2] 46)).cell? ⟨gw, t * 2, none⟩ = some (.int .i64 c) := (cw _ (by omega)).trans ((pairsC_at (j := 0) hp (by omega)).trans rfl)
            have c1 : (wr.alloc (.cells #[.int .i64 stp, .bool false, .int .i64 ce, .int .i64 xx, .bool ow, .int .i64 ga2] 46)).cell? ⟨gw, t * 2 + 1, none⟩ = some (.int .i64 x) := (cw _ (by omega)).trans ((pairsC_at (j := 1) hp (by omega)).trans rfl)
            have htl : (t : Int) < on := by omega
            have hts : lastL (own.take (t + 1)) ce = if c = ce then some x else lastL (own.take t) ce := by rw [take_succ hp, lastL_snoc]
            by_cases hck : c = ce
            · subst hck
              have hcb : (c == c) = true := by simp
              rw [if_pos rfl] at hts
              have HTS := Lib.hid hts
              clear cw hp hts
              generalize (lastL (own.take t) c).getD v0 = vv
              go_wp2
              go_quiet (fail)
              go_wp2
              go_roundw
              case rel => exact ⟨t + 1, by omega, by go_num, ⟨_, rfl⟩, by rw [HTS.out]; rfl⟩
              case measure => simp [intOf]; omega
            · have hcb : (c == ce) = false := by simpa using hck
              rw [if_neg hck] at hts
              have HTS := Lib.hid hts
              obtain ⟨vv, hvv⟩ : ∃ vv, (lastL (own.take t) ce).getD v0 = vv := ⟨_, rfl⟩
              rw [hvv]
              have HVV := Lib.hid hvv
              clear cw hp hts hck hvv
              go_wp2
              go_quiet (fail)
              go_wp2
              go_roundw
              case rel => exact ⟨t + 1, by omega, by go_num, ⟨_, rfl⟩, by rw [HTS.out, HVV.out]⟩
              case measure => simp [intOf]; omega
          · have hwt : (lastL (own.take t) ce).getD v0 = wantF F (lastL own) ce := by
              rw [List.take_of_length_le (by have := HON.out; omega), ← HV.out]
              unfold wantF
              cases lastL own ce <;> rfl
            rw [hwt]
            have e1 := E1.out
            obtain ⟨wv, hwv⟩ : ∃ wv, wantF F (lastL own) ce = wv := ⟨_, rfl⟩
            rw [hwv] at e1 ⊢
            have htl : ¬ (t : Int) < on := by omega
            clear hwt hwv E1
            by_cases hxx : wv = xx
            · rw [if_pos hxx] at e1
              have hxb : (wv != xx) = false := by simpa using hxx
              have E2 := Lib.hid (⟨e1, HKO.out⟩ : _ ∧ _)
              have H3 := Lib.hid ((HN.out.drewN q).pick 4 [1, 2, 3])
              clear hxx e1
              go_wp2
              go_roundw
              case rel => exact ⟨j + 1, by omega, by go_num, own, by have := HON.out; omega, H3.out, E2⟩
              case measure => simp [intOf]; omega
            · rw [if_neg hxx] at e1
              have hxb : (wv != xx) = true := by simpa using hxx
              have E2 := Lib.hid e1
              have H3 := Lib.hid ((HN.out.drewN q).pull 3).below
              clear hxx e1
              go_wp2
              go_ret
              exact ⟨by rw [E2.out]; rfl, H3.out⟩
    · have hkn : j = k := by omega
      have e1 : ms.drop j = [] := List.drop_eq_nil_of_le (by have := HK.out; omega)
      have e2 := hE.out.1
      rw [e1] at e2
      have e3 : explS F (fun _ => none) ms = true := by rw [e2]; rfl
      have E3 := Lib.hid e3
      have HB := Lib.hid (hR.pull 2).below
      have hjz : ¬ (j : Int) < k := by omega
      clear hR e1 e2 e3 hE
      go_wp2
      go_ret
      exact ⟨by rw [E3.out]; rfl, HB.out⟩
end Go.Proofs.Ytljdkfhkpjjfgaa
namespace Go.Proofs.Ytljdkfhkpjjfgaa
open Go.RowKit Go.Shelf
set_option linter.unusedVariables false

def putsL (ps l : List (Int × Int)) : List (Int × Int) := l.foldl (fun p x => putL p x.1 x.2) ps
theorem putsL_len : ∀ (l ps : List (Int × Int)), (putsL ps l).length ≤ ps.length + l.length
  | [], ps => by simp [putsL]
  | x :: l, ps => by
    have h1 := putsL_len l (putL ps x.1 x.2)
    have h2 := putL_len ps x.1 x.2
    have e : putsL ps (x :: l) = putsL (putL ps x.1 x.2) l := rfl
    rw [e, List.length_cons]
    omega
theorem keys_puts : ∀ (l : List (Int × Int)) {ps : List (Int × Int)}, KeysOk ps → KeysOk (putsL ps l)
  | [], _, h => h
  | x :: l, _, h => keys_puts l (keys_put h x.1 x.2)
theorem docF_puts (st : List Int) : ∀ (l : List (Int × Int)) {ps : List (Int × Int)}, KeysOk ps → docF st (putsL ps l) = putsF (docF st ps) l
  | [], _, _ => rfl
  | x :: l, ps, h => by
    have e : putsL ps (x :: l) = putsL (putL ps x.1 x.2) l := rfl
    rw [e, docF_puts st l (keys_put h x.1 x.2), docF_put h]
    rfl
theorem left_len (s : Sto) : (leftOf s).length ≤ s.moves.length := by
  unfold leftOf
  split
  · exact writes_len s.moves
  · simp
set_option maxRecDepth 100000 in
set_option maxHeartbeats 6400000 in
theorem leaves_doc (s : Sto) (A : Option Addr) (k c b : Nat) (S : Value) (ps : List (Int × Int)) (R : List HA) (W w : World) (hM : Star W w (docA b S ps :: R)) (hS : Sl w A k 6 (mvsC s.moves)) (hk : s.moves.length = k) (hbig : k * 48 ≤ 140737488355328) (hb : (ps.length + k) * 16 ≤ 140737488355328) :
    Calls Try.prog 34 #[.pointer (some ⟨b, 0, none⟩), .agg (stoC s (.slice A k c)).toArray] w fun e w' => e = .returned (.tuple #[]) ∧ Star W w' (docA b S (putsL ps (leftOf s)) :: R) := by
  obtain ⟨l, hl⟩ : ∃ l, leftOf s = l := ⟨_, rfl⟩
  have hll := left_len s
  have hl' : (if s.fate = 1 then writesOf s.moves else []) = l := hl
  rw [hl] at hll ⊢
  have h0 := (Star.begin w).new (.cells (stoC s (.slice A k c)).toArray 44)
  have WR := Lib.hid (writes_ref s A k c _ (hS.after (by omega) (h0.pull 1)) hk hbig)
  have hcA := sto_cells h0
  obtain ⟨th, sp, bg, en, fa, er, by_, op, ga, ms⟩ := s
  dsimp only at hS hk hl' hll hcA WR
  dsimp only [stoC] at hcA WR ⊢
  obtain ⟨c0, c1, c2, c3, c4, c5, c6, c7, c8, c9⟩ := hcA
  have HM := Lib.hid ((Star.frame (L := [_]) h0 hM).drop)
  have HL := Lib.hid hl'
  have hlk : l.length ≤ k := by omega
  clear hM hS hk h0 hl hl' hll
  go_enter Try.func34, Try.ntmps34
  by_cases hf : fa = 1
  · have hfb : (fa != 1) = false := by simpa using hf
    have hlw := HL.out
    rw [if_pos hf] at hlw
    rw [hlw] at WR
    clear hlw hf
    go_wp2_with fail
    refine WR.out.mono ?_
    rintro e' w2 ⟨a, q, rfl, h2⟩
    obtain ⟨n, hn⟩ : ∃ n, l.length = n := ⟨_, rfl⟩
    rw [hn] at h2 hlk ⊢
    have h3 := (h2.frame (L := [_]) HM.out).swap
    have HN := Lib.hid hn
    have H3 := Lib.hid h3
    clear h2 h3 hn HM WR c0 c1 c2 c3 c4 c5 c6 c7 c8 c9
    go_wp2_with fail
    go_loopw [5] (fun i wr => ∃ t : Nat, t ≤ n ∧ i = .int .i64 t ∧ ∃ ps', ps'.length ≤ ps.length + t ∧ Star W wr (docA b S ps' :: rowA 70 2 (.slice a n q) n (pairsC l) :: R) ∧ Hid (putsL ps l = putsL ps' (l.drop t))) (fun i _ => n - (intOf i).toNat)
    case atStart => exact ⟨0, Nat.zero_le _, rfl, ps, by omega, H3.out, Lib.hid rfl⟩
    case round =>
      clear H3
      obtain ⟨t, ht, rfl, ps', hpl, hR, hE⟩ := hrel
      by_cases hlt : t < n
      · obtain ⟨p, hp⟩ : ∃ p, l[t]? = some p := ⟨_, List.getElem?_eq_getElem (by have := HN.out; omega)⟩
        have hd : l.drop t = p :: l.drop (t + 1) := drop_cons hp
        obtain ⟨x, v⟩ := p
        obtain ⟨gw, rfl, -, -, cw, -⟩ := (hR.pull 1).rowAt (by omega)
        have y0 : wr.cell? ⟨gw, t * 2, none⟩ = some (.int .i64 x) := (cw _ (by omega)).trans ((pairsC_at (j := 0) hp (by omega)).trans rfl)
        have y1 : wr.cell? ⟨gw, t * 2 + 1, none⟩ = some (.int .i64 v) := (cw _ (by omega)).trans ((pairsC_at (j := 1) hp (by omega)).trans rfl)
        have htz : (0 : Int) ≤ t := by omega
        have htl : (t : Int) < n := by omega
        have e1 := hE.out
        rw [hd] at e1
        have E1 := Lib.hid (show putsL ps l = putsL (putL ps' x v) (l.drop (t + 1)) from e1)
        have hpl2 := putL_len ps' x v
        have PT := Lib.hid (put_any b S ps' x v _ W wr.drew hR.drew (by omega))
        clear hp hd cw hR hE e1
        go_upto_region 6 with fail
        go_still_tail 11, (by kernel_rfl)
        change wpList _ _ _ _ _ wr.drew
        go_wp2_with fail
        refine PT.out.mono ?_
        rintro e' w4 ⟨rfl, h4⟩
        have H4 := Lib.hid h4
        clear h4 PT y0 y1
        go_wp2
        go_roundw
        case rel => exact ⟨t + 1, by omega, by go_num, putL ps' x v, by omega, H4.out, E1⟩
        case measure => simp [intOf]; omega
      · have htl : ¬ (t : Int) < n := by omega
        have e1 := hE.out
        rw [List.drop_eq_nil_of_le (by have := HN.out; omega)] at e1
        have E1 := Lib.hid (show putsL ps l = ps' from e1)
        have H4 := Lib.hid (hR.swap.drop)
        clear hR hE e1
        go_wp2
        refine bodyPost_end (results_none rfl _ _ _) rfl ?_
        exact ⟨rfl, by rw [E1.out]; exact H4.out⟩
  · have hfb : (fa != 1) = true := by simpa using hf
    have hlw := HL.out
    rw [if_neg hf] at hlw
    have E1 := Lib.hid (show putsL ps l = ps from by rw [← hlw]; rfl)
    clear hlw hf WR
    go_wp2
    refine bodyPost_ret (results_none rfl _ _ _) rfl ?_
    exact ⟨rfl, by rw [E1.out]; exact HM.out⟩
end Go.Proofs.Ytljdkfhkpjjfgaa
namespace Go.Proofs.Ytljdkfhkpjjfgaa
open Go.RowKit Go.Shelf
set_option linter.unusedVariables false

def markB (n : Nat) (pre : List Int) : List Bool := (List.range n).map fun x : Nat => decide ((x : Int) ∈ pre)
theorem markB_nil (n : Nat) : markB n [] = List.replicate n false := by
  apply List.ext_getElem <;> simp [markB]
theorem markB_at (n : Nat) (pre : List Int) (i : Nat) (h : i < n) : (boolsC (markB n pre))[i]? = some (.bool (decide ((i : Int) ∈ pre))) := by
  simp [boolsC, markB, h]
theorem markB_set (n : Nat) (pre : List Int) (i : Nat) (h : i < n) : (boolsC (markB n pre)).set i (.bool true) = boolsC (markB n (pre ++ [(i : Int)])) := by
  apply List.ext_getElem?
  intro j
  by_cases hj : j = i
  · subst hj
    rw [List.getElem?_set_self (by simp [boolsC, markB, h]), markB_at n _ j h]
    simp
  · rw [List.getElem?_set_ne (fun e => hj e.symm)]
    rcases Nat.lt_or_ge j n with hjn | hjn
    · rw [markB_at n _ j hjn, markB_at n _ j hjn]
      have : (j : Int) ≠ (i : Int) := by omega
      simp [this]
    · rw [List.getElem?_eq_none (by simp [boolsC, markB]; omega), List.getElem?_eq_none (by simp [boolsC, markB]; omega)]
set_option maxRecDepth 100000 in
set_option maxHeartbeats 6400000 in
theorem every_doc (A : Option Addr) (k c n : Nat) (zs : List Int) (w : World) (hS : Sl w A k 1 (intsC zs)) (hb : k * 8 ≤ 140737488355328) (hn : n * 8 ≤ 140737488355328) :
    Calls Try.prog 32 #[.slice A k c, .int .i64 n] w fun e w' => e = .returned (.bool (evP n [] zs)) ∧ Below w.heap.size w w' := by
  have hzl : zs.length = k := by have := hS.1; rw [intsC_len] at this; omega
  have hm1 := make_ints 81 4 (.bool false) 1 n rfl Try.underlying81 Try.info4 (by omega) (by omega)
  have h1 := (Star.begin w).rowNew 4 1 (Array.replicate n (.bool false)) n (by simp only [maxLen]; omega) (by simp)
  have e0 : (Array.replicate n (Value.bool false)).toList = boolsC (markB n []) := by rw [markB_nil, Array.toList_replicate]; simp [boolsC]
  rw [e0] at h1
  have HS := Lib.hid hS
  have HZ := Lib.hid hzl
  have H1 := Lib.hid h1
  have HEV := Lib.hid (evP_iff (n := n) zs [])
  clear hS hzl h1 e0
  by_cases hkn : k = n
  case neg =>
    have e1 : evP n [] zs = false := by
      rw [Bool.eq_false_iff]
      intro h
      have := (HEV.out.1 h).2.2.2
      have h2 := HZ.out
      simp at this
      omega
    have E1 := Lib.hid e1
    have hne : ((k : Int) != (n : Int)) = true := by simp only [bne_iff_ne, ne_eq]; omega
    clear e1 hkn
    go_enter Try.func32, Try.ntmps32
    go_wp2
    go_ret
    exact ⟨by rw [E1.out]; rfl, Below.refl _ _⟩
  subst hkn
  have hne : ((k : Int) != (k : Int)) = false := by simp
  go_enter Try.func32, Try.ntmps32
  go_wp2_with fail
  clear hne
  go_loopw [6] (fun i wr => ∃ j : Nat, j ≤ k ∧ i = .int .i64 j ∧ Star w wr [rowA 4 1 (.slice (some ⟨w.heap.size, 0, none⟩) k k) k (boolsC (markB k (zs.take j))), oldA w] ∧ Hid (evP k [] zs = evP k (zs.take j) (zs.drop j))) (fun i _ => k - (intOf i).toNat)
  case atStart => exact ⟨0, Nat.zero_le _, rfl, H1.out, Lib.hid rfl⟩
  case round =>
    clear H1
    obtain ⟨j, hj, rfl, hR, hE⟩ := hrel
    by_cases hlt : j < k
    · obtain ⟨z, hz⟩ : ∃ z, zs[j]? = some z := ⟨_, List.getElem?_eq_getElem (by have := HZ.out; omega)⟩
      obtain ⟨g, o, rfl, hg, ca⟩ := HS.out.row hlt (by omega)
      have a0 : wr.cell? ⟨g, o + j, none⟩ = some (.int .i64 z) := ((hR.pull 1).oldCell hg).trans (by have := ca 0 _ (by rw [Nat.mul_one, Nat.add_zero]; exact intsC_get hz); simpa using this)
      have hjz : (j : Int) < k := by omega
      have hdr : zs.drop j = z :: zs.drop (j + 1) := drop_cons hz
      have htk : zs.take (j + 1) = zs.take j ++ [z] := take_succ hz
      have e1 := hE.out
      rw [hdr, evP] at e1
      have HB := Lib.hid (hR.pull 1).below
      clear hE ca hz hdr
      by_cases hz0 : z < 0
      · rw [if_neg (by omega)] at e1
        have E1 := Lib.hid e1
        clear e1 hR htk
        go_wp2
        go_ret
        exact ⟨by rw [E1.out]; rfl, HB.out⟩
      · by_cases hzn : (k : Int) ≤ z
        · rw [if_neg (by omega)] at e1
          have E1 := Lib.hid e1
          clear e1 hR htk
          go_wp2
          go_ret
          exact ⟨by rw [E1.out]; rfl, HB.out⟩
        · obtain ⟨i, rfl⟩ : ∃ i : Nat, z = i := ⟨z.toNat, by omega⟩
          have hin : i < k := by omega
          obtain ⟨b0, b1⟩ := row1_cell hR (markB_at k (zs.take j) i hin)
          by_cases hmem : (i : Int) ∈ zs.take j
          · rw [if_neg (fun h => h.2.2 hmem)] at e1
            rw [decide_eq_true hmem] at b0
            have E1 := Lib.hid e1
            clear e1 hR htk hmem
            go_wp2
            go_ret
            exact ⟨by rw [E1.out]; rfl, HB.out⟩
          · rw [if_pos ⟨by omega, by omega, hmem⟩] at e1
            rw [decide_eq_false hmem] at b0
            have h2 := hR.rowSet i (.bool true)
            rw [markB_set k _ i hin, ← htk] at h2
            rw [← htk] at e1
            have E1 := Lib.hid e1
            have H2 := Lib.hid h2
            clear e1 hR htk hmem h2
            go_wp2
            go_roundw
            case rel => exact ⟨j + 1, by omega, by go_num, H2.out, E1⟩
            case measure => simp [intOf]; omega
    · have hkn : j = k := by omega
      have e2 := hE.out
      rw [List.drop_eq_nil_of_le (by have := HZ.out; omega), List.take_of_length_le (by have := HZ.out; omega), evP, HZ.out, beq_self_eq_true] at e2
      have HR := Lib.hid (hR.pull 1).below
      have E2 := Lib.hid e2
      have hjz : ¬ (j : Int) < k := by omega
      clear hR hE e2 hkn
      go_wp2
      go_ret
      exact ⟨by rw [E2.out]; rfl, HR.out⟩
end Go.Proofs.Ytljdkfhkpjjfgaa
