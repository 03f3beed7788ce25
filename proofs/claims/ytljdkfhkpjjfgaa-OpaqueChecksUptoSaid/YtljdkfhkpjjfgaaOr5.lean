/- The document's Memory, Leaves; Every: lemmas for the laws of layer 22. -/
import Derived.Test.YtljdkfhkpjjfgaaOr4
namespace Go.Proofs.Ytljdkfhkpjjfgaa
open Go.RowKit Go.Shelf
set_option linter.unusedVariables false

def putsL (ps l : List (Int × Int)) : List (Int × Int) := l.foldl (fun p x => putL p x.1 x.2) ps
theorem putsL_len : ∀ (l ps : List (Int × Int)), (putsL ps l).length ≤ ps.length + l.length
  | [], ps => by simp [putsL]
  | x :: l, ps => by
    have h1 := putsL_len l (putL ps x.1 x.2)
    have h2 := putL_len ps x.1 x.2
    have e : putsL ps (x :: l) = putsL (putL ps x.1 x.2) l := rfl
    rw [e, List.length_cons]
    omega
theorem keys_puts : ∀ (l : List (Int × Int)) {ps : List (Int × Int)}, KeysOk ps → KeysOk (putsL ps l)
  | [], _, h => h
  | x :: l, _, h => keys_puts l (keys_put h x.1 x.2)
theorem docF_puts (st : List Int) : ∀ (l : List (Int × Int)) {ps : List (Int × Int)}, KeysOk ps → docF st (putsL ps l) = putsF (docF st ps) l
  | [], _, _ => rfl
  | x :: l, ps, h => by
    have e : putsL ps (x :: l) = putsL (putL ps x.1 x.2) l := rfl
    rw [e, docF_puts st l (keys_put h x.1 x.2), docF_put h]
    rfl
theorem left_len (s : Sto) : (leftOf s).length ≤ s.moves.length := by
  unfold leftOf
  split
  · exact writes_len s.moves
  · simp
set_option maxRecDepth 100000 in
set_option maxHeartbeats 6400000 in
theorem leaves_doc (s : Sto) (A : Option Addr) (k c b : Nat) (S : Value) (ps : List (Int × Int)) (R : List HA) (W w : World) (hM : Star W w (docA b S ps :: R)) (hS : Sl w A k 6 (mvsC s.moves)) (hk : s.moves.length = k) (hbig : k * 48 ≤ 140737488355328) (hb : (ps.length + k) * 16 ≤ 140737488355328) :
    Calls Try.prog 34 #[.pointer (some ⟨b, 0, none⟩), .agg (stoC s (.slice A k c)).toArray] w fun e w' => e = .returned (.tuple #[]) ∧ Star W w' (docA b S (putsL ps (leftOf s)) :: R) := by
  obtain ⟨l, hl⟩ : ∃ l, leftOf s = l := ⟨_, rfl⟩
  have hll := left_len s
  have hl' : (if s.fate = 1 then writesOf s.moves else []) = l := hl
  rw [hl] at hll ⊢
  have h0 := (Star.begin w).new (.cells (stoC s (.slice A k c)).toArray 44)
  have WR := Lib.hid (writes_ref s A k c _ (hS.after (by omega) (h0.pull 1)) hk hbig)
  have hcA := sto_cells h0
  obtain ⟨th, sp, bg, en, fa, er, by_, op, ga, ms⟩ := s
  dsimp only at hS hk hl' hll hcA WR
  dsimp only [stoC] at hcA WR ⊢
  obtain ⟨c0, c1, c2, c3, c4, c5, c6, c7, c8, c9⟩ := hcA
  have HM := Lib.hid ((Star.frame (L := [_]) h0 hM).drop)
  have HL := Lib.hid hl'
  have hlk : l.length ≤ k := by omega
  clear hM hS hk h0 hl hl' hll
  go_enter Try.func34, Try.ntmps34
  by_cases hf : fa = 1
  · have hfb : (fa != 1) = false := by simpa using hf
    have hlw := HL.out
    rw [if_pos hf] at hlw
    rw [hlw] at WR
    clear hlw hf
    go_wp2_with fail
    refine WR.out.mono ?_
    rintro e' w2 ⟨a, q, rfl, h2⟩
    obtain ⟨n, hn⟩ : ∃ n, l.length = n := ⟨_, rfl⟩
    rw [hn] at h2 hlk ⊢
    have h3 := (h2.frame (L := [_]) HM.out).swap
    have HN := Lib.hid hn
    have H3 := Lib.hid h3
    clear h2 h3 hn HM WR c0 c1 c2 c3 c4 c5 c6 c7 c8 c9
    go_wp2_with fail
    go_loopw [5] (fun i wr => ∃ t : Nat, t ≤ n ∧ i = .int .i64 t ∧ ∃ ps', ps'.length ≤ ps.length + t ∧ Star W wr (docA b S ps' :: rowA 70 2 (.slice a n q) n (pairsC l) :: R) ∧ Hid (putsL ps l = putsL ps' (l.drop t))) (fun i _ => n - (intOf i).toNat)
    case atStart => exact ⟨0, Nat.zero_le _, rfl, ps, by omega, H3.out, Lib.hid rfl⟩
    case round =>
      clear H3
      obtain ⟨t, ht, rfl, ps', hpl, hR, hE⟩ := hrel
      by_cases hlt : t < n
      · obtain ⟨p, hp⟩ : ∃ p, l[t]? = some p := ⟨_, List.getElem?_eq_getElem (by have := HN.out; omega)⟩
        have hd : l.drop t = p :: l.drop (t + 1) := drop_cons hp
        obtain ⟨x, v⟩ := p
        obtain ⟨gw, rfl, -, -, cw, -⟩ := (hR.pull 1).rowAt (by omega)
        have y0 : wr.cell? ⟨gw, t * 2, none⟩ = some (.int .i64 x) := (cw _ (by omega)).trans ((pairsC_at (j := 0) hp (by omega)).trans rfl)
        have y1 : wr.cell? ⟨gw, t * 2 + 1, none⟩ = some (.int .i64 v) := (cw _ (by omega)).trans ((pairsC_at (j := 1) hp (by omega)).trans rfl)
        have htz : (0 : Int) ≤ t := by omega
        have htl : (t : Int) < n := by omega
        have e1 := hE.out
        rw [hd] at e1
        have E1 := Lib.hid (show putsL ps l = putsL (putL ps' x v) (l.drop (t + 1)) from e1)
        have hpl2 := putL_len ps' x v
        have PT := Lib.hid (put_any b S ps' x v _ W wr.drew hR.drew (by omega))
        clear hp hd cw hR hE e1
        go_upto_region 6 with fail
        go_still_tail 11, (by kernel_rfl)
        change wpList _ _ _ _ _ wr.drew
        go_wp2_with fail
        refine PT.out.mono ?_
        rintro e' w4 ⟨rfl, h4⟩
        have H4 := Lib.hid h4
        clear h4 PT y0 y1
        go_wp2
        go_roundw
        case rel => exact ⟨t + 1, by omega, by go_num, putL ps' x v, by omega, H4.out, E1⟩
        case measure => simp [intOf]; omega
      · have htl : ¬ (t : Int) < n := by omega
        have e1 := hE.out
        rw [List.drop_eq_nil_of_le (by have := HN.out; omega)] at e1
        have E1 := Lib.hid (show putsL ps l = ps' from e1)
        have H4 := Lib.hid (hR.swap.drop)
        clear hR hE e1
        go_wp2
        refine bodyPost_end (results_none rfl _ _ _) rfl ?_
        exact ⟨rfl, by rw [E1.out]; exact H4.out⟩
  · have hfb : (fa != 1) = true := by simpa using hf
    have hlw := HL.out
    rw [if_neg hf] at hlw
    have E1 := Lib.hid (show putsL ps l = ps from by rw [← hlw]; rfl)
    clear hlw hf WR
    go_wp2
    refine bodyPost_ret (results_none rfl _ _ _) rfl ?_
    exact ⟨rfl, by rw [E1.out]; exact HM.out⟩
end Go.Proofs.Ytljdkfhkpjjfgaa
