/- The walk of GhostBuilds: lemmas for the laws of ghost. -/
import Derived.Test.YtfekjbaojefhoaaGrB
import Derived.Test.YtfekjbaojefhoaaGh22z
namespace Go.Proofs.Ytfekjbaojefhoaa
open Go.RowKit Go.Shelf
set_option linter.unusedVariables false

def evz : Ev := ⟨0, 0, 0, 0, 0, 0, false, 0, 0, 0⟩
theorem made_evs (m : Nat) : (madeCells #[.int .i64 0, .int .i64 0, .int .i64 0, .int .i64 0, .int .i64 0, .int .i64 0, .bool false, .int .i64 0, .int .i64 0, .int .i64 0] (m * 10)).toList = evsC (List.replicate m evz) := by
  apply List.ext_getElem?
  intro i
  by_cases h : i < m * 10
  · have hq : (List.replicate m evz)[i / 10]? = some evz := by rw [List.getElem?_replicate, if_pos (by omega)]
    have h4 := evsC_at hq (j := i % 10) (by omega)
    rw [show i / 10 * 10 + i % 10 = i by omega] at h4
    rw [h4]
    simp only [madeCells, Array.toList_map, Array.toList_range, List.getElem?_map, List.getElem?_range h, Option.map_some]
    have h10 : i % 10 < 10 := by omega
    generalize i % 10 = r at h10
    match r, h10 with
    | 0, _ => rfl
    | 1, _ => rfl
    | 2, _ => rfl
    | 3, _ => rfl
    | 4, _ => rfl
    | 5, _ => rfl
    | 6, _ => rfl
    | 7, _ => rfl
    | 8, _ => rfl
    | 9, _ => rfl
  · rw [List.getElem?_eq_none (by simp [madeCells]; omega), List.getElem?_eq_none (by rw [evsC_len, List.length_replicate]; omega)]
theorem mvsC_setX {ms : List Mv} {j : Nat} {m : Mv} (h : ms[j]? = some m) (x : Int) : (mvsC ms).set (j * 6 + 3) (.int .i64 x) = mvsC (ms.set j { m with x := x }) := by
  have hm : (ms.map mvC)[j]? = some (mvC m) := by rw [List.getElem?_map, h]; rfl
  rw [mvsC, flat_set _ mv_len hm (by omega), mvsC, List.map_set]
  rfl
theorem evsC_setStep {es : List Ev} {i : Nat} {e : Ev} (h : es[i]? = some e) (x : Int) : (evsC es).set (i * 10 + 1) (.int .i64 x) = evsC (es.set i { e with step := x }) := by
  have hm : (es.map evC)[i]? = some (evC e) := by rw [List.getElem?_map, h]; rfl
  rw [evsC, flat_set _ ev_len hm (by omega), evsC, List.map_set]
  rfl
theorem evsC_append (a b : List Ev) : evsC (a ++ b) = evsC a ++ evsC b := by simp [evsC]
theorem evs_one (es : List Ev) : ∀ u ∈ evsC es, u.oneCell' = true := flat_mem (fun c hc u hu => by
  obtain ⟨e, _, rfl⟩ := List.mem_map.1 hc
  exact evC_one e u hu)
theorem code_any (b : Bool) (w : World) : Calls Try.prog 13 #[.bool b] w fun e w' => e = .returned (.int .i64 (if b then 0 else 210)) ∧ w' = w := by
  cases b
  · go_enter Try.func13, Try.ntmps13
    go_wp2
    go_ret
    exact ⟨rfl, rfl⟩
  · go_enter Try.func13, Try.ntmps13
    go_wp2
    go_ret
    exact ⟨rfl, rfl⟩
theorem ev_neq (a b c d e f : Int) (g : Bool) (h i j : Int) (w : World) : (binOp .neq 26 (.agg #[.int .i64 a, .int .i64 b, .int .i64 c, .int .i64 d, .int .i64 e, .int .i64 f, .bool g, .int .i64 h, .int .i64 i, .int .i64 j]) (.agg #[.int .i64 a, .int .i64 b, .int .i64 c, .int .i64 d, .int .i64 e, .int .i64 f, .bool g, .int .i64 h, .int .i64 i, .int .i64 j])).run Try.prog w = .ok (.bool false) w := by
  have hs : Try.prog.stoodInHeld 26 = false := by kernel_rfl
  simp only [go_sem]
  simp [go_sem, Op.eqFields]
theorem sto_setV {s : Sto} {v v' : Value} : (stoC s v).set 9 v' = stoC s v' := rfl
/-- a story whose moves all hold x -/
def AllX (s : Sto) (x : Int) : Prop := ∀ m ∈ s.moves, m.x = x
end Go.Proofs.Ytfekjbaojefhoaa
namespace Go.Proofs.Ytfekjbaojefhoaa
open Go.RowKit Go.Shelf
set_option linter.unusedVariables false

/-- the stories of one Build in memory, as far as they have been written over -/
structure Over (sts : List Sto) (vs : List Value) (L n j : Nat) : Prop where
  ns : sts.length = L
  nv : vs.length = L
  few : ∀ (i : Nat) (s : Sto), sts[i]? = some s → s.moves.length ≤ n + 1
  rest : ∀ (i : Nat) (s : Sto), j ≤ i → sts[i]? = some s → s.moves.length ≤ n
  done : ∀ (i : Nat) (s : Sto), i < j → sts[i]? = some s → AllX s ((i : Int) - 1000)
theorem over_step {sts : List Sto} {vs : List Value} {L n j : Nat} (h : Over sts vs L n j) {x : Sto} (hx : sts[j]? = some x) (ms : List Mv) (hl : ms.length ≤ n + 1) (ha : ∀ m ∈ ms, m.x = (j : Int) - 1000) (v : Value) : Over (sts.set j { x with moves := ms }) (vs.set j v) L n (j + 1) := by
  refine ⟨by rw [List.length_set]; exact h.ns, by rw [List.length_set]; exact h.nv, fun i s hs => ?_, fun i s hi hs => ?_, fun i s hi hs => ?_⟩
  · rw [List.getElem?_set] at hs
    split at hs
    · split at hs
      · injection hs with hs; subst hs; exact hl
      · cases hs
    · exact h.few i s hs
  · rw [List.getElem?_set, if_neg (by omega)] at hs
    exact h.rest i s (by omega) hs
  · rw [List.getElem?_set] at hs
    split at hs
    · rename_i hij
      subst hij
      split at hs
      · injection hs with hs; subst hs; exact ha
      · cases hs
    · exact h.done i s (by omega) hs
theorem mv_cell {W w : World} {L : List HA} {g n c i j : Nat} {es : List Mv} {e : Mv} {u : Value} (h : Star W w (rowA 38 6 (.slice (some ⟨g, 0, none⟩) n c) n (mvsC es) :: L)) (he : es[i]? = some e) (hu : (mvC e)[j]? = some u) (hj : j < 6) : w.cell? ⟨g, i * 6 + j, none⟩ = some u ∧ w.frozen? ⟨g, i * 6 + j, none⟩ = false := by
  have hl := h.rowLen
  have h1 := mvsC_at he hj
  rw [hu] at h1
  have hlt := (List.getElem?_eq_some_iff.1 h1).1
  obtain ⟨g', e', _, _, hc, hf⟩ := h.rowAt (by omega)
  injection e' with e'
  injection e' with e'
  subst e'
  exact ⟨by rw [hc _ (by omega), h1], hf _⟩
def RefB : Prop := ∀ (A : Option Addr) (n c : Nat) (evs : List Ev) (w : World), Sl w A n 10 (evsC evs) → evs.length = n → n * 80 ≤ 140737488355328 → Calls Try.prog 10 #[.slice A n c] w fun e w' => ∃ a c', e = .returned (.tuple #[.slice a (bldS evs).length c', .int .i64 (bldAt evs), .bool (bldOk evs)]) ∧ Star w w' [storiesA (.slice a (bldS evs).length c') (bldS evs), oldA w]
theorem ev_cell {W w : World} {L : List HA} {g n c i j : Nat} {es : List Ev} {e : Ev} {u : Value} (h : Star W w (rowA 26 10 (.slice (some ⟨g, 0, none⟩) n c) n (evsC es) :: L)) (he : es[i]? = some e) (hu : (evC e)[j]? = some u) (hj : j < 10) : w.cell? ⟨g, i * 10 + j, none⟩ = some u ∧ w.frozen? ⟨g, i * 10 + j, none⟩ = false := by
  have hl := h.rowLen
  have h1 := evsC_at he hj
  rw [hu] at h1
  have hlt := (List.getElem?_eq_some_iff.1 h1).1
  obtain ⟨g', e', _, _, hc, hf⟩ := h.rowAt (by omega)
  injection e' with e'
  injection e' with e'
  subst e'
  exact ⟨by rw [hc _ (by omega), h1], hf _⟩
set_option maxRecDepth 100000 in
set_option maxHeartbeats 25600000 in
theorem builds_walk (RB : RefB) (A : Option Addr) (n c : Nat) (evs : List Ev) (w : World) (hE : Sl w A n 10 (evsC evs)) (hn : evs.length = n) (hbig : n * 80 ≤ 140737488355328) :
    Calls Try.prog 4 #[.slice A n c] w fun e w' => e = .returned (.bool true) ∧ Below w.heap.size w w' := by
  obtain ⟨i0, hi, hz0, hz1, hz2⟩ := info_parts Try.info26
  obtain ⟨i1, gi, gz0, gz1, gz2⟩ := info_parts Try.info38
  have hm1 : ∀ W : World, (Instr.makeSlice 23 (.int .i64 ((n : Int) + 2)) (.int .i64 ((n : Int) + 2))).run Try.prog W = .ok (.slice (some ⟨W.heap.size, 0, none⟩) (n + 2) (n + 2)) (W.alloc (.cells (evsC (List.replicate (n + 2) evz)).toArray 26)) := by
    intro W
    have h := run_make_star (P := Try.prog) W 23 26 i0 _ Try.underlying23 hi hz0 (n + 2) (by rw [hz2]; omega) (by omega)
    rw [hz1] at h
    have e : madeCells (Value.cells (.agg #[.int .i64 0, .int .i64 0, .int .i64 0, .int .i64 0, .int .i64 0, .int .i64 0, .bool false, .int .i64 0, .int .i64 0, .int .i64 0])) ((n + 2) * 10) = (evsC (List.replicate (n + 2) evz)).toArray := by
      apply Array.ext'
      exact made_evs (n + 2)
    rw [e] at h
    exact h
  have hs2 : (Try.prog.info? 26).map (·.size) = some 10 := by kernel_rfl
  have HE := Lib.hid hE
  have HN := Lib.hid hn
  have h0 := Star.begin w
  clear hE hn
  go_enter Try.func4, Try.ntmps4
  go_wp2_with fail
  refine (awake_any _).mono ?_
  rintro e' w1 ⟨rfl, hb1⟩
  have h1 := (Star.of_below h0 hb1).rowNew 26 10 (evsC (List.replicate (n + 2) evz)).toArray (n + 2) (by simp only [maxLen]; omega) (by simp [evsC_len])
  have hsl := HE.out.after (by omega) h1.swap
  obtain ⟨E, hEE⟩ : ∃ E : List Ev, E = evs ++ [{ evz with step := -7 }, { evz with step := -8 }] := ⟨_, rfl⟩
  have e1 : evsC evs ++ List.drop (n * 10) (evsC (List.replicate (n + 2) evz)).toArray.toList = evsC (evs ++ [evz, evz]) := by
    rw [evsC_append]
    congr 1
    show List.drop (n * 10) (evsC (List.replicate (n + 2) evz)) = _
    rw [← List.replicate_append_replicate, evsC_append]
    exact List.drop_left' (by rw [evsC_len, List.length_replicate])
  have g1 : (evs ++ [evz, evz])[n]? = some evz := by rw [List.getElem?_append_right (by have := HN.out; omega), show n - evs.length = 0 by have := HN.out; omega]; rfl
  have e2 : (evs ++ [evz, evz]).set n { evz with step := -7 } = evs ++ [{ evz with step := -7 }, evz] := by rw [List.set_append_right _ _ (by have := HN.out; omega), show n - evs.length = 0 by have := HN.out; omega]; rfl
  have g2 : (evs ++ [{ evz with step := -7 }, evz])[n + 1]? = some evz := by rw [List.getElem?_append_right (by have := HN.out; omega), show n + 1 - evs.length = 1 by have := HN.out; omega]; rfl
  have e3 : (evs ++ [{ evz with step := -7 }, evz]).set (n + 1) { evz with step := -8 } = E := by rw [hEE, List.set_append_right _ _ (by have := HN.out; omega), show n + 1 - evs.length = 1 by have := HN.out; omega]; rfl
  have E1 := Lib.hid (⟨e1, e2, e3, g1, g2⟩ : _ ∧ _ ∧ _ ∧ _ ∧ _)
  have HEE := Lib.hid hEE
  clear e1 e2 e3 g1 g2 h0 hb1 hEE
  go_wp2_with (with_reducible refine wpList_copy_star rfl (.tmp 24) (.tmp 25) 23 23 rfl 26 10 Try.underlying23 hs2 w1.heap.size (n + 2) (n + 2) _ rfl h1 A n c _ rfl (by omega) hsl (evs_one evs) ?_; intro w2 h2; rw [E1.out.1] at h2; obtain ⟨k1, k2⟩ := ev_cell h2 E1.out.2.2.2.1 (j := 1) rfl (by omega); have h3 := h2.rowSet (n * 10 + 1) (.int .i64 (-7)); rw [evsC_setStep E1.out.2.2.2.1, E1.out.2.1] at h3; obtain ⟨k3, k4⟩ := ev_cell h3 E1.out.2.2.2.2 (j := 1) rfl (by omega); have h4 := h3.rowSet ((n + 1) * 10 + 1) (.int .i64 (-8)); rw [evsC_setStep E1.out.2.2.2.2, E1.out.2.2.1] at h4; have H4 := Lib.hid h4; clear h2 h3 h4)
  have h4 := H4.out
  clear H4 k1 k2 k3 k4 h1 hsl hm1 hi hz0 hz1 hz2
  generalize (w2.setCell ⟨w1.heap.size, n * 10 + 1, none⟩ (.int .i64 (-7))).setCell ⟨w1.heap.size, (n + 1) * 10 + 1, none⟩ (.int .i64 (-8)) = w3 at h4 ⊢
  generalize w1.heap.size = g0 at h4 ⊢
  refine (RB A n c evs w3 (HE.out.after (by omega) h4.swap) HN.out hbig).mono ?_
  rintro e' w4 ⟨wa, wc, rfl, h5⟩
  have h6 := h5.frame (L := [_]) h4
  have h7 : Star w w4 [rowA 26 10 (.slice (some ⟨g0, 0, none⟩) (n + 2) (n + 2)) (n + 2) (evsC E), storiesA (.slice wa (bldS evs).length wc) (bldS evs), oldA w] := h6.pick 3 [1, 0, 2]
  have BD := fun W (h : Star w W [rowA 26 10 (.slice (some ⟨g0, 0, none⟩) (n + 2) (n + 2)) (n + 2) (evsC E), oldA w]) => build_any (some ⟨g0, 0, none⟩) n (n + 2) evs W (by
    have h := (h.rowCut n (by omega)).rowSl
    rw [evsC_take, HEE.out, List.take_left' HN.out] at h
    exact h) HN.out hbig
  have CD := fun W => code_any (bldOk evs) W
  have hcd : (if bldOk evs = true then (0 : Int) else 210) = bldCode evs := rfl
  rw [hcd] at CD
  have hmv : ∀ s ∈ bldS evs, s.moves.length ≤ n := fun s hs => by have := bld_moves evs s hs; rw [HN.out] at this; exact this
  have hfew := bld_half evs
  rw [HN.out] at hfew
  have HMV := Lib.hid hmv
  clear h4 h5 h6 hcd hmv
  generalize bldS evs = al at h7 BD HMV hfew ⊢
  generalize bldAt evs = at0 at BD ⊢
  generalize bldCode evs = cd at BD CD
  generalize bldOk evs = bo at CD ⊢
  have BD := Lib.hid BD
  have CD := Lib.hid CD
  go_wp2_with fail
  go_loopw [8] (fun i wr => ∃ k : Nat, k ≤ 2 ∧ i = .int .i64 k ∧ Star w wr [rowA 26 10 (.slice (some ⟨g0, 0, none⟩) (n + 2) (n + 2)) (n + 2) (evsC E), storiesA (.slice wa al.length wc) al, oldA w]) (fun i _ => 2 - (intOf i).toNat)
  case atStart => exact ⟨0, Nat.zero_le _, rfl, h7⟩
  case round =>
    clear h7
    obtain ⟨k, hk, rfl, hR⟩ := hrel
    by_cases hk2 : k < 2
    · have hkz : (k : Int) < 2 := by omega
      have B := Lib.hid (BD.out wr (hR.pick 3 [0, 2]))
      have HR := Lib.hid hR
      clear hR
      go_wp2_with fail
      refine B.out.mono ?_
      rintro e' w5 ⟨a, cc, rfl, h8⟩
      have h9 := h8.frame (L := [_]) HR.out
      have hb48 : ∀ s ∈ al, s.moves.length * 48 ≤ 140737488355328 := fun s hs => by have := HMV.out s hs; omega
      obtain ⟨us, hL, _⟩ := stories_read h9 rfl hb48
      obtain ⟨xs, hM, _⟩ := stories_read (h9.pull 2) rfl hb48
      have SA := Lib.hid (sameAll_any a wa al.length cc wc al us xs w5 hL hM (by omega))
      have H9 := Lib.hid h9
      clear h8 h9 B HR hb48 hL hM
      go_wp2_with fail
      refine SA.out.mono ?_
      rintro e' w6 ⟨rfl, hb6⟩
      have h10 := H9.out.of_below hb6
      have H10 := Lib.hid h10
      clear SA H9 hb6 h10
      go_wp2_with (go_at_call 13; refine (CD.out _).mono ?_; rintro e w7 ⟨rfl, rfl⟩)
      obtain ⟨vs0, hvl, h11⟩ := stories_open H10.out
      have hov : Over al vs0 al.length n 0 := ⟨rfl, hvl, fun i s hs => by have := HMV.out s (List.mem_of_getElem? hs); omega, fun i s _ hs => HMV.out s (List.mem_of_getElem? hs), fun i s hi _ => absurd hi (Nat.not_lt_zero _)⟩
      have h12 : ∃ (sts : List Sto) (vs : List Value), Over sts vs al.length n 0 ∧ Star w w7 [rowA 36 10 (.slice a al.length cc) al.length (stosC sts vs), Holds (movesL sts vs), rowA 26 10 (.slice (some ⟨g0, 0, none⟩) (n + 2) (n + 2)) (n + 2) (evsC E), storiesA (.slice wa al.length wc) al, oldA w] := ⟨al, vs0, hov, h11⟩
      clear H10 hvl h11 hov
      go_loopw [13] (fun i wr => ∃ j : Nat, j ≤ al.length ∧ i = .int .i64 j ∧ ∃ (sts : List Sto) (vs : List Value), Over sts vs al.length n j ∧ Star w wr [rowA 36 10 (.slice a al.length cc) al.length (stosC sts vs), Holds (movesL sts vs), rowA 26 10 (.slice (some ⟨g0, 0, none⟩) (n + 2) (n + 2)) (n + 2) (evsC E), storiesA (.slice wa al.length wc) al, oldA w]) (fun i _ => al.length - (intOf i).toNat)
      case atStart => exact ⟨0, Nat.zero_le _, rfl, h12⟩
      case round =>
        clear h12
        obtain ⟨j, hj, rfl, sts, vs, hO, hQ⟩ := hrel
        by_cases hjl : j < al.length
        · obtain ⟨x, hx⟩ : ∃ x, sts[j]? = some x := ⟨_, List.getElem?_eq_getElem (by have := hO.ns; omega)⟩
          obtain ⟨v, hv⟩ : ∃ v, vs[j]? = some v := ⟨_, List.getElem?_eq_getElem (by have := hO.nv; omega)⟩
          obtain ⟨gL, rfl, -⟩ := hQ.rowAt (by omega)
          have hxn := hO.rest j x (Nat.le_refl _) hx
          have hF := (hQ.pull 1).focus j (movesL_get hx hv)
          obtain ⟨B, mc, rfl⟩ := hF.form
          have r9 := (row_cell hQ hx hv (j := 9) rfl (by omega)).1
          have hjz : (j : Int) < al.length := by omega
          have HO := Lib.hid hO
          have HX := Lib.hid hx
          have h13 : ∃ ms : List Mv, ms.length = x.moves.length ∧ (∀ (q : Nat) (m : Mv), q < 0 → ms[q]? = some m → m.x = (j : Int) - 1000) ∧ Star w wr [rowA 38 6 (.slice B x.moves.length mc) x.moves.length (mvsC ms), Holds ((movesL sts vs).eraseIdx j), rowA 36 10 (.slice (some ⟨gL, 0, none⟩) al.length cc) al.length (stosC sts vs), rowA 26 10 (.slice (some ⟨g0, 0, none⟩) (n + 2) (n + 2)) (n + 2) (evsC E), storiesA (.slice wa al.length wc) al, oldA w] := ⟨x.moves, rfl, fun q m h => absurd h (Nat.not_lt_zero _), hF⟩
          obtain ⟨ml, hml⟩ : ∃ ml, ml = x.moves.length := ⟨_, rfl⟩
          rw [← hml] at r9 h13 hxn hv
          have HV := Lib.hid hv
          have HML := Lib.hid hml
          clear hQ hF hO hx hv hml r9
          obtain ⟨wo, rfl⟩ : ∃ wo : World, wo = wr := ⟨_, rfl⟩
          go_wp2_with fail
          go_loopw [14] (fun i wr => ∃ t : Nat, t ≤ ml ∧ i = .int .i64 t ∧ ∃ ms : List Mv, ms.length = ml ∧ (∀ (q : Nat) (m : Mv), q < t → ms[q]? = some m → m.x = (j : Int) - 1000) ∧ Star w wr [rowA 38 6 (.slice B ml mc) ml (mvsC ms), Holds ((movesL sts vs).eraseIdx j), rowA 36 10 (.slice (some ⟨gL, 0, none⟩) al.length cc) al.length (stosC sts vs), rowA 26 10 (.slice (some ⟨g0, 0, none⟩) (n + 2) (n + 2)) (n + 2) (evsC E), storiesA (.slice wa al.length wc) al, oldA w]) (fun i _ => ml - (intOf i).toNat)
          case atStart => exact ⟨0, Nat.zero_le _, rfl, h13⟩
          case round =>
            clear h13
            obtain ⟨t, ht, rfl, ms, hmsl, hdone, hM⟩ := hrel
            obtain ⟨r9, f9⟩ := row_cell (hM.pull 2) HX.out HV.out (j := 9) rfl (by omega)
            by_cases htl : t < ml
            · obtain ⟨m, hm⟩ : ∃ m, ms[t]? = some m := ⟨_, List.getElem?_eq_getElem (by omega)⟩
              obtain ⟨gB, rfl, -⟩ := hM.rowAt (by omega)
              obtain ⟨k3, f3⟩ := mv_cell hM hm (j := 3) rfl (by omega)
              have hS := hM.rowSet (t * 6 + 3) (.int .i64 ((j : Int) - 1000))
              rw [mvsC_setX hm] at hS
              have HS := Lib.hid hS
              have htz : (t : Int) < ml := by omega
              have hd2 : ∀ (q : Nat) (m' : Mv), q < t + 1 → (ms.set t { m with x := (j : Int) - 1000 })[q]? = some m' → m'.x = (j : Int) - 1000 := by
                intro q m' hq hg
                rw [List.getElem?_set] at hg
                split at hg
                · split at hg
                  · injection hg with hg; subst hg; rfl
                  · cases hg
                · exact hdone q m' (by omega) hg
              have HD := Lib.hid (⟨hd2, by rw [List.length_set]; exact hmsl⟩ : _ ∧ (ms.set t { m with x := (j : Int) - 1000 }).length = ml)
              clear hM hS hdone hd2 hm hmsl
              go_wp2
              go_roundw
              case rel => exact ⟨t + 1, by omega, by go_num, _, HD.out.2, HD.out.1, HS.out⟩
              case measure => simp [intOf]; omega
            · have htm : t = ml := by omega
              subst htm
              have hN := (hM.new (.cells (mvC ⟨0, false, 0, (j : Int) - 1000, false, 0⟩).toArray 38)).pull 1
              have hall : ∀ m ∈ ms ++ [(⟨0, false, 0, (j : Int) - 1000, false, 0⟩ : Mv)], m.x = (j : Int) - 1000 := by
                intro m hm
                rcases List.mem_append.1 hm with h | h
                · obtain ⟨q, hq, rfl⟩ := List.mem_iff_getElem.1 h
                  exact hdone q _ (by omega) (List.getElem?_eq_getElem hq)
                · rw [List.mem_singleton.1 h]
              have HA := Lib.hid (⟨hall, hmsl⟩ : _ ∧ _)
              have htz : ¬ (t : Int) < t := by omega
              clear hdone hall hmsl
              clear hM
              go_wp2_with (at_builtin; refine wpList_append_star rfl (.tmp 103) (.tmp 107) 34 rfl 38 i1 _ 6 48 Try.underlying34 gi gz0 gz1 gz2 rfl (by decide) _ t _ rfl hN ⟨wr.heap.size, 0, none⟩ 1 1 (mvC ⟨0, false, 0, (j : Int) - 1000, false, 0⟩) rfl rfl (cell_list_new _ _ rfl _ _) (mvC_one _) (by simp only [maxLen]; omega) (by omega) ?_; intro B' mc' w8 h14; obtain ⟨s9, t9⟩ := row_cell (h14.pull 3) HX.out HV.out (j := 9) rfl (by omega); have h15 := (h14.pull 3).rowSet (j * 10 + 9) (.slice B' (t + 1) mc'); have H15 := Lib.hid h15; clear h14 h15 r9 f9)
              go_roundw
              case rel =>
                have hms : (ms ++ [(⟨0, false, 0, (j : Int) - 1000, false, 0⟩ : Mv)]).length = t + 1 := by rw [List.length_append, HA.out.2]; rfl
                have hov := over_step HO.out HX.out (ms ++ [(⟨0, false, 0, (j : Int) - 1000, false, 0⟩ : Mv)]) (by rw [hms]; omega) HA.out.1 (.slice B' (t + 1) mc')
                refine ⟨j + 1, by omega, by go_num, _, _, hov, ?_⟩
                have h15 := H15.out
                rw [stosC_set (s' := { x with moves := ms ++ [(⟨0, false, 0, (j : Int) - 1000, false, 0⟩ : Mv)] }) (v' := .slice B' (t + 1) mc') HX.out HV.out (by omega) rfl] at h15
                have h16 := (h15.pick 7 [1, 3, 0, 4, 5, 6]).unfocus (by rw [movesL_len (by rw [HO.out.nv, HO.out.ns]), HO.out.ns]; exact hjl)
                have h17 := h16.swap
                rw [movesL_set (s' := { x with moves := ms ++ [(⟨0, false, 0, (j : Int) - 1000, false, 0⟩ : Mv)] }) HX.out HV.out, hms, mvsC_snoc]
                exact h17
              case measure => simp [intOf]; omega
        · have hjj : j = al.length := by omega
          subst hjj
          have HQ := Lib.hid hQ
          have HO := Lib.hid hO
          have hjz : ¬ (al.length : Int) < al.length := by omega
          clear hQ hO
          obtain ⟨wq, rfl⟩ : ∃ wq : World, wq = wr := ⟨_, rfl⟩
          go_wp2_with fail
          go_loopw [16] (fun i wz => ∃ q : Nat, q ≤ al.length ∧ i = .int .i64 q ∧ wz = wq) (fun i _ => al.length - (intOf i).toNat)
          case atStart => exact ⟨0, Nat.zero_le _, rfl, rfl⟩
          case round =>
            obtain ⟨q, hq, rfl, rfl⟩ := hrel
            by_cases hql : q < al.length
            · obtain ⟨x, hx⟩ : ∃ x, sts[q]? = some x := ⟨_, List.getElem?_eq_getElem (by have := HO.out.ns; omega)⟩
              obtain ⟨v, hv⟩ : ∃ v, vs[q]? = some v := ⟨_, List.getElem?_eq_getElem (by have := HO.out.nv; omega)⟩
              obtain ⟨gL, rfl, -⟩ := HQ.out.rowAt (by omega)
              have hF := (HQ.out.pull 1).focus q (movesL_get hx hv)
              obtain ⟨B, mc, rfl⟩ := hF.form
              have r9 := (row_cell HQ.out hx hv (j := 9) rfl (by omega)).1
              have hax := HO.out.done q x hql hx
              have hxn := HO.out.few q x hx
              have hqz : (q : Int) < al.length := by omega
              have hcell : ∀ t : Nat, t < x.moves.length → ∃ gB, B = some ⟨gB, 0, none⟩ ∧ wr.cell? ⟨gB, t * 6 + 3, none⟩ = some (.int .i64 ((q : Int) - 1000)) := by
                intro t ht
                obtain ⟨gB, rfl, -⟩ := hF.rowAt (by omega)
                obtain ⟨m, hm⟩ : ∃ m, x.moves[t]? = some m := ⟨_, List.getElem?_eq_getElem ht⟩
                refine ⟨gB, rfl, ?_⟩
                rw [(mv_cell hF hm (j := 3) rfl (by omega)).1, hax m (List.mem_of_getElem? hm)]
              have HC := Lib.hid hcell
              clear hF hcell hax hx hv
              generalize x.moves.length = ml at HC hxn r9
              have r9 : wr.cell? ⟨gL, q * 10 + 9, none⟩ = some (.slice B ml mc) := r9
              obtain ⟨wo, rfl⟩ : ∃ wo : World, wo = wr := ⟨_, rfl⟩
              go_wp2_with fail
              go_loopw [17] (fun i wz => ∃ t : Nat, t ≤ ml ∧ i = .int .i64 t ∧ wz = wo) (fun i _ => ml - (intOf i).toNat)
              case atStart => exact ⟨0, Nat.zero_le _, rfl, rfl⟩
              case round =>
                obtain ⟨t, ht, rfl, rfl⟩ := hrel
                by_cases htl : t < ml
                · obtain ⟨gB, rfl, k3⟩ := HC.out t htl
                  have htz : (t : Int) < ml := by omega
                  go_wp2
                  go_roundw
                  case rel => exact ⟨t + 1, by omega, by go_num, by first | rfl | trivial⟩
                  case measure => simp [intOf]; omega
                · have htm : t = ml := by omega
                  subst htm
                  have htz : ¬ (t : Int) < t := by omega
                  go_wp2
                  go_roundw
                  case rel => exact ⟨q + 1, by omega, by go_num, by first | rfl | trivial⟩
                  case measure => simp [intOf]; omega
            · have hqq : q = al.length := by omega
              subst hqq
              go_wp2
              go_roundw
              case rel => exact ⟨k + 1, by omega, by go_num, HQ.out.pick 5 [2, 3, 4]⟩
              case measure => simp [intOf]; omega
    · have hkk : k = 2 := by omega
      subst hkk
      have h8 := hR.pick 3 [0, 2]
      clear hR
      go_wp2_with fail
      go_loopw [18] (fun i wz => ∃ j : Nat, j ≤ n ∧ i = .int .i64 j ∧ Star w wz [rowA 26 10 (.slice (some ⟨g0, 0, none⟩) (n + 2) (n + 2)) (n + 2) (evsC E), oldA w]) (fun i _ => n - (intOf i).toNat)
      case atStart => exact ⟨0, Nat.zero_le _, rfl, h8⟩
      case round =>
        clear h8
        obtain ⟨j, hj, rfl, hQ⟩ := hrel
        by_cases hjn : j < n
        · obtain ⟨e, he⟩ : ∃ e, evs[j]? = some e := ⟨_, List.getElem?_eq_getElem (by have := HN.out; omega)⟩
          have hE : E[j]? = some e := by rw [HEE.out, List.getElem?_append_left (by have := HN.out; omega)]; exact he
          obtain ⟨g, o, rfl, hg, ca⟩ := HE.out.row hjn (by omega)
          have fa : ∀ i u, (evC e)[i]? = some u → i < 10 → wr.cell? ⟨g, o + j * 10 + i, none⟩ = some u := fun i u hu hi => ((hQ.pull 1).oldCell hg).trans (ca i u (by rw [evsC_at he hi]; exact hu))
          have a0 : wr.cell? ⟨g, o + j * 10, none⟩ = some (.int .i64 e.kind) := fa 0 _ rfl (by omega)
          have a1 : wr.cell? ⟨g, o + j * 10 + 1, none⟩ = some (.int .i64 e.step) := fa 1 _ rfl (by omega)
          have a2 : wr.cell? ⟨g, o + j * 10 + 2, none⟩ = some (.int .i64 e.thread) := fa 2 _ rfl (by omega)
          have a3 : wr.cell? ⟨g, o + j * 10 + 3, none⟩ = some (.int .i64 e.stamp) := fa 3 _ rfl (by omega)
          have a4 : wr.cell? ⟨g, o + j * 10 + 4, none⟩ = some (.int .i64 e.cell) := fa 4 _ rfl (by omega)
          have a5 : wr.cell? ⟨g, o + j * 10 + 5, none⟩ = some (.int .i64 e.x) := fa 5 _ rfl (by omega)
          have a6 : wr.cell? ⟨g, o + j * 10 + 6, none⟩ = some (.bool e.own) := fa 6 _ rfl (by omega)
          have a7 : wr.cell? ⟨g, o + j * 10 + 7, none⟩ = some (.int .i64 e.gate) := fa 7 _ rfl (by omega)
          have a8 : wr.cell? ⟨g, o + j * 10 + 8, none⟩ = some (.int .i64 e.e) := fa 8 _ rfl (by omega)
          have a9 : wr.cell? ⟨g, o + j * 10 + 9, none⟩ = some (.int .i64 e.by_) := fa 9 _ rfl (by omega)
          have b0 : wr.cell? ⟨g0, j * 10, none⟩ = some (.int .i64 e.kind) := (ev_cell hQ hE (j := 0) rfl (by omega)).1
          have b1 : wr.cell? ⟨g0, j * 10 + 1, none⟩ = some (.int .i64 e.step) := (ev_cell hQ hE (j := 1) rfl (by omega)).1
          have b2 : wr.cell? ⟨g0, j * 10 + 2, none⟩ = some (.int .i64 e.thread) := (ev_cell hQ hE (j := 2) rfl (by omega)).1
          have b3 : wr.cell? ⟨g0, j * 10 + 3, none⟩ = some (.int .i64 e.stamp) := (ev_cell hQ hE (j := 3) rfl (by omega)).1
          have b4 : wr.cell? ⟨g0, j * 10 + 4, none⟩ = some (.int .i64 e.cell) := (ev_cell hQ hE (j := 4) rfl (by omega)).1
          have b5 : wr.cell? ⟨g0, j * 10 + 5, none⟩ = some (.int .i64 e.x) := (ev_cell hQ hE (j := 5) rfl (by omega)).1
          have b6 : wr.cell? ⟨g0, j * 10 + 6, none⟩ = some (.bool e.own) := (ev_cell hQ hE (j := 6) rfl (by omega)).1
          have b7 : wr.cell? ⟨g0, j * 10 + 7, none⟩ = some (.int .i64 e.gate) := (ev_cell hQ hE (j := 7) rfl (by omega)).1
          have b8 : wr.cell? ⟨g0, j * 10 + 8, none⟩ = some (.int .i64 e.e) := (ev_cell hQ hE (j := 8) rfl (by omega)).1
          have b9 : wr.cell? ⟨g0, j * 10 + 9, none⟩ = some (.int .i64 e.by_) := (ev_cell hQ hE (j := 9) rfl (by omega)).1
          have hq := fun w => ev_neq e.kind e.step e.thread e.stamp e.cell e.x e.own e.gate e.e e.by_ w
          have hjz : (j : Int) < n := by omega
          have hjz2 : (j : Int) < (n : Int) + 2 := by omega
          have HQ := Lib.hid hQ
          clear fa ca he hE hg hQ
          go_wp2
          go_quiet (fail)
          go_wp2
          go_roundw
          case rel => exact ⟨j + 1, by omega, by go_num, HQ.out.drewN nq⟩
          case measure => simp [intOf]; omega
        · have hjj : j = n := by omega
          subst hjj
          have y7 := (ev_cell hQ (e := { evz with step := -7 }) (i := j) (j := 1) (by rw [HEE.out, List.getElem?_append_right (by have := HN.out; omega), show j - evs.length = 0 by have := HN.out; omega]; rfl) rfl (by omega)).1
          have y8 := (ev_cell hQ (e := { evz with step := -8 }) (i := j + 1) (j := 1) (by rw [HEE.out, List.getElem?_append_right (by have := HN.out; omega), show j + 1 - evs.length = 1 by have := HN.out; omega]; rfl) rfl (by omega)).1
          have hjz : ¬ (j : Int) < j := by omega
          have H2 := Lib.hid (hQ.pull 1).below
          clear hQ
          go_wp2
          go_ret
          exact ⟨rfl, H2.out⟩
end Go.Proofs.Ytfekjbaojefhoaa
namespace Go.Proofs.Ytfekjbaojefhoaa
theorem refB : RefB := fun A n c evs w h1 h2 h3 => rbuild_any A n c evs w h1 h2 h3
end Go.Proofs.Ytfekjbaojefhoaa
