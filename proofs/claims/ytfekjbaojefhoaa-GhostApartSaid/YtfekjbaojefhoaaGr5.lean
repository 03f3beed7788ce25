/- GhostGrows, walked: lemmas for the laws of ghost. -/
import Derived.Test.YtfekjbaojefhoaaGr4
import Derived.Deep.DeepCutAuto
import Derived.Deep.CutBlock
namespace Go.Proofs.Ytfekjbaojefhoaa
open Go.RowKit Go.Shelf
set_option linter.unusedVariables false

theorem Sl.cutTo {w : World} {A : Option Addr} {n size : Nat} {xs : List Value} (h : Sl w A n size xs) {k : Nat} (hk : k ≤ n) : Sl w A k size (xs.take (k * size)) := by
  have hle : k * size ≤ n * size := Nat.mul_le_mul_right _ hk
  refine ⟨by rw [List.length_take, h.1]; omega, fun h0 => ?_⟩
  obtain ⟨g, o, e, hc⟩ := h.2 (by omega)
  refine ⟨g, o, e, fun j u hu => hc j u ?_⟩
  rw [List.getElem?_take] at hu
  split at hu
  · exact hu
  · cases hu
theorem evsC_take (es : List Ev) (k : Nat) : (evsC es).take (k * 10) = evsC (es.take k) := by
  rw [evsC, flat_take k ev_len, evsC, List.map_take]
theorem bld_moves (evs : List Ev) : ∀ s ∈ bldS evs, s.moves.length ≤ evs.length := by
  intro s hs
  unfold bldS at hs
  cases hr : runE evs with
  | none => rw [hr] at hs; cases hs
  | some t =>
    rw [hr] at hs
    have hi := inv_run (evs := evs) (Nat.le_refl _) (by rw [List.take_length]; exact hr)
    obtain ⟨i, hi2, rfl⟩ := List.mem_iff_getElem.1 hs
    exact hi.moves i _ (List.getElem?_eq_getElem hi2)
theorem bld_few (evs : List Ev) : (bldS evs).length ≤ evs.length + 8 := by
  unfold bldS
  cases hr : runE evs with
  | none => simp
  | some t =>
    have hi := inv_run (evs := evs) (Nat.le_refl _) (by rw [List.take_length]; exact hr)
    have := hi.few
    have := cnt_le t.opn
    show t.sts.length ≤ _
    omega
def c0Of (cut : Int) : Int := if cut < 0 then -(cut + 1) else cut
set_option maxRecDepth 100000 in
set_option maxHeartbeats 12800000 in
theorem grows_walk (A : Option Addr) (n c : Nat) (evs : List Ev) (cut : Int) (w : World) (hE : Sl w A n 10 (evsC evs)) (hn : evs.length = n) (hnc : n ≤ c) (hbig : n * 80 ≤ 140737488355328) (hcut : -9223372036854775808 ≤ cut ∧ cut ≤ 9223372036854775807) :
    Calls Try.prog 7 #[.slice A n c, .int .i64 cut] w fun e w' => e = .returned (.bool true) ∧ Below w.heap.size w w' := by
  have HE := Lib.hid hE
  have HN := Lib.hid hn
  obtain ⟨c0, hc0⟩ : ∃ c0 : Nat, c0Of cut = (c0 : Int) := ⟨(c0Of cut).toNat, by unfold c0Of; split <;> omega⟩
  have HC0 := Lib.hid hc0
  have h63 : c0 ≤ 9223372036854775807 := by have := hc0; unfold c0Of at this; split at this <;> omega
  obtain ⟨k, hk⟩ : ∃ k : Nat, k = c0 % (n + 1) := ⟨_, rfl⟩
  have hkn : k ≤ n := by have := Nat.mod_lt c0 (show 0 < n + 1 by omega); omega
  have hkz : (c0 : Int) % ((n : Int) + 1) = (k : Int) := by rw [hk, Int.natCast_emod, Int.natCast_add, Int.natCast_one]
  have HK := Lib.hid hkz
  obtain ⟨hcut1, hcut2⟩ := hcut
  have h0 := Star.begin w
  clear hE hn hc0 hk hkz
  go_enter Try.func7, Try.ntmps7
  go_wp2_with fail
  refine (awake_any _).mono ?_
  rintro e' w1 ⟨rfl, hb1⟩
  have h1 := Star.of_below h0 hb1
  clear h0 hb1
  go_upto_if 17 with fail
  go_cut [1] (fun v wx => v = .int .i64 (c0 : Int) ∧ wx = w1)
  case first =>
    by_cases hneg : cut < 0
    · have e1 : -(cut + 1) = (c0 : Int) := by have := HC0.out; unfold c0Of at this; rw [if_pos hneg] at this; exact this
      have E1 := Lib.hid e1
      clear e1
      go_wp2
      go_meet
      exact ⟨by rw [E1.out], rfl⟩
    · have e1 : cut = (c0 : Int) := by have := HC0.out; unfold c0Of at this; rw [if_neg hneg] at this; exact this
      have E1 := Lib.hid e1
      clear e1
      go_wp2
      go_meet
      exact ⟨by rw [E1.out], rfl⟩
  case rest =>
    obtain ⟨rfl, rfl⟩ := hcut
    obtain ⟨w1, rfl⟩ : ∃ w1 : World, w1 = wc := ⟨_, rfl⟩
    have B1 := Lib.hid (build_any A n c evs w1 (HE.out.after (by omega) h1) HN.out hbig)
    have H1 := Lib.hid h1
    clear h1
    go_wp2_with fail
    rw [HK.out]
    refine B1.out.mono ?_
    rintro e' w2 ⟨a2, c2, rfl, h2⟩
    have h3 := h2.frame (L := [_]) H1.out
    have B2 := Lib.hid (build_any A k c (evs.take k) w2 (by have := ((HE.out.after (by omega) h3.swap).cutTo hkn); rw [evsC_take] at this; exact this) (by rw [List.length_take]; have := HN.out; omega) (by omega))
    have H3 := Lib.hid h3
    clear h2 h3 B1 H1
    go_wp2_with fail
    refine B2.out.mono ?_
    rintro e' w3 ⟨a3, c3, rfl, h4⟩
    have h5 := h4.frame (L := [_]) H3.out
    clear h4 B2 H3
    by_cases hok : bldOk evs = true
    case neg =>
      have hok' : bldOk evs = false := by simpa using hok
      obtain ⟨q1, q2, q3⟩ := grows_bad (k := k) hok' (by rw [HN.out]; exact hkn)
      have e1 : bldCode evs = 210 := by simp [bldCode, hok']
      have H5 := Lib.hid (h5.pull 2).below
      rw [e1]
      rw [HN.out] at q1
      by_cases hlt : bldAt evs < k
      · obtain ⟨r1, r2⟩ := q2 hlt
        have e2 : bldCode (evs.take k) = 210 := by simp [bldCode, r1]
        rw [e2, r2]
        clear h5 q1 q2 q3 e1 e2 r1 r2 hok hok'
        generalize bldAt evs = at0 at hlt ⊢
        have hd : decide (at0 < k) = true := by simpa using hlt
        go_wp2
        go_ret
        exact ⟨rfl, H5.out⟩
      · have r1 := q3 (by omega)
        have e2 : bldCode (evs.take k) = 0 := by simp [bldCode, r1]
        rw [e2]
        clear h5 q2 q3 e1 e2 r1 hok hok'
        generalize bldAt evs = at0 at hlt q1 ⊢
        have hd : decide (at0 < k) = false := by simpa using hlt
        have hd2 : decide (at0 < n) = true := by simpa using q1
        go_wp2
        go_ret
        exact ⟨rfl, H5.out⟩
    case pos =>
      obtain ⟨q1, q2, q3⟩ := grows_ok k hok
      have e1 : bldCode evs = 0 := by simp [bldCode, hok]
      have e2 : bldCode (evs.take k) = 0 := by simp [bldCode, q1]
      rw [e1, e2]
      have hmv : ∀ s ∈ bldS evs, s.moves.length * 48 ≤ 140737488355328 := fun s hs => by have := bld_moves evs s hs; have := HN.out; omega
      have hmv2 : ∀ s ∈ bldS (evs.take k), s.moves.length * 48 ≤ 140737488355328 := fun s hs => by have := bld_moves _ s hs; rw [List.length_take] at this; have := HN.out; omega
      have hfew := bld_few evs
      rw [HN.out] at hfew
      obtain ⟨vs, hS1, _⟩ := stories_read (h5.pull 1) rfl hmv
      obtain ⟨us, hS2, _⟩ := stories_read h5 rfl hmv2
      have H5 := Lib.hid (h5.pick 3 [2])
      have Q3 := Lib.hid q3
      clear h5 hmv hmv2 q1 q3 e1 e2 hok
      generalize bldS evs = al at q2 Q3 hfew hS1 ⊢
      generalize bldS (evs.take k) = so at q2 Q3 hS2 ⊢
      generalize bldAt evs = at0
      generalize bldAt (evs.take k) = to0
      obtain ⟨n1, hn1⟩ : ∃ n1, n1 = al.length := ⟨_, rfl⟩
      obtain ⟨n2, hn2⟩ : ∃ n2, n2 = so.length := ⟨_, rfl⟩
      rw [← hn1] at q2 hfew hS1 ⊢
      rw [← hn2] at q2 hS2 ⊢
      have HS1 := Lib.hid hS1
      have HS2 := Lib.hid hS2
      have hd : decide (n1 < n2) = false := by simp; omega
      clear hn1 hn2 hS1 hS2
      go_wp2_with fail
      go_loopw [13] (fun i wr => ∃ j : Nat, j ≤ n2 ∧ i = .int .i64 j ∧ Star w3 wr [oldA w3]) (fun i _ => n2 - (intOf i).toNat)
      case atStart => exact ⟨0, Nat.zero_le _, rfl, Star.begin w3⟩
      case round =>
        obtain ⟨j, hj, rfl, hR⟩ := hrel
        by_cases hlt : j < n2
        · obtain ⟨x, hx⟩ : ∃ x, so[j]? = some x := ⟨_, List.getElem?_eq_getElem (by have := HS2.out.ns; omega)⟩
          obtain ⟨y, hy, hw⟩ := Q3.out j x hx
          obtain ⟨v, hv⟩ : ∃ v, vs[j]? = some v := ⟨_, List.getElem?_eq_getElem (by have := HS1.out.nv; omega)⟩
          obtain ⟨u, hu⟩ : ∃ v, us[j]? = some v := ⟨_, List.getElem?_eq_getElem (by have := HS2.out.nv; omega)⟩
          obtain ⟨MA, ma, mc, rfl, hma, hmsA, hmbA⟩ := (HS2.out.after hR).mv j x u hx hu
          obtain ⟨MB, mb, md, rfl, hmb, hmsB, hmbB⟩ := (HS1.out.after hR).mv j y v hy hv
          obtain ⟨g, o, rfl, hg, ca⟩ := HS2.out.row.row hlt (by omega)
          obtain ⟨g', o', rfl, hg', cb⟩ := HS1.out.row.row (k := j) (by omega) (by omega)
          have fa' : ∀ i z, (stoC x (.slice MA ma mc))[i]? = some z → i < 10 → wr.cell? ⟨g, o + j * 10 + i, none⟩ = some z := fun i z hz hi => (hR.oldCell hg).trans (ca i z (by rw [stosC_at hx hu hi]; exact hz))
          have fb' : ∀ i z, (stoC y (.slice MB mb md))[i]? = some z → i < 10 → wr.cell? ⟨g', o' + j * 10 + i, none⟩ = some z := fun i z hz hi => (hR.oldCell hg').trans (cb i z (by rw [stosC_at hy hv hi]; exact hz))
          have a0 := fa' 0 _ rfl (by omega)
          have a1 := fa' 1 _ rfl (by omega)
          have a2 := fa' 2 _ rfl (by omega)
          have a3 := fa' 3 _ rfl (by omega)
          have a4 := fa' 4 _ rfl (by omega)
          have a5 := fa' 5 _ rfl (by omega)
          have a6 := fa' 6 _ rfl (by omega)
          have a7 := fa' 7 _ rfl (by omega)
          have a8 := fa' 8 _ rfl (by omega)
          have a9 := fa' 9 _ rfl (by omega)
          have b0 := fb' 0 _ rfl (by omega)
          have b1 := fb' 1 _ rfl (by omega)
          have b2 := fb' 2 _ rfl (by omega)
          have b3 := fb' 3 _ rfl (by omega)
          have b4 := fb' 4 _ rfl (by omega)
          have b5 := fb' 5 _ rfl (by omega)
          have b6 := fb' 6 _ rfl (by omega)
          have b7 := fb' 7 _ rfl (by omega)
          have b8 := fb' 8 _ rfl (by omega)
          have b9 := fb' 9 _ rfl (by omega)
          simp only [Nat.add_zero] at a0 b0
          have WI := Lib.hid (within_any hw MA MB ma mc mb md wr.drew hmsA hmsB hma hmb (by omega))
          have hjz : (j : Int) < n2 := by omega
          have hjz1 : (j : Int) < n1 := by omega
          have HR := Lib.hid hR
          clear fa' fb' ca cb hx hy hw hv hu hR hma hmsA hmbA hmb hmsB hmbB hg hg'
          go_wp2_with fail
          go_still_tail 8, (by kernel_rfl)
          change wpList _ _ _ _ _ wr.drew
          go_wp2_with fail
          refine WI.out.mono ?_
          rintro e' w5 ⟨rfl, hb5⟩
          have HR2 := Lib.hid (HR.out.drew.of_below hb5)
          clear WI hb5
          go_wp2
          go_roundw
          case rel => exact ⟨j + 1, by omega, by go_num, HR2.out⟩
          case measure => simp [intOf]; omega
        · have hjn : j = n2 := by omega
          subst hjn
          have H2 := Lib.hid ((H5.out.of_below hR.below).below)
          have hjz : ¬ (j : Int) < j := by omega
          clear hR
          go_wp2
          go_ret
          exact ⟨rfl, H2.out⟩
end Go.Proofs.Ytfekjbaojefhoaa
