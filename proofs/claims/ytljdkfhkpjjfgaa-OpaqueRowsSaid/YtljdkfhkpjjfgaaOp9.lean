/- Check: lemmas for the laws of layer 22. -/
import Derived.Test.YtljdkfhkpjjfgaaOqA
namespace Go.Proofs.Ytljdkfhkpjjfgaa
open Go.RowKit Go.Shelf
set_option linter.unusedVariables false

def stAt (sts : List Sto) (i : Int) : Sto := (sts[i.toNat]?).getD ⟨0, 0, 0, 0, 0, 0, 0, 0, 0, []⟩
/-- the place that is against the time -/
def timeP (sts : List Sto) : Nat → Int → List Int → Option Nat
  | _, _, [] => none
  | k, late, i :: r => if 0 < k ∧ (stAt sts i).end_ ≠ 0 ∧ (stAt sts i).end_ < late then some k else timeP sts (k + 1) (if k = 0 ∨ late < (stAt sts i).begin_ then (stAt sts i).begin_ else late) r
/-- the place whose reads do not tell -/
def readP (sts : List Sto) : Nat → Cells → List Int → Option Nat
  | _, _, [] => none
  | k, f, i :: r => if explS f (fun _ => none) (stAt sts i).moves then readP sts (k + 1) (putsF f (leftOf (stAt sts i))) r else some k
def checkP (st : List Int) (sts : List Sto) (zs : List Int) : Int × Int :=
  if evP sts.length [] zs then
    match timeP sts 0 0 zs with
    | some k => (221, k)
    | none => match readP sts 0 (begF st) zs with
      | some k => (222, k)
      | none => (0, 0)
  else (220, 0)
theorem evP_all {n : Nat} : ∀ {l pre : List Int}, evP n pre l = true → ∀ i ∈ l, 0 ≤ i ∧ i < n
  | [], _, _, i, hi => nomatch hi
  | x :: r, pre, h, i, hi => by
    rw [evP] at h
    by_cases hc : 0 ≤ x ∧ x < n ∧ x ∉ pre
    · rw [if_pos hc] at h
      rcases List.mem_cons.1 hi with rfl | hi
      · exact ⟨hc.1, hc.2.1⟩
      · exact evP_all h i hi
    · rw [if_neg hc] at h; cases h
set_option maxRecDepth 100000 in
set_option maxHeartbeats 12800000 in
theorem check_any (SA : Option Addr) (sn sc : Nat) (st : List Int) (B : Option Addr) (m d : Nat) (sts : List Sto) (vs : List Value) (A : Option Addr) (k c : Nat) (zs : List Int) (w : World)
    (hST : Sl w SA sn 1 (intsC st)) (hsb : sn * 8 ≤ 140737488355328) (hT : Stories w B m sts vs) (hbm : m * 96 ≤ 140737488355328) (hO : Sl w A k 1 (intsC zs)) (hb : k * 8 ≤ 140737488355328) :
    Calls Try.prog 14 #[.slice SA sn sc, .slice B m d, .slice A k c] w fun e w' => e = .returned (.tuple #[.int .i64 (checkP st sts zs).1, .int .i64 (checkP st sts zs).2]) ∧ Below w.heap.size w w' := by
  have hzl : zs.length = k := by have := hO.1; rw [intsC_len] at this; omega
  have EV := Lib.hid (every_any A k c m zs w hO hb (by omega))
  have HST := Lib.hid hST
  have HT := Lib.hid hT
  have HO := Lib.hid hO
  have HZ := Lib.hid hzl
  clear hST hT hO hzl
  go_enter Try.func14, Try.ntmps14
  go_wp2_with fail
  refine EV.out.mono ?_
  rintro e' w1 ⟨rfl, hb1⟩
  have h1 := (Star.begin w).of_below hb1
  cases hev : evP m [] zs with
  | false =>
    have e1 : checkP st sts zs = (220, 0) := by rw [checkP, HT.out.ns, hev]; rfl
    have E1 := Lib.hid e1
    have H1 := Lib.hid h1.below
    clear h1 e1 hb1
    go_wp2
    go_ret2
    exact ⟨by rw [E1.out]; rfl, H1.out⟩
  | true =>
    have H1 := Lib.hid h1
    clear h1 hb1
    go_wp2_with fail
    have ALL := Lib.hid (evP_all hev)
    have EVT := Lib.hid hev
    clear hev EV
    go_loopw [8, 22] (fun lt i wr => ∃ j : Nat, j ≤ k ∧ i = .int .i64 j ∧ ∃ late : Int, lt = .int .i64 late ∧ Star w wr [oldA w] ∧ Hid (timeP sts 0 0 zs = timeP sts j late (zs.drop j))) (fun _ i _ => k - (intOf i).toNat)
    case atStart => exact ⟨0, Nat.zero_le _, rfl, 0, rfl, H1.out, Lib.hid rfl⟩
    case round =>
      clear H1
      obtain ⟨j, hj, rfl, late, rfl, hR, hE⟩ := hrel
      by_cases hlt : j < k
      · obtain ⟨z, hz⟩ : ∃ z, zs[j]? = some z := ⟨_, List.getElem?_eq_getElem (by have := HZ.out; omega)⟩
        obtain ⟨hz0, hzm⟩ := ALL.out z (List.mem_of_getElem? hz)
        obtain ⟨i, rfl⟩ : ∃ i : Nat, z = i := ⟨z.toNat, by omega⟩
        have him : i < m := by omega
        obtain ⟨s, hs⟩ : ∃ s, sts[i]? = some s := ⟨_, List.getElem?_eq_getElem (by have := HT.out.ns; omega)⟩
        obtain ⟨v, hv⟩ : ∃ v, vs[i]? = some v := ⟨_, List.getElem?_eq_getElem (by have := HT.out.nv; omega)⟩
        obtain ⟨MA, mk, mc, rfl, -, -, -⟩ := HT.out.mv i s v hs hv
        obtain ⟨g, o, rfl, hg, ca⟩ := HT.out.row.row him (by omega)
        obtain ⟨g2, o2, rfl, hg2, cz⟩ := HO.out.row hlt (by omega)
        have z0 : wr.cell? ⟨g2, o2 + j, none⟩ = some (.int .i64 i) := (hR.oldCell hg2).trans (by have := cz 0 _ (by rw [Nat.mul_one, Nat.add_zero]; exact intsC_get hz); simpa using this)
        have fm : ∀ i' u, (stoC s (.slice MA mk mc))[i']? = some u → i' < 10 → wr.cell? ⟨g, o + i * 10 + i', none⟩ = some u := fun i' u hu hi => (hR.oldCell hg).trans (ca i' u (by rw [stosC_at hs hv hi]; exact hu))
        have a0 := fm 0 _ rfl (by omega)
        have a1 := fm 1 _ rfl (by omega)
        have a2 := fm 2 _ rfl (by omega)
        have a3 := fm 3 _ rfl (by omega)
        have a4 := fm 4 _ rfl (by omega)
        have a5 := fm 5 _ rfl (by omega)
        have a6 := fm 6 _ rfl (by omega)
        have a7 := fm 7 _ rfl (by omega)
        have a8 := fm 8 _ rfl (by omega)
        have a9 := fm 9 _ rfl (by omega)
        simp only [Nat.add_zero] at a0
        have hjz : (j : Int) < k := by omega
        have hiz : (i : Int) < m := by omega
        have hdr : zs.drop j = (i : Int) :: zs.drop (j + 1) := by
          have := List.drop_eq_getElem_cons (l := zs) (i := j) (List.getElem?_eq_some_iff.1 hz).1
          rw [(List.getElem?_eq_some_iff.1 hz).2] at this
          exact this
        have hst : stAt sts i = s := by rw [stAt, Int.toNat_natCast, hs]; rfl
        have e1 := hE.out
        rw [hdr, timeP, hst] at e1
        have hN := hR.new (.cells #[.int .i64 s.thread, .int .i64 s.stamp, .int .i64 s.begin_, .int .i64 s.end_, .int .i64 s.fate, .int .i64 s.e, .int .i64 s.by_, .int .i64 s.opens, .int .i64 s.gate, .slice MA mk mc] 44)
        have c3 : (wr.alloc (.cells #[.int .i64 s.thread, .int .i64 s.stamp, .int .i64 s.begin_, .int .i64 s.end_, .int .i64 s.fate, .int .i64 s.e, .int .i64 s.by_, .int .i64 s.opens, .int .i64 s.gate, .slice MA mk mc] 44)).cell? ⟨wr.heap.size, 3, none⟩ = some (.int .i64 s.end_) := hN.cell 3
        have c2 : (wr.alloc (.cells #[.int .i64 s.thread, .int .i64 s.stamp, .int .i64 s.begin_, .int .i64 s.end_, .int .i64 s.fate, .int .i64 s.e, .int .i64 s.by_, .int .i64 s.opens, .int .i64 s.gate, .slice MA mk mc] 44)).cell? ⟨g, o + i * 10 + 2, none⟩ = some (.int .i64 s.begin_) := ((hN.pull 1).oldCell hg).trans (ca 2 _ (by rw [stosC_at hs hv (by omega)]; rfl))
        have c2' : (wr.alloc (.cells #[.int .i64 s.thread, .int .i64 s.stamp, .int .i64 s.begin_, .int .i64 s.end_, .int .i64 s.fate, .int .i64 s.e, .int .i64 s.by_, .int .i64 s.opens, .int .i64 s.gate, .slice MA mk mc] 44)).cell? ⟨g2, o2 + j, none⟩ = some (.int .i64 i) := ((hN.pull 1).oldCell hg2).trans (by have := cz 0 _ (by rw [Nat.mul_one, Nat.add_zero]; exact intsC_get hz); simpa using this)
        have HN := Lib.hid hN
        clear fm ca cz hz hs hv hR hN hE hdr hst
        obtain ⟨th, sp, bg, en, fa, er, by_, op, ga, ms⟩ := s
        dsimp only at e1 a0 a1 a2 a3 a4 a5 a6 a7 a8 a9 c3 c2 c2' HN
        by_cases hf : 0 < j ∧ en ≠ 0 ∧ en < late
        · rw [if_pos hf] at e1
          obtain ⟨hf1, hf2, hf3⟩ := hf
          have e2 : checkP st sts zs = (221, (j : Int)) := by rw [checkP, HT.out.ns, EVT.out, e1]; rfl
          have E2 := Lib.hid e2
          have hjp : (0 : Int) < j := by omega
          have hen : (en != 0) = true := by simpa using hf2
          clear e1 e2 hf2
          go_wp2
          go_ret2
          exact ⟨by rw [E2.out]; rfl, (HN.out.drop).below⟩
        · rw [if_neg hf] at e1
          rcases Nat.eq_zero_or_pos j with hj0 | hj0
          · rw [if_pos (Or.inl hj0)] at e1
            have E1 := Lib.hid e1
            have hjp : ¬ (0 : Int) < j := by omega
            have hjn : ((j : Int) == 0) = true := by rw [beq_iff_eq]; omega
            clear e1 hf hj0
            go_wp2
            go_roundw
            case rel => exact ⟨j + 1, by omega, by go_num, _, rfl, HN.out.drop, E1⟩
            case measure => simp [intOf]; omega
          · have hjp : (0 : Int) < j := by omega
            have hjn : ((j : Int) == 0) = false := by
              rw [Bool.eq_false_iff]; intro h; have := eq_of_beq h; omega
            have hjc : ¬ j = 0 := by omega
            by_cases hlb : late < bg
            · rw [if_pos (Or.inr hlb)] at e1
              have E1 := Lib.hid e1
              clear e1
              by_cases he : en = 0
              · have hen : (en != 0) = false := by simpa using he
                clear hf he
                go_wp2
                go_roundw
                case rel => exact ⟨j + 1, by omega, by go_num, _, rfl, HN.out.drop, E1⟩
                case measure => simp [intOf]; omega
              · have hen : (en != 0) = true := by simpa using he
                have hel : ¬ en < late := fun h => hf ⟨hj0, he, h⟩
                clear hf he
                go_wp2
                go_roundw
                case rel => exact ⟨j + 1, by omega, by go_num, _, rfl, HN.out.drop, E1⟩
                case measure => simp [intOf]; omega
            · rw [if_neg (by omega)] at e1
              have E1 := Lib.hid e1
              clear e1
              by_cases he : en = 0
              · have hen : (en != 0) = false := by simpa using he
                clear hf he
                go_wp2
                go_roundw
                case rel => exact ⟨j + 1, by omega, by go_num, _, rfl, HN.out.drop, E1⟩
                case measure => simp [intOf]; omega
              · have hen : (en != 0) = true := by simpa using he
                have hel : ¬ en < late := fun h => hf ⟨hj0, he, h⟩
                clear hf he
                go_wp2
                go_roundw
                case rel => exact ⟨j + 1, by omega, by go_num, _, rfl, HN.out.drop, E1⟩
                case measure => simp [intOf]; omega
      · have hkn : j = k := by omega
        have e1 : zs.drop j = [] := List.drop_eq_nil_of_le (by have := HZ.out; omega)
        have e2 := hE.out
        rw [e1, timeP] at e2
        have e3 : checkP st sts zs = match readP sts 0 (begF st) zs with | some k => (222, (k : Int)) | none => (0, 0) := by rw [checkP, HT.out.ns, EVT.out, e2]; rfl
        have E3 := Lib.hid e3
        have hjz : ¬ (j : Int) < k := by omega
        have BG := Lib.hid (begun_any SA sn sc st wr (HST.out.after (by omega) hR) hsb)
        have HR := Lib.hid hR
        clear hE e1 e2 e3 hR EVT
        go_wp2_with fail
        refine BG.out.mono ?_
        rintro e' w2 ⟨bm, rfl, h2⟩
        have h3 := h2.frame (L := [_]) HR.out
        have H3 := Lib.hid h3
        clear h2 h3 HR BG
        go_wp2_with fail
        clear hjz hkn hj
        go_loopw [66] (fun i wz => ∃ t : Nat, t ≤ k ∧ i = .int .i64 t ∧ ∃ f : Cells, Star w wz [memA bm f, oldA w] ∧ Hid (readP sts 0 (begF st) zs = readP sts t f (zs.drop t))) (fun i _ => k - (intOf i).toNat)
        case atStart => exact ⟨0, Nat.zero_le _, rfl, _, H3.out, Lib.hid rfl⟩
        case round =>
          clear H3
          obtain ⟨t, ht, rfl, f, hR, hE⟩ := hrel
          by_cases hlt2 : t < k
          · obtain ⟨z, hz⟩ : ∃ z, zs[t]? = some z := ⟨_, List.getElem?_eq_getElem (by have := HZ.out; omega)⟩
            obtain ⟨hz0, hzm⟩ := ALL.out z (List.mem_of_getElem? hz)
            obtain ⟨i, rfl⟩ : ∃ i : Nat, z = i := ⟨z.toNat, by omega⟩
            have him : i < m := by omega
            obtain ⟨s, hs⟩ : ∃ s, sts[i]? = some s := ⟨_, List.getElem?_eq_getElem (by have := HT.out.ns; omega)⟩
            obtain ⟨v, hv⟩ : ∃ v, vs[i]? = some v := ⟨_, List.getElem?_eq_getElem (by have := HT.out.nv; omega)⟩
            obtain ⟨MA, mk, mc, rfl, hmk, hms, hmb⟩ := HT.out.mv i s v hs hv
            obtain ⟨g, o, rfl, hg, ca⟩ := HT.out.row.row him (by omega)
            obtain ⟨g2, o2, rfl, hg2, cz⟩ := HO.out.row hlt2 (by omega)
            have z0 : wr.cell? ⟨g2, o2 + t, none⟩ = some (.int .i64 i) := ((hR.pull 1).oldCell hg2).trans (by have := cz 0 _ (by rw [Nat.mul_one, Nat.add_zero]; exact intsC_get hz); simpa using this)
            have fm : ∀ (W' : World) (X : HA), Star w W' [X, oldA w] → ∀ i' u, (stoC s (.slice MA mk mc))[i']? = some u → i' < 10 → W'.cell? ⟨g, o + i * 10 + i', none⟩ = some u := fun W' X hX i' u hu hi => ((hX.pull 1).oldCell hg).trans (ca i' u (by rw [stosC_at hs hv hi]; exact hu))
            have a0 := fm _ _ hR 0 _ rfl (by omega)
            have a1 := fm _ _ hR 1 _ rfl (by omega)
            have a2 := fm _ _ hR 2 _ rfl (by omega)
            have a3 := fm _ _ hR 3 _ rfl (by omega)
            have a4 := fm _ _ hR 4 _ rfl (by omega)
            have a5 := fm _ _ hR 5 _ rfl (by omega)
            have a6 := fm _ _ hR 6 _ rfl (by omega)
            have a7 := fm _ _ hR 7 _ rfl (by omega)
            have a8 := fm _ _ hR 8 _ rfl (by omega)
            have a9 := fm _ _ hR 9 _ rfl (by omega)
            simp only [Nat.add_zero] at a0
            have hjz : (t : Int) < k := by omega
            have hiz : (i : Int) < m := by omega
            have hdr : zs.drop t = (i : Int) :: zs.drop (t + 1) := by
              have := List.drop_eq_getElem_cons (l := zs) (i := t) (List.getElem?_eq_some_iff.1 hz).1
              rw [(List.getElem?_eq_some_iff.1 hz).2] at this
              exact this
            have hst : stAt sts i = s := by rw [stAt, Int.toNat_natCast, hs]; rfl
            have e1 := hE.out
            rw [hdr, readP, hst] at e1
            have EX : Calls Try.prog 30 #[.map (some bm), .agg #[.int .i64 s.thread, .int .i64 s.stamp, .int .i64 s.begin_, .int .i64 s.end_, .int .i64 s.fate, .int .i64 s.e, .int .i64 s.by_, .int .i64 s.opens, .int .i64 s.gate, .slice MA mk mc]] wr fun e w' => e = .returned (.bool (explS f (fun _ => none) s.moves)) ∧ Below wr.heap.size wr w' := explained_any s MA mk mc bm f [oldA w] w wr hR (hms.after (by omega) (hR.pull 1)) hmk hmb
            have LV : ∀ w3, Star w w3 [memA bm f, oldA w] → Calls Try.prog 31 #[.map (some bm), .agg #[.int .i64 s.thread, .int .i64 s.stamp, .int .i64 s.begin_, .int .i64 s.end_, .int .i64 s.fate, .int .i64 s.e, .int .i64 s.by_, .int .i64 s.opens, .int .i64 s.gate, .slice MA mk mc]] w3 fun e w' => ∃ a q, e = .returned (.slice a (leftOf s).length q) ∧ Star w w' (rowA 70 2 (.slice a (leftOf s).length q) (leftOf s).length (pairsC (wasS f (leftOf s))) :: memA bm (putsF f (leftOf s)) :: [oldA w]) := fun w3 h => leaves_any s MA mk mc bm f [oldA w] w w3 h (hms.after (by omega) (h.pull 1)) hmk hmb
            have EX2 := Lib.hid EX
            have LV2 := Lib.hid LV
            have HR := Lib.hid hR
            have FM := Lib.hid fm
            have Z0 := Lib.hid (fun (W' : World) (X : HA) (hX : Star w W' [X, oldA w]) => (((hX.pull 1).oldCell hg2).trans (by have := cz 0 _ (by rw [Nat.mul_one, Nat.add_zero]; exact intsC_get hz); simpa using this) : W'.cell? ⟨g2, o2 + t, none⟩ = some (.int .i64 i)))
            clear fm ca cz hz hs hv hR hE hdr hst EX LV hms hmk hmb
            go_wp2_with fail
            refine EX2.out.mono ?_
            rintro e' w3 ⟨rfl, hb3⟩
            have hR3 := HR.out.of_below hb3
            clear EX2 hb3 HR a0 a1 a2 a3 a4 a5 a6 a7 a8 a9 z0
            cases hex : explS f (fun _ => none) s.moves with
            | false =>
              rw [hex] at e1
              have e2 : checkP st sts zs = (222, (t : Int)) := by rw [E3.out, e1]; rfl
              have E2 := Lib.hid e2
              have HB := Lib.hid (hR3.pull 1).below
              clear e1 e2 hex hR3 LV2 FM Z0
              go_wp2
              go_ret2
              exact ⟨by rw [E2.out]; rfl, HB.out⟩
            | true =>
              rw [hex, if_pos rfl] at e1
              have E1 := Lib.hid e1
              have a0 := FM.out _ _ hR3 0 _ rfl (by omega)
              have a1 := FM.out _ _ hR3 1 _ rfl (by omega)
              have a2 := FM.out _ _ hR3 2 _ rfl (by omega)
              have a3 := FM.out _ _ hR3 3 _ rfl (by omega)
              have a4 := FM.out _ _ hR3 4 _ rfl (by omega)
              have a5 := FM.out _ _ hR3 5 _ rfl (by omega)
              have a6 := FM.out _ _ hR3 6 _ rfl (by omega)
              have a7 := FM.out _ _ hR3 7 _ rfl (by omega)
              have a8 := FM.out _ _ hR3 8 _ rfl (by omega)
              have a9 := FM.out _ _ hR3 9 _ rfl (by omega)
              simp only [Nat.add_zero] at a0
              have LV3 := Lib.hid (LV2.out w3 hR3)
              clear e1 hex hR3 FM Z0 LV2
              go_wp2_with fail
              refine LV3.out.mono ?_
              rintro e' w4 ⟨la, lq, rfl, h4⟩
              have H4 := Lib.hid (h4.drop)
              clear h4 LV3 a0 a1 a2 a3 a4 a5 a6 a7 a8 a9
              go_wp2
              go_roundw
              case rel => exact ⟨t + 1, by omega, by go_num, _, H4.out, E1⟩
              case measure => simp [intOf]; omega
          · have hkn : t = k := by omega
            have e1 : zs.drop t = [] := List.drop_eq_nil_of_le (by have := HZ.out; omega)
            have e2 := hE.out
            rw [e1, readP] at e2
            have e4 : checkP st sts zs = (0, 0) := by rw [E3.out, e2]
            have E4 := Lib.hid e4
            have hjz : ¬ (t : Int) < k := by omega
            have HB := Lib.hid (hR.pull 1).below
            clear hE e1 e2 e4 hR
            go_wp2
            go_ret2
            exact ⟨by rw [E4.out]; rfl, HB.out⟩
end Go.Proofs.Ytljdkfhkpjjfgaa
