/- The document's Check: lemmas for the laws of layer 22. -/
import Derived.Test.YtljdkfhkpjjfgaaOrB
namespace Go.Proofs.Ytljdkfhkpjjfgaa
open Go.RowKit Go.Shelf
set_option linter.unusedVariables false

set_option maxRecDepth 100000 in
set_option maxHeartbeats 12800000 in
theorem check_doc (X : Nat) (SA : Option Addr) (sn sc : Nat) (st : List Int) (B : Option Addr) (m d : Nat) (sts : List Sto) (vs : List Value) (A : Option Addr) (k c : Nat) (zs : List Int) (w : World)
    (hST : Sl w SA sn 1 (intsC st)) (hsb : sn * 8 ≤ 140737488355328) (hT : Stories w B m sts vs) (hbm : m * 96 ≤ 140737488355328) (hO : Sl w A k 1 (intsC zs)) (hb : k * 8 ≤ 140737488355328) (hX : ∀ s ∈ sts, s.moves.length ≤ X) (hXb : m * X * 16 ≤ 140737488355328) :
    Calls Try.prog 15 #[.slice SA sn sc, .slice B m d, .slice A k c] w fun e w' => e = .returned (.tuple #[.int .i64 (checkP st sts zs).1, .int .i64 (checkP st sts zs).2]) ∧ Below w.heap.size w w' := by
  have hzl : zs.length = k := by have := hO.1; rw [intsC_len] at this; omega
  have hns := hT.ns
  have EVD := Lib.hid (every_doc A k c m zs w hO hb (by omega))
  have HZ := Lib.hid hzl
  have HST := Lib.hid hST
  have HT := Lib.hid hT
  have HO := Lib.hid hO
  have HX := Lib.hid hX
  have CP : checkP st sts zs = if evP sts.length [] zs then (match timeP sts 0 0 zs with | some k => ((221 : Int), (k : Int)) | none => match readP sts 0 (begF st) zs with | some k => ((222 : Int), (k : Int)) | none => ((0 : Int), (0 : Int))) else ((220 : Int), (0 : Int)) := rfl
  rw [hns] at CP
  have HCP := Lib.hid CP
  clear hST hT hO hzl hX CP hns
  obtain ⟨bb, hbb⟩ : ∃ bb, evP m [] zs = bb := ⟨_, rfl⟩
  have hcp := HCP.out
  rw [hbb] at hcp EVD
  have EV0 := Lib.hid hbb
  clear hbb
  go_enter Try.func15, Try.ntmps15
  go_wp2_with fail
  refine EVD.out.mono ?_
  rintro e' w1 ⟨rfl, hb1⟩
  have h1 := (Star.begin w).of_below hb1
  cases bb with
  | false =>
    have E1 := Lib.hid (show checkP st sts zs = (220, 0) from hcp)
    have H1 := Lib.hid h1.below
    clear hcp hb1 h1
    go_wp2
    go_ret2
    exact ⟨by rw [E1.out]; rfl, H1.out⟩
  | true =>
    have EV : Hid (evP m [] zs = true) := EV0
    have E1 := Lib.hid (show checkP st sts zs = (match timeP sts 0 0 zs with | some k => ((221 : Int), (k : Int)) | none => match readP sts 0 (begF st) zs with | some k => ((222 : Int), (k : Int)) | none => (0, 0)) from hcp)
    have H1 := Lib.hid h1
    clear hcp hb1 h1 EVD HCP EV0
    go_wp2_with fail
    go_loopw [9, 10] (fun gr i wr => ∃ t : Nat, t ≤ k ∧ i = .int .i64 t ∧ ∃ late : Int, gr = .int .i64 late ∧ Star w wr [oldA w] ∧ Hid (timeP sts 0 0 zs = timeP sts t late (zs.drop t))) (fun _ i _ => k - (intOf i).toNat)
    case atStart => exact ⟨0, Nat.zero_le _, rfl, 0, rfl, H1.out, Lib.hid rfl⟩
    case round =>
      clear H1
      obtain ⟨t, ht, rfl, late, rfl, hOW, hE⟩ := hrel
      by_cases hlt : t < k
      · obtain ⟨z, hz⟩ : ∃ z, zs[t]? = some z := ⟨_, List.getElem?_eq_getElem (by have := HZ.out; omega)⟩
        have hall := evP_all EV.out z (List.mem_of_getElem? hz)
        have hns := HT.out.ns
        obtain ⟨x, rfl⟩ : ∃ x : Nat, z = x := ⟨z.toNat, by omega⟩
        have hxm : x < m := by omega
        obtain ⟨s, XA, xk, xc, g3, o3, hss, hst3, rfl, hg3, hxk, hxs, hxb, s0, s1, s2, s3, s4, s5, s6, s7, s8, s9⟩ := HT.out.cells hxm
        obtain ⟨g, rfl⟩ : ∃ g, g = g3 := ⟨_, rfl⟩
        obtain ⟨o, rfl⟩ : ∃ o, o = o3 := ⟨_, rfl⟩
        obtain ⟨gO, oO, rfl, hgO, cb⟩ := HO.out.row hlt (by omega)
        have z0 : wr.cell? ⟨gO, oO + t, none⟩ = some (.int .i64 x) := (hOW.oldCell hgO).trans (by have := cb 0 _ (by rw [Nat.mul_one, Nat.add_zero]; exact intsC_get hz); simpa using this)
        have s0 : wr.cell? ⟨g, o + x * 10, none⟩ = some (.int .i64 s.thread) := (hOW.oldCell hg3).trans s0
        have s1 : wr.cell? ⟨g, o + x * 10 + 1, none⟩ = some (.int .i64 s.stamp) := (hOW.oldCell hg3).trans s1
        have s2 : wr.cell? ⟨g, o + x * 10 + 2, none⟩ = some (.int .i64 s.begin_) := (hOW.oldCell hg3).trans s2
        have s3 : wr.cell? ⟨g, o + x * 10 + 3, none⟩ = some (.int .i64 s.end_) := (hOW.oldCell hg3).trans s3
        have s4 : wr.cell? ⟨g, o + x * 10 + 4, none⟩ = some (.int .i64 s.fate) := (hOW.oldCell hg3).trans s4
        have s5 : wr.cell? ⟨g, o + x * 10 + 5, none⟩ = some (.int .i64 s.e) := (hOW.oldCell hg3).trans s5
        have s6 : wr.cell? ⟨g, o + x * 10 + 6, none⟩ = some (.int .i64 s.by_) := (hOW.oldCell hg3).trans s6
        have s7 : wr.cell? ⟨g, o + x * 10 + 7, none⟩ = some (.int .i64 s.opens) := (hOW.oldCell hg3).trans s7
        have s8 : wr.cell? ⟨g, o + x * 10 + 8, none⟩ = some (.int .i64 s.gate) := (hOW.oldCell hg3).trans s8
        have s9 : wr.cell? ⟨g, o + x * 10 + 9, none⟩ = some (.slice XA xk xc) := (hOW.oldCell hg3).trans s9
        have htz : (t : Int) < k := by omega
        have hxz : (x : Int) < m := by omega
        have hdr : zs.drop t = (x : Int) :: zs.drop (t + 1) := drop_cons hz
        have e1 := hE.out
        rw [hdr, timeP, hst3] at e1
        have hN := hOW.new (.cells #[.int .i64 s.thread, .int .i64 s.stamp, .int .i64 s.begin_, .int .i64 s.end_, .int .i64 s.fate, .int .i64 s.e, .int .i64 s.by_, .int .i64 s.opens, .int .i64 s.gate, .slice XA xk xc] 44)
        have c2 : (wr.alloc (.cells #[.int .i64 s.thread, .int .i64 s.stamp, .int .i64 s.begin_, .int .i64 s.end_, .int .i64 s.fate, .int .i64 s.e, .int .i64 s.by_, .int .i64 s.opens, .int .i64 s.gate, .slice XA xk xc] 44)).cell? ⟨wr.heap.size, 2, none⟩ = some (.int .i64 s.begin_) := hN.cell 2
        have c3 : (wr.alloc (.cells #[.int .i64 s.thread, .int .i64 s.stamp, .int .i64 s.begin_, .int .i64 s.end_, .int .i64 s.fate, .int .i64 s.e, .int .i64 s.by_, .int .i64 s.opens, .int .i64 s.gate, .slice XA xk xc] 44)).cell? ⟨wr.heap.size, 3, none⟩ = some (.int .i64 s.end_) := hN.cell 3
        have HN := Lib.hid (hN.drop)
        clear hz hall hns hss hst3 hg3 hxk hxs hxb hgO cb hOW hE hdr hN
        by_cases hf : 0 < t ∧ s.end_ ≠ 0 ∧ s.end_ < late
        · rw [if_pos hf] at e1
          obtain ⟨hf1, hf2, hf3⟩ := hf
          have e2 : checkP st sts zs = (221, (t : Int)) := by rw [E1.out, e1]
          have E2 := Lib.hid e2
          have htp : (0 : Int) < t := by omega
          have hen : (s.end_ != 0) = true := by simpa using hf2
          clear e1 e2 hf2
          go_wp2
          go_ret2
          exact ⟨by rw [E2.out]; rfl, HN.out.below⟩
        · rw [if_neg hf] at e1
          rcases Nat.eq_zero_or_pos t with ht0 | ht0
          · rw [if_pos (Or.inl ht0)] at e1
            have E2 := Lib.hid e1
            have htp : ¬ (0 : Int) < t := by omega
            have htn : ((t : Int) == 0) = true := by rw [beq_iff_eq]; omega
            clear e1 hf ht0
            go_wp2
            go_roundw
            case rel => exact ⟨t + 1, by omega, by go_num, _, rfl, HN.out, E2⟩
            case measure => simp [intOf]; omega
          · have htp : (0 : Int) < t := by omega
            have htn : ((t : Int) == 0) = false := by
              rw [Bool.eq_false_iff]; intro h; have := eq_of_beq h; omega
            by_cases hlb : late < s.begin_
            · rw [if_pos (Or.inr hlb)] at e1
              have E2 := Lib.hid e1
              clear e1
              by_cases he : s.end_ = 0
              · have hen : (s.end_ != 0) = false := by simpa using he
                clear hf he
                go_wp2
                go_roundw
                case rel => exact ⟨t + 1, by omega, by go_num, _, rfl, HN.out, E2⟩
                case measure => simp [intOf]; omega
              · have hen : (s.end_ != 0) = true := by simpa using he
                have hel : ¬ s.end_ < late := fun h => hf ⟨ht0, he, h⟩
                clear hf he
                go_wp2
                go_roundw
                case rel => exact ⟨t + 1, by omega, by go_num, _, rfl, HN.out, E2⟩
                case measure => simp [intOf]; omega
            · rw [if_neg (by omega)] at e1
              have E2 := Lib.hid e1
              clear e1
              by_cases he : s.end_ = 0
              · have hen : (s.end_ != 0) = false := by simpa using he
                clear hf he
                go_wp2
                go_roundw
                case rel => exact ⟨t + 1, by omega, by go_num, _, rfl, HN.out, E2⟩
                case measure => simp [intOf]; omega
              · have hen : (s.end_ != 0) = true := by simpa using he
                have hel : ¬ s.end_ < late := fun h => hf ⟨ht0, he, h⟩
                clear hf he
                go_wp2
                go_roundw
                case rel => exact ⟨t + 1, by omega, by go_num, _, rfl, HN.out, E2⟩
                case measure => simp [intOf]; omega
      · have e1 := hE.out
        rw [List.drop_eq_nil_of_le (by have := HZ.out; omega), timeP] at e1
        have E2 := Lib.hid (show checkP st sts zs = (match readP sts 0 (begF st) zs with | some k => ((222 : Int), (k : Int)) | none => (0, 0)) from by rw [E1.out, e1])
        have htz : ¬ (t : Int) < k := by omega
        have H2 := Lib.hid (doc_new hOW (.slice SA sn sc))
        clear hE e1 hOW E1
        go_wp2_with fail
        obtain ⟨bm, hbm2⟩ : ∃ bm, wr.heap.size = bm := ⟨_, rfl⟩
        have H3 := H2.out
        rw [hbm2] at H3 ⊢
        have H4 := Lib.hid H3
        clear H2 H3 hbm2 htz ht
        go_loopw [13] (fun i wr => ∃ t : Nat, t ≤ k ∧ i = .int .i64 t ∧ ∃ ps, ps.length ≤ t * X ∧ Star w wr [docA bm (.slice SA sn sc) ps, oldA w] ∧ Hid (readP sts 0 (begF st) zs = readP sts t (docF st ps) (zs.drop t) ∧ KeysOk ps)) (fun i _ => k - (intOf i).toNat)
        case atStart => exact ⟨0, Nat.zero_le _, rfl, [], by simp, H4.out, Lib.hid ⟨by rw [docF_nil]; rfl, by unfold KeysOk; simp⟩⟩
        case round =>
          clear H4
          obtain ⟨t, ht, rfl, ps, hpl, hR, hE⟩ := hrel
          have hOW := hR.drop
          by_cases hlt : t < k
          · obtain ⟨z, hz⟩ : ∃ z, zs[t]? = some z := ⟨_, List.getElem?_eq_getElem (by have := HZ.out; omega)⟩
            have hall := evP_all EV.out z (List.mem_of_getElem? hz)
            have hkm : k ≤ m := by
              have := ((evP_iff zs []).1 EV.out).2.2.2
              have h1 := HZ.out
              simp at this
              omega
            have hns := HT.out.ns
            obtain ⟨x, rfl⟩ : ∃ x : Nat, z = x := ⟨z.toNat, by omega⟩
            have hxm : x < m := by omega
            obtain ⟨s, XA, xk, xc, g, o, hss, hst3, rfl, hg3, hxk, hxs, hxb, p0, p1, p2, p3, p4, p5, p6, p7, p8, p9⟩ := HT.out.cells hxm
            obtain ⟨gO, oO, rfl, hgO, cb⟩ := HO.out.row hlt (by omega)
            have hzc : w.cell? ⟨gO, oO + t, none⟩ = some (.int .i64 x) := (by have := cb 0 _ (by rw [Nat.mul_one, Nat.add_zero]; exact intsC_get hz); simpa using this)
            have FA := Lib.hid (⟨hg3, hgO, hzc, p0, p1, p2, p3, p4, p5, p6, p7, p8, p9⟩ : _ ∧ _ ∧ _ ∧ _ ∧ _ ∧ _ ∧ _ ∧ _ ∧ _ ∧ _ ∧ _ ∧ _ ∧ _)
            clear p0 p1 p2 p3 p4 p5 p6 p7 p8 p9
            have htz : (t : Int) < k := by omega
            have hxz : (x : Int) < m := by omega
            have hdr : zs.drop t = (x : Int) :: zs.drop (t + 1) := drop_cons hz
            have e1 := hE.out.1
            rw [hdr, readP, hst3] at e1
            have hsX := HX.out s (List.mem_of_getElem? hss)
            have hbX : (ps.length + xk) * 16 ≤ 140737488355328 := by
              have h1 : (t + 1) * X ≤ m * X := Nat.mul_le_mul_right _ (by omega)
              rw [Nat.succ_mul] at h1
              omega
            have hpl2 : (putsL ps (leftOf s)).length ≤ (t + 1) * X := by
              have h1 := putsL_len (leftOf s) ps
              have h2 := left_len s
              rw [Nat.succ_mul]
              omega
            have z0 : wr.cell? ⟨gO, oO + t, none⟩ = some (.int .i64 x) := (hOW.oldCell FA.out.2.1).trans FA.out.2.2.1
            obtain ⟨-, -, -, p0, p1, p2, p3, p4, p5, p6, p7, p8, p9⟩ := FA.out
            have s0 : wr.cell? ⟨g, o + x * 10, none⟩ = some (.int .i64 s.thread) := (hOW.oldCell FA.out.1).trans p0
            have s1 : wr.cell? ⟨g, o + x * 10 + 1, none⟩ = some (.int .i64 s.stamp) := (hOW.oldCell FA.out.1).trans p1
            have s2 : wr.cell? ⟨g, o + x * 10 + 2, none⟩ = some (.int .i64 s.begin_) := (hOW.oldCell FA.out.1).trans p2
            have s3 : wr.cell? ⟨g, o + x * 10 + 3, none⟩ = some (.int .i64 s.end_) := (hOW.oldCell FA.out.1).trans p3
            have s4 : wr.cell? ⟨g, o + x * 10 + 4, none⟩ = some (.int .i64 s.fate) := (hOW.oldCell FA.out.1).trans p4
            have s5 : wr.cell? ⟨g, o + x * 10 + 5, none⟩ = some (.int .i64 s.e) := (hOW.oldCell FA.out.1).trans p5
            have s6 : wr.cell? ⟨g, o + x * 10 + 6, none⟩ = some (.int .i64 s.by_) := (hOW.oldCell FA.out.1).trans p6
            have s7 : wr.cell? ⟨g, o + x * 10 + 7, none⟩ = some (.int .i64 s.opens) := (hOW.oldCell FA.out.1).trans p7
            have s8 : wr.cell? ⟨g, o + x * 10 + 8, none⟩ = some (.int .i64 s.gate) := (hOW.oldCell FA.out.1).trans p8
            have s9 : wr.cell? ⟨g, o + x * 10 + 9, none⟩ = some (.slice XA xk xc) := (hOW.oldCell FA.out.1).trans p9
            clear p0 p1 p2 p3 p4 p5 p6 p7 p8 p9
            have EX := Lib.hid (explained_doc s XA xk xc bm SA sn sc st ps _ w wr hR (HST.out.after (by omega) hOW) hsb (hxs.after (by omega) hOW) hxk hxb)
            have HXS := Lib.hid (⟨hxs, hxk⟩ : _ ∧ _)
            have HR := Lib.hid hR
            have HKP := Lib.hid hE.out.2
            dsimp only [stoC] at EX
            clear hz hall hns hss hst3 hg3 hxk hxs hgO cb hzc hOW hE hdr hR
            go_wp2_with fail
            refine EX.out.mono ?_
            rintro e' w3 ⟨rfl, hb3⟩
            have hR3 := HR.out.of_below hb3
            clear EX hb3 HR s0 s1 s2 s3 s4 s5 s6 s7 s8 s9 z0
            cases hex : explS (docF st ps) (fun _ => none) s.moves with
            | false =>
              rw [hex] at e1
              have E3 := Lib.hid (show checkP st sts zs = (222, (t : Int)) from by rw [E2.out, e1]; rfl)
              have HB := Lib.hid hR3.drop.below
              clear e1 hex hR3 HKP E2 FA HXS hpl2
              go_wp2
              go_ret2
              exact ⟨by rw [E3.out]; rfl, HB.out⟩
            | true =>
              rw [hex, if_pos rfl] at e1
              have hOW3 := hR3.drop
              have z0 : w3.cell? ⟨gO, oO + t, none⟩ = some (.int .i64 x) := (hOW3.oldCell FA.out.2.1).trans FA.out.2.2.1
              obtain ⟨-, -, -, p0, p1, p2, p3, p4, p5, p6, p7, p8, p9⟩ := FA.out
              have s0 : w3.cell? ⟨g, o + x * 10, none⟩ = some (.int .i64 s.thread) := (hOW3.oldCell FA.out.1).trans p0
              have s1 : w3.cell? ⟨g, o + x * 10 + 1, none⟩ = some (.int .i64 s.stamp) := (hOW3.oldCell FA.out.1).trans p1
              have s2 : w3.cell? ⟨g, o + x * 10 + 2, none⟩ = some (.int .i64 s.begin_) := (hOW3.oldCell FA.out.1).trans p2
              have s3 : w3.cell? ⟨g, o + x * 10 + 3, none⟩ = some (.int .i64 s.end_) := (hOW3.oldCell FA.out.1).trans p3
              have s4 : w3.cell? ⟨g, o + x * 10 + 4, none⟩ = some (.int .i64 s.fate) := (hOW3.oldCell FA.out.1).trans p4
              have s5 : w3.cell? ⟨g, o + x * 10 + 5, none⟩ = some (.int .i64 s.e) := (hOW3.oldCell FA.out.1).trans p5
              have s6 : w3.cell? ⟨g, o + x * 10 + 6, none⟩ = some (.int .i64 s.by_) := (hOW3.oldCell FA.out.1).trans p6
              have s7 : w3.cell? ⟨g, o + x * 10 + 7, none⟩ = some (.int .i64 s.opens) := (hOW3.oldCell FA.out.1).trans p7
              have s8 : w3.cell? ⟨g, o + x * 10 + 8, none⟩ = some (.int .i64 s.gate) := (hOW3.oldCell FA.out.1).trans p8
              have s9 : w3.cell? ⟨g, o + x * 10 + 9, none⟩ = some (.slice XA xk xc) := (hOW3.oldCell FA.out.1).trans p9
              clear p0 p1 p2 p3 p4 p5 p6 p7 p8 p9
              have LV := Lib.hid (leaves_doc s XA xk xc bm (.slice SA sn sc) ps _ w w3 hR3 (HXS.out.1.after (by omega) hOW3) HXS.out.2 hxb hbX)
              dsimp only [stoC] at LV
              have E3 := Lib.hid (show readP sts 0 (begF st) zs = readP sts (t + 1) (docF st (putsL ps (leftOf s))) (zs.drop (t + 1)) ∧ KeysOk (putsL ps (leftOf s)) from ⟨by rw [e1, docF_puts st _ HKP.out], keys_puts _ HKP.out⟩)
              clear e1 hex hR3 hOW3 HKP FA HXS
              go_wp2_with fail
              refine LV.out.mono ?_
              rintro e' w4 ⟨rfl, h4⟩
              have H4 := Lib.hid h4
              clear h4 LV s0 s1 s2 s3 s4 s5 s6 s7 s8 s9 z0
              go_wp2
              go_roundw
              case rel => exact ⟨t + 1, by omega, by go_num, _, hpl2, H4.out, E3⟩
              case measure => simp [intOf]; omega
          · have e1 := hE.out.1
            rw [List.drop_eq_nil_of_le (by have := HZ.out; omega), readP] at e1
            have E3 := Lib.hid (show checkP st sts zs = (0, 0) from by rw [E2.out, e1])
            have HB := Lib.hid hOW.below
            have htz : ¬ (t : Int) < k := by omega
            clear hR hE hOW e1 E2
            go_wp2
            go_ret2
            exact ⟨by rw [E3.out]; rfl, HB.out⟩
end Go.Proofs.Ytljdkfhkpjjfgaa
