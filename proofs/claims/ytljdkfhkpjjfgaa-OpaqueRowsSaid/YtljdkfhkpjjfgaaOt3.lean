/- row: lemmas for the laws of layer 22. -/
import Derived.Test.YtljdkfhkpjjfgaaOt2
namespace Go.Proofs.Ytljdkfhkpjjfgaa
open Go.RowKit Go.Shelf
set_option linter.unusedVariables false

def RowPost (w : World) (st : List Int) (n : Nat) (e : Ending) (w' : World) : Prop := ∃ a q L, e = .returned (.slice a n q) ∧ L.length = n ∧ Star w w' [storiesA (.slice a n q) L, oldA w] ∧ (∀ s ∈ L, s.moves.length ≤ 8) ∧ RowP (begF st) 0 1 L
/-- what holds between two stories of a row -/
def RowInv (st : List Int) (i : Nat) (step : Int) (ps : List (Int × Int)) (L : List Sto) : Prop := L.length = i ∧ step = lastB 1 L ∧ KeysOk ps ∧ docF st ps = putsS (begF st) L ∧ RowP (begF st) 0 1 L ∧ ∀ s ∈ L, s.moves.length ≤ 8
/-- what holds between two moves of a story -/
def StoInv (F : Cells) (i k : Nat) (own : List (Int × Int)) (ms : List Mv) : Prop := ms.length = k ∧ own.length ≤ k ∧ KeysOk own ∧ MovesOk F i (fun _ => none) ms ∧ lastL own = ms.foldl ownS (fun _ => none)
set_option maxRecDepth 100000 in
set_option maxHeartbeats 12800000 in
theorem row_any (SA : Option Addr) (sn sc : Nat) (st : List Int) (A : Option Addr) (n c : Nat) (w : World) (hST : Sl w SA sn 1 (intsC st)) (hsb : sn * 8 ≤ 140737488355328) (hD : DealsAt w A n) (hn : n ≤ 200) :
    Calls Try.prog 19 #[.slice SA sn sc, .slice A n c] w (RowPost w st n) := by
  obtain ⟨i0, hi0, hz0, hz1, hz2⟩ := info_parts Try.info46
  obtain ⟨i1, hi1, hy0, hy1, hy2⟩ := info_parts Try.info44
  have HST := Lib.hid hST
  have HD := Lib.hid hD
  obtain ⟨bm, hbm⟩ : ∃ bm, w.heap.size = bm := ⟨_, rfl⟩
  have h0 := stories_nil (doc_new (Star.begin w) (.slice SA sn sc))
  rw [hbm] at h0
  have H0 := Lib.hid (h0.swap)
  have HBM := Lib.hid hbm
  clear hST hD h0 hbm
  go_enter Try.func19, Try.ntmps19
  go_wp2_with fail
  rw [HBM.out]
  go_loopw [5, 7, 8] (fun o s8 i wr => ∃ (j : Nat) (step : Int) (a : Option Addr) (q : Nat) (L : List Sto) (ps : List (Int × Int)), j ≤ n ∧ 1 ≤ step ∧ step ≤ 1 + 10 * j ∧ i = .int .i64 j ∧ s8 = .int .i64 step ∧ o = .slice a j q ∧ ps.length ≤ 8 * j ∧ Star w wr [docA bm (.slice SA sn sc) ps, storiesA (.slice a j q) L, oldA w] ∧ Hid (RowInv st j step ps L)) (fun _ _ i _ => n - (intOf i).toNat)
  case atStart => exact ⟨0, 1, none, 0, [], [], by omega, by omega, by omega, rfl, rfl, rfl, by simp, H0.out, Lib.hid ⟨rfl, rfl, by unfold KeysOk; simp, by rw [docF_nil]; rfl, trivial, by simp⟩⟩
  case round =>
    clear H0
    obtain ⟨i, step, a, q, L, ps, hin, hs1, hs2, rfl, rfl, rfl, hpl, hR, hE⟩ := hrel
    by_cases hlt : i < n
    · obtain ⟨g, o, CA, ck, cc, VA, vk, vc, fate, cs, zs, rfl, hg, d0, d1, d2, hC, hV, hck, hvk⟩ := HD.out i hlt
      have hiz : (i : Int) < n := by omega
      have d0 : wr.cell? ⟨g, o + i * 3, none⟩ = some (.slice CA ck cc) := ((hR.pull 2).oldCell hg).trans d0
      have d1 : wr.cell? ⟨g, o + i * 3 + 1, none⟩ = some (.slice VA vk vc) := ((hR.pull 2).oldCell hg).trans d1
      have d2 : wr.cell? ⟨g, o + i * 3 + 2, none⟩ = some (.int .i64 fate) := ((hR.pull 2).oldCell hg).trans d2
      have HR := Lib.hid hR
      have HCC := Lib.hid (⟨hC, hV⟩ : _ ∧ _)
      clear hR hC hV hg
      obtain ⟨w2, rfl⟩ : ∃ w2, w2 = wr := ⟨_, rfl⟩
      go_upto_region 9 with fail
      generalize bits BinOp.and IntKind.i64 (i : Int) 7 = th
      have hN := (doc_new ((HR.out.new (.cells #[.slice CA ck cc, .slice VA vk vc, .int .i64 fate] 73)).new (.cells #[.int .i64 th, .int .i64 step, .int .i64 step, .int .i64 0, .int .i64 1, .int .i64 0, .int .i64 0, .int .i64 (2 * (i : Int)), .int .i64 0, .slice none 0 0] 44)) (.slice none 0 0)).rowNil 46 6
      simp only [World.size_alloc] at hN
      have H1 := Lib.hid (hN.pick 3 [1, 2, 0])
      clear hN HR
      go_wp2_with fail
      go_loopw [7, 12] (fun s8 k8 wz => ∃ (k : Nat) (mA : Option Addr) (mq : Nat) (ms : List Mv) (own : List (Int × Int)), k ≤ ck ∧ k ≤ 8 ∧ k8 = .int .i64 k ∧ s8 = .int .i64 (step + k) ∧ own.length ≤ k ∧ Star w wz [docA (w2.heap.size + 1 + 1) (.slice none 0 0) own, cellsA (w2.heap.size + 1) #[.int .i64 th, .int .i64 step, .int .i64 step, .int .i64 0, .int .i64 1, .int .i64 0, .int .i64 0, .int .i64 (2 * (i : Int)), .int .i64 0, .slice mA k mq] 44, rowA 46 6 (.slice mA k mq) k (mvsC ms), cellsA w2.heap.size #[.slice CA ck cc, .slice VA vk vc, .int .i64 fate] 73, docA bm (.slice SA sn sc) ps, storiesA (.slice a i q) L, oldA w] ∧ Hid (StoInv (docF st ps) i k own ms)) (fun _ k8 _ => ck - (intOf k8).toNat)
      case atStart => exact ⟨0, none, 0, [], [], by omega, by omega, rfl, by simp, by simp, H1.out, Lib.hid ⟨rfl, by simp, by unfold KeysOk; simp, trivial, rfl⟩⟩
      case round =>
        clear H1 d0 d1 d2
        obtain ⟨k, mA, mq, ms, own, hkc, hk8, rfl, rfl, hol, hR, hI⟩ := hrel
        have e0 : wr.cell? ⟨w2.heap.size, 0, none⟩ = some (.slice CA ck cc) := ((hR.pull 3).cell 0).trans rfl
        have e1 : wr.cell? ⟨w2.heap.size, 1, none⟩ = some (.slice VA vk vc) := ((hR.pull 3).cell 1).trans rfl
        have e2 : wr.cell? ⟨w2.heap.size, 2, none⟩ = some (.int .i64 fate) := ((hR.pull 3).cell 2).trans rfl
        by_cases hlt2 : k < ck ∧ k < 8
        · obtain ⟨hkc2, hk82⟩ := hlt2
          have hkz : (k : Int) < ck := by omega
          have hk8z : (k : Int) < 8 := by omega
          obtain ⟨raw, hraw⟩ : ∃ raw, cs[k]? = some raw := ⟨_, List.getElem?_eq_getElem (by have := HCC.out.1.1; rw [intsC_len] at this; omega)⟩
          obtain ⟨gC, oC, rfl, hgC, cC⟩ := HCC.out.1.row hkc2 (by omega)
          have r0 : wr.cell? ⟨gC, oC + k, none⟩ = some (.int .i64 raw) := ((hR.pull 6).oldCell hgC).trans (by have := cC 0 _ (by rw [Nat.mul_one, Nat.add_zero]; exact intsC_get hraw); simpa using this)
          have r0' := r0
          have HR := Lib.hid hR
          have HRAW := Lib.hid hraw
          obtain ⟨w3, rfl⟩ : ∃ w3, w3 = wr := ⟨_, rfl⟩
          clear hR hraw cC r0'
          go_upto_region 16 with fail
          generalize bits BinOp.and IntKind.i64 raw 7 = ce
          have hN := HR.out.new (.cells #[.int .i64 (step + k + 1), .bool false, .int .i64 ce, .int .i64 0, .bool false, .int .i64 0] 46)
          have n0 : (w3.alloc (.cells #[.int .i64 (step + k + 1), .bool false, .int .i64 ce, .int .i64 0, .bool false, .int .i64 0] 46)).cell? ⟨w2.heap.size, 0, none⟩ = some (.slice (some ⟨gC, oC, none⟩) ck cc) := ((hN.pull 4).cell 0).trans rfl
          have n1 : (w3.alloc (.cells #[.int .i64 (step + k + 1), .bool false, .int .i64 ce, .int .i64 0, .bool false, .int .i64 0] 46)).cell? ⟨w2.heap.size, 1, none⟩ = some (.slice VA vk vc) := ((hN.pull 4).cell 1).trans rfl
          have n2 : (w3.alloc (.cells #[.int .i64 (step + k + 1), .bool false, .int .i64 ce, .int .i64 0, .bool false, .int .i64 0] 46)).cell? ⟨gC, oC + k, none⟩ = some (.int .i64 raw) := ((hN.pull 7).oldCell hgC).trans (((HR.out.pull 6).oldCell hgC).symm.trans r0)
          clear e0 e1 e2 r0
          by_cases hw8 : (0 : Int) < bits BinOp.and IntKind.i64 raw 8 ∧ k < vk
          · obtain ⟨hw1, hw2⟩ := hw8
            have hw2z : (k : Int) < vk := by omega
            obtain ⟨v, hv⟩ : ∃ v, zs[k]? = some v := ⟨_, List.getElem?_eq_getElem (by have := HCC.out.2.1; rw [intsC_len] at this; omega)⟩
            obtain ⟨gV, oV, rfl, hgV, cV⟩ := HCC.out.2.row hw2 (by omega)
            have v0 : w.cell? ⟨gV, oV + k, none⟩ = some (.int .i64 v) := (by have := cV 0 _ (by rw [Nat.mul_one, Nat.add_zero]; exact intsC_get hv); simpa using this)
            have S1 := HR.out.new (.cells #[.int .i64 (step + k + 1), .bool true, .int .i64 ce, .int .i64 0, .bool false, .int .i64 0] 46)
            have S2 := HR.out.new (.cells #[.int .i64 (step + k + 1), .bool true, .int .i64 ce, .int .i64 v, .bool false, .int .i64 0] 46)
            have m0 : (w3.alloc (.cells #[.int .i64 (step + k + 1), .bool false, .int .i64 ce, .int .i64 0, .bool false, .int .i64 0] 46)).cell? ⟨w3.heap.size, 1, none⟩ = some (.bool false) := (hN.cell 1).trans rfl
            have m1 : (w3.alloc (.cells #[.int .i64 (step + k + 1), .bool false, .int .i64 ce, .int .i64 0, .bool false, .int .i64 0] 46)).frozen? ⟨w3.heap.size, 1, none⟩ = false := hN.frozen 1
            have p0 : (w3.alloc (.cells #[.int .i64 (step + k + 1), .bool true, .int .i64 ce, .int .i64 0, .bool false, .int .i64 0] 46)).cell? ⟨w2.heap.size, 1, none⟩ = some (.slice (some ⟨gV, oV, none⟩) vk vc) := ((S1.pull 4).cell 1).trans rfl
            have p1 : (w3.alloc (.cells #[.int .i64 (step + k + 1), .bool true, .int .i64 ce, .int .i64 0, .bool false, .int .i64 0] 46)).cell? ⟨gV, oV + k, none⟩ = some (.int .i64 v) := ((S1.pull 7).oldCell hgV).trans v0
            have p2 : (w3.alloc (.cells #[.int .i64 (step + k + 1), .bool true, .int .i64 ce, .int .i64 0, .bool false, .int .i64 0] 46)).cell? ⟨w3.heap.size, 3, none⟩ = some (.int .i64 0) := (S1.cell 3).trans rfl
            have p3 : (w3.alloc (.cells #[.int .i64 (step + k + 1), .bool true, .int .i64 ce, .int .i64 0, .bool false, .int .i64 0] 46)).frozen? ⟨w3.heap.size, 3, none⟩ = false := S1.frozen 3
            have q3 : (w3.alloc (.cells #[.int .i64 (step + k + 1), .bool true, .int .i64 ce, .int .i64 v, .bool false, .int .i64 0] 46)).cell? ⟨w3.heap.size, 3, none⟩ = some (.int .i64 v) := (S2.cell 3).trans rfl
            have PT := Lib.hid (put_any (w2.heap.size + 1 + 1) (.slice none 0 0) own ce v _ w _ (S2.pull 1) (by omega))
            have hpo := putL_len own ce v
            have INV := Lib.hid (show StoInv (docF st ps) i (k + 1) (putL own ce v) (ms ++ [⟨step + k + 1, true, ce, v, false, 0⟩]) from by
              obtain ⟨j1, j2, j3, j4, j5⟩ := hI.out
              refine ⟨by simp [j1], by omega, keys_put j3 ce v, moves_snoc _ _ _ _ _ j4 (fun h => by cases h), ?_⟩
              rw [List.foldl_append, ← j5, lastL_putF j3]
              rfl)
            clear hv cV v0 hN S1 S2 hI hgC hgV HR HRAW
            go_wp2_with fail
            refine PT.out.mono ?_
            rintro e' w4 ⟨rfl, h4⟩
            have HT := Lib.hid (h4.pick 8 [1, 0, 2, 3, 4, 5, 6, 7])
            clear h4 PT m0 m1 p0 p1 p2 p3 q3 n0 n1 n2
            have x0 : w4.cell? ⟨w3.heap.size, 0, none⟩ = some (.int .i64 (step + k + 1)) := (HT.out.cell 0).trans rfl
            have x1 : w4.cell? ⟨w3.heap.size, 1, none⟩ = some (.bool true) := (HT.out.cell 1).trans rfl
            have x2 : w4.cell? ⟨w3.heap.size, 2, none⟩ = some (.int .i64 ce) := (HT.out.cell 2).trans rfl
            have x3 : w4.cell? ⟨w3.heap.size, 3, none⟩ = some (.int .i64 v) := (HT.out.cell 3).trans rfl
            have x4 : w4.cell? ⟨w3.heap.size, 4, none⟩ = some (.bool false) := (HT.out.cell 4).trans rfl
            have x5 : w4.cell? ⟨w3.heap.size, 5, none⟩ = some (.int .i64 0) := (HT.out.cell 5).trans rfl
            have y9 : w4.cell? ⟨w2.heap.size + 1, 9, none⟩ = some (.slice mA k mq) := ((HT.out.pull 2).cell 9).trans rfl
            have hP := (HT.out.new (.cells #[.int .i64 (step + k + 1), .bool true, .int .i64 ce, .int .i64 v, .bool false, .int .i64 0] 46)).pull 4
            go_wp2_with (at_builtin; refine wpList_append_star rfl (.tmp 124) (.tmp 126) 42 rfl 46 i0 _ 6 48 Try.underlying42 hi0 hz0 hz1 hz2 rfl (by decide) _ k _ rfl hP ⟨w4.heap.size, 0, none⟩ 1 1 (mvC ⟨(step + k + 1), true, ce, v, false, 0⟩) rfl rfl (cell_list_new _ _ rfl _ _) (mvC_one _) (by simp only [maxLen]; omega) (by omega) ?_; intro mA' mq' w9 h9; have z9 : w9.cell? ⟨w2.heap.size + 1, 9, none⟩ = some (.slice mA k mq) := ((h9.pull 4).cell 9).trans rfl; have f9 : w9.frozen? ⟨w2.heap.size + 1, 9, none⟩ = false := (h9.pull 4).frozen 9; have H9 := Lib.hid (((h9.pull 4).set 9 (.slice mA' (k + 1) mq'))); clear h9 hP)
            go_roundw
            case rel => exact ⟨k + 1, mA', mq', ms ++ [⟨(step + k + 1), true, ce, v, false, 0⟩], _, by omega, by omega, by go_num, by go_num, by omega, by rw [mvsC_snoc]; exact H9.out.pick 9 [4, 0, 1, 5, 6, 7, 8], INV⟩
            case measure => simp [intOf]; omega
          · have hrd : ¬ (0 : Int) < bits BinOp.and IntKind.i64 raw 8 ∨ ((0 : Int) < bits BinOp.and IntKind.i64 raw 8 ∧ ¬ (k : Int) < vk) := by
              by_cases h1 : (0 : Int) < bits BinOp.and IntKind.i64 raw 8
              · exact .inr ⟨h1, fun h2 => hw8 ⟨h1, by omega⟩⟩
              · exact .inl h1
            obtain ⟨g0, hg0⟩ : ∃ g0, (docF st ps ce).getD 0 = g0 := ⟨_, rfl⟩
            have hGT := get_any bm SA sn sc st ps ce _ w (w3.alloc (.cells #[.int .i64 (step + k + 1), .bool false, .int .i64 ce, .int .i64 0, .bool false, .int .i64 0] 46)) (hN.pull 5) (HST.out.after (by omega) (hN.pull 7)) hsb
            rw [hg0] at hGT
            have GT := Lib.hid hGT
            have HG0 := Lib.hid hg0
            have m3 : (w3.alloc (.cells #[.int .i64 (step + k + 1), .bool false, .int .i64 ce, .int .i64 0, .bool false, .int .i64 0] 46)).cell? ⟨w3.heap.size, 3, none⟩ = some (.int .i64 0) := (hN.cell 3).trans rfl
            have m4 : (w3.alloc (.cells #[.int .i64 (step + k + 1), .bool false, .int .i64 ce, .int .i64 0, .bool false, .int .i64 0] 46)).frozen? ⟨w3.heap.size, 3, none⟩ = false := hN.frozen 3
            have HN3 := Lib.hid (HR.out.new (.cells #[.int .i64 (step + k + 1), .bool false, .int .i64 ce, .int .i64 g0, .bool false, .int .i64 (2 * (i : Int))] 46))
            clear hw8 hN hGT hg0 hgC HR
            rcases hrd with hrd | ⟨hrd, hrd2⟩
            all_goals
              go_wp2_with fail
              refine GT.out.mono ?_
              rintro e' w4 ⟨rfl, rfl⟩
              clear GT m3 m4 n0 n1 n2
              go_wp2_with fail
              go_loopw [15] (fun t15 wz => ∃ (t : Nat) (X : Int) (O : Bool) (G : Int), t ≤ own.length ∧ t15 = .int .i64 t ∧ Star w wz [cellsA w3.heap.size #[.int .i64 (step + k + 1), .bool false, .int .i64 ce, .int .i64 X, .bool O, .int .i64 G] 46, docA (w2.heap.size + 1 + 1) (.slice none 0 0) own, cellsA (w2.heap.size + 1) #[.int .i64 th, .int .i64 step, .int .i64 step, .int .i64 0, .int .i64 1, .int .i64 0, .int .i64 0, .int .i64 (2 * (i : Int)), .int .i64 0, .slice mA k mq] 44, rowA 46 6 (.slice mA k mq) k (mvsC ms), cellsA w2.heap.size #[.slice (some ⟨gC, oC, none⟩) ck cc, .slice VA vk vc, .int .i64 fate] 73, docA bm (.slice SA sn sc) ps, storiesA (.slice a i q) L, oldA w] ∧ Hid (X = (lastL (own.take t) ce).getD g0 ∧ (O = false → G = 2 * (i : Int)) ∧ (lastL (own.take t) ce = none → O = false) ∧ (lastL (own.take t) ce ≠ none → O = true))) (fun t15 _ => own.length - (intOf t15).toNat)
              case atStart => exact ⟨0, g0, false, _, Nat.zero_le _, rfl, HN3.out, Lib.hid ⟨rfl, fun _ => rfl, fun _ => rfl, fun h => absurd rfl h⟩⟩
              case round =>
                clear HN3
                obtain ⟨t, X, O, G, ht, rfl, hR, hX⟩ := hrel
                obtain ⟨oa, oq, hO⟩ := doc_open (hR.pull 1)
                obtain ⟨on, hon⟩ : ∃ on, own.length = on := ⟨_, rfl⟩
                rw [hon] at hO ht hol
                have o1 : wr.cell? ⟨w2.heap.size + 1 + 1, 1, none⟩ = some (.slice oa on oq) := hO.cell 1
                have HON := Lib.hid hon
                clear hon
                by_cases hlt3 : t < on
                · obtain ⟨p, hp⟩ : ∃ p, own[t]? = some p := ⟨_, List.getElem?_eq_getElem (by have := HON.out; omega)⟩
                  obtain ⟨pc, px⟩ := p
                  obtain ⟨gw, rfl, -, -, cw, -⟩ := (hO.pull 1).rowAt (by omega)
                  have c0 : wr.cell? ⟨gw, t * 2, none⟩ = some (.int .i64 pc) := (cw _ (by omega)).trans ((pairsC_at (j := 0) hp (by omega)).trans rfl)
                  have c1 : wr.cell? ⟨gw, t * 2 + 1, none⟩ = some (.int .i64 px) := (cw _ (by omega)).trans ((pairsC_at (j := 1) hp (by omega)).trans rfl)
                  have htl : (t : Int) < on := by omega
                  have hts : lastL (own.take (t + 1)) ce = if pc = ce then some px else lastL (own.take t) ce := by rw [take_succ hp, lastL_snoc]
                  by_cases hck2 : pc = ce
                  · have hcb : (pc == ce) = true := by simpa using hck2
                    rw [if_pos hck2] at hts
                    have T1 := hR.set 3 (.int .i64 px)
                    have T2 := T1.set 4 (.bool true)
                    have T3 := T2.set 5 (.int .i64 0)
                    have q3 : wr.cell? ⟨w3.heap.size, 3, none⟩ = some (.int .i64 X) := (hR.cell 3).trans rfl
                    have f3 : wr.frozen? ⟨w3.heap.size, 3, none⟩ = false := hR.frozen 3
                    have q4 : (wr.setCell ⟨w3.heap.size, 3, none⟩ (.int .i64 px)).cell? ⟨w3.heap.size, 4, none⟩ = some (.bool O) := (T1.cell 4).trans rfl
                    have f4 : (wr.setCell ⟨w3.heap.size, 3, none⟩ (.int .i64 px)).frozen? ⟨w3.heap.size, 4, none⟩ = false := T1.frozen 4
                    have q5 : ((wr.setCell ⟨w3.heap.size, 3, none⟩ (.int .i64 px)).setCell ⟨w3.heap.size, 4, none⟩ (.bool true)).cell? ⟨w3.heap.size, 5, none⟩ = some (.int .i64 G) := (T2.cell 5).trans rfl
                    have f5 : ((wr.setCell ⟨w3.heap.size, 3, none⟩ (.int .i64 px)).setCell ⟨w3.heap.size, 4, none⟩ (.bool true)).frozen? ⟨w3.heap.size, 5, none⟩ = false := T2.frozen 5
                    have HX2 := Lib.hid (show px = (lastL (own.take (t + 1)) ce).getD g0 ∧ (true = false → (0 : Int) = 2 * (i : Int)) ∧ (lastL (own.take (t + 1)) ce = none → true = false) ∧ (lastL (own.take (t + 1)) ce ≠ none → true = true) from by rw [hts]; exact ⟨rfl, (fun h => nomatch h), (fun h => nomatch h), fun _ => rfl⟩)
                    have HT3 := Lib.hid T3
                    clear hp cw hts hck2 T1 T2 T3 hR hO hX
                    go_wp2
                    go_roundw
                    case rel => exact ⟨t + 1, px, true, 0, by have := HON.out; omega, by go_num, HT3.out, HX2⟩
                    case measure => simp [intOf]; have := HON.out; omega
                  · have hcb : (pc == ce) = false := by simpa using hck2
                    rw [if_neg hck2] at hts
                    have HX2 := Lib.hid (show X = (lastL (own.take (t + 1)) ce).getD g0 ∧ (O = false → G = 2 * (i : Int)) ∧ (lastL (own.take (t + 1)) ce = none → O = false) ∧ (lastL (own.take (t + 1)) ce ≠ none → O = true) from by rw [hts]; exact hX.out)
                    have HR3 := Lib.hid hR
                    clear hp cw hts hck2 hR hO hX
                    go_wp2
                    go_roundw
                    case rel => exact ⟨t + 1, X, O, G, by have := HON.out; omega, by go_num, HR3.out, HX2⟩
                    case measure => simp [intOf]; have := HON.out; omega
                · have htl : ¬ (t : Int) < on := by omega
                  have INV := Lib.hid (show StoInv (docF st ps) i (k + 1) own (ms ++ [⟨step + k + 1, false, ce, X, O, G⟩]) from by
                    obtain ⟨j1, j2, j3, j4, j5⟩ := hI.out
                    have hx := hX.out
                    rw [List.take_of_length_le (by have := HON.out; omega)] at hx
                    refine ⟨by simp [j1], by omega, j3, moves_snoc _ _ _ _ _ j4 (fun _ => ⟨?_, hx.2.1⟩), ?_⟩
                    · show X = wantF (docF st ps) (ms.foldl ownS fun _ => none) ce
                      rw [← j5, hx.1, ← HG0.out]
                      unfold wantF
                      cases lastL own ce <;> rfl
                    · rw [List.foldl_append, ← j5]
                      rfl)
                  have HT := Lib.hid hR
                  clear hR hO hX hI
                  obtain ⟨w5, rfl⟩ : ∃ w5, w5 = wr := ⟨_, rfl⟩
                  have x0 : w5.cell? ⟨w3.heap.size, 0, none⟩ = some (.int .i64 (step + k + 1)) := (HT.out.cell 0).trans rfl
                  have x1 : w5.cell? ⟨w3.heap.size, 1, none⟩ = some (.bool false) := (HT.out.cell 1).trans rfl
                  have x2 : w5.cell? ⟨w3.heap.size, 2, none⟩ = some (.int .i64 ce) := (HT.out.cell 2).trans rfl
                  have x3 : w5.cell? ⟨w3.heap.size, 3, none⟩ = some (.int .i64 X) := (HT.out.cell 3).trans rfl
                  have x4 : w5.cell? ⟨w3.heap.size, 4, none⟩ = some (.bool O) := (HT.out.cell 4).trans rfl
                  have x5 : w5.cell? ⟨w3.heap.size, 5, none⟩ = some (.int .i64 G) := (HT.out.cell 5).trans rfl
                  have y9 : w5.cell? ⟨w2.heap.size + 1, 9, none⟩ = some (.slice mA k mq) := ((HT.out.pull 2).cell 9).trans rfl
                  have hP := (HT.out.new (.cells #[.int .i64 (step + k + 1), .bool false, .int .i64 ce, .int .i64 X, .bool O, .int .i64 G] 46)).pull 4
                  go_wp2_with (at_builtin; refine wpList_append_star rfl (.tmp 124) (.tmp 126) 42 rfl 46 i0 _ 6 48 Try.underlying42 hi0 hz0 hz1 hz2 rfl (by decide) _ k _ rfl hP ⟨w5.heap.size, 0, none⟩ 1 1 (mvC ⟨(step + k + 1), false, ce, X, O, G⟩) rfl rfl (cell_list_new _ _ rfl _ _) (mvC_one _) (by simp only [maxLen]; omega) (by omega) ?_; intro mA' mq' w9 h9; have z9 : w9.cell? ⟨w2.heap.size + 1, 9, none⟩ = some (.slice mA k mq) := ((h9.pull 4).cell 9).trans rfl; have f9 : w9.frozen? ⟨w2.heap.size + 1, 9, none⟩ = false := (h9.pull 4).frozen 9; have H9 := Lib.hid (((h9.pull 4).set 9 (.slice mA' (k + 1) mq'))); clear h9 hP)
                  go_roundw
                  case rel => exact ⟨k + 1, mA', mq', ms ++ [⟨(step + k + 1), false, ce, X, O, G⟩], _, by omega, by omega, by go_num, by go_num, by have := HON.out; omega, by rw [mvsC_snoc]; exact H9.out.pick 9 [4, 0, 1, 5, 6, 7, 8], INV⟩
                  case measure => simp [intOf]; omega
        · have hd : ¬ (k : Int) < ck ∨ ((k : Int) < ck ∧ ¬ (k : Int) < 8) := by omega
          rcases hd with hd | ⟨hd, hd2⟩
          all_goals
            by_cases hf : (0 : Int) < bits BinOp.and IntKind.i64 fate 1
            · have T0 := hR.pull 1
              have q0 : wr.cell? ⟨w2.heap.size + 1, 3, none⟩ = some (.int .i64 0) := (T0.cell 3).trans rfl
              have f0 : wr.frozen? ⟨w2.heap.size + 1, 3, none⟩ = false := T0.frozen 3
              have T1 := T0.set 3 (.int .i64 (step + k + 1))
              have q1 : (wr.setCell ⟨w2.heap.size + 1, 3, none⟩ (.int .i64 (step + k + 1))).cell? ⟨w2.heap.size + 1, 8, none⟩ = some (.int .i64 0) := (T1.cell 8).trans rfl
              have f1 : (wr.setCell ⟨w2.heap.size + 1, 3, none⟩ (.int .i64 (step + k + 1))).frozen? ⟨w2.heap.size + 1, 8, none⟩ = false := T1.frozen 8
              have T2 := T1.set 8 (.int .i64 (2 * (i : Int) + 1))
              have q2 : ((wr.setCell ⟨w2.heap.size + 1, 3, none⟩ (.int .i64 (step + k + 1))).setCell ⟨w2.heap.size + 1, 8, none⟩ (.int .i64 (2 * (i : Int) + 1))).cell? ⟨w2.heap.size + 1, 4, none⟩ = some (.int .i64 1) := (T2.cell 4).trans rfl
              have f2 : ((wr.setCell ⟨w2.heap.size + 1, 3, none⟩ (.int .i64 (step + k + 1))).setCell ⟨w2.heap.size + 1, 8, none⟩ (.int .i64 (2 * (i : Int) + 1))).frozen? ⟨w2.heap.size + 1, 4, none⟩ = false := T2.frozen 4
              have T3 := T2.set 4 (.int .i64 2)
              have q3 : (((wr.setCell ⟨w2.heap.size + 1, 3, none⟩ (.int .i64 (step + k + 1))).setCell ⟨w2.heap.size + 1, 8, none⟩ (.int .i64 (2 * (i : Int) + 1))).setCell ⟨w2.heap.size + 1, 4, none⟩ (.int .i64 2)).cell? ⟨w2.heap.size + 1, 5, none⟩ = some (.int .i64 0) := (T3.cell 5).trans rfl
              have f3 : (((wr.setCell ⟨w2.heap.size + 1, 3, none⟩ (.int .i64 (step + k + 1))).setCell ⟨w2.heap.size + 1, 8, none⟩ (.int .i64 (2 * (i : Int) + 1))).setCell ⟨w2.heap.size + 1, 4, none⟩ (.int .i64 2)).frozen? ⟨w2.heap.size + 1, 5, none⟩ = false := T3.frozen 5
              have T4 := T3.set 5 (.int .i64 7)
              have q4 : ((((wr.setCell ⟨w2.heap.size + 1, 3, none⟩ (.int .i64 (step + k + 1))).setCell ⟨w2.heap.size + 1, 8, none⟩ (.int .i64 (2 * (i : Int) + 1))).setCell ⟨w2.heap.size + 1, 4, none⟩ (.int .i64 2)).setCell ⟨w2.heap.size + 1, 5, none⟩ (.int .i64 7)).cell? ⟨w2.heap.size + 1, 8, none⟩ = some (.int .i64 (2 * (i : Int) + 1)) := (T4.cell 8).trans rfl
              have f4 : ((((wr.setCell ⟨w2.heap.size + 1, 3, none⟩ (.int .i64 (step + k + 1))).setCell ⟨w2.heap.size + 1, 8, none⟩ (.int .i64 (2 * (i : Int) + 1))).setCell ⟨w2.heap.size + 1, 4, none⟩ (.int .i64 2)).setCell ⟨w2.heap.size + 1, 5, none⟩ (.int .i64 7)).frozen? ⟨w2.heap.size + 1, 8, none⟩ = false := T4.frozen 8
              have T5 := T4.set 8 (.int .i64 0)
              have s0 : (((((wr.setCell ⟨w2.heap.size + 1, 3, none⟩ (.int .i64 (step + k + 1))).setCell ⟨w2.heap.size + 1, 8, none⟩ (.int .i64 (2 * (i : Int) + 1))).setCell ⟨w2.heap.size + 1, 4, none⟩ (.int .i64 2)).setCell ⟨w2.heap.size + 1, 5, none⟩ (.int .i64 7)).setCell ⟨w2.heap.size + 1, 8, none⟩ (.int .i64 0)).cell? ⟨w2.heap.size + 1, 0, none⟩ = some (.int .i64 th) := (T5.cell 0).trans rfl
              have s1 : (((((wr.setCell ⟨w2.heap.size + 1, 3, none⟩ (.int .i64 (step + k + 1))).setCell ⟨w2.heap.size + 1, 8, none⟩ (.int .i64 (2 * (i : Int) + 1))).setCell ⟨w2.heap.size + 1, 4, none⟩ (.int .i64 2)).setCell ⟨w2.heap.size + 1, 5, none⟩ (.int .i64 7)).setCell ⟨w2.heap.size + 1, 8, none⟩ (.int .i64 0)).cell? ⟨w2.heap.size + 1, 1, none⟩ = some (.int .i64 step) := (T5.cell 1).trans rfl
              have s2 : (((((wr.setCell ⟨w2.heap.size + 1, 3, none⟩ (.int .i64 (step + k + 1))).setCell ⟨w2.heap.size + 1, 8, none⟩ (.int .i64 (2 * (i : Int) + 1))).setCell ⟨w2.heap.size + 1, 4, none⟩ (.int .i64 2)).setCell ⟨w2.heap.size + 1, 5, none⟩ (.int .i64 7)).setCell ⟨w2.heap.size + 1, 8, none⟩ (.int .i64 0)).cell? ⟨w2.heap.size + 1, 2, none⟩ = some (.int .i64 step) := (T5.cell 2).trans rfl
              have s3 : (((((wr.setCell ⟨w2.heap.size + 1, 3, none⟩ (.int .i64 (step + k + 1))).setCell ⟨w2.heap.size + 1, 8, none⟩ (.int .i64 (2 * (i : Int) + 1))).setCell ⟨w2.heap.size + 1, 4, none⟩ (.int .i64 2)).setCell ⟨w2.heap.size + 1, 5, none⟩ (.int .i64 7)).setCell ⟨w2.heap.size + 1, 8, none⟩ (.int .i64 0)).cell? ⟨w2.heap.size + 1, 3, none⟩ = some (.int .i64 (step + k + 1)) := (T5.cell 3).trans rfl
              have s4 : (((((wr.setCell ⟨w2.heap.size + 1, 3, none⟩ (.int .i64 (step + k + 1))).setCell ⟨w2.heap.size + 1, 8, none⟩ (.int .i64 (2 * (i : Int) + 1))).setCell ⟨w2.heap.size + 1, 4, none⟩ (.int .i64 2)).setCell ⟨w2.heap.size + 1, 5, none⟩ (.int .i64 7)).setCell ⟨w2.heap.size + 1, 8, none⟩ (.int .i64 0)).cell? ⟨w2.heap.size + 1, 4, none⟩ = some (.int .i64 2) := (T5.cell 4).trans rfl
              have s5 : (((((wr.setCell ⟨w2.heap.size + 1, 3, none⟩ (.int .i64 (step + k + 1))).setCell ⟨w2.heap.size + 1, 8, none⟩ (.int .i64 (2 * (i : Int) + 1))).setCell ⟨w2.heap.size + 1, 4, none⟩ (.int .i64 2)).setCell ⟨w2.heap.size + 1, 5, none⟩ (.int .i64 7)).setCell ⟨w2.heap.size + 1, 8, none⟩ (.int .i64 0)).cell? ⟨w2.heap.size + 1, 5, none⟩ = some (.int .i64 7) := (T5.cell 5).trans rfl
              have s6 : (((((wr.setCell ⟨w2.heap.size + 1, 3, none⟩ (.int .i64 (step + k + 1))).setCell ⟨w2.heap.size + 1, 8, none⟩ (.int .i64 (2 * (i : Int) + 1))).setCell ⟨w2.heap.size + 1, 4, none⟩ (.int .i64 2)).setCell ⟨w2.heap.size + 1, 5, none⟩ (.int .i64 7)).setCell ⟨w2.heap.size + 1, 8, none⟩ (.int .i64 0)).cell? ⟨w2.heap.size + 1, 6, none⟩ = some (.int .i64 0) := (T5.cell 6).trans rfl
              have s7 : (((((wr.setCell ⟨w2.heap.size + 1, 3, none⟩ (.int .i64 (step + k + 1))).setCell ⟨w2.heap.size + 1, 8, none⟩ (.int .i64 (2 * (i : Int) + 1))).setCell ⟨w2.heap.size + 1, 4, none⟩ (.int .i64 2)).setCell ⟨w2.heap.size + 1, 5, none⟩ (.int .i64 7)).setCell ⟨w2.heap.size + 1, 8, none⟩ (.int .i64 0)).cell? ⟨w2.heap.size + 1, 7, none⟩ = some (.int .i64 (2 * (i : Int))) := (T5.cell 7).trans rfl
              have s8 : (((((wr.setCell ⟨w2.heap.size + 1, 3, none⟩ (.int .i64 (step + k + 1))).setCell ⟨w2.heap.size + 1, 8, none⟩ (.int .i64 (2 * (i : Int) + 1))).setCell ⟨w2.heap.size + 1, 4, none⟩ (.int .i64 2)).setCell ⟨w2.heap.size + 1, 5, none⟩ (.int .i64 7)).setCell ⟨w2.heap.size + 1, 8, none⟩ (.int .i64 0)).cell? ⟨w2.heap.size + 1, 8, none⟩ = some (.int .i64 0) := (T5.cell 8).trans rfl
              have s9 : (((((wr.setCell ⟨w2.heap.size + 1, 3, none⟩ (.int .i64 (step + k + 1))).setCell ⟨w2.heap.size + 1, 8, none⟩ (.int .i64 (2 * (i : Int) + 1))).setCell ⟨w2.heap.size + 1, 4, none⟩ (.int .i64 2)).setCell ⟨w2.heap.size + 1, 5, none⟩ (.int .i64 7)).setCell ⟨w2.heap.size + 1, 8, none⟩ (.int .i64 0)).cell? ⟨w2.heap.size + 1, 9, none⟩ = some (.slice mA k mq) := (T5.cell 9).trans rfl
              obtain ⟨s, hs⟩ : ∃ s : Sto, (⟨th, step, step, step + k + 1, 2, 7, 0, 2 * (i : Int), 0, ms⟩ : Sto) = s := ⟨_, rfl⟩
              have hm : s.moves = ms := by rw [← hs]
              have hsc : stoC s (.slice mA k mq) = [.int .i64 th, .int .i64 step, .int .i64 step, .int .i64 (step + k + 1), .int .i64 2, .int .i64 7, .int .i64 0, .int .i64 (2 * (i : Int)), .int .i64 0, .slice mA k mq] := by rw [← hs]; rfl
              have hLV := leaves_doc s mA k mq bm (.slice SA sn sc) ps _ w (((((wr.setCell ⟨w2.heap.size + 1, 3, none⟩ (.int .i64 (step + k + 1))).setCell ⟨w2.heap.size + 1, 8, none⟩ (.int .i64 (2 * (i : Int) + 1))).setCell ⟨w2.heap.size + 1, 4, none⟩ (.int .i64 2)).setCell ⟨w2.heap.size + 1, 5, none⟩ (.int .i64 7)).setCell ⟨w2.heap.size + 1, 8, none⟩ (.int .i64 0)) (T5.pull 4) (by rw [hm]; exact (T5.pull 2).rowSl) (by rw [hm]; exact hI.out.1) (by omega) (by omega)
              rw [hsc] at hLV
              have LV := Lib.hid hLV
              have INV := Lib.hid (show RowInv st (i + 1) (step + k + 1 + 1) (putsL ps (leftOf s)) (L ++ [s]) from by
                obtain ⟨l1, l2, l3, l4, l5, l6⟩ := hE.out
                obtain ⟨j1, j2, j3, j4, j5⟩ := hI.out
                refine ⟨by simp [l1], by rw [lastB_snoc, ← hs], keys_puts _ l3, by rw [docF_puts st _ l3, putsS_snoc, l4], row_snoc L _ _ _ s l5 ⟨⟨?_, ?_, ?_, ?_, ?_⟩, trivial⟩, fun x hx => ?_⟩
                · rw [← l2, ← hs]; exact Int.le_refl _
                · rw [← hs]; show step < step + k + 1; omega
                · rw [← hs]; exact .inr rfl
                · rw [← hs]; show 2 * (i : Int) = 2 * ((0 + L.length : Nat) : Int); rw [l1, Nat.zero_add]
                · rw [l1, Nat.zero_add, ← l4, hm]; exact j4
                · rcases List.mem_append.1 hx with hx | hx
                  · exact l6 x hx
                  · rw [List.mem_singleton.1 hx, hm]; omega)
              have hpl2 : (putsL ps (leftOf s)).length ≤ 8 * (i + 1) := by
                have h1 := putsL_len (leftOf s) ps
                have h2 := left_len s
                rw [hm] at h2
                have h3 := hI.out.1
                omega
              have HMK := Lib.hid (show s.moves = ms ∧ ms.length = k ∧ L.length = i from ⟨hm, hI.out.1, hE.out.1⟩)
              have HSC := Lib.hid hsc
              clear T0 T1 T2 T3 T4 T5 hR hs hm hsc hLV
              go_wp2_with fail
              refine LV.out.mono ?_
              rintro e' w5 ⟨rfl, h5⟩
              obtain ⟨vs, hvl, h6⟩ := stories_open (h5.pull 5)
              rw [HMK.out.2.2] at h6
              have hP := (h6.new (.cells #[.int .i64 th, .int .i64 step, .int .i64 step, .int .i64 (step + k + 1), .int .i64 2, .int .i64 7, .int .i64 0, .int .i64 (2 * (i : Int)), .int .i64 0, .slice mA k mq] 44)).pull 1
              clear LV s0 s1 s2 s3 s4 s5 s6 s7 s8 s9 q0 f0 q1 f1 q2 f2 q3 f3 q4 f4 e0 e1 e2
              have s0 : w5.cell? ⟨w2.heap.size + 1, 0, none⟩ = some (.int .i64 th) := ((h6.pull 3).cell 0).trans rfl
              have s1 : w5.cell? ⟨w2.heap.size + 1, 1, none⟩ = some (.int .i64 step) := ((h6.pull 3).cell 1).trans rfl
              have s2 : w5.cell? ⟨w2.heap.size + 1, 2, none⟩ = some (.int .i64 step) := ((h6.pull 3).cell 2).trans rfl
              have s3 : w5.cell? ⟨w2.heap.size + 1, 3, none⟩ = some (.int .i64 (step + k + 1)) := ((h6.pull 3).cell 3).trans rfl
              have s4 : w5.cell? ⟨w2.heap.size + 1, 4, none⟩ = some (.int .i64 2) := ((h6.pull 3).cell 4).trans rfl
              have s5 : w5.cell? ⟨w2.heap.size + 1, 5, none⟩ = some (.int .i64 7) := ((h6.pull 3).cell 5).trans rfl
              have s6 : w5.cell? ⟨w2.heap.size + 1, 6, none⟩ = some (.int .i64 0) := ((h6.pull 3).cell 6).trans rfl
              have s7 : w5.cell? ⟨w2.heap.size + 1, 7, none⟩ = some (.int .i64 (2 * (i : Int))) := ((h6.pull 3).cell 7).trans rfl
              have s8 : w5.cell? ⟨w2.heap.size + 1, 8, none⟩ = some (.int .i64 0) := ((h6.pull 3).cell 8).trans rfl
              have s9 : w5.cell? ⟨w2.heap.size + 1, 9, none⟩ = some (.slice mA k mq) := ((h6.pull 3).cell 9).trans rfl
              have hone : ∀ u ∈ ([.int .i64 th, .int .i64 step, .int .i64 step, .int .i64 (step + k + 1), .int .i64 2, .int .i64 7, .int .i64 0, .int .i64 (2 * (i : Int)), .int .i64 0, .slice mA k mq] : List Value), u.oneCell' = true := by rw [← HSC.out]; exact sto_one _ _ _ _
              have HONE := Lib.hid hone
              clear h5 h6 hone
              have HVL := Lib.hid hvl
              clear hvl
              go_wp2_with (at_builtin; refine wpList_append_star rfl (.tmp 149) (.tmp 151) 23 rfl 44 i1 _ 10 96 Try.underlying23 hi1 hy0 hy1 hy2 rfl (by decide) _ i _ rfl hP ⟨w5.heap.size, 0, none⟩ 1 1 [.int .i64 th, .int .i64 step, .int .i64 step, .int .i64 (step + k + 1), .int .i64 2, .int .i64 7, .int .i64 0, .int .i64 (2 * (i : Int)), .int .i64 0, .slice mA k mq] rfl rfl (cell_list_new _ _ rfl _ _) HONE.out (by simp only [maxLen]; omega) (by omega) ?_; intro a' q' w9 h9; have H9 := Lib.hid h9; clear h9 hP)
              go_roundw
              case rel =>
                refine ⟨i + 1, step + k + 1 + 1, a', q', L ++ [s], putsL ps (leftOf s), by omega, by omega, by omega, by go_num, rfl, rfl, hpl2, ?_, INV⟩
                have h10 := (H9.out.pick 9 [6, 2, 0, 3, 8]).snocA
                refine (stories_shut (vs := vs ++ [.slice mA k mq]) (by rw [List.length_append, List.length_append, HVL.out]; rfl) ?_).swap
                rw [stosC_snoc HVL.out, movesL_snoc HVL.out, HSC.out, HMK.out.1, List.length_append, HMK.out.2.2, HMK.out.2.1]
                exact h10.swap
              case measure => simp [intOf]; omega
            · have T0 := hR.pull 1
              have q0 : wr.cell? ⟨w2.heap.size + 1, 3, none⟩ = some (.int .i64 0) := (T0.cell 3).trans rfl
              have f0 : wr.frozen? ⟨w2.heap.size + 1, 3, none⟩ = false := T0.frozen 3
              have T1 := T0.set 3 (.int .i64 (step + k + 1))
              have q1 : (wr.setCell ⟨w2.heap.size + 1, 3, none⟩ (.int .i64 (step + k + 1))).cell? ⟨w2.heap.size + 1, 8, none⟩ = some (.int .i64 0) := (T1.cell 8).trans rfl
              have f1 : (wr.setCell ⟨w2.heap.size + 1, 3, none⟩ (.int .i64 (step + k + 1))).frozen? ⟨w2.heap.size + 1, 8, none⟩ = false := T1.frozen 8
              have T2 := T1.set 8 (.int .i64 (2 * (i : Int) + 1))
              have s0 : ((wr.setCell ⟨w2.heap.size + 1, 3, none⟩ (.int .i64 (step + k + 1))).setCell ⟨w2.heap.size + 1, 8, none⟩ (.int .i64 (2 * (i : Int) + 1))).cell? ⟨w2.heap.size + 1, 0, none⟩ = some (.int .i64 th) := (T2.cell 0).trans rfl
              have s1 : ((wr.setCell ⟨w2.heap.size + 1, 3, none⟩ (.int .i64 (step + k + 1))).setCell ⟨w2.heap.size + 1, 8, none⟩ (.int .i64 (2 * (i : Int) + 1))).cell? ⟨w2.heap.size + 1, 1, none⟩ = some (.int .i64 step) := (T2.cell 1).trans rfl
              have s2 : ((wr.setCell ⟨w2.heap.size + 1, 3, none⟩ (.int .i64 (step + k + 1))).setCell ⟨w2.heap.size + 1, 8, none⟩ (.int .i64 (2 * (i : Int) + 1))).cell? ⟨w2.heap.size + 1, 2, none⟩ = some (.int .i64 step) := (T2.cell 2).trans rfl
              have s3 : ((wr.setCell ⟨w2.heap.size + 1, 3, none⟩ (.int .i64 (step + k + 1))).setCell ⟨w2.heap.size + 1, 8, none⟩ (.int .i64 (2 * (i : Int) + 1))).cell? ⟨w2.heap.size + 1, 3, none⟩ = some (.int .i64 (step + k + 1)) := (T2.cell 3).trans rfl
              have s4 : ((wr.setCell ⟨w2.heap.size + 1, 3, none⟩ (.int .i64 (step + k + 1))).setCell ⟨w2.heap.size + 1, 8, none⟩ (.int .i64 (2 * (i : Int) + 1))).cell? ⟨w2.heap.size + 1, 4, none⟩ = some (.int .i64 1) := (T2.cell 4).trans rfl
              have s5 : ((wr.setCell ⟨w2.heap.size + 1, 3, none⟩ (.int .i64 (step + k + 1))).setCell ⟨w2.heap.size + 1, 8, none⟩ (.int .i64 (2 * (i : Int) + 1))).cell? ⟨w2.heap.size + 1, 5, none⟩ = some (.int .i64 0) := (T2.cell 5).trans rfl
              have s6 : ((wr.setCell ⟨w2.heap.size + 1, 3, none⟩ (.int .i64 (step + k + 1))).setCell ⟨w2.heap.size + 1, 8, none⟩ (.int .i64 (2 * (i : Int) + 1))).cell? ⟨w2.heap.size + 1, 6, none⟩ = some (.int .i64 0) := (T2.cell 6).trans rfl
              have s7 : ((wr.setCell ⟨w2.heap.size + 1, 3, none⟩ (.int .i64 (step + k + 1))).setCell ⟨w2.heap.size + 1, 8, none⟩ (.int .i64 (2 * (i : Int) + 1))).cell? ⟨w2.heap.size + 1, 7, none⟩ = some (.int .i64 (2 * (i : Int))) := (T2.cell 7).trans rfl
              have s8 : ((wr.setCell ⟨w2.heap.size + 1, 3, none⟩ (.int .i64 (step + k + 1))).setCell ⟨w2.heap.size + 1, 8, none⟩ (.int .i64 (2 * (i : Int) + 1))).cell? ⟨w2.heap.size + 1, 8, none⟩ = some (.int .i64 (2 * (i : Int) + 1)) := (T2.cell 8).trans rfl
              have s9 : ((wr.setCell ⟨w2.heap.size + 1, 3, none⟩ (.int .i64 (step + k + 1))).setCell ⟨w2.heap.size + 1, 8, none⟩ (.int .i64 (2 * (i : Int) + 1))).cell? ⟨w2.heap.size + 1, 9, none⟩ = some (.slice mA k mq) := (T2.cell 9).trans rfl
              obtain ⟨s, hs⟩ : ∃ s : Sto, (⟨th, step, step, step + k + 1, 1, 0, 0, 2 * (i : Int), 2 * (i : Int) + 1, ms⟩ : Sto) = s := ⟨_, rfl⟩
              have hm : s.moves = ms := by rw [← hs]
              have hsc : stoC s (.slice mA k mq) = [.int .i64 th, .int .i64 step, .int .i64 step, .int .i64 (step + k + 1), .int .i64 1, .int .i64 0, .int .i64 0, .int .i64 (2 * (i : Int)), .int .i64 (2 * (i : Int) + 1), .slice mA k mq] := by rw [← hs]; rfl
              have hLV := leaves_doc s mA k mq bm (.slice SA sn sc) ps _ w ((wr.setCell ⟨w2.heap.size + 1, 3, none⟩ (.int .i64 (step + k + 1))).setCell ⟨w2.heap.size + 1, 8, none⟩ (.int .i64 (2 * (i : Int) + 1))) (T2.pull 4) (by rw [hm]; exact (T2.pull 2).rowSl) (by rw [hm]; exact hI.out.1) (by omega) (by omega)
              rw [hsc] at hLV
              have LV := Lib.hid hLV
              have INV := Lib.hid (show RowInv st (i + 1) (step + k + 1 + 1) (putsL ps (leftOf s)) (L ++ [s]) from by
                obtain ⟨l1, l2, l3, l4, l5, l6⟩ := hE.out
                obtain ⟨j1, j2, j3, j4, j5⟩ := hI.out
                refine ⟨by simp [l1], by rw [lastB_snoc, ← hs], keys_puts _ l3, by rw [docF_puts st _ l3, putsS_snoc, l4], row_snoc L _ _ _ s l5 ⟨⟨?_, ?_, ?_, ?_, ?_⟩, trivial⟩, fun x hx => ?_⟩
                · rw [← l2, ← hs]; exact Int.le_refl _
                · rw [← hs]; show step < step + k + 1; omega
                · rw [← hs]; refine .inl ⟨rfl, ?_⟩; show 2 * (i : Int) + 1 = 2 * ((0 + L.length : Nat) : Int) + 1; rw [l1, Nat.zero_add]
                · rw [← hs]; show 2 * (i : Int) = 2 * ((0 + L.length : Nat) : Int); rw [l1, Nat.zero_add]
                · rw [l1, Nat.zero_add, ← l4, hm]; exact j4
                · rcases List.mem_append.1 hx with hx | hx
                  · exact l6 x hx
                  · rw [List.mem_singleton.1 hx, hm]; omega)
              have hpl2 : (putsL ps (leftOf s)).length ≤ 8 * (i + 1) := by
                have h1 := putsL_len (leftOf s) ps
                have h2 := left_len s
                rw [hm] at h2
                have h3 := hI.out.1
                omega
              have HMK := Lib.hid (show s.moves = ms ∧ ms.length = k ∧ L.length = i from ⟨hm, hI.out.1, hE.out.1⟩)
              have HSC := Lib.hid hsc
              clear T0 T1 T2 hR hs hm hsc hLV
              go_wp2_with fail
              refine LV.out.mono ?_
              rintro e' w5 ⟨rfl, h5⟩
              obtain ⟨vs, hvl, h6⟩ := stories_open (h5.pull 5)
              rw [HMK.out.2.2] at h6
              have hP := (h6.new (.cells #[.int .i64 th, .int .i64 step, .int .i64 step, .int .i64 (step + k + 1), .int .i64 1, .int .i64 0, .int .i64 0, .int .i64 (2 * (i : Int)), .int .i64 (2 * (i : Int) + 1), .slice mA k mq] 44)).pull 1
              clear LV s0 s1 s2 s3 s4 s5 s6 s7 s8 s9 q0 f0 q1 f1 e0 e1 e2
              have s0 : w5.cell? ⟨w2.heap.size + 1, 0, none⟩ = some (.int .i64 th) := ((h6.pull 3).cell 0).trans rfl
              have s1 : w5.cell? ⟨w2.heap.size + 1, 1, none⟩ = some (.int .i64 step) := ((h6.pull 3).cell 1).trans rfl
              have s2 : w5.cell? ⟨w2.heap.size + 1, 2, none⟩ = some (.int .i64 step) := ((h6.pull 3).cell 2).trans rfl
              have s3 : w5.cell? ⟨w2.heap.size + 1, 3, none⟩ = some (.int .i64 (step + k + 1)) := ((h6.pull 3).cell 3).trans rfl
              have s4 : w5.cell? ⟨w2.heap.size + 1, 4, none⟩ = some (.int .i64 1) := ((h6.pull 3).cell 4).trans rfl
              have s5 : w5.cell? ⟨w2.heap.size + 1, 5, none⟩ = some (.int .i64 0) := ((h6.pull 3).cell 5).trans rfl
              have s6 : w5.cell? ⟨w2.heap.size + 1, 6, none⟩ = some (.int .i64 0) := ((h6.pull 3).cell 6).trans rfl
              have s7 : w5.cell? ⟨w2.heap.size + 1, 7, none⟩ = some (.int .i64 (2 * (i : Int))) := ((h6.pull 3).cell 7).trans rfl
              have s8 : w5.cell? ⟨w2.heap.size + 1, 8, none⟩ = some (.int .i64 (2 * (i : Int) + 1)) := ((h6.pull 3).cell 8).trans rfl
              have s9 : w5.cell? ⟨w2.heap.size + 1, 9, none⟩ = some (.slice mA k mq) := ((h6.pull 3).cell 9).trans rfl
              have hone : ∀ u ∈ ([.int .i64 th, .int .i64 step, .int .i64 step, .int .i64 (step + k + 1), .int .i64 1, .int .i64 0, .int .i64 0, .int .i64 (2 * (i : Int)), .int .i64 (2 * (i : Int) + 1), .slice mA k mq] : List Value), u.oneCell' = true := by rw [← HSC.out]; exact sto_one _ _ _ _
              have HONE := Lib.hid hone
              clear h5 h6 hone
              have HVL := Lib.hid hvl
              clear hvl
              go_wp2_with (at_builtin; refine wpList_append_star rfl (.tmp 149) (.tmp 151) 23 rfl 44 i1 _ 10 96 Try.underlying23 hi1 hy0 hy1 hy2 rfl (by decide) _ i _ rfl hP ⟨w5.heap.size, 0, none⟩ 1 1 [.int .i64 th, .int .i64 step, .int .i64 step, .int .i64 (step + k + 1), .int .i64 1, .int .i64 0, .int .i64 0, .int .i64 (2 * (i : Int)), .int .i64 (2 * (i : Int) + 1), .slice mA k mq] rfl rfl (cell_list_new _ _ rfl _ _) HONE.out (by simp only [maxLen]; omega) (by omega) ?_; intro a' q' w9 h9; have H9 := Lib.hid h9; clear h9 hP)
              go_roundw
              case rel =>
                refine ⟨i + 1, step + k + 1 + 1, a', q', L ++ [s], putsL ps (leftOf s), by omega, by omega, by omega, by go_num, rfl, rfl, hpl2, ?_, INV⟩
                have h10 := (H9.out.pick 9 [6, 2, 0, 3, 8]).snocA
                refine (stories_shut (vs := vs ++ [.slice mA k mq]) (by rw [List.length_append, List.length_append, HVL.out]; rfl) ?_).swap
                rw [stosC_snoc HVL.out, movesL_snoc HVL.out, HSC.out, HMK.out.1, List.length_append, HMK.out.2.2, HMK.out.2.1]
                exact h10.swap
              case measure => simp [intOf]; omega
    · have hiz : ¬ (i : Int) < n := by omega
      have hni : i = n := by omega
      obtain ⟨hL1, -, -, -, hL5, hL6⟩ := hE.out
      have HP := Lib.hid (show L.length = n ∧ RowP (begF st) 0 1 L ∧ ∀ s ∈ L, s.moves.length ≤ 8 from ⟨by omega, hL5, hL6⟩)
      have HR := Lib.hid hR.drop
      have HNI := Lib.hid hni
      clear hE hR hL1 hL5 hL6 hni
      go_wp2
      go_ret
      exact ⟨a, q, L, by rw [HNI.out]; rfl, HP.out.1, by have := HR.out; rwa [HNI.out] at this, HP.out.2.2, HP.out.2.1⟩
end Go.Proofs.Ytljdkfhkpjjfgaa
