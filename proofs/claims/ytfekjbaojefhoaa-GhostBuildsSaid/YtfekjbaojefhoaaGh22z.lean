/- The document's Build, walked: lemmas for the laws of ghost. Printed by gen_gh22z.py. -/
import Derived.Test.YtfekjbaojefhoaaGh22a
import Derived.Test.YtfekjbaojefhoaaGh22b
import Derived.Test.YtfekjbaojefhoaaGh22c
import Derived.Test.YtfekjbaojefhoaaGh22d
import Derived.Test.YtfekjbaojefhoaaGh22e
import Derived.Test.YtfekjbaojefhoaaGh22f
import Derived.Deep.DeepCutAuto
import Derived.Deep.CutBlock
import Derived.Laws.MakeOwn
import Derived.KernelRfl
import Derived.Test.YtfekjbaojefhoaaGh17
namespace Go.Proofs.Ytfekjbaojefhoaa
open Go.RowKit
set_option linter.unusedVariables false

def atV (o : Option Nat) : Int := match o with | some i => (i : Int) | none => -1
theorem run_step {evs : List Ev} {k : Nat} {e : Ev} {s : St} (he : evs[k]? = some e) (h : runE (evs.take (k + 1)) = some s) : s.step = e.step := by
  cases h0 : runE (evs.take k) with
  | none =>
    have h1 : evs.take (k + 1) = evs.take k ++ [e] := by rw [List.take_add_one, he]; rfl
    rw [h1, runE_snoc, h0] at h
    cases h
  | some s0 =>
    rw [runE_take he h0] at h
    unfold stepE at h
    split at h
    · injection h with h
      subst h
      simp only [step1]
      (repeat' split) <;> rfl
    · cases h
set_option maxHeartbeats 16000000 in
set_option maxRecDepth 100000 in
theorem rbuild_any (A : Option Addr) (n c : Nat) (evs : List Ev) (w : World) (hE : Sl w A n 10 (evsC evs)) (hn : evs.length = n) (hbig : n * 80 ≤ 140737488355328) :
    Calls Try.prog 10 #[.slice A n c] w fun e w' => ∃ a c', e = .returned (.tuple #[.slice a (bldS evs).length c', .int .i64 (bldAt evs), .bool (bldOk evs)]) ∧ Star w w' [storiesA (.slice a (bldS evs).length c') (bldS evs), oldA w] := by
  have HE := Lib.hid hE
  have h0 : Star w _ [cellsA w.heap.size (opnC (fun _ => none)).toArray 3, oldA w] := (Star.begin w).new (.cells (opnC (fun _ => none)).toArray 3)
  obtain ⟨i0, hi, hz0, hz1, hz2⟩ := info_parts Try.info3
  have hmk : (Instr.makeSlice 58 (.int .i64 9) (.int .i64 9)).run Try.prog w = .ok (.slice (some ⟨w.heap.size, 0, none⟩) 9 9) (w.alloc (.cells (opnC (fun _ => none)).toArray 3)) := by
    have h := run_makeSlice (P := Try.prog) (w := w) 58 3 i0 (.int .i64 0) Try.underlying58 hi hz0 .i64 .i64 9 9 (by omega) (by omega) (by rw [hz1]; decide) (by rw [hz2]; decide) (by decide)
    rw [hz1] at h
    have e : madeCells (Value.cells (.int .i64 0)) ((9 : Int).toNat * 1) = (opnC (fun _ => none)).toArray := by kernel_rfl
    rw [e] at h
    exact h
  clear hE hi hz0 hz1 hz2
  go_enter Try.func10, Try.ntmps10
  go_wp2
  generalize hgo : w.heap.size = go at h0 ⊢
  go_loopw [5, 7] (fun l i wr => ∃ k : Nat, k ≤ n ∧ i = .int .i64 k ∧ ∃ s : St, Hid (runE (evs.take k) = some s) ∧ ∃ (a : Option Addr) (cc : Nat) (vs : List Value), l = .slice a s.sts.length cc ∧ Hid (vs.length = s.sts.length) ∧ Star w wr [cellsA go (opnC s.opn).toArray 3, rowA 36 10 (.slice a s.sts.length cc) s.sts.length (stosC s.sts vs), Holds (movesL s.sts vs), oldA w]) (fun _ i _ => n - (intOf i).toNat)
  case atStart => exact ⟨0, Nat.zero_le _, rfl, st0, by simp [Hid, runE], none, 0, [], rfl, rfl, (((Star.fold (L := []) (M := [cellsA go (opnC (fun _ => none)).toArray 3, oldA w]) h0 : Star w _ (Holds [] :: _)).rowNil 36 10).pick 4 [2, 0, 1, 3])⟩
  case round =>
    clear h0
    obtain ⟨k, hk, rfl, s, Hs, a, cc, vs, rfl, Hv, hR⟩ := hrel
    by_cases hkl : k < n
    · obtain ⟨e, he⟩ : ∃ e, evs[k]? = some e := ⟨_, List.getElem?_eq_getElem (by omega)⟩
      obtain ⟨g, o, rfl, hg, hcl⟩ := HE.out.row hkl (by omega)
      have hinv := inv_run (by omega) Hs.out
      have hcell : ∀ j u, (evC e)[j]? = some u → j < 10 → wr.cell? ⟨g, o + k * 10 + j, none⟩ = some u := fun j u hu hj => ((hR.pull 3).oldCell hg).trans (hcl j u (by rw [evsC_at he hj]; exact hu))
      have x0 := hcell 0 _ rfl (by omega)
      have x1 := hcell 1 _ rfl (by omega)
      have x2 := hcell 2 _ rfl (by omega)
      have x3 := hcell 3 _ rfl (by omega)
      have x4 := hcell 4 _ rfl (by omega)
      have x5 := hcell 5 _ rfl (by omega)
      have x6 := hcell 6 _ rfl (by omega)
      have x7 := hcell 7 _ rfl (by omega)
      have x8 := hcell 8 _ rfl (by omega)
      have x9 := hcell 9 _ rfl (by omega)
      simp only [Nat.add_zero] at x0
      have hkz : (k : Int) < n := by omega
      have h1 := hR.new (.cells #[.int .i64 e.kind, .int .i64 e.step, .int .i64 e.thread, .int .i64 e.stamp, .int .i64 e.cell, .int .i64 e.x, .bool e.own, .int .i64 e.gate, .int .i64 e.e, .int .i64 e.by_] 26)
      have HI := Lib.hid hinv
      have He := Lib.hid he
      have HG := Lib.hid hg
      have hcell2 : ∀ j u, (evC e)[j]? = some u → j < 10 → (wr.alloc (.cells #[.int .i64 e.kind, .int .i64 e.step, .int .i64 e.thread, .int .i64 e.stamp, .int .i64 e.cell, .int .i64 e.x, .bool e.own, .int .i64 e.gate, .int .i64 e.e, .int .i64 e.by_] 26)).cell? ⟨g, o + k * 10 + j, none⟩ = some u := fun j u hu hj => ((h1.pull 4).oldCell hg).trans (hcl j u (by rw [evsC_at he hj]; exact hu))
      have HC2 := Lib.hid hcell2
      clear hcl hcell hR hinv he hg hcell2
      go_upto_block 1 with fail
      go_cut [5] (fun l' wx => stepE s e = some (step1 s e) ∧ ∃ a' cc' vs', l' = .slice a' (step1 s e).sts.length cc' ∧ vs'.length = (step1 s e).sts.length ∧ Star w wx [cellsA go (opnC (step1 s e).opn).toArray 3, rowA 36 10 (.slice a' (step1 s e).sts.length cc') (step1 s e).sts.length (stosC (step1 s e).sts vs'), Holds (movesL (step1 s e).sts vs'), oldA w])
      case first =>
        go_upto_region 7 with fail
        have hcell2 := HC2.out
        clear x0 x1 x2 x3 x4 x5 x6 x7 x8 x9 HC2
        generalize hW1 : wr.alloc (.cells #[.int .i64 e.kind, .int .i64 e.step, .int .i64 e.thread, .int .i64 e.stamp, .int .i64 e.cell, .int .i64 e.x, .bool e.own, .int .i64 e.gate, .int .i64 e.e, .int .i64 e.by_] 26) = w1 at h1 hcell2 ⊢
        generalize hgE : wr.heap.size = gE at h1 ⊢
        have y0 : w1.cell? ⟨gE, 0, none⟩ = some (.int .i64 e.kind) := h1.cell 0
        have y1 : w1.cell? ⟨gE, 1, none⟩ = some (.int .i64 e.step) := h1.cell 1
        have y2 : w1.cell? ⟨gE, 2, none⟩ = some (.int .i64 e.thread) := h1.cell 2
        have y3 : w1.cell? ⟨gE, 3, none⟩ = some (.int .i64 e.stamp) := h1.cell 3
        have y4 : w1.cell? ⟨gE, 4, none⟩ = some (.int .i64 e.cell) := h1.cell 4
        have y5 : w1.cell? ⟨gE, 5, none⟩ = some (.int .i64 e.x) := h1.cell 5
        have y6 : w1.cell? ⟨gE, 6, none⟩ = some (.bool e.own) := h1.cell 6
        have y7 : w1.cell? ⟨gE, 7, none⟩ = some (.int .i64 e.gate) := h1.cell 7
        have y8 : w1.cell? ⟨gE, 8, none⟩ = some (.int .i64 e.e) := h1.cell 8
        have y9 : w1.cell? ⟨gE, 9, none⟩ = some (.int .i64 e.by_) := h1.cell 9
        have x0 : w1.cell? ⟨g, o + k * 10, none⟩ = some (.int .i64 e.kind) := hcell2 0 _ rfl (by omega)
        have x1 : w1.cell? ⟨g, o + k * 10 + 1, none⟩ = some (.int .i64 e.step) := hcell2 1 _ rfl (by omega)
        have x2 : w1.cell? ⟨g, o + k * 10 + 2, none⟩ = some (.int .i64 e.thread) := hcell2 2 _ rfl (by omega)
        have x3 : w1.cell? ⟨g, o + k * 10 + 3, none⟩ = some (.int .i64 e.stamp) := hcell2 3 _ rfl (by omega)
        have x4 : w1.cell? ⟨g, o + k * 10 + 4, none⟩ = some (.int .i64 e.cell) := hcell2 4 _ rfl (by omega)
        have x5 : w1.cell? ⟨g, o + k * 10 + 5, none⟩ = some (.int .i64 e.x) := hcell2 5 _ rfl (by omega)
        have x6 : w1.cell? ⟨g, o + k * 10 + 6, none⟩ = some (.bool e.own) := hcell2 6 _ rfl (by omega)
        have x7 : w1.cell? ⟨g, o + k * 10 + 7, none⟩ = some (.int .i64 e.gate) := hcell2 7 _ rfl (by omega)
        have x8 : w1.cell? ⟨g, o + k * 10 + 8, none⟩ = some (.int .i64 e.e) := hcell2 8 _ rfl (by omega)
        have x9 : w1.cell? ⟨g, o + k * 10 + 9, none⟩ = some (.int .i64 e.by_) := hcell2 9 _ rfl (by omega)
        have HX := Lib.hid h1
        clear h1 hW1 hgE hcell2
        obtain ⟨bA, hbA⟩ : ∃ bA : Bool, bA = decide (¬ (1 ≤ e.kind ∧ e.kind ≤ 6 ∧ 1 ≤ e.thread ∧ e.thread ≤ 8 ∧ 1 ≤ e.step ∧ 1 ≤ e.stamp ∧ e.stamp ≤ e.step)) := ⟨_, rfl⟩
        have HBA := Lib.hid hbA
        clear hbA
        go_cut [57] (fun v wx => v = .bool bA ∧ wx = w1)
        case first => as_aux_lemma =>
          by_cases c0 : e.kind < 1
          · go_wp2
            go_meet
            exact ⟨by rw [HBA.out]; congr 1; symm; exact decide_eq_true (by omega), rfl⟩
          by_cases c1 : 6 < e.kind
          · go_wp2
            go_meet
            exact ⟨by rw [HBA.out]; congr 1; symm; exact decide_eq_true (by omega), rfl⟩
          by_cases c2 : e.thread < 1
          · go_wp2
            go_meet
            exact ⟨by rw [HBA.out]; congr 1; symm; exact decide_eq_true (by omega), rfl⟩
          by_cases c3 : 8 < e.thread
          · go_wp2
            go_meet
            exact ⟨by rw [HBA.out]; congr 1; symm; exact decide_eq_true (by omega), rfl⟩
          by_cases c4 : e.step < 1
          · go_wp2
            go_meet
            exact ⟨by rw [HBA.out]; congr 1; symm; exact decide_eq_true (by omega), rfl⟩
          by_cases c5 : e.stamp < 1
          · go_wp2
            go_meet
            exact ⟨by rw [HBA.out]; congr 1; symm; exact decide_eq_true (by omega), rfl⟩
          by_cases c6 : e.step < e.stamp
          · go_wp2
            go_meet
            exact ⟨by rw [HBA.out]; congr 1; symm; exact decide_eq_true (by omega), rfl⟩
          go_wp2
          go_meet
          exact ⟨by rw [HBA.out]; congr 1; symm; exact decide_eq_false (by omega), rfl⟩
        case rest => as_aux_lemma =>
          obtain ⟨rfl, rfl⟩ := hcut
          obtain ⟨w1, rfl⟩ : ∃ w1 : World, w1 = wc := ⟨_, rfl⟩
          by_cases hA : 1 ≤ e.kind ∧ e.kind ≤ 6 ∧ 1 ≤ e.thread ∧ e.thread ≤ 8 ∧ 1 ≤ e.step ∧ 1 ≤ e.stamp ∧ e.stamp ≤ e.step
          case neg =>
            obtain rfl : bA = true := by rw [HBA.out]; exact decide_eq_true hA
            have hb : stepE s e = none := by
              have Ho : okHead s.step e = false := by simp only [okHead, decide_eq_false_iff_not]; omega
              simp [stepE, Ho]
            have HB := Lib.hid (bad_at He.out Hs.out hb)
            have H3 := Lib.hid (HX.out.pick 5 [4])
            clear hb HX
            go_wp2
            go_ret3
            obtain ⟨b1, b2, b3⟩ := HB.out
            refine ⟨none, 0, ?_⟩
            rw [b1, b2, b3]
            exact ⟨rfl, stories_nil H3.out⟩
          case pos =>
            obtain rfl : bA = false := by rw [HBA.out]; exact decide_eq_false (fun h => h hA)
            have HHA := Lib.hid hA
            clear hA HBA
            obtain ⟨bB, hbB⟩ : ∃ bB : Bool, bB = decide (e.step < s.step) := ⟨_, rfl⟩
            have HBB := Lib.hid hbB
            clear hbB
            go_upto_region 9 with fail
            go_cut [71] (fun v wx => v = .bool bB ∧ ∃ q, wx = w1.drewN q)
            case first => as_aux_lemma =>
              rcases Nat.eq_zero_or_pos k with rfl | hkp
              · have hs0 : s = st0 := by have := Hs.out; simpa [runE] using this.symm
                have h00 : s.step = 0 := by rw [hs0]; rfl
                have H00 := Lib.hid h00
                clear hs0 h00
                go_wp2_with fail
                go_quiet (fail)
                go_wp2_with fail
                go_meet
                exact ⟨by rw [HBB.out]; have := HHA.out; have := H00.out; congr 1; symm; exact decide_eq_false (by omega), nq, rfl⟩
              · obtain ⟨j, rfl⟩ : ∃ j, k = j + 1 := ⟨k - 1, by omega⟩
                obtain ⟨e1, he1⟩ : ∃ e1, evs[j]? = some e1 := ⟨_, List.getElem?_eq_getElem (by omega)⟩
                have hs1 := run_step he1 Hs.out
                obtain ⟨g', o', eA, _, hcl1⟩ := HE.out.row (k := j) (by omega) (by omega)
                injection eA with eA
                injection eA with eA1 eA2
                subst eA1 eA2
                have p1 : w1.cell? ⟨g, o + j * 10 + 1, none⟩ = some (.int .i64 e1.step) := ((HX.out.pull 4).oldCell HG.out).trans (hcl1 1 _ (by rw [evsC_at he1 (by omega)]; rfl))
                have hjz : (j : Int) < n := by omega
                have hj1 : (0 : Int) < (j : Int) + 1 := by omega
                have HS1 := Lib.hid hs1
                clear hs1 he1 hcl1
                by_cases hlt : e.step < e1.step
                · go_wp2_with fail
                  go_quiet (fail)
                  go_wp2_with fail
                  go_meet
                  exact ⟨by rw [HBB.out]; have := HS1.out; congr 1; symm; exact decide_eq_true (by omega), nq, rfl⟩
                · have hltb : decide (e.step < e1.step) = false := decide_eq_false hlt
                  go_wp2_with fail
                  go_quiet (fail)
                  go_wp2_with fail
                  go_meet
                  exact ⟨by rw [HBB.out]; have := HS1.out; congr 1; first | (symm; exact decide_eq_false (by omega)) | (rw [decide_eq_decide]; omega) | trace_state, nq, rfl⟩
            case rest => as_aux_lemma =>
              obtain ⟨rfl, q, rfl⟩ := hcut
              have h2 := HX.out.drewN q
              clear HX y0 y1 y2 y3 y4 y5 y6 y7 y8 y9 x0 x1 x2 x3 x4 x5 x6 x7 x8 x9
              generalize w1.drewN q = w2 at h2 ⊢
              have HX := Lib.hid h2
              clear h2
              by_cases hB : e.step < s.step
              case pos =>
                obtain rfl : bB = true := by rw [HBB.out]; simpa using hB
                have hb : stepE s e = none := by
                  have Ho : okHead s.step e = false := by simp only [okHead, decide_eq_false_iff_not]; omega
                  simp [stepE, Ho]
                have HB := Lib.hid (bad_at He.out Hs.out hb)
                have H3 := Lib.hid (HX.out.pick 5 [4])
                clear hb HX
                go_wp2
                go_ret3
                obtain ⟨b1, b2, b3⟩ := HB.out
                refine ⟨none, 0, ?_⟩
                rw [b1, b2, b3]
                exact ⟨rfl, stories_nil H3.out⟩
              case neg =>
                obtain rfl : bB = false := by rw [HBB.out]; simpa using hB
                have hok : okHead s.step e = true := by
                  have := HHA.out
                  simp only [okHead, decide_eq_true_eq]
                  omega
                have HOK := Lib.hid hok
                obtain ⟨th, hth⟩ : ∃ th : Nat, e.thread = th := ⟨e.thread.toNat, by have := HHA.out; omega⟩
                have hth9 : th < 9 := by have := HHA.out; omega
                have hthz : (th : Int) < 9 := by omega
                have HTH := Lib.hid hth
                clear hth hok hB HBB
                obtain ⟨w1, rfl⟩ : ∃ w1 : World, w1 = w2 := ⟨_, rfl⟩
                have y0 : w1.cell? ⟨gE, 0, none⟩ = some (.int .i64 e.kind) := HX.out.cell 0
                have y1 : w1.cell? ⟨gE, 1, none⟩ = some (.int .i64 e.step) := HX.out.cell 1
                have y2 : w1.cell? ⟨gE, 2, none⟩ = some (.int .i64 (th : Int)) := by rw [HX.out.cell 2]; simp [HTH.out]
                have y3 : w1.cell? ⟨gE, 3, none⟩ = some (.int .i64 e.stamp) := HX.out.cell 3
                have o0 : w1.cell? ⟨go, th, none⟩ = some (.int .i64 (ixV (s.opn th))) := by rw [(HX.out.pull 1).cell th]; exact opn_get _ hth9
                cases ho : s.opn th with
                | none =>
                  rw [ho] at o0
                  have hix : ixV (none : Option Nat) = 0 := rfl
                  rw [hix] at o0
                  have ho' : s.opn e.thread = none := by rw [HTH.out]; exact ho
                  have HHO := Lib.hid ho'
                  clear ho ho' hix
                  by_cases hk1 : e.kind = 1
                  · as_aux_lemma =>
                      rw [hk1] at y0
                      have HK := Lib.hid hk1
                      have ht : okTail s e = true := by simp [okTail, HHO.out, first, hk1]
                      have hst : stepE s e = some (step1 s e) := by simp [stepE, HOK.out, ht]
                      have HI2 := Lib.hid (inv_step HI.out hst)
                      have hst := Lib.hid hst
                      clear ht hk1
                      go_wp2_with fail
                      go_quiet (fail)
                      have h5 := HX.out.drewN nq
                      generalize w1.drewN nq = w5 at h5 ⊢
                      clear y0 y1 y2 y3 o0 
                      have z0 : w5.cell? ⟨gE, 0, none⟩ = some (.int .i64 1) := by rw [h5.cell 0]; simp [HK.out]
                      have H5 := Lib.hid h5
                      have hkj := HK.out
                      clear h5 HX
                      go_upto_block 2 with fail
                      refine Go.wp_mono (rw1 (K := fun a w => (Exit.inBlock 1 (Exit.then _ _)) .normal a w) hkl hbig HTH.out hth9 Hv HI HI2 hkj H5 (Lib.hid ?_)) switch_exit
                      intro l w3 a' cc' vs' q1 q2 q4
                      have q2 := Lib.hid q2
                      subst q1
                      go_wp2
                      go_meet
                      exact ⟨hst.out, a', cc', vs', rfl, q2.out, q4⟩
                  · by_cases hk6 : e.kind = 6
                    · as_aux_lemma =>
                        rw [hk6] at y0
                        have HK := Lib.hid hk6
                        have ht : okTail s e = true := by simp [okTail, HHO.out, first, hk6]
                        have hst : stepE s e = some (step1 s e) := by simp [stepE, HOK.out, ht]
                        have HI2 := Lib.hid (inv_step HI.out hst)
                        have hst := Lib.hid hst
                        clear ht hk6
                        go_wp2_with fail
                        go_quiet (fail)
                        have h5 := HX.out.drewN nq
                        generalize w1.drewN nq = w5 at h5 ⊢
                        clear y0 y1 y2 y3 o0 
                        have z0 : w5.cell? ⟨gE, 0, none⟩ = some (.int .i64 6) := by rw [h5.cell 0]; simp [HK.out]
                        have H5 := Lib.hid h5
                        have hkj := HK.out
                        clear h5 HX
                        go_upto_block 2 with fail
                        refine Go.wp_mono (rw6 (K := fun a w => (Exit.inBlock 1 (Exit.then _ _)) .normal a w) hkl hbig HTH.out hth9 Hv HI HI2 hkj HHO.out H5 (Lib.hid ?_)) switch_exit
                        intro l w3 a' cc' vs' q1 q2 q4
                        have q2 := Lib.hid q2
                        subst q1
                        go_wp2
                        go_meet
                        exact ⟨hst.out, a', cc', vs', rfl, q2.out, q4⟩
                    · as_aux_lemma =>
                        have n1 : (e.kind == 1) = false := by simpa using hk1
                        have n6 : (e.kind == 6) = false := by simpa using hk6
                        have hb : stepE s e = none := by
                          have ht : okTail s e = false := by simp [okTail, HHO.out, first, hk1, hk6]
                          simp [stepE, ht]
                        clear hk1 hk6
                        have H3 := Lib.hid fun q => (HX.out.drewN q).pick 5 [4]
                        have HB := Lib.hid (bad_at He.out Hs.out hb)
                        clear hb HX
                        go_wp2_with fail
                        go_quiet (fail)
                        go_wp2
                        go_ret3
                        obtain ⟨b1, b2, b3⟩ := HB.out
                        refine ⟨none, 0, ?_⟩
                        rw [b1, b2, b3]
                        exact ⟨rfl, stories_nil (H3.out _)⟩
                | some i =>
                  rw [ho] at o0
                  have hix : ixV (some i) = (i : Int) + 1 := rfl
                  rw [hix] at o0
                  have ho' : s.opn e.thread = some i := by rw [HTH.out]; exact ho
                  have hil := HI.out.lt _ _ ho'
                  have hi0 : ¬ (i : Int) < 0 := by omega
                  have hi0' : (0 : Int) ≤ i := by omega
                  have hdi : decide ((i : Int) < 0) = false := decide_eq_false hi0
                  have hdn : (true != decide ((i : Int) < 0)) = true := by rw [hdi]; rfl
                  have hiz : (i : Int) < s.sts.length := by omega
                  have hlen : s.sts.length ≤ 9223372036854775807 := by have := HI.out.few; have := cnt_le s.opn; omega
                  obtain ⟨x, hx⟩ : ∃ x, s.sts[i]? = some x := ⟨_, List.getElem?_eq_getElem hil⟩
                  obtain ⟨v, hvx⟩ : ∃ v, vs[i]? = some v := ⟨_, List.getElem?_eq_getElem (by rw [Hv.out]; exact hil)⟩
                  have h6 := HX.out.pick 5 [2, 0, 1, 3, 4]
                  obtain ⟨g2, rfl, -⟩ := h6.rowAt (by omega)
                  have r1 : w1.cell? ⟨g2, i * 10 + 1, none⟩ = some (.int .i64 x.stamp) := (row_cell h6 hx hvx (j := 1) rfl (by omega)).1
                  have HHX := Lib.hid hx
                  have HHO := Lib.hid ho'
                  clear h6 hx hvx ho ho' hix
                  by_cases hk1 : e.kind = 1
                  · as_aux_lemma =>
                      rw [hk1] at y0
                      have hb : stepE s e = none := by
                        have ht : okTail s e = false := by simp [okTail, HHO.out, first, hk1]
                        simp [stepE, ht]
                      clear hk1
                      have H3 := Lib.hid fun q => (HX.out.drewN q).pick 5 [4]
                      have HB := Lib.hid (bad_at He.out Hs.out hb)
                      clear hb HX
                      go_wp2_with fail
                      go_quiet (fail)
                      go_wp2
                      go_ret3
                      obtain ⟨b1, b2, b3⟩ := HB.out
                      refine ⟨none, 0, ?_⟩
                      rw [b1, b2, b3]
                      exact ⟨rfl, stories_nil (H3.out _)⟩
                  · by_cases hk6 : e.kind = 6
                    · as_aux_lemma =>
                        rw [hk6] at y0
                        have hb : stepE s e = none := by
                          have ht : okTail s e = false := by simp [okTail, HHO.out, first, hk6]
                          simp [stepE, ht]
                        clear hk6 hk1
                        have H3 := Lib.hid fun q => (HX.out.drewN q).pick 5 [4]
                        have HB := Lib.hid (bad_at He.out Hs.out hb)
                        clear hb HX
                        go_wp2_with fail
                        go_quiet (fail)
                        go_wp2
                        go_ret3
                        obtain ⟨b1, b2, b3⟩ := HB.out
                        refine ⟨none, 0, ?_⟩
                        rw [b1, b2, b3]
                        exact ⟨rfl, stories_nil (H3.out _)⟩
                    · by_cases hsp : x.stamp = e.stamp
                      · rw [hsp] at r1
                        have hk25 : e.kind = 2 ∨ e.kind = 3 ∨ e.kind = 4 ∨ e.kind = 5 := by have := HHA.out; omega
                        clear hk1 hk6
                        rcases hk25 with hk2 | hk3 | hk4 | hk5
                        · as_aux_lemma =>
                            rw [hk2] at y0
                            have HK := Lib.hid hk2
                            have ht : okTail s e = true := by simp [okTail, HHO.out, first, hk2, HHX.out, hsp]
                            have hst : stepE s e = some (step1 s e) := by simp [stepE, HOK.out, ht]
                            have HI2 := Lib.hid (inv_step HI.out hst)
                            have hst := Lib.hid hst
                            clear ht hk2
                            go_wp2_with fail
                            go_quiet (fail)
                            have h5 := HX.out.drewN nq
                            generalize w1.drewN nq = w5 at h5 ⊢
                            clear y0 y1 y2 y3 o0 r1
                            have z0 : w5.cell? ⟨gE, 0, none⟩ = some (.int .i64 2) := by rw [h5.cell 0]; simp [HK.out]
                            have H5 := Lib.hid h5
                            have hkj := HK.out
                            clear h5 HX
                            go_upto_block 2 with fail
                            refine Go.wp_mono (rw2 (K := fun a w => (Exit.inBlock 1 (Exit.then _ _)) .normal a w) hkl hbig HTH.out hth9 Hv HI HI2 hkj HHO.out H5 (Lib.hid ?_)) switch_exit
                            intro l w3 a' cc' vs' q1 q2 q4
                            have q2 := Lib.hid q2
                            subst q1
                            go_wp2
                            go_meet
                            exact ⟨hst.out, a', cc', vs', rfl, q2.out, q4⟩
                        · as_aux_lemma =>
                            rw [hk3] at y0
                            have HK := Lib.hid hk3
                            have ht : okTail s e = true := by simp [okTail, HHO.out, first, hk3, HHX.out, hsp]
                            have hst : stepE s e = some (step1 s e) := by simp [stepE, HOK.out, ht]
                            have HI2 := Lib.hid (inv_step HI.out hst)
                            have hst := Lib.hid hst
                            clear ht hk3
                            go_wp2_with fail
                            go_quiet (fail)
                            have h5 := HX.out.drewN nq
                            generalize w1.drewN nq = w5 at h5 ⊢
                            clear y0 y1 y2 y3 o0 r1
                            have z0 : w5.cell? ⟨gE, 0, none⟩ = some (.int .i64 3) := by rw [h5.cell 0]; simp [HK.out]
                            have H5 := Lib.hid h5
                            have hkj := HK.out
                            clear h5 HX
                            go_upto_block 2 with fail
                            refine Go.wp_mono (rw3 (K := fun a w => (Exit.inBlock 1 (Exit.then _ _)) .normal a w) hkl hbig HTH.out hth9 Hv HI HI2 hkj HHO.out H5 (Lib.hid ?_)) switch_exit
                            intro l w3 a' cc' vs' q1 q2 q4
                            have q2 := Lib.hid q2
                            subst q1
                            go_wp2
                            go_meet
                            exact ⟨hst.out, a', cc', vs', rfl, q2.out, q4⟩
                        · as_aux_lemma =>
                            rw [hk4] at y0
                            have HK := Lib.hid hk4
                            have ht : okTail s e = true := by simp [okTail, HHO.out, first, hk4, HHX.out, hsp]
                            have hst : stepE s e = some (step1 s e) := by simp [stepE, HOK.out, ht]
                            have HI2 := Lib.hid (inv_step HI.out hst)
                            have hst := Lib.hid hst
                            clear ht hk4
                            go_wp2_with fail
                            go_quiet (fail)
                            have h5 := HX.out.drewN nq
                            generalize w1.drewN nq = w5 at h5 ⊢
                            clear y0 y1 y2 y3 o0 r1
                            have z0 : w5.cell? ⟨gE, 0, none⟩ = some (.int .i64 4) := by rw [h5.cell 0]; simp [HK.out]
                            have H5 := Lib.hid h5
                            have hkj := HK.out
                            clear h5 HX
                            go_upto_block 2 with fail
                            refine Go.wp_mono (rw4 (K := fun a w => (Exit.inBlock 1 (Exit.then _ _)) .normal a w) hkl hbig HTH.out hth9 Hv HI HI2 hkj HHO.out H5 (Lib.hid ?_)) switch_exit
                            intro l w3 a' cc' vs' q1 q2 q4
                            have q2 := Lib.hid q2
                            subst q1
                            go_wp2
                            go_meet
                            exact ⟨hst.out, a', cc', vs', rfl, q2.out, q4⟩
                        · as_aux_lemma =>
                            rw [hk5] at y0
                            have HK := Lib.hid hk5
                            have ht : okTail s e = true := by simp [okTail, HHO.out, first, hk5, HHX.out, hsp]
                            have hst : stepE s e = some (step1 s e) := by simp [stepE, HOK.out, ht]
                            have HI2 := Lib.hid (inv_step HI.out hst)
                            have hst := Lib.hid hst
                            clear ht hk5
                            go_wp2_with fail
                            go_quiet (fail)
                            have h5 := HX.out.drewN nq
                            generalize w1.drewN nq = w5 at h5 ⊢
                            clear y0 y1 y2 y3 o0 r1
                            have z0 : w5.cell? ⟨gE, 0, none⟩ = some (.int .i64 5) := by rw [h5.cell 0]; simp [HK.out]
                            have H5 := Lib.hid h5
                            have hkj := HK.out
                            clear h5 HX
                            go_upto_block 2 with fail
                            refine Go.wp_mono (rw5 (K := fun a w => (Exit.inBlock 1 (Exit.then _ _)) .normal a w) hkl hbig HTH.out hth9 Hv HI HI2 hkj HHO.out H5 (Lib.hid ?_)) switch_exit
                            intro l w3 a' cc' vs' q1 q2 q4
                            have q2 := Lib.hid q2
                            subst q1
                            go_wp2
                            go_meet
                            exact ⟨hst.out, a', cc', vs', rfl, q2.out, q4⟩
                      · as_aux_lemma =>
                          have n1 : (e.kind == 1) = false := by simpa using hk1
                          have n6 : (e.kind == 6) = false := by simpa using hk6
                          have hne : (x.stamp != e.stamp) = true := by simpa using hsp
                          have hb : stepE s e = none := by
                            have ht : okTail s e = false := by simp [okTail, HHO.out, first, hk1, hk6, HHX.out, hsp]
                            simp [stepE, ht]
                          clear hk1 hk6 hsp
                          have H3 := Lib.hid fun q => (HX.out.drewN q).pick 5 [4]
                          have HB := Lib.hid (bad_at He.out Hs.out hb)
                          clear hb HX
                          go_wp2_with fail
                          go_quiet (fail)
                          go_wp2
                          go_ret3
                          obtain ⟨b1, b2, b3⟩ := HB.out
                          refine ⟨none, 0, ?_⟩
                          rw [b1, b2, b3]
                          exact ⟨rfl, stories_nil (H3.out _)⟩
      case rest =>
        obtain ⟨hst, a', cc', vs', rfl, q2, q4⟩ := hcut
        have hRT := runE_take He.out Hs.out
        rw [hst] at hRT
        have HR := Lib.hid hRT
        have q2 := Lib.hid q2
        clear hRT hst
        go_wp2
        go_roundw
        case rel => exact ⟨k + 1, by omega, by simp, step1 s e, HR.out, a', cc', vs', rfl, q2.out, q4⟩
        case measure => simp [intOf]; omega
    · have hkn : k = n := by omega
      have hr := Hs.out
      rw [List.take_of_length_le (by omega)] at hr
      have HB := Lib.hid (good_at hr)
      have h3 := stories_shut (v := .slice a s.sts.length cc) Hv.out (hR.pick 4 [1, 2, 3])
      have hkz : ¬ (k : Int) < n := by omega
      clear hr hR
      go_wp2
      go_ret3
      obtain ⟨b1, b2, b3⟩ := HB.out
      refine ⟨a, cc, ?_⟩
      rw [b1, b2, b3]
      exact ⟨rfl, h3⟩
end Go.Proofs.Ytfekjbaojefhoaa
