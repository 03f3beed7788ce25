/- Build, walked: lemmas for the laws of ghost. Printed by gen_gh5.py. -/
import Derived.Test.YtfekjbaojefhoaaGh5a
import Derived.Test.YtfekjbaojefhoaaGh5b
import Derived.Test.YtfekjbaojefhoaaGh5c
import Derived.Test.YtfekjbaojefhoaaGh5d
import Derived.Test.YtfekjbaojefhoaaGh5e
import Derived.Test.YtfekjbaojefhoaaGh5f
import Derived.Deep.DeepCutAuto
import Derived.Deep.CutBlock
namespace Go.Proofs.Ytfekjbaojefhoaa
open Go.RowKit
set_option linter.unusedVariables false

set_option maxHeartbeats 16000000 in
set_option maxRecDepth 100000 in
theorem build_any (A : Option Addr) (n c : Nat) (evs : List Ev) (w : World) (hE : Sl w A n 10 (evsC evs)) (hn : evs.length = n) (hbig : n * 80 ≤ 140737488355328) :
    Calls Try.prog 11 #[.slice A n c] w fun e w' => ∃ a c', e = .returned (.tuple #[.slice a (bldS evs).length c', .int .i64 (bldAt evs), .int .i64 (bldCode evs)]) ∧ Star w w' [storiesA (.slice a (bldS evs).length c') (bldS evs), oldA w] := by
  have hmm := @run_makeMap Try.prog
  have HE := Lib.hid hE
  have h0 := (Star.begin w).mapNew encI
  clear hE
  go_enter Try.func11, Try.ntmps11
  go_wp2
  generalize hmb : w.heap.size = mb at h0 ⊢
  go_loopw [5, 7, 15] (fun l stp i wr => ∃ k : Nat, k ≤ n ∧ i = .int .i64 k ∧ ∃ s : St, Hid (runE (evs.take k) = some s) ∧ stp = .int .i64 s.step ∧ ∃ (a : Option Addr) (cc : Nat) (vs : List Value) (m : List (Int × Value)), l = .slice a s.sts.length cc ∧ Hid (vs.length = s.sts.length) ∧ Hid (OpenM m s.opn) ∧ Star w wr [mapA encI mb m, rowA 36 10 (.slice a s.sts.length cc) s.sts.length (stosC s.sts vs), Holds (movesL s.sts vs), oldA w]) (fun _ _ i _ => n - (intOf i).toNat)
  case atStart => exact ⟨0, Nat.zero_le _, rfl, st0, by simp [Hid, runE], rfl, none, 0, [], [], rfl, rfl, openM_nil, (((Star.fold (L := []) (M := [mapA encI mb [], oldA w]) h0 : Star w _ (Holds [] :: _)).rowNil 36 10).pick 4 [2, 0, 1, 3])⟩
  case round =>
    clear h0
    obtain ⟨k, hk, rfl, s, Hs, rfl, a, cc, vs, m, rfl, Hv, Ho, hR⟩ := hrel
    by_cases hkl : k < n
    · obtain ⟨e, he⟩ : ∃ e, evs[k]? = some e := ⟨_, List.getElem?_eq_getElem (by omega)⟩
      obtain ⟨g, o, rfl, hcl⟩ := HE.out.2 (by omega)
      have hinv := inv_run (by omega) Hs.out
      have hcell : ∀ j u, (evC e)[j]? = some u → j < 10 → wr.cell? ⟨g, o + (k * 10 + j), none⟩ = some u := by
        intro j u hu hj
        have h1 := hcl (k * 10 + j) u (by rw [evsC_at he hj]; exact hu)
        rw [(hR.pull 3).oldCell (World.block_lt_of_cell? w _ h1)]
        exact h1
      have x0 := hcell 0 _ rfl (by omega)
      have x1 := hcell 1 _ rfl (by omega)
      have x2 := hcell 2 _ rfl (by omega)
      have x3 := hcell 3 _ rfl (by omega)
      have x4 := hcell 4 _ rfl (by omega)
      have x5 := hcell 5 _ rfl (by omega)
      have x6 := hcell 6 _ rfl (by omega)
      have x7 := hcell 7 _ rfl (by omega)
      have x8 := hcell 8 _ rfl (by omega)
      have x9 := hcell 9 _ rfl (by omega)
      simp only [← Nat.add_assoc, Nat.add_zero] at x0 x1 x2 x3 x4 x5 x6 x7 x8 x9
      have hkz : (k : Int) < n := by omega
      have h1 := hR.new (.cells #[.int .i64 e.kind, .int .i64 e.step, .int .i64 e.thread, .int .i64 e.stamp, .int .i64 e.cell, .int .i64 e.x, .bool e.own, .int .i64 e.gate, .int .i64 e.e, .int .i64 e.by_] 26)
      have HI := Lib.hid hinv
      have He := Lib.hid he
      clear hcl hcell hR hinv he
      go_upto_block 1 with fail
      go_cut [5, 7] (fun l' st' wx => st' = .int .i64 e.step ∧ stepE s e = some (step1 s e) ∧ ∃ a' cc' vs' m', l' = .slice a' (step1 s e).sts.length cc' ∧ vs'.length = (step1 s e).sts.length ∧ OpenM m' (step1 s e).opn ∧ Star w wx [mapA encI mb m', rowA 36 10 (.slice a' (step1 s e).sts.length cc') (step1 s e).sts.length (stosC (step1 s e).sts vs'), Holds (movesL (step1 s e).sts vs'), oldA w])
      case first =>
        go_wp2_with fail
        refine (right_any e s.step mb m a s.sts.length cc s.sts vs s.opn _ w _ (h1.pick 5 [1, 2, 0, 3, 4]) rfl Hv.out Ho.out.look HI.out.lt).mono ?_
        rintro e' w2 ⟨rfl, hb2⟩
        have h2 := h1.of_below hb2
        generalize wr.heap.size = gE at h2 ⊢
        clear h1 hb2 x0 x1 x2 x3 x4 x5 x6 x7 x8 x9
        have hRT := runE_take He.out Hs.out
        cases hok : okHead s.step e && okTail s e with
        | false =>
          have hb : stepE s e = none := by simp [stepE, hok]
          have HB := Lib.hid (bad_at He.out Hs.out hb)
          have h3 := h2.pick 5 [4]
          clear hb hRT h2
          go_wp2
          go_ret3
          obtain ⟨b1, b2, b3⟩ := HB.out
          refine ⟨none, 0, ?_⟩
          rw [bldCode, b1, b2, b3]
          exact ⟨rfl, stories_nil h3⟩
        | true =>
          have hst : stepE s e = some (step1 s e) := by simp [stepE, hok]
          rw [hst] at hRT
          have HR := Lib.hid hRT
          simp only [Bool.and_eq_true] at hok
          obtain ⟨hh, ht⟩ := hok
          have hh := okHead_iff.1 hh
          have HI2 := Lib.hid (inv_step HI.out hst)
          have y0 : w2.cell? ⟨gE, 0, none⟩ = some (.int .i64 e.kind) := h2.cell 0
          have y1 : w2.cell? ⟨gE, 1, none⟩ = some (.int .i64 e.step) := h2.cell 1
          have y2 : w2.cell? ⟨gE, 2, none⟩ = some (.int .i64 e.thread) := h2.cell 2
          have y3 : w2.cell? ⟨gE, 3, none⟩ = some (.int .i64 e.stamp) := h2.cell 3
          have y4 : w2.cell? ⟨gE, 4, none⟩ = some (.int .i64 e.cell) := h2.cell 4
          have y5 : w2.cell? ⟨gE, 5, none⟩ = some (.int .i64 e.x) := h2.cell 5
          have y6 : w2.cell? ⟨gE, 6, none⟩ = some (.bool e.own) := h2.cell 6
          have y7 : w2.cell? ⟨gE, 7, none⟩ = some (.int .i64 e.gate) := h2.cell 7
          have y8 : w2.cell? ⟨gE, 8, none⟩ = some (.int .i64 e.e) := h2.cell 8
          have y9 : w2.cell? ⟨gE, 9, none⟩ = some (.int .i64 e.by_) := h2.cell 9
          have hlk := run_lookup_m Try.underlying59 Try.underlying3 encI_key encI_inj zero3 (h2.pull 1) e.thread false
          rw [Ho.out.look, if_neg (by decide)] at hlk
          have hlk : (Instr.lookup 59 (.map (some mb)) (.int .i64 e.thread) false).run Try.prog w2 = .ok (((s.opn e.thread).map fun i : Nat => Value.int .i64 (i : Int)).getD (.int .i64 0)) w2 := hlk
          have H2 := Lib.hid h2
          have hst := Lib.hid hst
          clear hRT h2
          obtain ⟨lk, hlk'⟩ : ∃ lk, lk = ((s.opn e.thread).map fun i : Nat => Value.int .i64 (i : Int)).getD (.int .i64 0) := ⟨_, rfl⟩
          rw [← hlk'] at hlk
          have HLK := Lib.hid hlk'
          clear hlk'
          go_upto_block 2 with fail
          clear hlk y0 y1 y2 y3 y4 y5 y6 y7 y8 y9
          cases ho : s.opn e.thread with
          | none =>
            rcases okTail_none ho ht with hk1 | hk6
            · rw [hk1]
              refine Go.wp_mono (switch1 (K := fun a w => (Exit.inBlock 1 (Exit.then _ _)) .normal a w) hkl hbig Hv Ho HI HI2 hk1 H2 (Lib.hid ?_)) switch_exit
              intro l w3 a' cc' vs' m' q1 q2 q3 q4
              have q2 := Lib.hid q2
              have q3 := Lib.hid q3
              subst q1
              go_wp2
              go_meet
              exact ⟨rfl, hst.out, a', cc', vs', m', rfl, q2.out, q3.out, q4⟩
            · rw [hk6]
              refine Go.wp_mono (switch6 (K := fun a w => (Exit.inBlock 1 (Exit.then _ _)) .normal a w) hkl hbig Hv Ho HI HI2 hk6 ho H2 (Lib.hid ?_)) switch_exit
              intro l w3 a' cc' vs' m' q1 q2 q3 q4
              have q2 := Lib.hid q2
              have q3 := Lib.hid q3
              subst q1
              go_wp2
              go_meet
              exact ⟨rfl, hst.out, a', cc', vs', m', rfl, q2.out, q3.out, q4⟩
          | some i =>
            have h9 := HLK.out
            rw [ho] at h9
            simp only [Option.map_some, Option.getD_some] at h9
            subst h9
            have hn16 := okTail_some ho ht
            have hk25 : e.kind = 2 ∨ e.kind = 3 ∨ e.kind = 4 ∨ e.kind = 5 := by have := hn16.1; have := hn16.2; omega
            rcases hk25 with hk2 | hk3 | hk4 | hk5
            · rw [hk2]
              refine Go.wp_mono (switch2 (lk := .bool true) (K := fun a w => (Exit.inBlock 1 (Exit.then _ _)) .normal a w) hkl hbig Hv Ho HI HI2 hk2 ho H2 (Lib.hid ?_)) switch_exit
              intro l w3 a' cc' vs' m' q1 q2 q3 q4
              have q2 := Lib.hid q2
              have q3 := Lib.hid q3
              subst q1
              go_wp2
              go_meet
              exact ⟨rfl, hst.out, a', cc', vs', m', rfl, q2.out, q3.out, q4⟩
            · rw [hk3]
              refine Go.wp_mono (switch3 (lk := .bool true) (K := fun a w => (Exit.inBlock 1 (Exit.then _ _)) .normal a w) hkl hbig Hv Ho HI HI2 hk3 ho H2 (Lib.hid ?_)) switch_exit
              intro l w3 a' cc' vs' m' q1 q2 q3 q4
              have q2 := Lib.hid q2
              have q3 := Lib.hid q3
              subst q1
              go_wp2
              go_meet
              exact ⟨rfl, hst.out, a', cc', vs', m', rfl, q2.out, q3.out, q4⟩
            · rw [hk4]
              refine Go.wp_mono (switch4 (lk := .bool true) (K := fun a w => (Exit.inBlock 1 (Exit.then _ _)) .normal a w) hkl hbig Hv Ho HI HI2 hk4 ho H2 (Lib.hid ?_)) switch_exit
              intro l w3 a' cc' vs' m' q1 q2 q3 q4
              have q2 := Lib.hid q2
              have q3 := Lib.hid q3
              subst q1
              go_wp2
              go_meet
              exact ⟨rfl, hst.out, a', cc', vs', m', rfl, q2.out, q3.out, q4⟩
            · rw [hk5]
              refine Go.wp_mono (switch5 (lk := .bool true) (K := fun a w => (Exit.inBlock 1 (Exit.then _ _)) .normal a w) hkl hbig Hv Ho HI HI2 hk5 ho H2 (Lib.hid ?_)) switch_exit
              intro l w3 a' cc' vs' m' q1 q2 q3 q4
              have q2 := Lib.hid q2
              have q3 := Lib.hid q3
              subst q1
              go_wp2
              go_meet
              exact ⟨rfl, hst.out, a', cc', vs', m', rfl, q2.out, q3.out, q4⟩
      case rest =>
        obtain ⟨rfl, hst, a', cc', vs', m', rfl, q2, q3, q4⟩ := hcut
        have hRT := runE_take He.out Hs.out
        rw [hst] at hRT
        have HR := Lib.hid hRT
        have q2 := Lib.hid q2
        have q3 := Lib.hid q3
        clear hRT hst
        go_wp2
        go_roundw
        case rel => exact ⟨k + 1, by omega, by simp, step1 s e, HR.out, by simp only [step1]; (repeat' split) <;> rfl, a', cc', vs', m', rfl, q2.out, q3.out, q4⟩
        case measure => simp [intOf]; omega
    · have hkn : k = n := by omega
      have hr := Hs.out
      rw [List.take_of_length_le (by omega)] at hr
      have HB := Lib.hid (good_at hr)
      have h3 := stories_shut (v := .slice a s.sts.length cc) Hv.out (hR.pick 4 [1, 2, 3])
      have hkz : ¬ (k : Int) < n := by omega
      clear hr hR
      go_wp2
      go_ret3
      obtain ⟨b1, b2, b3⟩ := HB.out
      refine ⟨a, cc, ?_⟩
      rw [bldCode, b1, b2, b3]
      exact ⟨rfl, h3⟩
end Go.Proofs.Ytfekjbaojefhoaa
