/- The document's Final, walked: lemmas for the laws of ghost. Printed by gen_gh25.py. -/
import Derived.Test.YtfekjbaojefhoaaGh24
import Derived.Test.YtfekjbaojefhoaaMem2
namespace Go.Proofs.Ytfekjbaojefhoaa
open Go.RowKit Go.Shelf
set_option linter.unusedVariables false

theorem Try.info4 : (Try.prog.info? 4).map (fun i => (i.zero, i.size, i.bytes)) = some (some (.bool false), 1, 1) := by kernel_rfl
def boolsC (bs : List Bool) : List Value := bs.map .bool
theorem boolsC_len (bs : List Bool) : (boolsC bs).length = bs.length := by rw [boolsC, List.length_map]
theorem made_one (z : Value) (n : Nat) : madeCells #[z] n = Array.replicate n z := by
  apply Array.ext'
  rw [toList_madeCells_one z n, Array.toList_replicate]
theorem make_ints (t e : TypeId) (z : Value) (by_ n : Nat) (hc : z.cells = #[z]) (ht : Try.prog.underlying t = some (.slice e)) (h : (Try.prog.info? e).map (fun i => (i.zero, i.size, i.bytes)) = some (some z, 1, by_)) (hby : by_ ≤ 8) (hn : n * 8 ≤ 140737488355328) (w : World) :
    (Instr.makeSlice t (.int .i64 (n : Int)) (.int .i64 (n : Int))).run Try.prog w = .ok (.slice (some ⟨w.heap.size, 0, none⟩) n n) (w.alloc (.cells (Array.replicate n z) e)) := by
  obtain ⟨i, hi, hz0, hz1, hz2⟩ := info_parts h
  have hb : i.bytes * n ≤ 8 * n := Nat.mul_le_mul_right _ (by omega)
  have := run_make_star (P := Try.prog) w t e i z ht hi hz0 n (by omega) (by omega)
  rw [hz1, hc, Nat.mul_one, made_one] at this
  exact this
theorem row1_cell {W w : World} {L : List HA} {e : TypeId} {g n c i : Nat} {xs : List Value} {u : Value} (h : Star W w (rowA e 1 (.slice (some ⟨g, 0, none⟩) n c) n xs :: L)) (hu : xs[i]? = some u) : w.cell? ⟨g, i, none⟩ = some u ∧ w.frozen? ⟨g, i, none⟩ = false := by
  have hl := h.rowLen
  have hi := (List.getElem?_eq_some_iff.1 hu).1
  obtain ⟨g', e', _, _, hc, hf⟩ := h.rowAt (by omega)
  injection e' with e'
  injection e' with e'
  subst e'
  exact ⟨by rw [hc i (by omega), hu], hf i⟩
set_option maxRecDepth 100000 in
set_option maxHeartbeats 12800000 in
theorem final_ref (A : Option Addr) (n c : Nat) (zs : List Int) (B : Option Addr) (m d : Nat) (sts : List Sto) (vs : List Value) (w : World) (hS : Sl w A n 1 (intsC zs)) (hb : n * 8 ≤ 140737488355328) (hT : Stories w B m sts vs) (hbm : m * 96 ≤ 140737488355328) :
    Calls Try.prog 22 #[.slice A n c, .slice B m d] w fun e w' => ∃ a c', e = .returned (.slice a n c') ∧ Star w w' [rowA 2 1 (.slice a n c') n (intsC (refFin sts zs).out), oldA w] := by
  have hzl : zs.length = n := by have := hS.1; rw [intsC_len] at this; omega
  have hm1 := make_ints 46 2 (.int .i64 0) 8 n rfl Try.underlying46 Try.info2 (by omega) hb
  have hm2 := make_ints 58 3 (.int .i64 0) 8 n rfl Try.underlying58 Try.info3 (by omega) hb
  have hm3 := make_ints 68 4 (.bool false) 1 n rfl Try.underlying68 Try.info4 (by omega) hb
  have h0 := (((Star.begin w).rowNew 2 1 (Array.replicate n (.int .i64 0)) n (by simp only [maxLen]; omega) (by simp)).rowNew 3 1 (Array.replicate n (.int .i64 0)) n (by simp only [maxLen]; omega) (by simp)).rowNew 4 1 (Array.replicate n (.bool false)) n (by simp only [maxLen]; omega) (by simp)
  simp only [World.size_alloc] at h0
  have h1 := h0.pick 4 [2, 0, 1, 3]
  have hsl := hS.after (by omega) (h0.pull 3)
  have HT := Lib.hid hT
  have HZ := Lib.hid hzl
  have hs2 : (Try.prog.info? 2).map (·.size) = some 1 := by kernel_rfl
  clear hT hzl h0 hS
  go_enter Try.func22, Try.ntmps22
  go_wp2_with (with_reducible refine wpList_copy_star rfl (.tmp 21) (.tmp 22) 46 46 rfl 2 1 Try.underlying46 hs2 w.heap.size n n _ rfl h1 A n c _ rfl (Nat.le_refl _) hsl (intsC_one zs) ?_; intro w1 h2)
  have e2 : intsC zs ++ List.drop (n * 1) (Array.replicate n (Value.int .i64 0)).toList = intsC (rf0 zs).out := by simp [rf0]
  have h3 : Star w w1 [rowA 2 1 (.slice (some ⟨w.heap.size, 0, none⟩) n n) n (intsC (rf0 zs).out), rowA 4 1 (.slice (some ⟨w.heap.size + 1 + 1, 0, none⟩) n n) n (boolsC (rf0 zs).bs), rowA 3 1 (.slice (some ⟨w.heap.size + 1, 0, none⟩) n n) n (intsC (rf0 zs).gs), oldA w] := by
    rw [e2] at h2
    have e3 : (Array.replicate n (Value.bool false)).toList = boolsC (rf0 zs).bs := by simp [rf0, boolsC, HZ.out]
    have e4 : (Array.replicate n (Value.int .i64 0)).toList = intsC (rf0 zs).gs := by simp [rf0, intsC, HZ.out]
    rw [e3, e4] at h2
    exact h2
  have HN0 := Lib.hid (rfn_0 zs)
  clear e2 h2 h1 hm1 hm2 hm3 hsl hs2
  generalize w.heap.size = g1 at h3 ⊢
  go_loopw [8] (fun i wr => ∃ j : Nat, j ≤ m ∧ i = .int .i64 j ∧ Star w wr [rowA 2 1 (.slice (some ⟨g1, 0, none⟩) n n) n (intsC ((sts.take j).foldl rfSto (rf0 zs)).out), rowA 4 1 (.slice (some ⟨g1 + 1 + 1, 0, none⟩) n n) n (boolsC ((sts.take j).foldl rfSto (rf0 zs)).bs), rowA 3 1 (.slice (some ⟨g1 + 1, 0, none⟩) n n) n (intsC ((sts.take j).foldl rfSto (rf0 zs)).gs), oldA w]) (fun i _ => m - (intOf i).toNat)
  case atStart => exact ⟨0, Nat.zero_le _, rfl, h3⟩
  case round =>
    clear h3
    obtain ⟨j, hj, rfl, hR⟩ := hrel
    by_cases hlt : j < m
    · obtain ⟨s, hs⟩ : ∃ s, sts[j]? = some s := ⟨_, List.getElem?_eq_getElem (by have := HT.out.ns; omega)⟩
      obtain ⟨v, hv⟩ : ∃ v, vs[j]? = some v := ⟨_, List.getElem?_eq_getElem (by have := HT.out.nv; omega)⟩
      obtain ⟨MA, mk, mc, rfl, hmk, hms, hmb⟩ := HT.out.mv j s v hs hv
      obtain ⟨g, o, rfl, hg, ca⟩ := HT.out.row.row hlt (by omega)
      have fm : ∀ i u, (stoC s (.slice MA mk mc))[i]? = some u → i < 10 → wr.cell? ⟨g, o + j * 10 + i, none⟩ = some u := fun i u hu hi => ((hR.pull 3).oldCell hg).trans (ca i u (by rw [stosC_at hs hv hi]; exact hu))
      have a0 := fm 0 _ rfl (by omega)
      have a1 := fm 1 _ rfl (by omega)
      have a2 := fm 2 _ rfl (by omega)
      have a3 := fm 3 _ rfl (by omega)
      have a4 := fm 4 _ rfl (by omega)
      have a5 := fm 5 _ rfl (by omega)
      have a6 := fm 6 _ rfl (by omega)
      have a7 := fm 7 _ rfl (by omega)
      have a8 := fm 8 _ rfl (by omega)
      have a9 := fm 9 _ rfl (by omega)
      simp only [Nat.add_zero] at a0
      have hjz : (j : Int) < m := by omega
      have hfold : (sts.take (j + 1)).foldl rfSto (rf0 zs) = rfSto ((sts.take j).foldl rfSto (rf0 zs)) s := by rw [take_succ hs, List.foldl_append]; rfl
      have hnr : RFn n ((sts.take j).foldl rfSto (rf0 zs)) := by rw [← HZ.out]; exact rfn_fin _ (rfn_0 zs)
      have HF := Lib.hid hfold
      have HNR := Lib.hid hnr
      have HG := Lib.hid (⟨g, o, rfl, hg, fun u => ((hR.pull 3).oldCell hg).symm⟩ : ∃ g' o', (⟨g, o, none⟩ : Addr) = ⟨g', o', none⟩ ∧ g' < w.heap.size ∧ ∀ u, w.cell? ⟨g, u, none⟩ = wr.cell? ⟨g, u, none⟩)
      have HC8 := Lib.hid (ca 8 _ (by rw [stosC_at hs hv (by omega)]; rfl))
      have HG2 := Lib.hid hg
      generalize (sts.take j).foldl rfSto (rf0 zs) = st at hR HF HNR
      by_cases hf : s.fate = 1
      · have hff : (s.fate != 1) = false := by simpa using hf
        rw [hf] at a4
        have HW := Lib.hid (writes_ref s MA mk mc wr (hms.after (by omega) (hR.pull 3)) hmk hmb)
        have hst : rfSto st s = (writesOf s.moves).foldl (rfPut s.gate) st := by rw [rfSto, if_pos hf]
        have HST := Lib.hid hst
        have hwl : (writesOf s.moves).length ≤ 2932031007402 := by have := writes_len s.moves; rw [writesOf]; omega
        have hstoC : (Value.agg (stoC s (.slice MA mk mc)).toArray) = .agg #[.int .i64 s.thread, .int .i64 s.stamp, .int .i64 s.begin_, .int .i64 s.end_, .int .i64 1, .int .i64 s.e, .int .i64 s.by_, .int .i64 s.opens, .int .i64 s.gate, .slice MA mk mc] := by simp [stoC, hf]
        rw [hstoC] at HW
        have HR := Lib.hid hR
        clear hst hfold hnr fm ca hs hv hR hms hmk hmb hf hff hstoC hg
        go_wp2_with fail
        refine HW.out.mono ?_
        rintro e' w5 ⟨pa, pq, rfl, hw5⟩
        have h5 := hw5.frame (L := [_]) HR.out
        have hg8 : w5.cell? ⟨g, o + j * 10 + 8, none⟩ = some (.int .i64 s.gate) := ((h5.pull 4).oldCell HG2.out).trans HC8.out
        clear hw5 HR HW a0 a1 a2 a3 a4 a5 a6 a7 a8 a9
        generalize hps : writesOf s.moves = ps at h5 HST hwl ⊢
        generalize hga : s.gate = gate at HST hg8
        have HG8 := Lib.hid (show ∀ W', Star w W' [rowA 57 2 (.slice pa ps.length pq) ps.length (pairsC ps), oldA w] → W'.cell? ⟨g, o + j * 10 + 8, none⟩ = some (.int .i64 gate) from fun W' h => by
          rw [← hga]; exact ((h.pull 1).oldCell HG2.out).trans HC8.out)
        clear hps hga hg8
        go_wp2_with fail
        go_loopw [10] (fun i wz => ∃ u : Nat, u ≤ ps.length ∧ i = .int .i64 u ∧ Star w wz [rowA 57 2 (.slice pa ps.length pq) ps.length (pairsC ps), rowA 2 1 (.slice (some ⟨g1, 0, none⟩) n n) n (intsC ((ps.take u).foldl (rfPut gate) st).out), rowA 4 1 (.slice (some ⟨g1 + 1 + 1, 0, none⟩) n n) n (boolsC ((ps.take u).foldl (rfPut gate) st).bs), rowA 3 1 (.slice (some ⟨g1 + 1, 0, none⟩) n n) n (intsC ((ps.take u).foldl (rfPut gate) st).gs), oldA w]) (fun i _ => ps.length - (intOf i).toNat)
        case atStart => exact ⟨0, Nat.zero_le _, rfl, h5⟩
        case round =>
          clear h5
          obtain ⟨u, hu, rfl, hQ⟩ := hrel
          by_cases hlt3 : u < ps.length
          · obtain ⟨⟨px, py⟩, hp⟩ : ∃ p, ps[u]? = some p := ⟨_, List.getElem?_eq_getElem hlt3⟩
            obtain ⟨gp, rfl, _, _, hpc, _⟩ := hQ.rowAt (by omega)
            have r0 : wr.cell? ⟨gp, u * 2, none⟩ = some (.int .i64 px) := by have := hpc (u * 2 + 0) (by omega); rw [pairsC_at hp (by omega)] at this; exact this
            have r1 : wr.cell? ⟨gp, u * 2 + 1, none⟩ = some (.int .i64 py) := by rw [hpc _ (by omega), pairsC_at hp (by omega)]; rfl
            have g8 := HG8.out wr (hQ.pick 5 [0, 4])
            have huz : (u : Int) < ps.length := by omega
            have e1 : (ps.take (u + 1)).foldl (rfPut gate) st = rfPut gate ((ps.take u).foldl (rfPut gate) st) (px, py) := by rw [take_succ hp, List.foldl_append]; rfl
            have E1 := Lib.hid e1
            have hn2 : RFn n ((ps.take u).foldl (rfPut gate) st) := rfn_puts _ HNR.out
            have HN2 := Lib.hid hn2
            generalize (ps.take u).foldl (rfPut gate) st = cu at hQ E1 HN2 hn2
            clear e1 hp hpc
            by_cases hx0 : 0 ≤ px
            · obtain ⟨cn, rfl⟩ : ∃ cn : Nat, px = cn := ⟨px.toNat, by omega⟩
              by_cases hxn : cn < n
              · obtain ⟨g1', eo, _, _, hoc, hof⟩ := (hQ.pull 1).rowAt (by omega)
                injection eo with eo
                injection eo with eo
                subst eo
                obtain ⟨g3', eb, _, _, hbc, hbf⟩ := (hQ.pull 2).rowAt (by omega)
                injection eb with eb
                injection eb with eb
                subst eb
                obtain ⟨g2', eg, _, _, hgc, hgf⟩ := (hQ.pull 3).rowAt (by omega)
                injection eg with eg
                injection eg with eg
                subst eg
                obtain ⟨zo, hzo⟩ : ∃ z, cu.out[cn]? = some z := ⟨_, List.getElem?_eq_getElem (by have := hn2.o; omega)⟩
                obtain ⟨zg, hzg⟩ : ∃ z, cu.gs[cn]? = some z := ⟨_, List.getElem?_eq_getElem (by have := hn2.g; omega)⟩
                obtain ⟨zb, hzb⟩ : ∃ z, cu.bs[cn]? = some z := ⟨_, List.getElem?_eq_getElem (by have := hn2.b; omega)⟩
                have o0 : wr.cell? ⟨g1, cn, none⟩ = some (.int .i64 zo) := by rw [hoc cn (by omega), intsC, List.getElem?_map, hzo]; rfl
                have o1 := hof cn
                have b0 : wr.cell? ⟨g1 + 1 + 1, cn, none⟩ = some (.bool zb) := by rw [hbc cn (by omega), boolsC, List.getElem?_map, hzb]; rfl
                have b1 := hbf cn
                have q0 : wr.cell? ⟨g1 + 1, cn, none⟩ = some (.int .i64 zg) := by rw [hgc cn (by omega), intsC, List.getElem?_map, hzg]; rfl
                have q1 := hgf cn
                have hxz : (cn : Int) < n := by omega
                have hol := hn2.o
                have e2 : rfPut gate cu (cn, py) = if zb = false ∨ zg ≤ gate then ⟨cu.out.set cn py, cu.gs.set cn gate, cu.bs.set cn true⟩ else cu := by
                  have e3 : (cu.bs.getD cn false) = zb := by rw [List.getD, hzb]; rfl
                  have e4 : (cu.gs.getD cn 0) = zg := by rw [List.getD, hzg]; rfl
                  by_cases hk : zb = false ∨ zg ≤ gate
                  · rw [if_pos hk, rfPut, if_pos ⟨by omega, by omega, by rw [Int.toNat_natCast, e3, e4]; exact hk⟩, Int.toNat_natCast]
                  · rw [if_neg hk, rfPut, if_neg]
                    rw [Int.toNat_natCast, e3, e4]
                    exact fun h => hk h.2.2
                have ZG := Lib.hid (show (intsC cu.gs)[cn]? = some (.int .i64 zg) by rw [intsC, List.getElem?_map, hzg]; rfl)
                have ZB := Lib.hid (show (boolsC cu.bs)[cn]? = some (.bool zb) by rw [boolsC, List.getElem?_map, hzb]; rfl)
                have E2 := Lib.hid e2
                have HQ := Lib.hid hQ
                have ne1 : g1 ≠ g1 + 1 := by omega
                have ne2 : g1 ≠ g1 + 1 + 1 := by omega
                have ne3 : g1 + 1 ≠ g1 + 1 + 1 := by omega
                clear hoc hof hbc hbf hgc hgf hzo hzg hzb e2 hQ hol hn2
                have S1 := Lib.hid fun k => ((HQ.out.drewN k).pull 1).rowSet cn (.int .i64 py)
                by_cases hk : zb = false ∨ zg ≤ gate
                · have e5 : rfPut gate cu (cn, py) = ⟨cu.out.set cn py, cu.gs.set cn gate, cu.bs.set cn true⟩ := by rw [E2.out, if_pos hk]
                  have E5 := Lib.hid e5
                  have hfin : ∀ W', Star w W' [rowA 2 1 (.slice (some ⟨g1, 0, none⟩) n n) n ((intsC cu.out).set cn (.int .i64 py)), rowA 57 2 (.slice (some ⟨gp, 0, none⟩) ps.length pq) ps.length (pairsC ps), rowA 4 1 (.slice (some ⟨g1 + 1 + 1, 0, none⟩) n n) n (boolsC cu.bs), rowA 3 1 (.slice (some ⟨g1 + 1, 0, none⟩) n n) n (intsC cu.gs), oldA w] →
                      Star w ((W'.setCell ⟨g1 + 1, cn, none⟩ (.int .i64 gate)).setCell ⟨g1 + 1 + 1, cn, none⟩ (.bool true)) [rowA 57 2 (.slice (some ⟨gp, 0, none⟩) ps.length pq) ps.length (pairsC ps), rowA 2 1 (.slice (some ⟨g1, 0, none⟩) n n) n (intsC (rfPut gate cu (cn, py)).out), rowA 4 1 (.slice (some ⟨g1 + 1 + 1, 0, none⟩) n n) n (boolsC (rfPut gate cu (cn, py)).bs), rowA 3 1 (.slice (some ⟨g1 + 1, 0, none⟩) n n) n (intsC (rfPut gate cu (cn, py)).gs), oldA w] := by
                    intro W' h
                    have h1 := (h.pull 3).rowSet cn (.int .i64 gate)
                    have h2 := (h1.pull 3).rowSet cn (.bool true)
                    have h3 := h2.pick 5 [3, 2, 0, 1, 4]
                    have q1 : (intsC cu.out).set cn (.int .i64 py) = intsC (cu.out.set cn py) := by rw [intsC, intsC, List.map_set]
                    have q2 : (intsC cu.gs).set cn (.int .i64 gate) = intsC (cu.gs.set cn gate) := by rw [intsC, intsC, List.map_set]
                    have q3 : (boolsC cu.bs).set cn (.bool true) = boolsC (cu.bs.set cn true) := by rw [boolsC, boolsC, List.map_set]
                    rw [q1, q2, q3] at h3
                    rw [e5]
                    exact h3
                  have HFIN := Lib.hid hfin
                  clear hfin e5
                  cases zb with
                  | false =>
                    clear hk
                    go_wp2_with fail
                    go_quiet (fail)
                    have k1 := S1.out nq
                    have k8 := HG8.out _ (k1.pick 5 [1, 4])
                    obtain ⟨x2, x3⟩ := row1_cell (k1.pull 3) ZG.out
                    have k2 := (k1.pull 3).rowSet cn (.int .i64 gate)
                    obtain ⟨y2, y3⟩ := row1_cell (k2.pull 3) ZB.out
                    have HS3 := Lib.hid (HFIN.out _ k1)
                    clear k1 k2 S1 HFIN
                    go_wp2
                    go_roundw
                    case rel => exact ⟨u + 1, by omega, by go_num, by rw [E1.out]; exact HS3.out⟩
                    case measure => simp [intOf]; omega
                  | true =>
                    have hk2 : zg ≤ gate := by rcases hk with h | h <;> first | exact h | cases h
                    clear hk
                    go_wp2_with fail
                    go_quiet (fail)
                    have k1 := S1.out nq
                    have k8 := HG8.out _ (k1.pick 5 [1, 4])
                    obtain ⟨x2, x3⟩ := row1_cell (k1.pull 3) ZG.out
                    have k2 := (k1.pull 3).rowSet cn (.int .i64 gate)
                    obtain ⟨y2, y3⟩ := row1_cell (k2.pull 3) ZB.out
                    have HS3 := Lib.hid (HFIN.out _ k1)
                    clear k1 k2 S1 HFIN
                    go_wp2
                    go_roundw
                    case rel => exact ⟨u + 1, by omega, by go_num, by rw [E1.out]; exact HS3.out⟩
                    case measure => simp [intOf]; omega
                · obtain rfl : zb = true := by cases zb with | true => rfl | false => exact absurd (.inl rfl) hk
                  have hk2 : ¬ zg ≤ gate := fun h => hk (.inr h)
                  have e5 : rfPut gate cu (cn, py) = cu := by rw [E2.out, if_neg hk]
                  have E5 := Lib.hid e5
                  clear hk e5
                  go_wp2_with fail
                  go_quiet (fail)
                  go_wp2
                  go_roundw
                  case rel => exact ⟨u + 1, by omega, by go_num, by rw [E1.out, E5.out]; exact HQ.out.drewN nq⟩
                  case measure => simp [intOf]; omega
              · have hxz : ¬ (cn : Int) < n := by omega
                have hxd : decide (cn < n) = false := by simpa using hxn
                have hol := HN2.out.o
                have e2 : rfPut gate cu (cn, py) = cu := by
                  have : ¬ ((0 : Int) ≤ cn ∧ (cn : Int) < cu.out.length ∧ (cu.bs.getD (cn : Int).toNat false = false ∨ cu.gs.getD (cn : Int).toNat 0 ≤ gate)) := fun h => by omega
                  simp only [rfPut, if_neg this]
                have E2 := Lib.hid e2
                have HQ := Lib.hid hQ
                clear e2 hQ hn2 hol
                go_wp2_with fail
                go_quiet (fail)
                go_wp2
                go_roundw
                case rel => exact ⟨u + 1, by omega, by go_num, by rw [E1.out, E2.out]; exact HQ.out.drewN nq⟩
                case measure => simp [intOf]; omega
            · have e2 : rfPut gate cu (px, py) = cu := by
                have : ¬ ((0 : Int) ≤ px ∧ px < cu.out.length ∧ (cu.bs.getD px.toNat false = false ∨ cu.gs.getD px.toNat 0 ≤ gate)) := fun h => by omega
                simp only [rfPut, if_neg this]
              have E2 := Lib.hid e2
              have HQ := Lib.hid hQ
              have hx0d : decide (0 ≤ px) = false := decide_eq_false hx0
              clear e2 hQ hn2
              go_wp2_with fail
              go_quiet (fail)
              go_wp2
              go_roundw
              case rel => exact ⟨u + 1, by omega, by go_num, by rw [E1.out, E2.out]; exact HQ.out.drewN nq⟩
              case measure => simp [intOf]; omega
          · have hul : u = ps.length := by omega
            subst hul
            have e1 : ps.take ps.length = ps := List.take_length
            rw [e1, ← HST.out, ← HF.out] at hQ
            have HQ := Lib.hid hQ
            clear hQ e1
            go_wp2
            go_roundw
            case rel => exact ⟨j + 1, by omega, by go_num, HQ.out.drop⟩
            case measure => simp [intOf]; omega
      · have hff : (s.fate != 1) = true := by simpa using hf
        have hst : rfSto st s = st := by rw [rfSto, if_neg hf]
        have HST := Lib.hid hst
        have HR := Lib.hid hR
        clear hst hfold hnr fm ca hs hv hR hms hmk hmb hf hg HG HC8 HG2
        go_wp2
        go_roundw
        case rel => exact ⟨j + 1, by omega, by go_num, by rw [HF.out, HST.out]; exact HR.out⟩
        case measure => simp [intOf]; omega
    · have hjm : j = m := by omega
      subst hjm
      have e1 : sts.take j = sts := List.take_of_length_le (by have := HT.out.ns; omega)
      rw [e1] at hR
      have HQ := Lib.hid (hR.pick 4 [0, 3])
      have hjz : ¬ (j : Int) < j := by omega
      clear hR e1
      go_wp2
      go_ret
      exact ⟨_, _, rfl, HQ.out⟩
end Go.Proofs.Ytfekjbaojefhoaa
