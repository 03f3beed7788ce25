/- Order: lemmas for the laws of layer 22. -/
import Derived.Test.YtljdkfhkpjjfgaaOp3
namespace Go.Proofs.Ytljdkfhkpjjfgaa
open Go.RowKit Go.Shelf
set_option linter.unusedVariables false

def ptsOf (sts : List Sto) : List Pt := sts.map ptOf
def orderOf (sts : List Sto) : List Nat := sortT (lessOf (cvP (ptsOf sts))) (List.range sts.length)
set_option maxRecDepth 100000 in
set_option maxHeartbeats 6400000 in
theorem order_any (B : Option Addr) (m d : Nat) (sts : List Sto) (vs : List Value) (w : World) (hT : Stories w B m sts vs) (hbm : m * 96 ≤ 140737488355328) :
    Calls Try.prog 11 #[.slice B m d] w fun e w' => ∃ a c', e = .returned (.slice a m c') ∧ Star w w' [rowA 3 1 (.slice a m c') m (natsC (orderOf sts)), oldA w] := by
  obtain ⟨i0, hi, hz0, hz1, hz2⟩ := info_parts Try.info3
  obtain ⟨i1, hi1, hy0, hy1, hy2⟩ := info_parts Try.info53
  have h0 := (Star.begin w).new (.cells #[.slice none 0 0] 51)
  have l0 : (w.alloc (.cells #[.slice none 0 0] 51)).cell? ⟨w.heap.size, 0, none⟩ = some (.slice none 0 0) := h0.cell 0
  have HT := Lib.hid hT
  clear hT
  go_enter Try.func11, Try.ntmps11
  go_wp2_with fail
  clear l0
  go_loopw [3, 9] (fun b i wr => ∃ j : Nat, j ≤ m ∧ i = .int .i64 j ∧ ∃ a q pa pq, b = .slice a j q ∧ Star w wr [rowA 3 1 (.slice a j q) j (natsC (List.range j)), cellsA w.heap.size #[.slice pa j pq] 51, rowA 53 3 (.slice pa j pq) j (ptsC ((ptsOf sts).take j)), oldA w]) (fun _ i _ => m - (intOf i).toNat)
  case atStart => exact ⟨0, Nat.zero_le _, rfl, none, 0, none, 0, rfl, ((h0.rowNil 53 3).pull 1).rowNil 3 1⟩
  case round =>
    clear h0
    obtain ⟨j, hj, rfl, a, q, pa, pq, rfl, hR⟩ := hrel
    by_cases hlt : j < m
    · obtain ⟨s, hs⟩ : ∃ s, sts[j]? = some s := ⟨_, List.getElem?_eq_getElem (by have := HT.out.ns; omega)⟩
      obtain ⟨v, hv⟩ : ∃ v, vs[j]? = some v := ⟨_, List.getElem?_eq_getElem (by have := HT.out.nv; omega)⟩
      obtain ⟨MA, mk, mc, rfl, hmk, hms, hmb⟩ := HT.out.mv j s v hs hv
      obtain ⟨g, o, rfl, hg, ca⟩ := HT.out.row.row hlt (by omega)
      have fm : ∀ i u, (stoC s (.slice MA mk mc))[i]? = some u → i < 10 → wr.cell? ⟨g, o + j * 10 + i, none⟩ = some u := fun i u hu hi => ((hR.pull 3).oldCell hg).trans (ca i u (by rw [stosC_at hs hv hi]; exact hu))
      have a0 := fm 0 _ rfl (by omega)
      have a1 := fm 1 _ rfl (by omega)
      have a2 := fm 2 _ rfl (by omega)
      have a3 := fm 3 _ rfl (by omega)
      have a4 := fm 4 _ rfl (by omega)
      have a5 := fm 5 _ rfl (by omega)
      have a6 := fm 6 _ rfl (by omega)
      have a7 := fm 7 _ rfl (by omega)
      have a8 := fm 8 _ rfl (by omega)
      have a9 := fm 9 _ rfl (by omega)
      simp only [Nat.add_zero] at a0
      have hjz : (j : Int) < m := by omega
      have h1 := hR.new (.cells (stoC s (.slice MA mk mc)).toArray 44)
      have hN := (h1.new (.cells #[.int .i64 j] 3)).pull 2
      simp only [World.size_alloc] at hN
      have hpt : (ptsOf sts).take (j + 1) = (ptsOf sts).take j ++ [ptOf s] := take_succ (by rw [ptsOf, List.getElem?_map, hs]; rfl)
      have HPT := Lib.hid hpt
      have HMS := Lib.hid hms
      have HMK := Lib.hid hmk
      clear fm ca hs hv hR h1 hpt hms hmk
      go_wp2_with (at_builtin; refine wpList_append_star rfl _ _ 24 rfl 3 i0 _ 1 8 Try.underlying24 hi hz0 hz1 hz2 rfl (by decide) _ j _ rfl hN ⟨wr.heap.size + 1, 0, none⟩ 1 1 [.int .i64 j] rfl rfl (cell_list_new _ _ (by simp) _ _) (by simp [Value.oneCell']) (by simp only [maxLen]; omega) (by omega) ?_; intro a' c' w4 h5)
      have h6 : Star w w4 [rowA 53 3 (.slice pa j pq) j (ptsC ((ptsOf sts).take j)), cellsA w.heap.size #[.slice pa j pq] 51, cellsA wr.heap.size (stoC s (.slice MA mk mc)).toArray 44, rowA 3 1 (.slice a' (j + 1) c') (j + 1) (natsC (List.range j) ++ [.int .i64 j]), oldA w] := h5.pick 6 [4, 3, 2, 0, 5]
      clear h5 hN a0 a1 a2 a3 a4 a5 a6 a7 a8 a9
      have l0 : w4.cell? ⟨w.heap.size, 0, none⟩ = some (.slice pa j pq) := (h6.pull 1).cell 0
      have c0 : w4.cell? ⟨wr.heap.size, 0, none⟩ = some (.int .i64 s.thread) := (h6.pull 2).cell 0
      have c1 : w4.cell? ⟨wr.heap.size, 1, none⟩ = some (.int .i64 s.stamp) := (h6.pull 2).cell 1
      have c2 : w4.cell? ⟨wr.heap.size, 2, none⟩ = some (.int .i64 s.begin_) := (h6.pull 2).cell 2
      have c3 : w4.cell? ⟨wr.heap.size, 3, none⟩ = some (.int .i64 s.end_) := (h6.pull 2).cell 3
      have c4 : w4.cell? ⟨wr.heap.size, 4, none⟩ = some (.int .i64 s.fate) := (h6.pull 2).cell 4
      have c5 : w4.cell? ⟨wr.heap.size, 5, none⟩ = some (.int .i64 s.e) := (h6.pull 2).cell 5
      have c6 : w4.cell? ⟨wr.heap.size, 6, none⟩ = some (.int .i64 s.by_) := (h6.pull 2).cell 6
      have c7 : w4.cell? ⟨wr.heap.size, 7, none⟩ = some (.int .i64 s.opens) := (h6.pull 2).cell 7
      have c8 : w4.cell? ⟨wr.heap.size, 8, none⟩ = some (.int .i64 s.gate) := (h6.pull 2).cell 8
      have c9 : w4.cell? ⟨wr.heap.size, 9, none⟩ = some (.slice MA mk mc) := (h6.pull 2).cell 9
      have ofc := of_any s MA mk mc w4.drew (HMS.out.after (by omega) (h6.drew.pull 4)) HMK.out hmb
      rw [show ptsOf sts = ptsOf sts from rfl] at HPT
      obtain ⟨pp, hpp⟩ : ∃ pp, pp = ptOf s := ⟨_, rfl⟩
      rw [← hpp] at ofc HPT
      obtain ⟨p0, p1, p2⟩ := pp
      have of1 : Calls Try.prog 22 #[.agg #[.int .i64 s.thread, .int .i64 s.stamp, .int .i64 s.begin_, .int .i64 s.end_, .int .i64 s.fate, .int .i64 s.e, .int .i64 s.by_, .int .i64 s.opens, .int .i64 s.gate, .slice MA mk mc]] w4.drew fun e w' => e = .returned (.agg #[.int .i64 p0, .int .i64 p1, .int .i64 p2]) ∧ Below w4.drew.heap.size w4.drew w' := ofc
      have OF := Lib.hid of1
      have H6 := Lib.hid h6
      clear h6 HMS HMK ofc of1 hpp
      go_region_law (first
        | (refine step_append_star_any rfl (.tmp 18) (.tmp 21) 51 rfl 53 i1 _ 3 24 Try.underlying51 hi1 hy0 hy1 hy2 rfl (by decide) _ j _ rfl hP (some ⟨wv.heap.size, 0, none⟩) 1 1 [.int .i64 p0, .int .i64 p1, .int .i64 p2] rfl rfl (fun _ => ⟨_, rfl, cell_list_new _ _ (by simp) _ _⟩) (by simp [Value.oneCell']) (by simp only [maxLen]; omega) (by omega) ?_; intro pa' pc' wA hA; have hB : Star w wA [rowA 53 3 (.slice pa' (j + 1) pc') (j + 1) (ptsC ((ptsOf sts).take j) ++ [.int .i64 p0, .int .i64 p1, .int .i64 p2]), atA wv.heap.size (.cells #[.int .i64 p0, .int .i64 p1, .int .i64 p2] 53), cellsA w.heap.size #[.slice pa j pq] 51, cellsA wr.heap.size (stoC s (.slice MA mk mc)).toArray 44, rowA 3 1 (.slice a' (j + 1) c') (j + 1) (natsC (List.range j) ++ [.int .i64 j]), oldA w] := hA; have bA : wA.cell? ⟨w.heap.size, 0, none⟩ = some (.slice pa j pq) := (hB.pull 2).cell 0; have fA := (hB.pull 2).frozen 0)
        | (go_simp; go_at_call 22; refine OF.out.mono ?_; rintro e wv ⟨rfl, hb⟩; have hV := H6.out.drew.of_below hb; have lv : wv.cell? ⟨w.heap.size, 0, none⟩ = some (.slice pa j pq) := (hV.pull 1).cell 0; have hP := (hV.new (.cells #[.int .i64 p0, .int .i64 p1, .int .i64 p2] 53)).pull 1; have lp : (wv.alloc (.cells #[.int .i64 p0, .int .i64 p1, .int .i64 p2] 53)).cell? ⟨w.heap.size, 0, none⟩ = some (.slice pa j pq) := (hP.pull 2).cell 0))
      all_goals
        have hC := (hB.pull 2).set 0 (.slice pa' (j + 1) pc')
        have HC := Lib.hid hC
        clear hC hB hA bA fA lv lp hP hV hb OF H6 l0 c0 c1 c2 c3 c4 c5 c6 c7 c8 c9
        go_wp2
        go_roundw
        case rel =>
          refine ⟨j + 1, by omega, by go_num, a', c', pa', pc', rfl, ?_⟩
          rw [HPT.out, ptsC_snoc, List.range_succ]
          have e2 : natsC (List.range j ++ [j]) = natsC (List.range j) ++ [.int .i64 j] := by simp [natsC]
          rw [e2]
          exact HC.out.pick 6 [4, 0, 1, 5]
        case measure => simp [intOf]; omega
    · have hkn : j = m := by omega
      subst hkn
      have hL : (ptsOf sts).take j = ptsOf sts := List.take_of_length_le (by rw [ptsOf, List.length_map]; have := HT.out.ns; omega)
      rw [hL] at hR
      have hsl : sts.length = j := HT.out.ns
      have hpl : (ptsOf sts).length = j := by rw [ptsOf, List.length_map, hsl]
      have SORT : Calls Try.prog 23 #[.slice a j q, .func (.func 24) #[] #[.pointer (some ⟨w.heap.size, 0, none⟩)]] wr fun e w' => e = .returned (.tuple #[]) ∧ Star w w' [rowA 3 1 (.slice a j q) j (natsC (orderOf sts)), cellsA w.heap.size #[.slice pa j pq] 51, rowA 53 3 (.slice pa j pq) j (ptsC (ptsOf sts)), oldA w] := by
        rw [orderOf, hsl]
        have hsp := sortT_sp (weak_pts (ptsOf sts)) (List.range j) List.pairwise_lt_range
        rcases Nat.eq_zero_or_pos j with h0 | h0
        · subst h0
          refine (sort_none a q _ wr).mono ?_
          rintro e w' ⟨rfl, rfl⟩
          exact ⟨rfl, hR⟩
        · obtain ⟨g, rfl, -⟩ := hR.rowAt (by omega)
          obtain ⟨gp, rfl, -⟩ := (hR.pull 2).rowAt (by omega)
          refine (sort_any g j q (List.range j) (.pointer (some ⟨w.heap.size, 0, none⟩)) (· < j) (cvP (ptsOf sts)) w wr _ (by omega) List.pairwise_lt_range (fun x hx => List.mem_range.1 hx) (weak_pts _) (fun l W' x y hx hy hS' => ?_) hR).mono ?_
          · obtain ⟨ad, ea, hc⟩ := (hS'.pull 2).rowSrc (by omega)
            injection ea with ea
            subst ea
            have hc' : ∀ i u, (ptsC (ptsOf sts))[i]? = some u → W'.cell? ⟨gp, i, none⟩ = some u := fun i u hu => by
              have := hc i u hu
              by_cases hi0 : i = 0 <;> simpa [Addr.add, hi0] using this
            have hb := (hS'.pull 1).cell 0
            refine clP_any w.heap.size gp j pq (ptsOf sts) x y W' hx hy hpl hb hc' (by omega) (World.block_lt_of_cell? _ _ hb) (World.block_lt_of_cell? _ _ (hc' 0 _ (List.getElem?_eq_getElem (by rw [ptsC_len]; omega))))
          · rintro e w' ⟨rfl, z, hz, h1⟩
            have : z = sortT (lessOf (cvP (ptsOf sts))) (List.range j) := sorted_unique (weak_pts _) (hz.1.trans hsp.1.symm) hz.2 hsp.2
            rw [this] at h1
            exact ⟨rfl, h1⟩
      have SO := Lib.hid SORT
      clear hR SORT hL
      go_wp2_with fail
      refine SO.out.mono ?_
      rintro e' w2 ⟨rfl, h2⟩
      have H2 := Lib.hid h2
      clear h2 SO
      go_wp2
      go_ret
      exact ⟨a, q, rfl, H2.out.pick 4 [0, 3]⟩
end Go.Proofs.Ytljdkfhkpjjfgaa
