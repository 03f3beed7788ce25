/- Final, over what the sort says: lemmas for the laws of ghost. Printed by gen_gh17.py. -/
import Derived.Test.YtfekjbaojefhoaaGh16
namespace Go.Proofs.Ytfekjbaojefhoaa
open Go.RowKit Go.Shelf
set_option linter.unusedVariables false

/-- a list of stories that lies in a world -/
structure Stories (w : World) (B : Option Addr) (m : Nat) (sts : List Sto) (vs : List Value) : Prop where
  row : Sl w B m 10 (stosC sts vs)
  ns : sts.length = m
  nv : vs.length = m
  mv : ∀ (i : Nat) (s : Sto) (v : Value), sts[i]? = some s → vs[i]? = some v → ∃ A k c, v = Value.slice A k c ∧ s.moves.length = k ∧ Sl w A k 6 (mvsC s.moves) ∧ k * 48 ≤ 140737488355328
theorem Sl.blk {w : World} {A : Option Addr} {k size : Nat} {xs : List Value} (hS : Sl w A k size xs) (hs : 0 < size) : ∀ g o, A = some ⟨g, o, none⟩ → 0 < k → g < w.heap.size := by
  rintro g o rfl h0
  obtain ⟨g', o', e, hg, _⟩ := hS.row h0 hs
  injection e with e
  injection e with e1 e2
  subst e1
  exact hg
theorem Sl.after {w w' : World} {L : List HA} {A : Option Addr} {k size : Nat} {xs : List Value} (hS : Sl w A k size xs) (hs : 0 < size) (h : Star w w' (oldA w :: L)) : Sl w' A k size xs := ⟨hS.1, fun h0 => by
    obtain ⟨g, o, e, hc⟩ := hS.2 h0
    exact ⟨g, o, e, fun j u hu => (h.oldCell (p := ⟨g, o + j, none⟩) (hS.blk hs g o e h0)).trans (hc j u hu)⟩⟩
def putC (out : List Int) (p : Int × Int) : List Int := if 0 ≤ p.1 ∧ p.1 < out.length then out.set p.1.toNat p.2 else out
theorem putC_len (out : List Int) (p : Int × Int) : (putC out p).length = out.length := by unfold putC; split <;> simp
theorem puts_len : ∀ (ps : List (Int × Int)) (out : List Int), (ps.foldl putC out).length = out.length
  | [], out => rfl
  | p :: ps, out => by rw [List.foldl_cons, puts_len ps, putC_len]
def putS (sts : List Sto) (out : List Int) (i : Nat) : List Int := match sts[i]? with | some s => (writesOf s.moves).foldl putC out | none => out
theorem putS_len (sts : List Sto) (out : List Int) (i : Nat) : (putS sts out i).length = out.length := by
  unfold putS
  split
  · exact puts_len _ _
  · rfl
def finalOf (sts : List Sto) (ord : List Nat) (zs : List Int) : List Int := ord.foldl (putS sts) zs
theorem final_len (sts : List Sto) : ∀ (ord : List Nat) (zs : List Int), (finalOf sts ord zs).length = zs.length
  | [], zs => rfl
  | i :: ord, zs => by
    have := final_len sts ord (putS sts zs i)
    rw [putS_len] at this
    exact this
def natsC (l : List Nat) : List Value := l.map fun i : Nat => .int .i64 (i : Int)
def byOf (sts : List Sto) (j : Nat) : List Nat := (List.range j).filter fun i => (sts[i]?.map (·.fate)) == some 1
theorem byOf_succ {sts : List Sto} {j : Nat} {s : Sto} (h : sts[j]? = some s) : byOf sts (j + 1) = byOf sts j ++ (if s.fate = 1 then [j] else []) := by
  rw [byOf, List.range_succ, List.filter_append, byOf]
  congr 1
  by_cases hf : s.fate = 1 <;> simp [h, hf]
theorem byOf_len (sts : List Sto) (j : Nat) : (byOf sts j).length ≤ j := by
  have := List.length_filter_le (fun i => (sts[i]?.map (·.fate)) == some 1) (List.range j)
  rw [List.length_range] at this
  exact this
theorem Try.info3 : (Try.prog.info? 3).map (fun i => (i.zero, i.size, i.bytes)) = some (some (.int .i64 0), 1, 8) := by kernel_rfl
/-- what the sort is to do -/
def SortsTo (w : World) (B : Option Addr) (m d : Nat) (l ord : List Nat) : Prop :=
  ord.length = l.length ∧ (∀ i ∈ ord, i < m) ∧ ∀ (a : Option Addr) (q : Nat) (W : World) (L : List HA), Star w W (rowA 3 1 (.slice a l.length q) l.length (natsC l) :: cellsA w.heap.size #[.slice B m d] 27 :: (L ++ [oldA w])) →
    Calls Try.prog 33 #[.slice a l.length q, .func (.func 34) #[] #[.pointer (some ⟨w.heap.size, 0, none⟩)]] W fun e w' => e = .returned (.tuple #[]) ∧ Star w w' (rowA 3 1 (.slice a l.length q) l.length (natsC ord) :: cellsA w.heap.size #[.slice B m d] 27 :: (L ++ [oldA w]))
set_option maxRecDepth 100000 in
set_option maxHeartbeats 6400000 in
theorem final_any (A : Option Addr) (n c : Nat) (zs : List Int) (B : Option Addr) (m d : Nat) (sts : List Sto) (vs : List Value) (ord : List Nat) (w : World) (hS : Sl w A n 1 (intsC zs)) (hb : n * 8 ≤ 140737488355328) (hT : Stories w B m sts vs) (hbm : m * 96 ≤ 140737488355328) (hO : SortsTo w B m d (byOf sts m) ord) :
    Calls Try.prog 21 #[.slice A n c, .slice B m d] w fun e w' => ∃ a c', e = .returned (.slice a n c') ∧ Star w w' [rowA 2 1 (.slice a n c') n (intsC (finalOf sts ord zs)), oldA w] := by
  obtain ⟨i0, hi, hz0, hz1, hz2⟩ := info_parts Try.info3
  have hzl : zs.length = n := by have := hS.1; rw [intsC_len] at this; omega
  have h0 := (Star.begin w).new (.cells #[.slice B m d] 27)
  have HS := Lib.hid (hS.after (by omega) h0.swap)
  have HT := Lib.hid hT
  have HO := Lib.hid hO
  have HZ := Lib.hid hzl
  clear hS hT hO hzl
  go_enter Try.func21, Try.ntmps21
  go_wp2_with fail
  refine (clone_any A n c zs _ HS.out hb).mono ?_
  rintro e' w1 ⟨oa, oc, rfl, hc⟩
  have h1 : Star w w1 [rowA 2 1 (.slice oa n oc) n (intsC zs), cellsA w.heap.size #[.slice B m d] 27, oldA w] := hc.frame (L := [_]) h0
  clear hc h0
  have l0 : w1.cell? ⟨w.heap.size, 0, none⟩ = some (.slice B m d) := (h1.pull 1).cell 0
  go_wp2_with fail
  clear l0
  go_loopw [6, 17] (fun b i wr => ∃ j : Nat, j ≤ m ∧ i = .int .i64 j ∧ ∃ a q, b = .slice a (byOf sts j).length q ∧ Star w wr [rowA 3 1 (.slice a (byOf sts j).length q) (byOf sts j).length (natsC (byOf sts j)), rowA 2 1 (.slice oa n oc) n (intsC zs), cellsA w.heap.size #[.slice B m d] 27, oldA w]) (fun _ i _ => m - (intOf i).toNat)
  case atStart => exact ⟨0, Nat.zero_le _, rfl, none, 0, rfl, h1.rowNil 3 1⟩
  case round =>
    clear h1
    obtain ⟨j, hj, rfl, a, q, rfl, hR⟩ := hrel
    have hbl := byOf_len sts j
    by_cases hlt : j < m
    · obtain ⟨s, hs⟩ : ∃ s, sts[j]? = some s := ⟨_, List.getElem?_eq_getElem (by have := HT.out.ns; omega)⟩
      obtain ⟨v, hv⟩ : ∃ v, vs[j]? = some v := ⟨_, List.getElem?_eq_getElem (by have := HT.out.nv; omega)⟩
      obtain ⟨MA, mk, mc, rfl, _, _, _⟩ := HT.out.mv j s v hs hv
      obtain ⟨g, o, rfl, hg, ca⟩ := HT.out.row.row hlt (by omega)
      have fm : ∀ i u, (stoC s (.slice MA mk mc))[i]? = some u → i < 10 → wr.cell? ⟨g, o + j * 10 + i, none⟩ = some u := fun i u hu hi => ((hR.pull 3).oldCell hg).trans (ca i u (by rw [stosC_at hs hv hi]; exact hu))
      have a0 := fm 0 _ rfl (by omega)
      have a1 := fm 1 _ rfl (by omega)
      have a2 := fm 2 _ rfl (by omega)
      have a3 := fm 3 _ rfl (by omega)
      have a4 := fm 4 _ rfl (by omega)
      have a5 := fm 5 _ rfl (by omega)
      have a6 := fm 6 _ rfl (by omega)
      have a7 := fm 7 _ rfl (by omega)
      have a8 := fm 8 _ rfl (by omega)
      have a9 := fm 9 _ rfl (by omega)
      simp only [Nat.add_zero] at a0
      have hjz : (j : Int) < m := by omega
      have HBS := Lib.hid (byOf_succ hs)
      have h1 := hR.new (.cells #[.int .i64 s.thread, .int .i64 s.stamp, .int .i64 s.begin_, .int .i64 s.end_, .int .i64 s.fate, .int .i64 s.e, .int .i64 s.by_, .int .i64 s.opens, .int .i64 s.gate, .slice MA mk mc] 36)
      have s4 : (wr.alloc (.cells #[.int .i64 s.thread, .int .i64 s.stamp, .int .i64 s.begin_, .int .i64 s.end_, .int .i64 s.fate, .int .i64 s.e, .int .i64 s.by_, .int .i64 s.opens, .int .i64 s.gate, .slice MA mk mc] 36)).cell? ⟨wr.heap.size, 4, none⟩ = some (.int .i64 s.fate) := h1.cell 4
      have H1 := Lib.hid h1
      clear fm ca hs hv hR h1
      by_cases hf : s.fate = 1
      · have hff : (s.fate == 1) = true := by simpa using hf
        have e1 : byOf sts (j + 1) = byOf sts j ++ [j] := by rw [HBS.out, if_pos hf]
        have E1 := Lib.hid e1
        have hN := (H1.out.new (.cells #[.int .i64 j] 3)).pull 2
        clear e1 hf
        go_wp2_with (at_builtin; refine wpList_append_star rfl _ _ 58 rfl 3 i0 _ 1 8 Try.underlying58 hi hz0 hz1 hz2 rfl (by decide) _ (byOf sts j).length _ rfl hN ⟨wr.heap.size + 1, 0, none⟩ 1 1 [.int .i64 j] rfl rfl (cell_list_new _ _ (by simp) _ _) (by simp [Value.oneCell']) (by simp only [maxLen]; omega) (by omega) ?_; intro a' c' w4 h5)
        go_roundw
        case rel =>
          refine ⟨j + 1, by omega, by go_num, a', c', by rw [E1.out]; simp, ?_⟩
          rw [E1.out, List.length_append]
          have h6 := h5.pick 6 [0, 3, 4, 5]
          have e2 : natsC (byOf sts j ++ [j]) = natsC (byOf sts j) ++ [.int .i64 j] := by simp [natsC]
          rw [e2]
          exact h6
        case measure => simp [intOf]; omega
      · have hff : (s.fate == 1) = false := by simpa using hf
        have e1 : byOf sts (j + 1) = byOf sts j := by rw [HBS.out, if_neg hf, List.append_nil]
        have E1 := Lib.hid e1
        clear e1 hf
        go_wp2
        go_roundw
        case rel =>
          refine ⟨j + 1, by omega, by go_num, a, q, by rw [E1.out], ?_⟩
          rw [E1.out]
          exact H1.out.drop
        case measure => simp [intOf]; omega
    · have hkn : j = m := by omega
      subst hkn
      have H1 := Lib.hid hR
      clear hR
      have HO2 := HO.out
      have hol := HO2.1
      have l0 : wr.cell? ⟨w.heap.size, 0, none⟩ = some (.slice B j d) := (H1.out.pull 2).cell 0
      go_wp2_with fail
      refine (HO2.2.2 a q wr [rowA 2 1 (.slice oa n oc) n (intsC zs)] (H1.out.pick 4 [0, 2, 1, 3])).mono ?_
      rintro e' w2 ⟨rfl, h2⟩
      have h3 := h2.pick 4 [2, 0, 1, 3]
      have HM := Lib.hid HO2.2.1
      clear HO2 h2 l0 HO H1
      rw [← hol] at h3
      have HOL := Lib.hid hol
      clear hol
      go_wp2_with fail
      have HOL2 := HOL.out
      rw [← HOL2]
      clear HOL2
      go_loopw [35] (fun i wz => ∃ t : Nat, t ≤ ord.length ∧ i = .int .i64 t ∧ Star w wz [rowA 2 1 (.slice oa n oc) n (intsC (finalOf sts (ord.take t) zs)), rowA 3 1 (.slice a ord.length q) ord.length (natsC ord), cellsA w.heap.size #[.slice B j d] 27, oldA w]) (fun i _ => ord.length - (intOf i).toNat)
      case atStart => exact ⟨0, Nat.zero_le _, rfl, h3⟩
      case round =>
        clear h3
        obtain ⟨t, ht, rfl, hR⟩ := hrel
        have hto : ord.length ≤ j := by have := HOL.out; omega
        by_cases hlt2 : t < ord.length
        · obtain ⟨i, hi'⟩ : ∃ i, ord[t]? = some i := ⟨_, List.getElem?_eq_getElem hlt2⟩
          have him : i < j := HM.out i (List.mem_of_getElem? hi')
          obtain ⟨s, hs⟩ : ∃ s, sts[i]? = some s := ⟨_, List.getElem?_eq_getElem (by have := HT.out.ns; omega)⟩
          obtain ⟨v, hv⟩ : ∃ v, vs[i]? = some v := ⟨_, List.getElem?_eq_getElem (by have := HT.out.nv; omega)⟩
          obtain ⟨MA, mk, mc, rfl, hmk, hms, hmb⟩ := HT.out.mv i s v hs hv
          obtain ⟨gb, rfl, _, _, hbc, _⟩ := (hR.pull 1).rowAt (by omega)
          have b0 : wr.cell? ⟨gb, t, none⟩ = some (.int .i64 i) := by rw [hbc t (by omega), natsC, List.getElem?_map, hi']; rfl
          obtain ⟨g, o, rfl, hg, ca⟩ := HT.out.row.row him (by omega)
          have fm : ∀ i' u, (stoC s (.slice MA mk mc))[i']? = some u → i' < 10 → wr.cell? ⟨g, o + i * 10 + i', none⟩ = some u := fun i' u hu hi => ((hR.pull 3).oldCell hg).trans (ca i' u (by rw [stosC_at hs hv hi]; exact hu))
          have a0 := fm 0 _ rfl (by omega)
          have a1 := fm 1 _ rfl (by omega)
          have a2 := fm 2 _ rfl (by omega)
          have a3 := fm 3 _ rfl (by omega)
          have a4 := fm 4 _ rfl (by omega)
          have a5 := fm 5 _ rfl (by omega)
          have a6 := fm 6 _ rfl (by omega)
          have a7 := fm 7 _ rfl (by omega)
          have a8 := fm 8 _ rfl (by omega)
          have a9 := fm 9 _ rfl (by omega)
          simp only [Nat.add_zero] at a0
          have l0 : wr.cell? ⟨w.heap.size, 0, none⟩ = some (.slice (some ⟨g, o, none⟩) j d) := (hR.pull 2).cell 0
          have hiz : (i : Int) < j := by omega
          have htz : (t : Int) < ord.length := by omega
          have HW := Lib.hid (writes_any s MA mk mc wr (hms.after (by omega) (hR.pull 3)) hmk hmb)
          have hfin : finalOf sts (ord.take (t + 1)) zs = (writesOf s.moves).foldl putC (finalOf sts (ord.take t) zs) := by
            rw [take_succ hi', finalOf, List.foldl_append]
            simp only [List.foldl_cons, List.foldl_nil, putS, hs]
            rfl
          have HF := Lib.hid hfin
          have hwl : (writesOf s.moves).length ≤ 2932031007402 := by have := writes_len s.moves; rw [writesOf]; omega
          have hcl : (finalOf sts (ord.take t) zs).length = n := by rw [final_len]; exact HZ.out
          have HH := Lib.hid hR
          clear hfin fm ca hbc hs hv hi' hms hmk hmb hR
          go_wp2_with fail
          refine HW.out.mono ?_
          rintro e' w5 ⟨pa, pq, rfl, hw5⟩
          have h5 := hw5.frame (L := [_]) HH.out
          generalize finalOf sts (ord.take t) zs = cur at h5 HF hcl
          clear hw5 HH HW l0 b0 a0 a1 a2 a3 a4 a5 a6 a7 a8 a9
          generalize hps : writesOf s.moves = ps at h5 HF hwl ⊢
          clear hps
          go_wp2_with fail
          go_loopw [45] (fun i wz => ∃ u : Nat, u ≤ ps.length ∧ i = .int .i64 u ∧ Star w wz [rowA 57 2 (.slice pa ps.length pq) ps.length (pairsC ps), rowA 2 1 (.slice oa n oc) n (intsC ((ps.take u).foldl putC cur)), rowA 3 1 (.slice (some ⟨gb, 0, none⟩) ord.length q) ord.length (natsC ord), cellsA w.heap.size #[.slice (some ⟨g, o, none⟩) j d] 27, oldA w]) (fun i _ => ps.length - (intOf i).toNat)
          case atStart => exact ⟨0, Nat.zero_le _, rfl, h5⟩
          case round =>
            clear h5
            obtain ⟨u, hu, rfl, hQ⟩ := hrel
            by_cases hlt3 : u < ps.length
            · obtain ⟨⟨px, py⟩, hp⟩ : ∃ p, ps[u]? = some p := ⟨_, List.getElem?_eq_getElem hlt3⟩
              obtain ⟨gp, rfl, _, _, hpc, _⟩ := hQ.rowAt (by omega)
              have r0 : wr.cell? ⟨gp, u * 2, none⟩ = some (.int .i64 px) := by have := hpc (u * 2 + 0) (by omega); rw [pairsC_at hp (by omega)] at this; exact this
              have r1 : wr.cell? ⟨gp, u * 2 + 1, none⟩ = some (.int .i64 py) := by rw [hpc _ (by omega), pairsC_at hp (by omega)]; rfl
              have huz : (u : Int) < ps.length := by omega
              have e1 : (ps.take (u + 1)).foldl putC cur = putC ((ps.take u).foldl putC cur) (px, py) := by rw [take_succ hp, List.foldl_append]; rfl
              have E1 := Lib.hid e1
              have hcl2 : ((ps.take u).foldl putC cur).length = n := by rw [puts_len]; exact hcl
              generalize (ps.take u).foldl putC cur = cu at hQ E1 hcl2
              have h6 := hQ.new (.cells #[.int .i64 px, .int .i64 py] 57)
              have p0 : (wr.alloc (.cells #[.int .i64 px, .int .i64 py] 57)).cell? ⟨wr.heap.size, 0, none⟩ = some (.int .i64 px) := h6.cell 0
              have p1 : (wr.alloc (.cells #[.int .i64 px, .int .i64 py] 57)).cell? ⟨wr.heap.size, 1, none⟩ = some (.int .i64 py) := h6.cell 1
              clear e1 hp hpc hQ hcl
              by_cases hx0 : 0 ≤ px
              · obtain ⟨cn, rfl⟩ : ∃ cn : Nat, px = cn := ⟨px.toNat, by omega⟩
                by_cases hxn : cn < n
                · obtain ⟨go, rfl, _, _, hoc, hof⟩ := (h6.pull 2).rowAt (by omega)
                  obtain ⟨z, hz⟩ : ∃ z, cu[cn]? = some z := ⟨_, List.getElem?_eq_getElem (by omega)⟩
                  have o0 : (wr.alloc (.cells #[.int .i64 cn, .int .i64 py] 57)).cell? ⟨go, cn, none⟩ = some (.int .i64 z) := by rw [hoc cn (by omega), intsC, List.getElem?_map, hz]; rfl
                  have o1 := hof cn
                  have hxz : (cn : Int) < n := by omega
                  have e2 : putC cu (cn, py) = cu.set cn py := by
                    have : (0 : Int) ≤ cn ∧ (cn : Int) < cu.length := by omega
                    simp only [putC, if_pos this, Int.toNat_natCast]
                  have E2 := Lib.hid e2
                  have H6 := Lib.hid h6
                  have HC := Lib.hid hcl2
                  clear hoc hof e2 h6 hz hcl2
                  go_wp2
                  go_roundw
                  case rel =>
                    refine ⟨u + 1, by omega, by go_num, ?_⟩
                    rw [E1.out, E2.out]
                    have k1 := (H6.out.pull 2).rowSet cn (.int .i64 py)
                    have e3 : (intsC cu).set cn (.int .i64 py) = intsC (cu.set cn py) := by rw [intsC, intsC, List.map_set]
                    rw [e3] at k1
                    exact k1.pick 6 [2, 0, 3, 4, 5]
                  case measure => simp [intOf]; omega
                · have hxz : ¬ (cn : Int) < n := by omega
                  have e2 : putC cu (cn, py) = cu := by
                    have : ¬ ((0 : Int) ≤ cn ∧ (cn : Int) < cu.length) := by omega
                    simp only [putC, if_neg this]
                  have E2 := Lib.hid e2
                  have H6 := Lib.hid h6
                  clear e2 h6 hcl2
                  go_wp2
                  go_roundw
                  case rel => exact ⟨u + 1, by omega, by go_num, by rw [E1.out, E2.out]; exact H6.out.drop⟩
                  case measure => simp [intOf]; omega
              · have e2 : putC cu (px, py) = cu := by
                  have : ¬ ((0 : Int) ≤ px ∧ px < cu.length) := by omega
                  simp only [putC, if_neg this]
                have E2 := Lib.hid e2
                have H6 := Lib.hid h6
                clear e2 h6 hcl2
                go_wp2
                go_roundw
                case rel => exact ⟨u + 1, by omega, by go_num, by rw [E1.out, E2.out]; exact H6.out.drop⟩
                case measure => simp [intOf]; omega
            · have hul : u = ps.length := by omega
              subst hul
              have e1 : ps.take ps.length = ps := List.take_length
              rw [e1, ← HF.out] at hQ
              have HQ := Lib.hid hQ
              clear hQ e1
              go_wp2
              go_roundw
              case rel => exact ⟨t + 1, by omega, by go_num, HQ.out.pick 5 [1, 2, 3, 4]⟩
              case measure => simp [intOf]; omega
        · have hul : t = ord.length := by omega
          subst hul
          have e1 : ord.take ord.length = ord := List.take_length
          rw [e1] at hR
          have HQ := Lib.hid (hR.pick 4 [0, 3])
          clear hR e1
          go_wp2
          go_ret
          exact ⟨oa, oc, rfl, HQ.out⟩
end Go.Proofs.Ytfekjbaojefhoaa
