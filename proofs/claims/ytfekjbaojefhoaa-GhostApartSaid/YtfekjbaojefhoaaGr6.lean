/- GhostApart, walked: lemmas for the laws of ghost. Printed by gen_gr6.py. -/
import Derived.Test.YtfekjbaojefhoaaGr5
namespace Go.Proofs.Ytfekjbaojefhoaa
open Go.RowKit Go.Shelf
set_option linter.unusedVariables false

theorem evC_one (e : Ev) : ∀ u ∈ evC e, u.oneCell' = true := by intro u hu; simp only [evC, List.mem_cons, List.not_mem_nil, or_false] at hu; rcases hu with rfl | rfl | rfl | rfl | rfl | rfl | rfl | rfl | rfl | rfl <;> rfl
theorem evsC_snoc (es : List Ev) (e : Ev) : evsC (es ++ [e]) = evsC es ++ evC e := by simp [evsC]
theorem sto_one (s : Sto) (a : Option Addr) (k c : Nat) : ∀ u ∈ stoC s (.slice a k c), u.oneCell' = true := by intro u hu; simp only [stoC, List.mem_cons, List.not_mem_nil, or_false] at hu; rcases hu with rfl | rfl | rfl | rfl | rfl | rfl | rfl | rfl | rfl | rfl <;> rfl
theorem filt_le {α : Type} (p : α → Bool) (l : List α) (j : Nat) (h : j ≤ l.length) : ((l.take j).filter p).length ≤ j := by
  have := List.length_filter_le p (l.take j)
  rw [List.length_take] at this
  omega
/-- of stories with their slices those of one thread, as far as the walk has come -/
def ownP (t : Int) (al : List Sto) (vs : List Value) (j : Nat) : List (Sto × Value) := ((al.zip vs).take j).filter fun p => ofT t p.1
def ownS (t : Int) (al : List Sto) (vs : List Value) (j : Nat) : List Sto := (ownP t al vs j).map (·.1)
def ownV (t : Int) (al : List Sto) (vs : List Value) (j : Nat) : List Value := (ownP t al vs j).map (·.2)
theorem own_len (t : Int) (al : List Sto) (vs : List Value) (j : Nat) : (ownV t al vs j).length = (ownS t al vs j).length := by rw [ownV, ownS, List.length_map, List.length_map]
theorem own_all {t : Int} {al : List Sto} {vs : List Value} (h : vs.length = al.length) : ownS t al vs al.length = al.filter (ofT t) := by
  have e : (al.zip vs).take al.length = al.zip vs := List.take_of_length_le (by rw [List.length_zip]; omega)
  rw [ownS, ownP, e]
  have := List.filter_map (f := fun p : Sto × Value => p.1) (p := ofT t) (l := al.zip vs)
  rw [List.map_fst_zip (by omega)] at this
  exact this.symm
theorem own_succ {t : Int} {al : List Sto} {vs : List Value} {j : Nat} {s : Sto} {v : Value} (hs : al[j]? = some s) (hv : vs[j]? = some v) : ownP t al vs (j + 1) = ownP t al vs j ++ (if ofT t s = true then [(s, v)] else []) := by
  have hz : (al.zip vs)[j]? = some (s, v) := by rw [List.getElem?_zip_eq_some]; exact ⟨hs, hv⟩
  rw [ownP, take_succ hz, List.filter_append, ownP]
  congr 1
  by_cases h : ofT t s = true
  · rw [if_pos h, List.filter_cons, if_pos h]; rfl
  · rw [if_neg h, List.filter_cons, if_neg h]; rfl
theorem own_mem {t : Int} {al : List Sto} {vs : List Value} {j i : Nat} {s : Sto} {v : Value} (hs : (ownS t al vs j)[i]? = some s) (hv : (ownV t al vs j)[i]? = some v) : ∃ k : Nat, al[k]? = some s ∧ vs[k]? = some v := by
  rw [ownS, List.getElem?_map] at hs
  rw [ownV, List.getElem?_map] at hv
  cases hp : (ownP t al vs j)[i]? with
  | none => rw [hp] at hs; cases hs
  | some p =>
    rw [hp] at hs hv
    injection hs with hs
    injection hv with hv
    have hm : p ∈ ownP t al vs j := List.mem_of_getElem? hp
    have hm2 : p ∈ al.zip vs := List.mem_of_mem_take (List.mem_filter.1 hm).1
    obtain ⟨k, hk⟩ := List.mem_iff_getElem?.1 hm2
    rw [List.getElem?_zip_eq_some] at hk
    exact ⟨k, hs ▸ hk.1, hv ▸ hk.2⟩
theorem bld_half (evs : List Ev) : 2 * (bldS evs).length ≤ evs.length + 8 := by
  unfold bldS
  cases hr : runE evs with
  | none => simp
  | some t =>
    have hi := inv_run (evs := evs) (Nat.le_refl _) (by rw [List.take_length]; exact hr)
    have := hi.few
    have := cnt_le t.opn
    show 2 * t.sts.length ≤ _
    omega
set_option maxRecDepth 100000 in
set_option maxHeartbeats 12800000 in
theorem apart_walk (A : Option Addr) (n c : Nat) (evs : List Ev) (t : Int) (w : World) (hE : Sl w A n 10 (evsC evs)) (hn : evs.length = n) (hbig : n * 80 ≤ 140737488355328) :
    Calls Try.prog 8 #[.slice A n c, .int .i64 t] w fun e w' => e = .returned (.bool true) ∧ Below w.heap.size w w' := by
  obtain ⟨i0, hi, hz0, hz1, hz2⟩ := info_parts Try.info26
  obtain ⟨i1, gi, gz0, gz1, gz2⟩ := info_parts Try.info36
  have HE := Lib.hid hE
  have HN := Lib.hid hn
  have h0 := Star.begin w
  clear hE hn
  go_enter Try.func8, Try.ntmps8
  go_wp2_with fail
  refine (awake_any _).mono ?_
  rintro e' w1 ⟨rfl, hb1⟩
  have h1 := Star.of_below h0 hb1
  have B1 := Lib.hid (build_any A n c evs w1 (HE.out.after (by omega) h1) HN.out (by omega))
  have H1 := Lib.hid h1
  clear h0 hb1 h1
  go_wp2_with fail
  refine B1.out.mono ?_
  rintro e' w2 ⟨a2, c2, rfl, h2⟩
  have h3 := h2.frame (L := [_]) H1.out
  clear h2 B1 H1
  by_cases hok : bldOk evs = true
  case neg =>
    have e1 : bldCode evs = 210 := by simp [bldCode, hok]
    have H5 := Lib.hid (h3.pull 1).below
    rw [e1]
    clear h3 e1 hok
    go_wp2
    go_ret
    exact ⟨rfl, H5.out⟩
  case pos =>
    obtain ⟨p1, p2⟩ := apart_mine t hok
    obtain ⟨p3, p4⟩ := apart_quiet hok
    have e1 : bldCode evs = 0 := by simp [bldCode, hok]
    rw [e1]
    have e2 : bldCode (evs.filter (evT t)) = 0 := by simp [bldCode, p1]
    have e3 : bldCode (evs.filter notSlots) = 0 := by simp [bldCode, p3]
    have hmv : ∀ s ∈ bldS evs, s.moves.length * 48 ≤ 140737488355328 := fun s hs => by have := bld_moves evs s hs; have := HN.out; omega
    have hfew := bld_half evs
    rw [HN.out] at hfew
    obtain ⟨vs, hS1, hvs⟩ := stories_read h3 rfl hmv
    have HMV := Lib.hid hmv
    have HP := Lib.hid (⟨p2, p4, e2, e3⟩ : bldS (evs.filter (evT t)) = (bldS evs).filter (ofT t) ∧ bldS (evs.filter notSlots) = bldS evs ∧ bldCode (evs.filter (evT t)) = 0 ∧ bldCode (evs.filter notSlots) = 0)
    have HO := Lib.hid (h3.pull 1)
    have HEV := Lib.hid (HE.out.after (by omega) (h3.pull 1))
    have HS1 := Lib.hid hS1
    have HVS := Lib.hid hvs
    clear h3 p1 p2 p3 p4 e1 e2 e3 hok hmv hS1 hvs
    generalize bldS evs = al at hfew HMV HP HO HS1
    generalize bldAt evs = at0
    have hl1 : ∀ j, j ≤ n → ((evs.take j).filter (evT t)).length ≤ j := fun j hj => filt_le _ _ _ (by rw [HN.out]; exact hj)
    have hl2 : ∀ j, j ≤ n → ((evs.take j).filter notSlots).length ≤ j := fun j hj => filt_le _ _ _ (by rw [HN.out]; exact hj)
    have HL := Lib.hid (⟨hl1, hl2⟩ : _ ∧ _)
    clear hl1 hl2
    go_wp2_with fail
    go_loopw [9, 10, 11] (fun u v i wr => ∃ j : Nat, j ≤ n ∧ i = .int .i64 j ∧ ∃ a q b r, u = .slice a ((evs.take j).filter (evT t)).length q ∧ v = .slice b ((evs.take j).filter notSlots).length r ∧ Star w2 wr [rowA 26 10 (.slice a ((evs.take j).filter (evT t)).length q) ((evs.take j).filter (evT t)).length (evsC ((evs.take j).filter (evT t))), rowA 26 10 (.slice b ((evs.take j).filter notSlots).length r) ((evs.take j).filter notSlots).length (evsC ((evs.take j).filter notSlots)), oldA w2]) (fun _ _ i _ => n - (intOf i).toNat)
    case atStart => exact ⟨0, Nat.zero_le _, rfl, none, 0, none, 0, rfl, rfl, ((Star.begin w2).rowNil 26 10).rowNil 26 10⟩
    case round =>
      obtain ⟨j, hj, rfl, a, q, b, r, rfl, rfl, hR⟩ := hrel
      have k1 := HL.out.1 j hj
      have k2 := HL.out.2 j hj
      by_cases hlt : j < n
      · obtain ⟨e, he⟩ : ∃ e, evs[j]? = some e := ⟨_, List.getElem?_eq_getElem (by have := HN.out; omega)⟩
        obtain ⟨g, o, rfl, hg, hcl⟩ := HEV.out.row hlt (by omega)
        have hT := take_succ he
        have hf1 : (evs.take (j + 1)).filter (evT t) = (evs.take j).filter (evT t) ++ (if e.thread = t then [e] else []) := by
          rw [hT, List.filter_append]
          congr 1
          by_cases h : e.thread = t <;> simp [evT, h]
        have hf2 : (evs.take (j + 1)).filter notSlots = (evs.take j).filter notSlots ++ (if e.kind = 6 then [] else [e]) := by
          rw [hT, List.filter_append]
          congr 1
          by_cases h : e.kind = 6 <;> simp [notSlots, h]
        have HF := Lib.hid (⟨hf1, hf2⟩ : _ ∧ _)
        have hcell : ∀ i u, (evC e)[i]? = some u → i < 10 → w2.cell? ⟨g, o + j * 10 + i, none⟩ = some u := fun i u hu hi => hcl i u (by rw [evsC_at he hi]; exact hu)
        have HCL := Lib.hid hcell
        have HG := Lib.hid hg
        generalize (evs.take j).filter (evT t) = m1 at hR HF k1 ⊢
        generalize (evs.take j).filter notSlots = m2 at hR HF k2 ⊢
        have hR0 := hR
        clear hT hf1 hf2 hcl hcell he hg hR
        have hjz : (j : Int) < n := by omega
        have x0 : wr.cell? ⟨g, o + j * 10, none⟩ = some (.int .i64 e.kind) := ((hR0.pull 2).oldCell HG.out).trans (HCL.out 0 _ rfl (by omega))
        have x1 : wr.cell? ⟨g, o + j * 10 + 1, none⟩ = some (.int .i64 e.step) := ((hR0.pull 2).oldCell HG.out).trans (HCL.out 1 _ rfl (by omega))
        have x2 : wr.cell? ⟨g, o + j * 10 + 2, none⟩ = some (.int .i64 e.thread) := ((hR0.pull 2).oldCell HG.out).trans (HCL.out 2 _ rfl (by omega))
        have x3 : wr.cell? ⟨g, o + j * 10 + 3, none⟩ = some (.int .i64 e.stamp) := ((hR0.pull 2).oldCell HG.out).trans (HCL.out 3 _ rfl (by omega))
        have x4 : wr.cell? ⟨g, o + j * 10 + 4, none⟩ = some (.int .i64 e.cell) := ((hR0.pull 2).oldCell HG.out).trans (HCL.out 4 _ rfl (by omega))
        have x5 : wr.cell? ⟨g, o + j * 10 + 5, none⟩ = some (.int .i64 e.x) := ((hR0.pull 2).oldCell HG.out).trans (HCL.out 5 _ rfl (by omega))
        have x6 : wr.cell? ⟨g, o + j * 10 + 6, none⟩ = some (.bool e.own) := ((hR0.pull 2).oldCell HG.out).trans (HCL.out 6 _ rfl (by omega))
        have x7 : wr.cell? ⟨g, o + j * 10 + 7, none⟩ = some (.int .i64 e.gate) := ((hR0.pull 2).oldCell HG.out).trans (HCL.out 7 _ rfl (by omega))
        have x8 : wr.cell? ⟨g, o + j * 10 + 8, none⟩ = some (.int .i64 e.e) := ((hR0.pull 2).oldCell HG.out).trans (HCL.out 8 _ rfl (by omega))
        have x9 : wr.cell? ⟨g, o + j * 10 + 9, none⟩ = some (.int .i64 e.by_) := ((hR0.pull 2).oldCell HG.out).trans (HCL.out 9 _ rfl (by omega))
        have HR0 := Lib.hid hR0
        by_cases ht : e.thread = t
        · have htb : (e.thread == t) = true := by simpa using ht
          have HT := Lib.hid ht
          clear ht
          have hN := (hR0.new (.cells (evC e).toArray 26)).pull 1
          by_cases hk : e.kind = 6
          · have hkb : (e.kind != 6) = false := by simpa using hk
            have HK := Lib.hid hk
            clear hk
            go_wp2_with (at_builtin; refine wpList_append_star rfl (.tmp 45) (.tmp 50) 23 rfl 26 i0 _ 10 80 Try.underlying23 hi hz0 hz1 hz2 rfl (by decide) _ m1.length _ rfl hN ⟨wr.heap.size, 0, none⟩ 1 1 (evC e) rfl rfl (cell_list_new _ _ rfl _ _) (evC_one e) (by simp only [maxLen]; omega) (by omega) ?_; intro a' q' w5 h5; have h6 := h5.pick 4 [0, 2, 3]; have y0 : w5.cell? ⟨g, o + j * 10, none⟩ = some (.int .i64 e.kind) := ((h6.pull 2).oldCell HG.out).trans (HCL.out 0 _ rfl (by omega)); have y1 : w5.cell? ⟨g, o + j * 10 + 1, none⟩ = some (.int .i64 e.step) := ((h6.pull 2).oldCell HG.out).trans (HCL.out 1 _ rfl (by omega)); have y2 : w5.cell? ⟨g, o + j * 10 + 2, none⟩ = some (.int .i64 e.thread) := ((h6.pull 2).oldCell HG.out).trans (HCL.out 2 _ rfl (by omega)); have y3 : w5.cell? ⟨g, o + j * 10 + 3, none⟩ = some (.int .i64 e.stamp) := ((h6.pull 2).oldCell HG.out).trans (HCL.out 3 _ rfl (by omega)); have y4 : w5.cell? ⟨g, o + j * 10 + 4, none⟩ = some (.int .i64 e.cell) := ((h6.pull 2).oldCell HG.out).trans (HCL.out 4 _ rfl (by omega)); have y5 : w5.cell? ⟨g, o + j * 10 + 5, none⟩ = some (.int .i64 e.x) := ((h6.pull 2).oldCell HG.out).trans (HCL.out 5 _ rfl (by omega)); have y6 : w5.cell? ⟨g, o + j * 10 + 6, none⟩ = some (.bool e.own) := ((h6.pull 2).oldCell HG.out).trans (HCL.out 6 _ rfl (by omega)); have y7 : w5.cell? ⟨g, o + j * 10 + 7, none⟩ = some (.int .i64 e.gate) := ((h6.pull 2).oldCell HG.out).trans (HCL.out 7 _ rfl (by omega)); have y8 : w5.cell? ⟨g, o + j * 10 + 8, none⟩ = some (.int .i64 e.e) := ((h6.pull 2).oldCell HG.out).trans (HCL.out 8 _ rfl (by omega)); have y9 : w5.cell? ⟨g, o + j * 10 + 9, none⟩ = some (.int .i64 e.by_) := ((h6.pull 2).oldCell HG.out).trans (HCL.out 9 _ rfl (by omega)); have H6 := Lib.hid h6; clear h5 h6)
            go_roundw
            case rel =>
              have f1 := HF.out.1
              have f2 := HF.out.2
              rw [if_pos HT.out] at f1
              rw [if_pos HK.out, List.append_nil] at f2
              refine ⟨j + 1, by omega, by go_num, a', q', b, r, by rw [f1, List.length_append, List.length_cons, List.length_nil], by rw [f2], ?_⟩
              rw [f1, f2, evsC_snoc, List.length_append, List.length_cons, List.length_nil]
              exact H6.out
            case measure => simp [intOf]; omega
          · have hkb : (e.kind != 6) = true := by simpa using hk
            have HK := Lib.hid hk
            clear hk
            go_wp2_with (first | (at_builtin; refine wpList_append_star rfl (.tmp 45) (.tmp 50) 23 rfl 26 i0 _ 10 80 Try.underlying23 hi hz0 hz1 hz2 rfl (by decide) _ m1.length _ rfl hN ⟨wr.heap.size, 0, none⟩ 1 1 (evC e) rfl rfl (cell_list_new _ _ rfl _ _) (evC_one e) (by simp only [maxLen]; omega) (by omega) ?_; intro a' q' w5 h5; have h6 := h5.pick 4 [0, 2, 3]; have y0 : w5.cell? ⟨g, o + j * 10, none⟩ = some (.int .i64 e.kind) := ((h6.pull 2).oldCell HG.out).trans (HCL.out 0 _ rfl (by omega)); have y1 : w5.cell? ⟨g, o + j * 10 + 1, none⟩ = some (.int .i64 e.step) := ((h6.pull 2).oldCell HG.out).trans (HCL.out 1 _ rfl (by omega)); have y2 : w5.cell? ⟨g, o + j * 10 + 2, none⟩ = some (.int .i64 e.thread) := ((h6.pull 2).oldCell HG.out).trans (HCL.out 2 _ rfl (by omega)); have y3 : w5.cell? ⟨g, o + j * 10 + 3, none⟩ = some (.int .i64 e.stamp) := ((h6.pull 2).oldCell HG.out).trans (HCL.out 3 _ rfl (by omega)); have y4 : w5.cell? ⟨g, o + j * 10 + 4, none⟩ = some (.int .i64 e.cell) := ((h6.pull 2).oldCell HG.out).trans (HCL.out 4 _ rfl (by omega)); have y5 : w5.cell? ⟨g, o + j * 10 + 5, none⟩ = some (.int .i64 e.x) := ((h6.pull 2).oldCell HG.out).trans (HCL.out 5 _ rfl (by omega)); have y6 : w5.cell? ⟨g, o + j * 10 + 6, none⟩ = some (.bool e.own) := ((h6.pull 2).oldCell HG.out).trans (HCL.out 6 _ rfl (by omega)); have y7 : w5.cell? ⟨g, o + j * 10 + 7, none⟩ = some (.int .i64 e.gate) := ((h6.pull 2).oldCell HG.out).trans (HCL.out 7 _ rfl (by omega)); have y8 : w5.cell? ⟨g, o + j * 10 + 8, none⟩ = some (.int .i64 e.e) := ((h6.pull 2).oldCell HG.out).trans (HCL.out 8 _ rfl (by omega)); have y9 : w5.cell? ⟨g, o + j * 10 + 9, none⟩ = some (.int .i64 e.by_) := ((h6.pull 2).oldCell HG.out).trans (HCL.out 9 _ rfl (by omega)); have hN2 := (h6.new (.cells (evC e).toArray 26)).pull 2; have tok : True := trivial; clear h5) | (at_builtin; refine wpList_append_star rfl (.tmp 58) (.tmp 63) 23 rfl 26 i0 _ 10 80 Try.underlying23 hi hz0 hz1 hz2 rfl (by decide) _ m2.length _ rfl hN2 ⟨w5.heap.size, 0, none⟩ 1 1 (evC e) rfl rfl (cell_list_new _ _ rfl _ _) (evC_one e) (by simp only [maxLen]; omega) (by omega) ?_; intro b' r' w7 h7; have H8 := Lib.hid (h7.pick 4 [2, 0, 3]); clear h7))
            go_roundw
            case rel =>
              have f1 := HF.out.1
              have f2 := HF.out.2
              rw [if_pos HT.out] at f1
              rw [if_neg HK.out] at f2
              refine ⟨j + 1, by omega, by go_num, a', q', b', r', by rw [f1, List.length_append, List.length_cons, List.length_nil], by rw [f2, List.length_append, List.length_cons, List.length_nil], ?_⟩
              rw [f1, f2, evsC_snoc, evsC_snoc, List.length_append, List.length_append, List.length_cons, List.length_nil]
              exact H8.out
            case measure => simp [intOf]; omega
        · have htb : (e.thread == t) = false := by simpa using ht
          have HT := Lib.hid ht
          clear ht
          by_cases hk : e.kind = 6
          · have hkb : (e.kind != 6) = false := by simpa using hk
            have HK := Lib.hid hk
            clear hk
            clear hR0
            go_wp2
            go_roundw
            case rel =>
              have f1 := HF.out.1
              have f2 := HF.out.2
              rw [if_neg HT.out, List.append_nil] at f1
              rw [if_pos HK.out, List.append_nil] at f2
              exact ⟨j + 1, by omega, by go_num, a, q, b, r, by rw [f1], by rw [f2], by rw [f1, f2]; exact HR0.out⟩
            case measure => simp [intOf]; omega
          · have hkb : (e.kind != 6) = true := by simpa using hk
            have HK := Lib.hid hk
            clear hk
            have hN := (hR0.new (.cells (evC e).toArray 26)).pull 2
            clear hR0
            go_wp2_with (at_builtin; refine wpList_append_star rfl (.tmp 58) (.tmp 63) 23 rfl 26 i0 _ 10 80 Try.underlying23 hi hz0 hz1 hz2 rfl (by decide) _ m2.length _ rfl hN ⟨wr.heap.size, 0, none⟩ 1 1 (evC e) rfl rfl (cell_list_new _ _ rfl _ _) (evC_one e) (by simp only [maxLen]; omega) (by omega) ?_; intro b' r' w7 h7; have H8 := Lib.hid (h7.pick 4 [2, 0, 3]); clear h7)
            go_roundw
            case rel =>
              have f1 := HF.out.1
              have f2 := HF.out.2
              rw [if_neg HT.out, List.append_nil] at f1
              rw [if_neg HK.out] at f2
              refine ⟨j + 1, by omega, by go_num, a, q, b', r', by rw [f1], by rw [f2, List.length_append, List.length_cons, List.length_nil], ?_⟩
              rw [f1, f2, evsC_snoc, List.length_append, List.length_cons, List.length_nil]
              exact H8.out
            case measure => simp [intOf]; omega
      · have hjn : j = n := by omega
        subst hjn
        have e0 : evs.take j = evs := List.take_of_length_le (by rw [HN.out]; omega)
        rw [e0] at hR k1 k2 ⊢
        obtain ⟨p1, p2, p3, p4⟩ := HP.out
        have hjz : ¬ (j : Int) < j := by omega
        have B2 := build_any a (evs.filter (evT t)).length q (evs.filter (evT t)) wr hR.rowSl rfl (by omega)
        rw [p1, p3] at B2
        have B3 := fun W' (h : Star w2 W' [rowA 26 10 (.slice b (evs.filter notSlots).length r) (evs.filter notSlots).length (evsC (evs.filter notSlots)), oldA w2]) => build_any b (evs.filter notSlots).length r (evs.filter notSlots) W' h.rowSl rfl (by omega)
        rw [p2, p4] at B3
        have B2 := Lib.hid B2
        have B3 := Lib.hid B3
        have HR := Lib.hid hR
        clear hR p1 p2 p3 p4 e0
        generalize bldAt (evs.filter (evT t)) = at1 at B2
        generalize bldAt (evs.filter notSlots) = at2 at B3
        go_wp2_with fail
        refine B2.out.mono ?_
        rintro e' w3 ⟨a3, c3, rfl, h4⟩
        have h5 := h4.frame (L := [_]) HR.out
        have B4 := Lib.hid (B3.out w3 (h5.pick 4 [2, 3]))
        have H5 := Lib.hid h5
        clear h4 h5 B2 B3 HR
        go_wp2_with fail
        refine B4.out.mono ?_
        rintro e' w6 ⟨a4, c4, rfl, h6⟩
        have h7 := h6.frame (L := [_]) H5.out
        clear h6 B4 H5
        generalize evs.filter (evT t) = m1 at h7 ⊢
        generalize evs.filter notSlots = m2 at h7 ⊢
        have hfl : (al.filter (ofT t)).length ≤ al.length := List.length_filter_le _ _
        obtain ⟨us, hL, _⟩ := stories_read (h7.pull 1) rfl (fun s hs => HMV.out s (List.mem_filter.1 hs).1)
        obtain ⟨xs, hM, _⟩ := stories_read h7 rfl HMV.out
        have HL6 := Lib.hid hL
        have HM6 := Lib.hid hM
        have HS6 := Lib.hid (HS1.out.after (h7.pull 4))
        have H7 := Lib.hid (h7.pull 4)
        have h8 := (Star.begin w6).rowNil 36 10
        have hvl : vs.length = al.length := HS1.out.nv
        have HVL := Lib.hid hvl
        obtain ⟨n1, hn1⟩ : ∃ n1, n1 = al.length := ⟨_, rfl⟩
        have HN1 := Lib.hid hn1
        rw [← hn1] at hfew hfl HS6 HM6 ⊢
        clear h7 hL hM hvl hn1
        go_wp2_with fail
        go_loopw [18, 19] (fun u i wr => ∃ j : Nat, j ≤ n1 ∧ i = .int .i64 j ∧ ∃ a q, u = .slice a (ownS t al vs j).length q ∧ Star w6 wr [rowA 36 10 (.slice a (ownS t al vs j).length q) (ownS t al vs j).length (stosC (ownS t al vs j) (ownV t al vs j)), oldA w6]) (fun _ i _ => n1 - (intOf i).toNat)
        case atStart => exact ⟨0, Nat.zero_le _, rfl, none, 0, rfl, h8⟩
        case round =>
          clear h8
          obtain ⟨j, hj, rfl, a, q, rfl, hR⟩ := hrel
          have hol : (ownS t al vs j).length ≤ j := by
            rw [ownS, List.length_map, ownP]
            have := List.length_filter_le (fun p : Sto × Value => ofT t p.1) ((al.zip vs).take j)
            rw [List.length_take] at this
            omega
          by_cases hlt : j < n1
          · obtain ⟨s, hs⟩ : ∃ s, al[j]? = some s := ⟨_, List.getElem?_eq_getElem (by have := HN1.out; omega)⟩
            obtain ⟨v, hv⟩ : ∃ v, vs[j]? = some v := ⟨_, List.getElem?_eq_getElem (by have := HN1.out; have := HVL.out; omega)⟩
            obtain ⟨MA, mk, mc, rfl, -⟩ := HS6.out.mv j s v hs hv
            obtain ⟨g, o, rfl, hg, ca⟩ := HS6.out.row.row hlt (by omega)
            have z0 : wr.cell? ⟨g, o + j * 10, none⟩ = some (.int .i64 s.thread) := ((hR.pull 1).oldCell hg).trans (ca 0 _ (by rw [stosC_at hs hv (by omega)]; rfl))
            have z1 : wr.cell? ⟨g, o + j * 10 + 1, none⟩ = some (.int .i64 s.stamp) := ((hR.pull 1).oldCell hg).trans (ca 1 _ (by rw [stosC_at hs hv (by omega)]; rfl))
            have z2 : wr.cell? ⟨g, o + j * 10 + 2, none⟩ = some (.int .i64 s.begin_) := ((hR.pull 1).oldCell hg).trans (ca 2 _ (by rw [stosC_at hs hv (by omega)]; rfl))
            have z3 : wr.cell? ⟨g, o + j * 10 + 3, none⟩ = some (.int .i64 s.end_) := ((hR.pull 1).oldCell hg).trans (ca 3 _ (by rw [stosC_at hs hv (by omega)]; rfl))
            have z4 : wr.cell? ⟨g, o + j * 10 + 4, none⟩ = some (.int .i64 s.fate) := ((hR.pull 1).oldCell hg).trans (ca 4 _ (by rw [stosC_at hs hv (by omega)]; rfl))
            have z5 : wr.cell? ⟨g, o + j * 10 + 5, none⟩ = some (.int .i64 s.e) := ((hR.pull 1).oldCell hg).trans (ca 5 _ (by rw [stosC_at hs hv (by omega)]; rfl))
            have z6 : wr.cell? ⟨g, o + j * 10 + 6, none⟩ = some (.int .i64 s.by_) := ((hR.pull 1).oldCell hg).trans (ca 6 _ (by rw [stosC_at hs hv (by omega)]; rfl))
            have z7 : wr.cell? ⟨g, o + j * 10 + 7, none⟩ = some (.int .i64 s.opens) := ((hR.pull 1).oldCell hg).trans (ca 7 _ (by rw [stosC_at hs hv (by omega)]; rfl))
            have z8 : wr.cell? ⟨g, o + j * 10 + 8, none⟩ = some (.int .i64 s.gate) := ((hR.pull 1).oldCell hg).trans (ca 8 _ (by rw [stosC_at hs hv (by omega)]; rfl))
            have z9 : wr.cell? ⟨g, o + j * 10 + 9, none⟩ = some (.slice MA mk mc) := ((hR.pull 1).oldCell hg).trans (ca 9 _ (by rw [stosC_at hs hv (by omega)]; rfl))
            have hP := own_succ (t := t) hs hv
            have hOS : ownS t al vs (j + 1) = ownS t al vs j ++ (if ofT t s = true then [s] else []) := by
              rw [ownS, hP, List.map_append, ownS]; congr 1; split <;> rfl
            have hOV : ownV t al vs (j + 1) = ownV t al vs j ++ (if ofT t s = true then [.slice MA mk mc] else []) := by
              rw [ownV, hP, List.map_append, ownV]; congr 1; split <;> rfl
            have hOL := own_len t al vs j
            have HOS := Lib.hid (⟨hOS, hOV, hOL⟩ : _ ∧ _ ∧ _)
            have hjz : (j : Int) < n1 := by omega
            clear hP hOS hOV hOL ca hs hv hg
            generalize ownS t al vs j = os at hR hol HOS ⊢
            generalize ownV t al vs j = ov at hR HOS
            by_cases ht : s.thread = t
            · have htb : (s.thread == t) = true := by simpa using ht
              have HT := Lib.hid (show ofT t s = true by simp [ofT, ht])
              have hN := (hR.new (.cells (stoC s (.slice MA mk mc)).toArray 36)).pull 1
              clear ht hR
              go_wp2_with (at_builtin; refine wpList_append_star rfl (.tmp 90) (.tmp 95) 27 rfl 36 i1 _ 10 96 Try.underlying27 gi gz0 gz1 gz2 rfl (by decide) _ os.length _ rfl hN ⟨wr.heap.size, 0, none⟩ 1 1 (stoC s (.slice MA mk mc)) rfl rfl (cell_list_new _ _ rfl _ _) (sto_one s _ _ _) (by simp only [maxLen]; omega) (by omega) ?_; intro a' q' w8 h9; have H9 := Lib.hid (h9.pick 3 [0, 2]); clear h9)
              go_roundw
              case rel =>
                obtain ⟨f1, f2, f3⟩ := HOS.out
                rw [if_pos HT.out] at f1 f2
                refine ⟨j + 1, by omega, by go_num, a', q', by rw [f1, List.length_append, List.length_cons, List.length_nil], ?_⟩
                rw [f1, f2, stosC_snoc f3, List.length_append, List.length_cons, List.length_nil]
                exact H9.out
              case measure => simp [intOf]; omega
            · have htb : (s.thread == t) = false := by simpa using ht
              have HT := Lib.hid (show ¬ ofT t s = true by simp [ofT, ht])
              have HR := Lib.hid hR
              clear ht hR
              go_wp2
              go_roundw
              case rel =>
                obtain ⟨f1, f2, f3⟩ := HOS.out
                rw [if_neg HT.out, List.append_nil] at f1 f2
                exact ⟨j + 1, by omega, by go_num, a, q, by rw [f1], by rw [f1, f2]; exact HR.out⟩
              case measure => simp [intOf]; omega
          · have hjn : j = n1 := by omega
            subst hjn
            have hall : ownS t al vs j = al.filter (ofT t) := by rw [HN1.out]; exact own_all HVL.out
            have hOL := own_len t al vs j
            have hW : Stories wr a (al.filter (ofT t)).length (al.filter (ofT t)) (ownV t al vs j) := ⟨by rw [← hall]; exact hR.rowSl, rfl, by rw [hOL, hall], fun i s v hs hv => by
              obtain ⟨k, k1, k2⟩ := own_mem (by rw [hall]; exact hs) hv
              exact (HS6.out.after (hR.pull 1)).mv k s v k1 k2⟩
            have SA := Lib.hid (sameAll_any a3 a (al.filter (ofT t)).length c3 q (al.filter (ofT t)) us (ownV t al vs j) wr (HL6.out.after (hR.pull 1)) hW (by omega))
            have SB := Lib.hid fun W' (h : Star w6 W' [oldA w6]) => sameAll_any a4 a2 j c4 c2 al xs vs W' (HM6.out.after h) (HS6.out.after h) (by omega)
            have HR := Lib.hid (hR.pull 1)
            have hjz : ¬ (j : Int) < j := by omega
            rw [hall]
            clear hall hOL hW hR
            go_wp2_with fail
            refine SA.out.mono ?_
            rintro e' w9 ⟨rfl, hb9⟩
            have h10 := HR.out.of_below hb9
            have SC := Lib.hid (SB.out w9 (h10.pick 2 [0]))
            have H10 := Lib.hid h10
            clear SA SB HR hb9 h10
            go_wp2_with fail
            refine SC.out.mono ?_
            rintro e' w10 ⟨rfl, hb10⟩
            have hend := H7.out.of_below (H10.out.of_below hb10).below
            have HEND := Lib.hid (HO.out.of_below hend.below).below
            clear SC H10 hb10 hend
            go_wp2
            go_ret
            exact ⟨rfl, HEND.out⟩
end Go.Proofs.Ytfekjbaojefhoaa
