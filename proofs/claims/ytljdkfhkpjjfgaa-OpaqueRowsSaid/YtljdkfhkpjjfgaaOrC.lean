/- Stories with their bulk, OpaqueChecks walk: lemmas for the laws of layer 22. -/
import Derived.Test.YtljdkfhkpjjfgaaOr7
import Derived.Test.YtljdkfhkpjjfgaaRows
namespace Go.Proofs.Ytljdkfhkpjjfgaa
open Go.ChangeShapes Go.WideShapes Go.Deep Go.RowKit
set_option linter.unusedVariables false

theorem one_le {H : Type} (d : DataW H) : 1 ≤ Rows.uptoBulk d := by
  cases d with
  | lit l => cases l <;> simp [Rows.uptoBulk]
  | nil => simp [Rows.uptoBulk]
  | ptr d => simp [Rows.uptoBulk]
  | slice elems spare => simp [Rows.uptoBulk]
  | agg parts => simp [Rows.uptoBulk]
  | iface t d => simp [Rows.uptoBulk]
  | map entries => simp [Rows.uptoBulk]
  | held h => simp [Rows.uptoBulk]
theorem part_le {H : Type} {d : DataW H} {l : List (DataW H)} (h : d ∈ l) : Rows.uptoBulk d ≤ Rows.uptoBulkAll l := by
  induction l with
  | nil => cases h
  | cons x r ih =>
    simp only [Rows.uptoBulkAll]
    cases List.mem_cons.1 h with
    | inl e => subst e; omega
    | inr e => have := ih e; omega
theorem bulk_length {H : Type} (l : List (DataW H)) : l.length ≤ Rows.uptoBulkAll l := by
  induction l with
  | nil => simp [Rows.uptoBulkAll]
  | cons x r ih => have := one_le x; simp only [Rows.uptoBulkAll, List.length_cons]; omega
section
variable {H : Type} {enc : TypeId × Value → H} {w : World} {base : Nat} {spare : Nat → Bool} {held : Bool}
theorem slice_bulk {t e : TypeId} {A : Option Addr} {len cap : Nat} {d : DataW H} {ps : List MemPlace} (ht : Try.prog.underlying t = some (.slice e)) (h : DataW.Trod enc Try.prog w base spare held t (.slice A len cap) d ps) : len ≤ Rows.uptoBulk d := by
  obtain ⟨n, h0⟩ := h
  rcases open_slice ht h0 with ⟨hcs, _⟩ | ⟨a, len', cap', m, n', D, Pl, hcs, _, hl', hm', hmm, hx, hi⟩
  · simp [Value.cells] at hcs
    obtain ⟨rfl, rfl, rfl⟩ := hcs
    omega
  · simp [Value.cells] at hcs
    obtain ⟨rfl, rfl, rfl⟩ := hcs
    simp only [Prod.mk.injEq] at hx
    obtain ⟨rfl, _⟩ := hx
    have := bulk_length ((List.range len).map D)
    simp only [Rows.uptoBulk]
    simp at this
    omega
theorem stories_bulk (X : Nat) {A : Option Addr} {len cap : Nat} {d : DataW H} {ps : List MemPlace} (h0 : DataW.Trod enc Try.prog w base spare held 23 (.slice A len cap) d ps) (hw : ∀ x ∈ d.weights Try.prog 23, x ≤ reachBytes) (hX : Rows.uptoBulk d ≤ X) :
    len ≤ cap ∧ cap ≤ maxLen ∧ len * 96 ≤ 140737488355328 ∧ len ≤ X ∧ ∃ (sts : List Sto) (vs : List Value), Stories w A len sts vs ∧ ∀ s ∈ sts, s.moves.length ≤ X := by
  have hlX := slice_bulk Try.underlying23 h0
  obtain ⟨n, h⟩ := h0
  rcases open_slice_fields Try.underlying23 Try.underlying44 (by kernel_rfl) (by kernel_rfl) h with ⟨hcs, _⟩ | ⟨a, len', cap', m, D, Pl, hcs, _, hl, hm, hmm, hx, hi⟩
  · simp [Value.cells] at hcs
    obtain ⟨rfl, rfl, rfl⟩ := hcs
    exact ⟨Nat.le_refl _, by simp [maxLen], by omega, by omega, [], [], ⟨⟨rfl, fun h => absurd h (by omega)⟩, rfl, rfl, fun i s v hs => by simp at hs⟩, by simp⟩
  · simp [Value.cells] at hcs
    obtain ⟨rfl, rfl, rfl⟩ := hcs
    have hT : DataW.Trod enc Try.prog w base spare held 23 (.slice (some a) len cap) d ps := ⟨n, h⟩
    have hlm : len ≤ m := by rw [hmm]; split <;> omega
    simp only [Prod.mk.injEq] at hx
    obtain ⟨rfl, _⟩ := hx
    have hbytes : len * 96 ≤ 140737488355328 := by
      have hb : Try.prog.bytesOf 44 = 96 := by kernel_rfl
      have := hw ((List.length ((List.range len).map D) + List.length ((List.range (m - len)).map fun j => D (len + j))) * Try.prog.bytesOf 44) (by simp only [DataW.weights, Try.underlying23]; exact List.mem_cons_self)
      rw [hb] at this
      simp only [List.length_map, List.length_range, reachBytes] at this
      omega
    refine ⟨hl, hm, hbytes, by omega, ?_⟩
    rcases Nat.eq_zero_or_pos len with rfl | h0
    · exact ⟨[], [], ⟨⟨rfl, fun h => absurd h (by omega)⟩, rfl, rfl, fun i s v hs => by simp at hs⟩, by simp⟩
    · obtain ⟨_, _, h3⟩ := open_structs Try.underlying23 Try.underlying44 (by kernel_rfl) (by kernel_rfl) (by decide) hT
      obtain ⟨g, off, e, _⟩ := h3 h0
      injection e with e
      subst e
      have hi' : ∀ i, i < len → ∃ (s : Sto) (A : Option Addr) (k c : Nat), (∀ (j : Nat) (v : Value), (stoC s (.slice A k c))[j]? = some v → w.cell? ⟨g, off + (i * 10 + j), none⟩ = some v) ∧ s.moves.length = k ∧ Sl w A k 6 (mvsC s.moves) ∧ k * 48 ≤ 140737488355328 ∧ k ≤ X := by
          intro i hil
          obtain ⟨ys, n', hD, _, hyl, hf0⟩ := hi i (by omega)
          have hf : ∀ (j : Nat) (f : Field), _ → ∃ (u : Value) (y : DataW H × List MemPlace), w.cell? ⟨g, off + (i * 10 + j), none⟩ = some u ∧ ys[j]? = some y ∧ DataW.trod enc Try.prog w base spare held n' f.type [u] = some y := fun j f hj => by
            obtain ⟨u, y, c, gy, t⟩ := hf0 j f hj
            rw [add_plain] at c
            exact ⟨u, y, c, gy, t⟩
          obtain ⟨u0, y0, c0, g0, t0⟩ := hf 0 _ rfl
          obtain ⟨u1, y1, c1, g1, t1⟩ := hf 1 _ rfl
          obtain ⟨u2, y2, c2, g2, t2⟩ := hf 2 _ rfl
          obtain ⟨u3, y3, c3, g3, t3⟩ := hf 3 _ rfl
          obtain ⟨u4, y4, c4, g4, t4⟩ := hf 4 _ rfl
          obtain ⟨u5, y5, c5, g5, t5⟩ := hf 5 _ rfl
          obtain ⟨u6, y6, c6, g6, t6⟩ := hf 6 _ rfl
          obtain ⟨u7, y7, c7, g7, t7⟩ := hf 7 _ rfl
          obtain ⟨u8, y8, c8, g8, t8⟩ := hf 8 _ rfl
          obtain ⟨u9, y9, c9, g9, t9⟩ := hf 9 _ rfl
          obtain ⟨x0, rfl, _⟩ := trod_int1 Try.underlying3 t0
          obtain ⟨x1, rfl, _⟩ := trod_int1 Try.underlying3 t1
          obtain ⟨x2, rfl, _⟩ := trod_int1 Try.underlying3 t2
          obtain ⟨x3, rfl, _⟩ := trod_int1 Try.underlying3 t3
          obtain ⟨x4, rfl, _⟩ := trod_int1 Try.underlying3 t4
          obtain ⟨x5, rfl, _⟩ := trod_int1 Try.underlying29 t5
          obtain ⟨x6, rfl, _⟩ := trod_int1 Try.underlying3 t6
          obtain ⟨x7, rfl, _⟩ := trod_int1 Try.underlying3 t7
          obtain ⟨x8, rfl, _⟩ := trod_int1 Try.underlying3 t8
          obtain ⟨d9, q9⟩ := y9
          obtain ⟨A, k, c, ms, rfl, hml, _, _, hsl, hw9⟩ := moves_open t9
          have hkX : k ≤ X := by
            have h1 := slice_bulk (A := A) (cap := c) Try.underlying42 ⟨_, t9⟩
            have h2 : Rows.uptoBulk d9 ≤ Rows.uptoBulkAll (ys.map (·.1)) := part_le (List.mem_of_getElem? (i := 9) (by rw [List.getElem?_map, g9]; rfl))
            have h3 : Rows.uptoBulk (D i) ≤ Rows.uptoBulkAll ((List.range len).map D) := part_le (List.mem_map.2 ⟨i, List.mem_range.2 hil, rfl⟩)
            rw [hD] at h3
            simp only [Rows.uptoBulk] at h3 hX
            omega
          refine ⟨⟨x0, x1, x2, x3, x4, x5, x6, x7, x8, ms⟩, A, k, c, fun j v hv => ?_, hml, hsl, hw9 fun y hy => hw y ?_, hkX⟩
          · have hj : j < 10 := (List.getElem?_eq_some_iff.1 hv).1
            match j, hj with
            | 0, _ => injection hv with hv; subst hv; exact c0
            | 1, _ => injection hv with hv; subst hv; exact c1
            | 2, _ => injection hv with hv; subst hv; exact c2
            | 3, _ => injection hv with hv; subst hv; exact c3
            | 4, _ => injection hv with hv; subst hv; exact c4
            | 5, _ => injection hv with hv; subst hv; exact c5
            | 6, _ => injection hv with hv; subst hv; exact c6
            | 7, _ => injection hv with hv; subst hv; exact c7
            | 8, _ => injection hv with hv; subst hv; exact c8
            | 9, _ => injection hv with hv; subst hv; exact c9
          · simp only [DataW.weights, Try.underlying23]
            refine List.mem_cons_of_mem _ (List.mem_append_left _ (weights_all (d := D i) (List.mem_map.2 ⟨i, List.mem_range.2 hil, rfl⟩) y ?_))
            rw [hD]
            simp only [DataW.weights, Try.underlying44]
            exact DataW.weights_mem_each (j := 9) (t := 42) (d := d9) rfl (by rw [List.getElem?_map, g9]; rfl) y hy
      let f : Fin len → Sto := fun i => (hi' i.1 i.2).choose
      let v : Fin len → Value := fun i => .slice (hi' i.1 i.2).choose_spec.choose (hi' i.1 i.2).choose_spec.choose_spec.choose (hi' i.1 i.2).choose_spec.choose_spec.choose_spec.choose
      have hget : ∀ i (hi2 : i < len), (List.ofFn f)[i]? = some (f ⟨i, hi2⟩) := fun i hi2 => by rw [List.getElem?_ofFn, dif_pos hi2]
      have hvget : ∀ i (hi2 : i < len), (List.ofFn v)[i]? = some (v ⟨i, hi2⟩) := fun i hi2 => by rw [List.getElem?_ofFn, dif_pos hi2]
      refine ⟨List.ofFn f, List.ofFn v, ⟨⟨?_, fun _ => ⟨g, off, rfl, fun j u hu => ?_⟩⟩, by simp, by simp, fun i s v' hs hv' => ?_⟩, fun s hs => ?_⟩
      · rw [stosC, flat_len sto_len, List.length_zipWith]; simp
      · have hjl : j < len * 10 := by
          have := (List.getElem?_eq_some_iff.1 hu).1
          rw [stosC, flat_len sto_len, List.length_zipWith] at this
          simpa using this
        have hq : j / 10 < len := by omega
        have hsp := (hi' (j / 10) hq).choose_spec.choose_spec.choose_spec.choose_spec.1 (j % 10) u
        have h4 := stosC_at (hget (j / 10) hq) (hvget (j / 10) hq) (j := j % 10) (by omega)
        rw [show j / 10 * 10 + j % 10 = j by omega, hu] at h4
        have h5 := hsp h4.symm
        rw [show j / 10 * 10 + j % 10 = j by omega] at h5
        exact h5
      · have hil : i < len := by
          have := (List.getElem?_eq_some_iff.1 hs).1
          simpa using this
        rw [hget i hil] at hs
        rw [hvget i hil] at hv'
        injection hs with hs
        injection hv' with hv'
        subst hs hv'
        have h5 := (hi' i hil).choose_spec.choose_spec.choose_spec.choose_spec.2
        exact ⟨_, _, _, rfl, h5.1, h5.2.1, h5.2.2.1⟩
      · obtain ⟨i, hi2⟩ := List.mem_iff_getElem?.1 hs
        have hil : i < len := by
          have := (List.getElem?_eq_some_iff.1 hi2).1
          simpa using this
        rw [hget i hil] at hi2
        injection hi2 with hi2
        subst hi2
        have h5 := (hi' i hil).choose_spec.choose_spec.choose_spec.choose_spec.2
        have h6 := h5.1
        have h7 := h5.2.2.2
        show (hi' i hil).choose.moves.length ≤ X
        omega
end
end Go.Proofs.Ytljdkfhkpjjfgaa
namespace Go.Proofs.Ytljdkfhkpjjfgaa
open Go.RowKit Go.Shelf
set_option linter.unusedVariables false

set_option maxRecDepth 100000 in
set_option maxHeartbeats 6400000 in
theorem checks_walk (X : Nat) (SA : Option Addr) (sn sc : Nat) (st : List Int) (B : Option Addr) (m d : Nat) (sts : List Sto) (vs : List Value) (A : Option Addr) (k c : Nat) (zs : List Int) (w : World)
    (hST : Sl w SA sn 1 (intsC st)) (hsb : sn * 8 ≤ 140737488355328) (hT : Stories w B m sts vs) (hbm : m * 96 ≤ 140737488355328) (hO : Sl w A k 1 (intsC zs)) (hb : k * 8 ≤ 140737488355328) (hX : ∀ s ∈ sts, s.moves.length ≤ X) (hXb : m * X * 16 ≤ 140737488355328) :
    Calls Try.prog 5 #[.slice SA sn sc, .slice B m d, .slice A k c] w fun e w' => e = .returned (.bool true) ∧ Below w.heap.size w w' := by
  obtain ⟨i0, hi0, hz0, hz1, hz2⟩ := info_parts Try.info3
  have HST := Lib.hid hST
  have HT := Lib.hid hT
  have HO := Lib.hid hO
  have HX := Lib.hid hX
  clear hST hT hO hX
  go_enter Try.func5, Try.ntmps5
  go_wp2_with fail
  refine (awake_any _).mono ?_
  rintro e' w1 ⟨rfl, hb1⟩
  have S1 := ((Star.begin w).of_below hb1).rowNil 3 1
  have SRC := Lib.hid (HO.out.below (by omega) hb1).src
  clear hb1
  go_wp2_with (at_builtin; refine wpList_append_star_any rfl _ _ 24 rfl 3 i0 _ 1 8 Try.underlying24 hi0 hz0 hz1 hz2 rfl (by decide) _ 0 _ rfl S1 A k c (intsC zs) rfl (by have := HO.out.1; exact this) SRC.out (intsC_one zs) (by simp only [maxLen]; omega) (by omega) ?_; intro a' q' w2 h2; simp only [Nat.zero_add, List.nil_append] at h2 ⊢; have H2 := Lib.hid h2; clear h2 S1 SRC)
  have hb2 := (H2.out.pull 1).below
  refine (check_any SA sn sc st B m d sts vs a' k q' zs w2 (HST.out.below (by omega) hb2) hsb (HT.out.below hb2) hbm H2.out.rowSl hb).mono ?_
  rintro e' w3 ⟨rfl, hb3⟩
  have H3 := Lib.hid (H2.out.of_below hb3)
  clear hb2 hb3 H2
  obtain ⟨E, hE⟩ : ∃ E, (checkP st sts zs).1 = E := ⟨_, rfl⟩
  obtain ⟨F, hF⟩ : ∃ F, (checkP st sts zs).2 = F := ⟨_, rfl⟩
  rw [hE, hF]
  have HE := Lib.hid (⟨hE, hF⟩ : _ ∧ _)
  clear hE hF
  go_wp2_with fail
  have hb3 := (H3.out.pull 1).below
  refine (check_doc X SA sn sc st B m d sts vs A k c zs w3 (HST.out.below (by omega) hb3) hsb (HT.out.below hb3) hbm (HO.out.below (by omega) hb3) hb HX.out hXb).mono ?_
  rintro e' w4 ⟨rfl, hb4⟩
  have H4 := Lib.hid (H3.out.of_below hb4)
  rw [HE.out.1, HE.out.2]
  clear hb3 hb4 H3
  go_wp2_with fail
  have hb4 := (H4.out.pull 1).below
  refine (order_ref B m d sts vs w4 (HT.out.below hb4) hbm).mono ?_
  rintro e' w5 ⟨a2, q2, rfl, h5⟩
  rw [natsC_ints] at h5
  have H5 := Lib.hid (h5.frame (L := [_]) H4.out)
  clear h5 hb4 H4
  go_wp2_with fail
  have hb5 := (H5.out.pull 2).below
  refine (check_any SA sn sc st B m d sts vs a2 m q2 _ w5 (HST.out.below (by omega) hb5) hsb (HT.out.below hb5) hbm H5.out.rowSl (by omega)).mono ?_
  rintro e' w6 ⟨rfl, hb6⟩
  have H6 := Lib.hid (H5.out.of_below hb6)
  clear hb5 hb6 H5
  obtain ⟨G, hG⟩ : ∃ G, (checkP st sts (intsOf (orderOf sts))).1 = G := ⟨_, rfl⟩
  obtain ⟨K, hK⟩ : ∃ K, (checkP st sts (intsOf (orderOf sts))).2 = K := ⟨_, rfl⟩
  rw [hG, hK]
  have HG := Lib.hid (⟨hG, hK⟩ : _ ∧ _)
  clear hG hK
  go_wp2_with fail
  have hb6 := (H6.out.pull 2).below
  refine (check_doc X SA sn sc st B m d sts vs a2 m q2 _ w6 (HST.out.below (by omega) hb6) hsb (HT.out.below hb6) hbm H6.out.rowSl (by omega) HX.out hXb).mono ?_
  rintro e' w7 ⟨rfl, hb7⟩
  have H7 := Lib.hid (H6.out.of_below hb7)
  rw [HG.out.1, HG.out.2]
  clear hb6 hb7 H6
  go_wp2_with fail
  have hb7 := (H7.out.pull 2).below
  refine (sameInts_any zs zs a' A k k q' c w7 (H7.out.pull 1).rowSl (HO.out.below (by omega) hb7) (by omega)).mono ?_
  rintro e' w8 ⟨rfl, n, rfl⟩
  have H8 := Lib.hid (below_next hb7 (below_drew w7 n))
  have h1 : (E == E) = true := by simp
  have h2 : (F == F) = true := by simp
  have h3 : (G == G) = true := by simp
  have h4 : (K == K) = true := by simp
  clear hb7 H7
  go_wp2
  go_ret
  exact ⟨rfl, H8.out⟩
end Go.Proofs.Ytljdkfhkpjjfgaa
