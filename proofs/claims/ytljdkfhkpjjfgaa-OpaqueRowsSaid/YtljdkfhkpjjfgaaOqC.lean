/- The example, the head of each law, what Search finds, long: lemmas for the laws of layer 22. -/
import Derived.Test.YtljdkfhkpjjfgaaOp14
import Derived.KernelRfl
namespace Go.Proofs.Ytljdkfhkpjjfgaa
open Go.RowKit Go.Shelf
set_option linter.unusedVariables false

def sts3 : List Sto := [⟨0, 1, 1, 5, 1, 0, 0, 0, 3, [⟨3, false, 0, 0, false, 2⟩, ⟨4, true, 0, 1, false, 0⟩]⟩, ⟨0, 6, 6, 0, 0, 0, 0, 0, 0, [⟨9, false, 0, 1, false, 4⟩]⟩, ⟨1, 2, 2, 8, 2, 0, 0, 0, 0, [⟨4, false, 0, 0, false, 2⟩]⟩]
theorem three_order : orderOf sts3 = [2, 0, 1] := by kernel_rfl
theorem three_fine : checkP [] sts3 [2, 0, 1] = (0, 0) := by kernel_rfl
theorem three_read : checkP [] sts3 [0, 2, 1] = (222, 1) := by kernel_rfl
theorem three_time : checkP [] sts3 [1, 0, 2] = (221, 1) := by kernel_rfl
/-- the same search, by one list's function -/
def tryQ (sts : List Sto) (n : Nat) : Nat → Cells → List Nat → Option (List Nat)
  | 0, f, ord => some ord
  | r + 1, f, ord => (List.range n).findSome? fun i => if mayP sts n f ord i then tryQ sts n r (putsF f (leftOf (stAt sts i))) (ord ++ [i]) else none
theorem first_find (sts : List Sto) (n r : Nat) (f : Cells) (ord : List Nat) : ∀ is, firstP sts n r f ord is = is.findSome? fun i => if mayP sts n f ord i then tryP sts n r (putsF f (leftOf (stAt sts i))) (ord ++ [i]) else none
  | [] => by rw [firstP, List.findSome?_nil]
  | i :: is => by
    rw [firstP, List.findSome?_cons, first_find sts n r f ord is]
    by_cases h : mayP sts n f ord i = true
    · rw [if_pos h, if_pos h]
      cases tryP sts n r (putsF f (leftOf (stAt sts i))) (ord ++ [i]) <;> rfl
    · rw [if_neg h, if_neg h]
theorem try_q (sts : List Sto) (n : Nat) : ∀ r f ord, tryP sts n r f ord = tryQ sts n r f ord
  | 0, f, ord => by rw [tryP, tryQ]
  | r + 1, f, ord => by
    rw [tryP, tryQ, first_find]
    congr 1
    funext i
    rw [try_q sts n r]
theorem three_found : srchP [] sts3 = some [2, 0, 1] := by
  rw [srchP, try_q]
  kernel_rfl
theorem three_small : srchE sts3 = 0 := by kernel_rfl
set_option maxRecDepth 100000 in
set_option maxHeartbeats 6400000 in
theorem three_any (w : World) : Calls Try.prog 21 #[] w fun e w' => ∃ a vs, e = .returned (.slice a 3 3) ∧ Stories w' a 3 sts3 vs ∧ Below w.heap.size w w' := by
  have h1 := (Star.begin w).rowNew 46 6 (mvsC [⟨3, false, 0, 0, false, 2⟩, ⟨4, true, 0, 1, false, 0⟩]).toArray 2 (by simp [maxLen]) rfl
  have h2 := h1.rowNew 46 6 (mvsC [⟨9, false, 0, 1, false, 4⟩]).toArray 1 (by simp [maxLen]) rfl
  have h3 := h2.rowNew 46 6 (mvsC [⟨4, false, 0, 0, false, 2⟩]).toArray 1 (by simp [maxLen]) rfl
  simp only [World.size_alloc] at h3
  have h4 := h3.rowNew 44 10 (stosC sts3 [.slice (some ⟨w.heap.size, 0, none⟩) 2 2, .slice (some ⟨w.heap.size + 1, 0, none⟩) 1 1, .slice (some ⟨w.heap.size + 1 + 1, 0, none⟩) 1 1]).toArray 3 (by simp [maxLen]) rfl
  simp only [World.size_alloc] at h4
  have H4 := Lib.hid h4
  clear h1 h2 h3 h4
  go_enter Try.func21, Try.ntmps21
  go_wp2
  go_ret
  refine ⟨_, [.slice (some ⟨w.heap.size, 0, none⟩) 2 2, .slice (some ⟨w.heap.size + 1, 0, none⟩) 1 1, .slice (some ⟨w.heap.size + 1 + 1, 0, none⟩) 1 1], rfl, ⟨H4.out.rowSl, rfl, rfl, fun i s v hs hv => ?_⟩, (H4.out.pull 4).below⟩
  match i, hs, hv with
  | 0, hs, hv =>
    injection hs with hs
    injection hv with hv
    subst hs hv
    exact ⟨_, 2, 2, rfl, rfl, (H4.out.pull 3).rowSl, by omega⟩
  | 1, hs, hv =>
    injection hs with hs
    injection hv with hv
    subst hs hv
    exact ⟨_, 1, 1, rfl, rfl, (H4.out.pull 2).rowSl, by omega⟩
  | 2, hs, hv =>
    injection hs with hs
    injection hv with hv
    subst hs hv
    exact ⟨_, 1, 1, rfl, rfl, (H4.out.pull 1).rowSl, by omega⟩
end Go.Proofs.Ytljdkfhkpjjfgaa
namespace Go.Proofs.Ytljdkfhkpjjfgaa
open Go.RowKit Go.Shelf
set_option linter.unusedVariables false

theorem Sl.nil (w : World) (size : Nat) : Sl w none 0 size [] := ⟨by simp, fun h => absurd h (by omega)⟩
theorem row3 (w : World) (x y z : Int) : Sl (w.alloc (.cells #[.int .i64 x, .int .i64 y, .int .i64 z] 3)) (some ⟨w.heap.size, 0, none⟩) 3 1 (intsC [x, y, z]) :=
  ((Star.begin w).rowNew 3 1 #[.int .i64 x, .int .i64 y, .int .i64 z] 3 (by simp [maxLen]) rfl).rowSl
theorem row3_star {W w : World} {L : List HA} (h : Star W w L) (x y z : Int) : Star W (w.alloc (.cells #[.int .i64 x, .int .i64 y, .int .i64 z] 3)) L := (h.new _).drop
theorem natsC_ints (l : List Nat) : natsC l = intsC (intsOf l) := by simp [natsC, intsC, intsOf]
theorem Star.under {W w w1 : World} (h : Star W w [oldA W]) (hb : Below w.heap.size w w1) : Star W w1 [oldA W] := h.of_below hb
theorem Stories.below {w w' : World} {B : Option Addr} {m : Nat} {sts : List Sto} {vs : List Value} (hT : Stories w B m sts vs) (h : Below w.heap.size w w') : Stories w' B m sts vs :=
  hT.after (L := []) ((Star.begin w).of_below h)
theorem Sl.below {w w' : World} {A : Option Addr} {k size : Nat} {xs : List Value} (hS : Sl w A k size xs) (hs : 0 < size) (h : Below w.heap.size w w') : Sl w' A k size xs :=
  hS.after (L := []) hs ((Star.begin w).of_below h)
theorem below_alloc (w : World) (o : Obj) : Below w.heap.size w (w.alloc o) := (((Star.begin w).new o).pull 1).below
theorem below_drew (w : World) (q : Nat) : Below w.heap.size w (w.drewN q) := ((Star.begin w).drewN q).below
theorem below_next {w w1 w2 : World} (h : Below w.heap.size w w1) (h2 : Below w1.heap.size w1 w2) : Below w.heap.size w w2 := ((Star.begin w).of_below h |>.of_below h2).below
set_option maxRecDepth 100000 in
set_option maxHeartbeats 6400000 in
theorem awake_any (w : World) : Calls Try.prog 10 #[] w fun e w' => e = .returned (.bool true) ∧ Below w.heap.size w w' := by
  go_enter Try.func10, Try.ntmps10
  go_wp2_with fail
  refine (three_any _).mono ?_
  rintro e' w1 ⟨a, vs, rfl, hT1, hb1⟩
  have HT1 := Lib.hid hT1
  have HB1 := Lib.hid hb1
  clear hT1 hb1
  go_wp2_with fail
  refine (order_any a 3 3 sts3 vs w1 HT1.out (by omega)).mono ?_
  rintro e' w2 ⟨b, c, rfl, h2⟩
  have hb2 : Below w1.heap.size w1 w2 := (h2.pull 1).below
  have hB2 := below_next HB1.out hb2
  have hT2 := HT1.out.below hb2
  rw [three_order, natsC_ints] at h2
  have hs2 := h2.rowSl.below (by omega) (below_alloc w2 (.cells #[.int .i64 2, .int .i64 0, .int .i64 1] 3))
  have S2 := Lib.hid (sameInts_any (intsOf [2, 0, 1]) [2, 0, 1] b (some ⟨w2.heap.size, 0, none⟩) 3 3 c 3 _ hs2 (row3 w2 2 0 1) (by omega))
  have HT2 := Lib.hid hT2
  have HB2 := Lib.hid hB2
  clear h2 hb2 hB2 hT2 HT1 HB1 hs2
  go_wp2_with fail
  refine S2.out.mono ?_
  rintro e' w3 ⟨rfl, q, rfl⟩
  have es : decide (intsOf [2, 0, 1] = [2, 0, 1]) = true := by decide
  rw [es]
  have hA := below_next (below_alloc w2 (.cells #[.int .i64 2, .int .i64 0, .int .i64 1] 3)) (below_drew _ q)
  have hT3 := HT2.out.below hA
  have hB3 := below_next HB2.out hA
  generalize (w2.alloc (.cells #[.int .i64 2, .int .i64 0, .int .i64 1] 3)).drewN q = w3 at hT3 hB3 ⊢
  have HT3 := Lib.hid hT3
  have HB3 := Lib.hid hB3
  clear hA hT3 hB3 HT2 HB2 S2 es
  go_wp2_with fail
  have hA := below_alloc w3 (.cells #[.int .i64 2, .int .i64 0, .int .i64 1] 3)
  refine (check_any none 0 0 [] a 3 3 sts3 vs (some ⟨w3.heap.size, 0, none⟩) 3 3 [2, 0, 1] _ (Sl.nil _ _) (by omega) (HT3.out.below hA) (by omega) (row3 w3 2 0 1) (by omega)).mono ?_
  rintro e' w4 ⟨rfl, hb4⟩
  rw [three_fine]
  have hC := below_next hA hb4
  have HT4 := Lib.hid (HT3.out.below hC)
  have HB4 := Lib.hid (below_next HB3.out hC)
  clear hA hb4 hC HT3 HB3
  go_wp2_with fail
  have hA := below_alloc w4 (.cells #[.int .i64 0, .int .i64 2, .int .i64 1] 3)
  refine (check_any none 0 0 [] a 3 3 sts3 vs (some ⟨w4.heap.size, 0, none⟩) 3 3 [0, 2, 1] _ (Sl.nil _ _) (by omega) (HT4.out.below hA) (by omega) (row3 w4 0 2 1) (by omega)).mono ?_
  rintro e' w5 ⟨rfl, hb5⟩
  rw [three_read]
  have hC := below_next hA hb5
  have HT5 := Lib.hid (HT4.out.below hC)
  have HB5 := Lib.hid (below_next HB4.out hC)
  clear hA hb5 hC HT4 HB4
  go_wp2_with fail
  have hA := below_alloc w5 (.cells #[.int .i64 1, .int .i64 0, .int .i64 2] 3)
  refine (check_any none 0 0 [] a 3 3 sts3 vs (some ⟨w5.heap.size, 0, none⟩) 3 3 [1, 0, 2] _ (Sl.nil _ _) (by omega) (HT5.out.below hA) (by omega) (row3 w5 1 0 2) (by omega)).mono ?_
  rintro e' w6 ⟨rfl, hb6⟩
  rw [three_time]
  have hC := below_next hA hb6
  have HT6 := Lib.hid (HT5.out.below hC)
  have HB6 := Lib.hid (below_next HB5.out hC)
  clear hA hb6 hC HT5 HB5
  go_wp2_with fail
  refine (search_any none 0 0 [] a 3 3 sts3 vs w6 (Sl.nil _ _) (by omega) HT6.out (by omega)).mono ?_
  rintro e' w7 h7
  rw [three_found, three_small] at h7
  obtain ⟨fa, fq, he, h7⟩ := h7
  have he : e' = .returned (.tuple #[.slice fa 3 fq, .bool true, .int .i64 0]) := he
  subst he
  have h7' : Star w6 w7 [rowA 3 1 (.slice fa 3 fq) 3 (intsC (intsOf [2, 0, 1])), oldA w6] := h7
  have hb7 : Below w6.heap.size w6 w7 := (h7'.pull 1).below
  have hs7 := h7'.rowSl.below (by omega) (below_alloc w7 (.cells #[.int .i64 2, .int .i64 0, .int .i64 1] 3))
  have S7 := Lib.hid (sameInts_any (intsOf [2, 0, 1]) [2, 0, 1] fa (some ⟨w7.heap.size, 0, none⟩) 3 3 fq 3 _ hs7 (row3 w7 2 0 1) (by omega))
  have HB7 := Lib.hid (below_next HB6.out hb7)
  clear h7 h7' hb7 hs7 HT6 HB6
  go_wp2_with fail
  refine S7.out.mono ?_
  rintro e' w8 ⟨rfl, q8, rfl⟩
  have es : decide (intsOf [2, 0, 1] = [2, 0, 1]) = true := by decide
  rw [es]
  have hA := below_next (below_alloc w7 (.cells #[.int .i64 2, .int .i64 0, .int .i64 1] 3)) (below_drew _ q8)
  have HB8 := Lib.hid (below_next HB7.out hA)
  clear hA S7 HB7 es
  go_wp2
  go_ret
  exact ⟨rfl, HB8.out⟩
/-- OpaqueNames -/
theorem names_any (w : World) : Calls Try.prog 3 #[] w fun e w' => e = .returned (.bool true) ∧ Below w.heap.size w w' := by
  go_enter Try.func3, Try.ntmps3
  go_wp2_with fail
  refine (awake_any _).mono ?_
  rintro e' w1 ⟨rfl, hb⟩
  have HB := Lib.hid hb
  clear hb
  go_wp2
  go_ret
  exact ⟨rfl, HB.out⟩
end Go.Proofs.Ytljdkfhkpjjfgaa
namespace Go.Proofs.Ytljdkfhkpjjfgaa
set_option linter.unusedVariables false

/-- may places come next, one behind the other -/
def okT (sts : List Sto) (n : Nat) : Cells → List Nat → List Nat → Bool
  | _, _, [] => true
  | f, ord, i :: t => decide (i < n) && mayP sts n f ord i && okT sts n (putsF f (leftOf (stAt sts i))) (ord ++ [i]) t
/-- is the first list the same, or less where they differ first -/
def LexLe (a b : List Nat) : Prop := ∀ k : Nat, (∀ j, j < k → a[j]? = b[j]?) → a[k]? ≠ b[k]? → ∃ x y, a[k]? = some x ∧ b[k]? = some y ∧ x < y
theorem lexLe_refl (a : List Nat) : LexLe a a := fun k _ h => absurd rfl h
theorem lexLe_cons {a b : List Nat} (i : Nat) (h : LexLe a b) : LexLe (i :: a) (i :: b) := fun k hj hk => by
  cases k with
  | zero => exact absurd rfl hk
  | succ k =>
    simp only [List.getElem?_cons_succ] at hk ⊢
    exact h k (fun j hjk => by have := hj (j + 1) (by omega); simpa using this) hk
theorem lexLe_lt {i j : Nat} (a b : List Nat) (h : i < j) : LexLe (i :: a) (j :: b) := fun k hj hk => by
  cases k with
  | zero => exact ⟨i, j, rfl, rfl, h⟩
  | succ k =>
    have := hj 0 (by omega)
    simp at this
    omega
theorem find_range {n i : Nat} (g : Nat → Option (List Nat)) (hi : i < n) (h : g i ≠ none) : ∃ i0 o, i0 ≤ i ∧ g i0 = some o ∧ (List.range n).findSome? g = some o := by
  induction n with
  | zero => omega
  | succ n ih =>
    rw [List.range_succ, List.findSome?_append]
    cases hr : (List.range n).findSome? g with
    | some o =>
      obtain ⟨i0, hm, he⟩ := List.exists_of_findSome?_eq_some hr
      by_cases hin : i < n
      · obtain ⟨i1, o1, h1, h2, h3⟩ := ih hin
        rw [hr] at h3
        injection h3 with h3
        subst h3
        exact ⟨i1, o, h1, h2, rfl⟩
      · exact ⟨i0, o, by have := List.mem_range.1 hm; omega, he, rfl⟩
    | none =>
      have hno : ∀ x, x < n → g x = none := fun x hx => List.findSome?_eq_none_iff.1 hr x (List.mem_range.2 hx)
      have : i = n := by
        rcases Nat.lt_or_ge i n with h1 | h1
        · exact absurd (hno i h1) h
        · omega
      subst this
      cases hg : g i with
      | none => exact absurd hg h
      | some o => exact ⟨i, o, Nat.le_refl _, hg, by simp [hg]⟩
theorem tryQ_sound (sts : List Sto) (n : Nat) : ∀ r f ord o, tryQ sts n r f ord = some o → ∃ t, t.length = r ∧ o = ord ++ t ∧ okT sts n f ord t = true
  | 0, f, ord, o, h => by
    rw [tryQ] at h
    injection h with h
    exact ⟨[], rfl, by simp [h], rfl⟩
  | r + 1, f, ord, o, h => by
    rw [tryQ] at h
    obtain ⟨i, hm, he⟩ := List.exists_of_findSome?_eq_some h
    by_cases hmay : mayP sts n f ord i = true
    · rw [if_pos hmay] at he
      obtain ⟨t, hl, rfl, ht⟩ := tryQ_sound sts n r _ _ _ he
      refine ⟨i :: t, by simp [hl], by simp, ?_⟩
      rw [okT, hmay, ht]
      simpa using List.mem_range.1 hm
    · rw [if_neg hmay] at he
      cases he
theorem tryQ_least (sts : List Sto) (n : Nat) : ∀ r f ord t, t.length = r → okT sts n f ord t = true → ∃ t', tryQ sts n r f ord = some (ord ++ t') ∧ LexLe t' t
  | 0, f, ord, t, hl, h => by
    have : t = [] := List.eq_nil_of_length_eq_zero hl
    subst this
    exact ⟨[], by rw [tryQ]; simp, lexLe_refl _⟩
  | r + 1, f, ord, [], hl, h => by simp at hl
  | r + 1, f, ord, i :: t, hl, h => by
    rw [okT, Bool.and_eq_true, Bool.and_eq_true, decide_eq_true_eq] at h
    obtain ⟨⟨hi, hmay⟩, ht⟩ := h
    obtain ⟨t1, h1, hx1⟩ := tryQ_least sts n r _ _ t (by simpa using hl) ht
    obtain ⟨i0, o, hle, hg, hf⟩ := find_range (fun i => if mayP sts n f ord i then tryQ sts n r (putsF f (leftOf (stAt sts i))) (ord ++ [i]) else none) hi (by rw [if_pos hmay, h1]; exact fun h => nomatch h)
    rw [tryQ, hf]
    by_cases hmay0 : mayP sts n f ord i0 = true
    · rw [if_pos hmay0] at hg
      obtain ⟨t2, hl2, rfl, ht2⟩ := tryQ_sound sts n r _ _ _ hg
      rcases Nat.lt_or_ge i0 i with hlt | hge
      · exact ⟨i0 :: t2, by simp, lexLe_lt _ _ hlt⟩
      · have : i0 = i := by omega
        subst this
        rw [h1] at hg
        injection hg with hg
        exact ⟨i0 :: t1, by rw [← hg]; simp, lexLe_cons _ hx1⟩
    · rw [if_neg hmay0] at hg
      cases hg
end Go.Proofs.Ytljdkfhkpjjfgaa
namespace Go.Proofs.Ytljdkfhkpjjfgaa
set_option linter.unusedVariables false

theorem nodup_len : ∀ (n : Nat) (l : List Nat), l.Nodup → (∀ i ∈ l, i < n) → l.length ≤ n
  | 0, l, _, h => by
    cases l with
    | nil => simp
    | cons a l => exact absurd (h a (by simp)) (by omega)
  | n + 1, l, hd, h => by
    have h1 := nodup_len n (l.erase n) (hd.erase n) (fun i hi => by
      have h2 := h i (List.mem_of_mem_erase hi)
      have h3 : i ≠ n := fun e => by subst e; exact hd.not_mem_erase hi
      omega)
    have h2 := List.length_erase_add_one_ge n l
    omega
where
  List.length_erase_add_one_ge (n : Nat) (l : List Nat) : l.length ≤ (l.erase n).length + 1 := by
    rw [List.length_erase]
    split <;> omega
theorem nodup_cover (n : Nat) (l : List Nat) (hd : l.Nodup) (h : ∀ i ∈ l, i < n) (hl : l.length = n) (k : Nat) (hk : k < n) : k ∈ l := by
  apply Classical.byContradiction
  intro hn
  have := nodup_len n (k :: l) (List.nodup_cons.2 ⟨hn, hd⟩) (fun i hi => by
    rcases List.mem_cons.1 hi with rfl | hi
    · exact hk
    · exact h i hi)
  simp at this
  omega
theorem evP_shape {n : Nat} : ∀ (zs : List Int) (ord : List Nat), evP n (intsOf ord) zs = true → ord.Nodup → ∃ t : List Nat, zs = intsOf t ∧ (∀ i ∈ t, i < n) ∧ (ord ++ t).Nodup ∧ ord.length + t.length = n
  | [], ord, h, hd => ⟨[], rfl, by simp, by simpa using hd, by rw [evP] at h; simpa [intsOf] using h⟩
  | z :: zs, ord, h, hd => by
    rw [evP] at h
    by_cases hc : 0 ≤ z ∧ z < n ∧ z ∉ intsOf ord
    · rw [if_pos hc] at h
      obtain ⟨i, rfl⟩ : ∃ i : Nat, z = i := ⟨z.toNat, by omega⟩
      have hio : i ∉ ord := fun hm => hc.2.2 (mem_intsOf.2 hm)
      have e : intsOf ord ++ [(i : Int)] = intsOf (ord ++ [i]) := by simp [intsOf]
      rw [e] at h
      obtain ⟨t, rfl, h1, h2, h3⟩ := evP_shape zs (ord ++ [i]) h (by rw [List.nodup_append]; exact ⟨hd, by simp, by intro a ha b hb; rw [List.mem_singleton.1 hb]; exact fun e => hio (e ▸ ha)⟩)
      refine ⟨i :: t, rfl, fun k hk => ?_, by simpa using h2, by simp at h3 ⊢; omega⟩
      rcases List.mem_cons.1 hk with rfl | hk
      · omega
      · exact h1 k hk
    · rw [if_neg hc] at h
      cases h
theorem evP_of {n : Nat} : ∀ (t : List Nat) (ord : List Nat), (∀ i ∈ t, i < n) → (ord ++ t).Nodup → ord.length + t.length = n → evP n (intsOf ord) (intsOf t) = true
  | [], ord, _, _, hl => by rw [show intsOf [] = [] from rfl, evP]; simpa [intsOf] using hl
  | i :: t, ord, h, hd, hl => by
    rw [show intsOf (i :: t) = (i : Int) :: intsOf t from rfl, evP]
    have hio : i ∉ ord := fun hm => (List.nodup_append.1 hd).2.2 i hm i (by simp) rfl
    rw [if_pos ⟨by omega, by have := h i (by simp); omega, fun hm => hio (mem_intsOf.1 hm)⟩]
    have e : intsOf ord ++ [(i : Int)] = intsOf (ord ++ [i]) := by simp [intsOf]
    rw [e]
    exact evP_of t (ord ++ [i]) (fun k hk => h k (by simp [hk])) (by simpa using hd) (by simp at hl ⊢; omega)
/-- b stands behind a although it ended ahead of a's begin -/
def Against (sts : List Sto) (a b : Int) : Prop := (stAt sts b).end_ ≠ 0 ∧ (stAt sts b).end_ < (stAt sts a).begin_
def readN (sts : List Sto) : Cells → List Int → Bool
  | _, [] => true
  | f, i :: r => explS f (fun _ => none) (stAt sts i).moves && readN sts (putsF f (leftOf (stAt sts i))) r
theorem readP_none (sts : List Sto) : ∀ (zs : List Int) (k : Nat) (f : Cells), readP sts k f zs = none ↔ readN sts f zs = true
  | [], k, f => by rw [readP, readN]; simp
  | i :: r, k, f => by
    rw [readP, readN, Bool.and_eq_true, ← readP_none sts r (k + 1)]
    cases explS f (fun _ => none) (stAt sts i).moves <;> simp
theorem timeP_late (sts : List Sto) : ∀ (zs : List Int) (k : Nat) (late : Int), 0 < k → (timeP sts k late zs = none ↔ (∀ b ∈ zs, ¬((stAt sts b).end_ ≠ 0 ∧ (stAt sts b).end_ < late)) ∧ zs.Pairwise fun a b => ¬ Against sts a b)
  | [], k, late, hk => by rw [timeP]; simp
  | i :: r, k, late, hk => by
    rw [timeP]
    by_cases hc : (stAt sts i).end_ ≠ 0 ∧ (stAt sts i).end_ < late
    · rw [if_pos ⟨hk, hc⟩]
      constructor
      · intro h; cases h
      · intro h; exact absurd hc (h.1 i (by simp))
    · rw [if_neg (fun h => hc h.2), timeP_late sts r (k + 1) _ (by omega), List.pairwise_cons]
      have hk0 : ¬ k = 0 := by omega
      by_cases hl : late < (stAt sts i).begin_
      · rw [if_pos (Or.inr hl)]
        constructor
        · rintro ⟨h1, h2⟩
          refine ⟨fun b hb => ?_, fun b hb => h1 b hb, h2⟩
          rcases List.mem_cons.1 hb with rfl | hb
          · exact hc
          · exact fun h => h1 b hb ⟨h.1, by omega⟩
        · rintro ⟨h1, h2, h3⟩
          exact ⟨fun b hb => h2 b hb, h3⟩
      · rw [if_neg (by omega)]
        constructor
        · rintro ⟨h1, h2⟩
          refine ⟨fun b hb => ?_, fun b hb h => h1 b hb ⟨h.1, by have := h.2; omega⟩, h2⟩
          rcases List.mem_cons.1 hb with rfl | hb
          · exact hc
          · exact h1 b hb
        · rintro ⟨h1, h2, h3⟩
          exact ⟨fun b hb => h1 b (by simp [hb]), h3⟩
theorem timeP_none (sts : List Sto) (zs : List Int) : timeP sts 0 0 zs = none ↔ zs.Pairwise fun a b => ¬ Against sts a b := by
  cases zs with
  | nil => rw [timeP]; simp
  | cons i r =>
    rw [timeP, if_neg (fun h => absurd h.1 (by omega)), if_pos (Or.inl rfl), timeP_late sts r 1 _ (by omega), List.pairwise_cons]
    exact Iff.rfl
theorem block_false (sts : List Sto) (n : Nat) (ord t : List Nat) (i : Nat) (hn : ∀ k ∈ i :: t, k < n) (hd : (ord ++ i :: t).Nodup) (hc : ∀ k, k < n → k ∈ ord ++ i :: t) :
    blockP sts n ord i = false ↔ ∀ b ∈ intsOf t, ¬ Against sts i b := by
  rw [blockP, List.any_eq_false]
  constructor
  · intro h b hb
    obtain ⟨k, hk, rfl⟩ := List.mem_map.1 hb
    have h1 := h k (List.mem_range.2 (hn k (by simp [hk])))
    have hko : k ∉ ord := fun hm => (List.nodup_append.1 hd).2.2 k hm k (by simp [hk]) rfl
    have hki : k ≠ i := fun e => by
      subst e
      exact (List.nodup_cons.1 (List.nodup_append.1 hd).2.1).1 hk
    intro ha
    apply h1
    simp [hko, hki, ha.1, ha.2]
  · intro h k hk
    have hk := List.mem_range.1 hk
    simp only [Bool.and_eq_true, Bool.not_eq_true', decide_eq_false_iff_not, bne_iff_ne, ne_eq, decide_eq_true_eq, not_and]
    intro h1 h2
    have hm := hc k hk
    simp only [List.mem_append, List.mem_cons] at hm
    rcases hm with hm | hm | hm
    · exact absurd hm h1.1.1
    · exact absurd hm h1.1.2
    · exact h k (mem_intsOf.2 hm) ⟨h1.2, h2⟩
theorem okT_iff (sts : List Sto) (n : Nat) : ∀ (t : List Nat) (f : Cells) (ord : List Nat), (∀ k ∈ t, k < n) → (ord ++ t).Nodup → (∀ k, k < n → k ∈ ord ++ t) →
    (okT sts n f ord t = true ↔ readN sts f (intsOf t) = true ∧ (intsOf t).Pairwise fun a b => ¬ Against sts a b)
  | [], f, ord, _, _, _ => by rw [okT, show intsOf [] = [] from rfl, readN]; simp
  | i :: t, f, ord, hn, hd, hc => by
    have hio : i ∉ ord := fun hm => (List.nodup_append.1 hd).2.2 i hm i (by simp) rfl
    have hb := block_false sts n ord t i hn hd hc
    rw [okT, Bool.and_eq_true, Bool.and_eq_true, okT_iff sts n t _ (ord ++ [i]) (fun k hk => hn k (by simp [hk])) (by simpa using hd) (by simpa using hc), show intsOf (i :: t) = (i : Int) :: intsOf t from rfl, readN, List.pairwise_cons, Bool.and_eq_true, mayP]
    simp only [hio, decide_false, Bool.not_false, Bool.true_and, Bool.and_eq_true, Bool.not_eq_true', decide_eq_true_eq]
    rw [hb]
    have := hn i (by simp)
    constructor
    · rintro ⟨⟨h0, h1, h2⟩, h3, h4⟩
      exact ⟨⟨h1, h3⟩, h2, h4⟩
    · rintro ⟨⟨h1, h3⟩, h2, h4⟩
      exact ⟨⟨this, h1, h2⟩, h3, h4⟩
theorem okT_nodup (sts : List Sto) (n : Nat) : ∀ (t : List Nat) (f : Cells) (ord : List Nat), ord.Nodup → okT sts n f ord t = true → (ord ++ t).Nodup ∧ ∀ k ∈ t, k < n
  | [], f, ord, hd, _ => ⟨by simpa using hd, by simp⟩
  | i :: t, f, ord, hd, h => by
    rw [okT, Bool.and_eq_true, Bool.and_eq_true, decide_eq_true_eq, mayP, Bool.and_eq_true, Bool.and_eq_true] at h
    obtain ⟨⟨hi, ⟨h1, _⟩, _⟩, ht⟩ := h
    have hio : i ∉ ord := by simpa using h1
    obtain ⟨h2, h3⟩ := okT_nodup sts n t _ (ord ++ [i]) (by rw [List.nodup_append]; exact ⟨hd, by simp, by intro a ha b hb; rw [List.mem_singleton.1 hb]; exact fun e => hio (e ▸ ha)⟩) ht
    refine ⟨by simpa using h2, fun k hk => ?_⟩
    rcases List.mem_cons.1 hk with rfl | hk
    · exact hi
    · exact h3 k hk
theorem check_ok (st : List Int) (sts : List Sto) (zs : List Int) : checkP st sts zs = (0, 0) ↔ evP sts.length [] zs = true ∧ readN sts (begF st) zs = true ∧ zs.Pairwise fun a b => ¬ Against sts a b := by
  rw [checkP]
  cases hev : evP sts.length [] zs with
  | false => simp
  | true =>
    simp only [if_true, true_and]
    rw [← timeP_none, ← readP_none sts zs 0]
    cases timeP sts 0 0 zs with
    | some k => simp
    | none =>
      cases readP sts 0 (begF st) zs with
      | some k => simp
      | none => simp
theorem check_okT (st : List Int) (sts : List Sto) (o : List Nat) (h : okT sts sts.length (begF st) [] o = true) (hl : o.length = sts.length) : checkP st sts (intsOf o) = (0, 0) := by
  obtain ⟨hd, hn⟩ := okT_nodup sts sts.length o (begF st) [] (by simp) h
  have hd' : o.Nodup := by simpa using hd
  have hc := nodup_cover sts.length o hd' hn hl
  rw [check_ok]
  have := (okT_iff sts sts.length o (begF st) [] hn hd (by simpa using hc)).1 h
  exact ⟨evP_of o [] hn hd (by simpa using hl), this.1, this.2⟩
theorem okT_check (st : List Int) (sts : List Sto) (zs : List Int) (h : checkP st sts zs = (0, 0)) : ∃ o : List Nat, zs = intsOf o ∧ o.length = sts.length ∧ okT sts sts.length (begF st) [] o = true := by
  rw [check_ok] at h
  obtain ⟨hev, h2, h3⟩ := h
  obtain ⟨o, rfl, hn, hd, hl⟩ := evP_shape zs [] hev (by simp)
  have hd' : o.Nodup := by simpa using hd
  have hl' : o.length = sts.length := by simpa using hl
  have hc := nodup_cover sts.length o hd' hn hl'
  exact ⟨o, rfl, hl', (okT_iff sts sts.length o (begF st) [] hn hd (by simpa using hc)).2 ⟨h2, h3⟩⟩
/-- P22.5: what Check takes Search finds, or one that is less -/
theorem found_of (st : List Int) (sts : List Sto) (zs : List Int) (h : checkP st sts zs = (0, 0)) (h7 : sts.length ≤ 7) : ∃ o o' : List Nat, zs = intsOf o ∧ o.length = sts.length ∧ srchP st sts = some o' ∧ o'.length = sts.length ∧ checkP st sts (intsOf o') = (0, 0) ∧ LexLe o' o := by
  obtain ⟨o, rfl, hl, hok⟩ := okT_check st sts zs h
  obtain ⟨o', h1, h2⟩ := tryQ_least sts sts.length sts.length (begF st) [] o hl hok
  obtain ⟨t, ht, he, hok'⟩ := tryQ_sound sts sts.length _ _ _ _ h1
  have : t = o' := by simpa using he.symm
  subst this
  refine ⟨o, t, rfl, hl, ?_, ht, check_okT st sts t hok' ht, h2⟩
  rw [srchP, if_pos h7, try_q, h1]
  rfl
end Go.Proofs.Ytljdkfhkpjjfgaa
namespace Go.Proofs.Ytljdkfhkpjjfgaa
open Go.RowKit Go.Shelf
set_option linter.unusedVariables false

/-- how many moves stories have -/
def movesN : List Sto → Nat
  | [] => 0
  | s :: r => s.moves.length + movesN r
theorem movesN_append : ∀ (a b : List Sto), movesN (a ++ b) = movesN a + movesN b
  | [], b => by simp [movesN]
  | s :: a, b => by rw [List.cons_append, movesN, movesN, movesN_append a b]; omega
theorem movesN_snoc (a : List Sto) (s : Sto) : movesN (a ++ [s]) = movesN a + s.moves.length := by rw [movesN_append]; simp [movesN]
theorem movesN_take (sts : List Sto) (j : Nat) : movesN (sts.take j) ≤ movesN sts := by
  conv => rhs; rw [← List.take_append_drop j sts, movesN_append]
  omega
def longB (sts : List Sto) : Bool := decide (300 < movesN sts)
set_option maxRecDepth 100000 in
set_option maxHeartbeats 6400000 in
theorem long_any (B : Option Addr) (m d : Nat) (sts : List Sto) (vs : List Value) (w : World) (hT : Stories w B m sts vs) (hbm : m * 96 ≤ 140737488355328) :
    Calls Try.prog 16 #[.slice B m d] w fun e w' => e = .returned (.bool (longB sts)) ∧ w = w' := by
  have HT := Lib.hid hT
  clear hT
  go_enter Try.func16, Try.ntmps16
  go_wp2
  go_loop [3, 4] (fun n i => ∃ j : Nat, j ≤ m ∧ i = .int .i64 j ∧ movesN (sts.take j) ≤ 300 ∧ n = .int .i64 (movesN (sts.take j))) (fun _ i => m - (intOf i).toNat)
  case atStart => exact ⟨0, Nat.zero_le _, rfl, by simp [movesN], rfl⟩
  case round =>
    obtain ⟨j, hj, rfl, h3, rfl⟩ := hrel
    by_cases hlt : j < m
    · obtain ⟨s, hs⟩ : ∃ s, sts[j]? = some s := ⟨_, List.getElem?_eq_getElem (by have := HT.out.ns; omega)⟩
      obtain ⟨v, hv⟩ : ∃ v, vs[j]? = some v := ⟨_, List.getElem?_eq_getElem (by have := HT.out.nv; omega)⟩
      obtain ⟨MA, mk, mc, rfl, hmk, hms, hmb⟩ := HT.out.mv j s v hs hv
      obtain ⟨g, o, rfl, hg, ca⟩ := HT.out.row.row hlt (by omega)
      have a9 : w.cell? ⟨g, o + j * 10 + 9, none⟩ = some (.slice MA mk mc) := ca 9 _ (by rw [stosC_at hs hv (by omega)]; rfl)
      have hjz : (j : Int) < m := by omega
      have ht : movesN (sts.take (j + 1)) = movesN (sts.take j) + mk := by
        rw [take_succ hs, movesN_snoc, hmk]
      have hle := movesN_take sts (j + 1)
      generalize movesN (sts.take j) = t at h3 ht ⊢
      by_cases h300 : 300 < t + mk
      · have e1 : longB sts = true := by rw [longB, decide_eq_true_eq]; omega
        have E1 := Lib.hid e1
        have h300z : (300 : Int) < (t : Int) + mk := by omega
        clear ca hs hv ht e1 hms hmk
        go_wp2
        go_ret
        exact ⟨by rw [E1.out]; rfl, rfl⟩
      · have h300z : ¬ (300 : Int) < (t : Int) + mk := by omega
        have H3 := Lib.hid ht
        clear ca hs hv hms hmk ht
        go_wp2
        go_round
        case rel => exact ⟨j + 1, by omega, by go_num, by rw [H3.out]; omega, by rw [H3.out]; go_num⟩
        case measure => simp [intOf]; omega
    · have hkn : j = m := by omega
      have e1 : longB sts = false := by
        rw [longB, decide_eq_false_iff_not]
        have : sts.take j = sts := List.take_of_length_le (by have := HT.out.ns; omega)
        rw [this] at h3
        omega
      have E1 := Lib.hid e1
      have hjz : ¬ (j : Int) < m := by omega
      clear e1
      go_wp2
      go_ret
      exact ⟨by rw [E1.out]; rfl, rfl⟩
end Go.Proofs.Ytljdkfhkpjjfgaa
