/- The document s Order: lemmas for the laws of layer 22. -/
import Derived.Test.YtljdkfhkpjjfgaaOp24
namespace Go.Proofs.Ytljdkfhkpjjfgaa
open Go.RowKit Go.Shelf
set_option linter.unusedVariables false

/-- the cells of a story's box, one by one -/
theorem sto_cells {W w : World} {L : List HA} {b : Nat} {t : TypeId} {s : Sto} {A : Option Addr} {k c : Nat} (h : Star W w (cellsA b (stoC s (.slice A k c)).toArray t :: L)) :
    w.cell? ⟨b, 0, none⟩ = some (.int .i64 s.thread) ∧ w.cell? ⟨b, 1, none⟩ = some (.int .i64 s.stamp) ∧ w.cell? ⟨b, 2, none⟩ = some (.int .i64 s.begin_) ∧ w.cell? ⟨b, 3, none⟩ = some (.int .i64 s.end_) ∧ w.cell? ⟨b, 4, none⟩ = some (.int .i64 s.fate) ∧
      w.cell? ⟨b, 5, none⟩ = some (.int .i64 s.e) ∧ w.cell? ⟨b, 6, none⟩ = some (.int .i64 s.by_) ∧ w.cell? ⟨b, 7, none⟩ = some (.int .i64 s.opens) ∧ w.cell? ⟨b, 8, none⟩ = some (.int .i64 s.gate) ∧ w.cell? ⟨b, 9, none⟩ = some (.slice A k c) :=
  ⟨h.cell 0, h.cell 1, h.cell 2, h.cell 3, h.cell 4, h.cell 5, h.cell 6, h.cell 7, h.cell 8, h.cell 9⟩
theorem wrStep_ne (ps : List (Int × Int)) (m : Mv) : wrStep ps m ≠ [] := by
  unfold wrStep
  cases h : ixOf ps m.cell with
  | none => simp
  | some i =>
    obtain ⟨x, hx⟩ := ixOf_some h
    intro e
    have : ps = [] := by simpa using e
    rw [this] at hx
    simp at hx
theorem fold_ne : ∀ (ms : List Mv) (ps : List (Int × Int)), ps ≠ [] → ms.foldl wrStep ps ≠ []
  | [], ps, h => h
  | m :: ms, ps, h => fold_ne ms _ (wrStep_ne ps m)
theorem writes_nil (ms : List Mv) : writesOf ms = [] ↔ sel true ms = [] := by
  unfold writesOf
  cases sel true ms with
  | nil => simp
  | cons m r =>
    constructor
    · intro h; exact absurd h (fold_ne r _ (wrStep_ne _ _))
    · intro h; cases h
def wrB (s : Sto) : Bool := decide (s.fate = 1 ∧ sel true s.moves ≠ [])
def aheadB (a b : Sto) : Bool := if (pointOf a).1 = (pointOf b).1 then (if wrB a = wrB b then decide ((pointOf a).2 < (pointOf b).2) else wrB a) else decide ((pointOf a).1 < (pointOf b).1)
theorem late_wr (s : Sto) : (ptOf s).late = if wrB s then 0 else 1 := by
  unfold ptOf wrB
  have := writes_nil s.moves
  by_cases h : s.fate = 1 ∧ sel true s.moves ≠ []
  · rw [if_pos ⟨h.1, fun e => h.2 (this.1 e)⟩, decide_eq_true h]; rfl
  · rw [if_neg (fun e => h ⟨e.1, fun e2 => e.2 (this.2 e2)⟩), decide_eq_false h]; rfl
theorem ahead_lt (a b : Sto) : aheadB a b = true ↔ ptLt (ptOf a) (ptOf b) := by
  unfold aheadB ptLt
  rw [late_wr, late_wr]
  show _ ↔ (pointOf a).1 < (pointOf b).1 ∨ ((pointOf a).1 = (pointOf b).1 ∧ ((if wrB a then (0 : Int) else 1) < (if wrB b then 0 else 1) ∨ ((if wrB a then (0 : Int) else 1) = (if wrB b then 0 else 1) ∧ (pointOf a).2 < (pointOf b).2)))
  by_cases h : (pointOf a).1 = (pointOf b).1
  · rw [if_pos h]
    cases wrB a <;> cases wrB b <;> simp [h]
  · rw [if_neg h, decide_eq_true_eq]
    simp [h]
set_option maxRecDepth 100000 in
set_option maxHeartbeats 6400000 in
theorem ahead_any (a b : Sto) (A : Option Addr) (k c : Nat) (B : Option Addr) (m d : Nat) (w : World) (hA : Sl w A k 6 (mvsC a.moves)) (hk : a.moves.length = k) (hkb : k * 48 ≤ 140737488355328) (hB : Sl w B m 6 (mvsC b.moves)) (hm : b.moves.length = m) (hmb : m * 48 ≤ 140737488355328) :
    Calls Try.prog 43 #[.agg (stoC a (.slice A k c)).toArray, .agg (stoC b (.slice B m d)).toArray] w fun e w' => e = .returned (.bool (aheadB a b)) ∧ Below w.heap.size w w' := by
  have PA := Lib.hid fun W h => point_ref a A k c W h hk (by omega)
  have PB := Lib.hid fun W h => point_ref b B m d W h hm (by omega)
  have WA := Lib.hid fun W h => writer_ref a A k c W h hk (by omega)
  have WB := Lib.hid fun W h => writer_ref b B m d W h hm (by omega)
  have h0 := ((Star.begin w).new (.cells (stoC a (.slice A k c)).toArray 44)).new (.cells (stoC b (.slice B m d)).toArray 44)
  simp only [World.size_alloc] at h0
  have hcA := sto_cells (h0.pull 1)
  have hcB := sto_cells h0
  have SA := Lib.hid hA
  have SB := Lib.hid hB
  have HH0 := Lib.hid h0
  have EA : aheadB a b = if (pointOf a).1 = (pointOf b).1 then (if wrB a = wrB b then decide ((pointOf a).2 < (pointOf b).2) else wrB a) else decide ((pointOf a).1 < (pointOf b).1) := rfl
  have HE := Lib.hid EA
  clear hA hB hk hm h0 EA
  dsimp only [stoC] at hcA hcB HH0 ⊢
  obtain ⟨c0, c1, c2, c3, c4, c5, c6, c7, c8, c9⟩ := hcA
  go_enter Try.func43, Try.ntmps43
  go_wp2_with fail
  refine (PA.out _ (SA.out.after (by omega) (HH0.out.pull 2))).mono ?_
  rintro e' w1 ⟨rfl, hb1⟩
  have h1 := HH0.out.of_below hb1
  clear c0 c1 c2 c3 c4 c5 c6 c7 c8 c9 hcB hb1
  obtain ⟨d0, d1, d2, d3, d4, d5, d6, d7, d8, d9⟩ := sto_cells (s := b) h1
  have H1 := Lib.hid h1
  clear h1 HH0
  go_wp2_with fail
  refine (PB.out _ (SB.out.after (by omega) (H1.out.pull 2))).mono ?_
  rintro e' w2 ⟨rfl, hb2⟩
  have h2 := H1.out.of_below hb2
  clear d0 d1 d2 d3 d4 d5 d6 d7 d8 d9 hb2 H1
  obtain ⟨c0, c1, c2, c3, c4, c5, c6, c7, c8, c9⟩ := sto_cells (s := a) (h2.pull 1)
  have H2 := Lib.hid h2
  clear h2
  have he := HE.out
  generalize (pointOf a).1 = pa1 at he ⊢
  generalize (pointOf a).2 = pa2 at he ⊢
  generalize (pointOf b).1 = pb1 at he ⊢
  generalize (pointOf b).2 = pb2 at he ⊢
  by_cases hn : pa1 = pb1
  · rw [if_pos hn] at he
    have hnb : (pa1 != pb1) = false := by simpa using hn
    have HE2 := Lib.hid he
    clear hn he
    go_wp2_with fail
    refine (WA.out _ (SA.out.after (by omega) (H2.out.pull 2))).mono ?_
    rintro e' w3 ⟨rfl, hb3⟩
    have h3 := H2.out.of_below hb3
    clear c0 c1 c2 c3 c4 c5 c6 c7 c8 c9 hb3 H2
    obtain ⟨d0, d1, d2, d3, d4, d5, d6, d7, d8, d9⟩ := sto_cells (s := b) h3
    have H3 := Lib.hid h3
    clear h3
    obtain ⟨x, hx⟩ : ∃ x, wrB a = x := ⟨_, rfl⟩
    have he := HE2.out
    rw [hx] at he
    rw [show decide (a.fate = 1 ∧ sel true a.moves ≠ []) = x from hx]
    have HE3 := Lib.hid he
    clear he hx
    go_wp2_with fail
    refine (WB.out _ (SB.out.after (by omega) (H3.out.pull 2))).mono ?_
    rintro e' w4 ⟨rfl, hb4⟩
    have H4 := Lib.hid ((H3.out.of_below hb4).pull 2).below
    clear d0 d1 d2 d3 d4 d5 d6 d7 d8 d9 hb4 H3
    obtain ⟨y, hy⟩ : ∃ y, wrB b = y := ⟨_, rfl⟩
    have he := HE3.out
    rw [hy] at he
    rw [show decide (b.fate = 1 ∧ sel true b.moves ≠ []) = y from hy]
    have HE4 := Lib.hid he
    clear he hy
    cases x <;> cases y <;> (go_wp2; go_ret; exact ⟨by rw [HE4.out]; rfl, H4.out⟩)
  · rw [if_neg hn] at he
    have hnb : (pa1 != pb1) = true := by simpa using hn
    have HE2 := Lib.hid he
    have HB := Lib.hid (H2.out.pull 2).below
    clear hn he H2 c0 c1 c2 c3 c4 c5 c6 c7 c8 c9
    go_wp2
    go_ret
    exact ⟨by rw [HE2.out]; rfl, HB.out⟩
end Go.Proofs.Ytljdkfhkpjjfgaa
namespace Go.Proofs.Ytljdkfhkpjjfgaa
set_option linter.unusedVariables false

section
variable (less : Nat → Nat → Bool)
/-- two lists in order made one -/
def mergeF : List Nat → List Nat → List Nat
  | [], ys => ys
  | x :: xs, [] => x :: xs
  | x :: xs, y :: ys => if less y x then y :: mergeF (x :: xs) ys else x :: mergeF xs (y :: ys)
termination_by xs ys => xs.length + ys.length
theorem mergeF_nil (ys : List Nat) : mergeF less [] ys = ys := by rw [mergeF]
theorem mergeF_nil' (xs : List Nat) : mergeF less xs [] = xs := by cases xs <;> rw [mergeF]
theorem mergeF_len : ∀ (xs ys : List Nat), (mergeF less xs ys).length = xs.length + ys.length
  | [], ys => by rw [mergeF]; simp
  | x :: xs, [] => by rw [mergeF]; simp
  | x :: xs, y :: ys => by
    rw [mergeF]
    split
    · rw [List.length_cons, mergeF_len (x :: xs) ys]; simp; omega
    · rw [List.length_cons, mergeF_len xs (y :: ys)]; simp; omega
termination_by xs ys => xs.length + ys.length
theorem mergeF_perm : ∀ (xs ys : List Nat), (mergeF less xs ys).Perm (xs ++ ys)
  | [], ys => by rw [mergeF]; exact List.Perm.refl _
  | x :: xs, [] => by rw [mergeF]; simp
  | x :: xs, y :: ys => by
    rw [mergeF]
    split
    · exact ((mergeF_perm (x :: xs) ys).cons y).trans List.perm_middle.symm
    · exact (mergeF_perm xs (y :: ys)).cons x
termination_by xs ys => xs.length + ys.length
theorem mergeF_sorted (Wk : Weak less) : ∀ (xs ys : List Nat), xs.Pairwise (tot less) → ys.Pairwise (tot less) → (∀ x ∈ xs, ∀ y ∈ ys, x < y) → (mergeF less xs ys).Pairwise (tot less)
  | [], ys, hx, hy, hl => by rw [mergeF]; exact hy
  | x :: xs, [], hx, hy, hl => by rw [mergeF]; exact hx
  | x :: xs, y :: ys, hx, hy, hl => by
    have px := List.pairwise_cons.1 hx
    have py := List.pairwise_cons.1 hy
    rw [mergeF]
    by_cases h : less y x = true
    · rw [if_pos h, List.pairwise_cons]
      refine ⟨fun z hz => ?_, mergeF_sorted Wk (x :: xs) ys hx py.2 fun a ha b hb => hl a ha b (by simp [hb])⟩
      have hyx : tot less y x := .inl h
      rcases List.mem_append.1 ((mergeF_perm less (x :: xs) ys).subset hz) with hz | hz
      · rcases List.mem_cons.1 hz with rfl | hz
        · exact hyx
        · exact tot_trans Wk hyx (px.1 z hz)
      · exact py.1 z hz
    · rw [if_neg h, List.pairwise_cons]
      have h' : less y x = false := by simpa using h
      refine ⟨fun z hz => ?_, mergeF_sorted Wk xs (y :: ys) px.2 hy fun a ha b hb => hl a (by simp [ha]) b hb⟩
      have hxy : tot less x y := .inr ⟨h', hl x (by simp) y (by simp)⟩
      rcases List.mem_append.1 ((mergeF_perm less xs (y :: ys)).subset hz) with hz | hz
      · exact px.1 z hz
      · rcases List.mem_cons.1 hz with rfl | hz
        · exact hxy
        · exact tot_trans Wk hxy (py.1 z hz)
termination_by xs ys => xs.length + ys.length
/-- each two stretches of W made one -/
def halvesF (W : Nat) (l : List Nat) : List Nat :=
  if h : l = [] ∨ W = 0 then [] else mergeF less (l.take W) ((l.drop W).take W) ++ halvesF W (l.drop (2 * W))
termination_by l.length
decreasing_by
  rw [List.length_drop]
  have : 0 < l.length := List.length_pos_iff.2 fun e => h (.inl e)
  omega
theorem halvesF_nil (W : Nat) : halvesF less W [] = [] := by rw [halvesF]; simp
theorem halvesF_some {W : Nat} {l : List Nat} (hW : 0 < W) (hl : l ≠ []) : halvesF less W l = mergeF less (l.take W) ((l.drop W).take W) ++ halvesF less W (l.drop (2 * W)) := by
  conv => lhs; rw [halvesF]
  rw [dif_neg (by rintro (h | h); exact hl h; omega)]
theorem halvesF_len {W : Nat} (hW : 0 < W) : ∀ (n : Nat) (l : List Nat), l.length ≤ n → (halvesF less W l).length = l.length
  | 0, l, h => by
    have : l = [] := List.eq_nil_of_length_eq_zero (by omega)
    rw [this, halvesF_nil]
  | n + 1, l, h => by
    by_cases hl : l = []
    · rw [hl, halvesF_nil]
    · have : 0 < l.length := List.length_pos_iff.2 hl
      rw [halvesF_some less hW hl, List.length_append, mergeF_len, halvesF_len hW n _ (by rw [List.length_drop]; omega)]
      simp only [List.length_take, List.length_drop]
      omega
end
theorem seg_drop (l : List Nat) (a i j : Nat) : seg (l.drop a) i j = seg l (a + i) (a + j) := by
  have : (l.take (a + j)).drop a = (l.drop a).take j := by
    rw [List.drop_take]
    congr 1
    omega
  unfold seg
  rw [← this, List.drop_drop]
theorem seg_right {P R : List Nat} {a : Nat} (h : P.length = a) (i j : Nat) : seg (P ++ R) (a + i) (a + j) = seg R i j := by
  unfold seg
  subst h
  rw [List.take_append, List.drop_append]
  simp only [List.length_take]
  rw [List.drop_eq_nil_of_le (by rw [List.length_take]; omega), List.nil_append]
  congr 2 <;> omega
theorem seg_beyond {l : List Nat} {i j : Nat} (h : l.length ≤ i) : seg l i j = [] := seg_none h
section
variable {less : Nat → Nat → Bool}
theorem halves_seg {W : Nat} (hW : 0 < W) : ∀ (q : Nat) (l : List Nat), seg (halvesF less W l) (q * (2 * W)) ((q + 1) * (2 * W)) = mergeF less (seg l (q * (2 * W)) (q * (2 * W) + W)) (seg l (q * (2 * W) + W) ((q + 1) * (2 * W))) := by
  intro q
  induction q with
  | zero =>
    intro l
    simp only [Nat.zero_mul, Nat.zero_add, Nat.one_mul]
    have e0 : ∀ (l : List Nat) j, seg l 0 j = l.take j := fun l j => by simp [seg]
    have e1 : seg l W (2 * W) = (l.drop W).take W := by
      unfold seg
      rw [List.drop_take]
      congr 1
      omega
    rw [e0, e0, e1]
    by_cases hl : l = []
    · subst hl
      rw [halvesF_nil]
      simp [mergeF_nil]
    · rw [halvesF_some less hW hl]
      have hP := mergeF_len less (l.take W) ((l.drop W).take W)
      simp only [List.length_take, List.length_drop] at hP
      by_cases hn : 2 * W ≤ l.length
      · rw [List.take_append_of_le_length (by omega), List.take_of_length_le (by omega)]
      · have : l.drop (2 * W) = [] := List.drop_eq_nil_of_le (by omega)
        rw [this, halvesF_nil, List.append_nil, List.take_of_length_le (by omega)]
  | succ q ih =>
    intro l
    have m1 : (q + 1) * (2 * W) = 2 * W + q * (2 * W) := by rw [Nat.succ_mul]; omega
    have m2 : (q + 1 + 1) * (2 * W) = 2 * W + (q + 1) * (2 * W) := by rw [Nat.succ_mul]; omega
    have m3 : (q + 1) * (2 * W) + W = 2 * W + (q * (2 * W) + W) := by omega
    rw [m3, m2]
    conv => lhs; rw [m1]
    conv => rhs; rw [m1]
    by_cases hl : l = []
    · subst hl
      rw [halvesF_nil, seg_beyond (by simp), seg_beyond (by simp), seg_beyond (by simp), mergeF_nil]
    · rw [halvesF_some less hW hl]
      have hP := mergeF_len less (l.take W) ((l.drop W).take W)
      simp only [List.length_take, List.length_drop] at hP
      by_cases hn : 2 * W ≤ l.length
      · rw [← m1, m1, seg_right (by omega), ← m1, ih (l.drop (2 * W)), seg_drop, seg_drop, ← m1]
      · have : l.drop (2 * W) = [] := List.drop_eq_nil_of_le (by omega)
        rw [this, halvesF_nil, List.append_nil, seg_beyond (by omega), seg_beyond (by omega), seg_beyond (by omega), mergeF_nil]
/-- each stretch of W is in order -/
def SPW (less : Nat → Nat → Bool) (n W : Nat) (l : List Nat) : Prop := l.length = n ∧ ∀ q, SP less (seg l (q * W) ((q + 1) * W)) (seg (List.range n) (q * W) ((q + 1) * W))
theorem spw_one (n : Nat) : SPW less n 1 (List.range n) := by
  refine ⟨by simp, fun q => ⟨List.Perm.refl _, ?_⟩⟩
  have hl := seg_len (List.range n) (q * 1) ((q + 1) * 1)
  generalize seg (List.range n) (q * 1) ((q + 1) * 1) = s at hl
  match s, hl with
  | [], _ => exact List.Pairwise.nil
  | [x], _ => exact List.pairwise_singleton _ _
  | x :: y :: r, hl => simp at hl; omega
theorem spw_two {n W : Nat} {l : List Nat} (Wk : Weak less) (hW : 0 < W) (h : SPW less n W l) : SPW less n (2 * W) (halvesF less W l) := by
  refine ⟨by rw [halvesF_len less hW l.length l (Nat.le_refl _)]; exact h.1, fun q => ?_⟩
  rw [halves_seg hW]
  have a1 : 2 * q * W = q * (2 * W) := by rw [Nat.mul_comm 2 q, Nat.mul_assoc]
  have a2 : (2 * q + 1) * W = q * (2 * W) + W := by rw [Nat.succ_mul, a1]
  have a4 : (q + 1) * (2 * W) = q * (2 * W) + 2 * W := Nat.succ_mul _ _
  have a3 : (2 * q + 1 + 1) * W = (q + 1) * (2 * W) := by rw [Nat.succ_mul, a2, a4]; omega
  have h1 := h.2 (2 * q)
  have h2 := h.2 (2 * q + 1)
  rw [a1, a2] at h1
  rw [a2, a3] at h2
  have hle : q * (2 * W) + W ≤ (q + 1) * (2 * W) := by rw [a4]; omega
  have hc := seg_cut (l := List.range n) (i := q * (2 * W)) (j := q * (2 * W) + W) (k := (q + 1) * (2 * W)) (by omega) hle
  rw [hc]
  refine ⟨(mergeF_perm less _ _).trans (h1.1.append h2.1), mergeF_sorted less Wk _ _ h1.2 h2.2 fun x hx y hy => ?_⟩
  exact seg_lt List.pairwise_lt_range (by omega) hle x (h1.1.subset hx) y (h2.1.subset hy)
theorem spw_all {n W : Nat} {l : List Nat} (Wk : Weak less) (h : SPW less n W l) (hW : n ≤ W) : l = sortT less (List.range n) := by
  have h1 := h.2 0
  have e : ∀ (l : List Nat), l.length = n → seg l (0 * W) ((0 + 1) * W) = l := fun l hl => by
    rw [Nat.zero_mul, Nat.zero_add, Nat.one_mul, seg_end (by omega)]; rfl
  rw [e l h.1, e _ (by simp)] at h1
  have h2 := sortT_sp Wk (List.range n) List.pairwise_lt_range
  exact sorted_unique Wk (h1.1.trans h2.1.symm) h1.2 h2.2
end
end Go.Proofs.Ytljdkfhkpjjfgaa
namespace Go.Proofs.Ytljdkfhkpjjfgaa
open Go.RowKit Go.Shelf
set_option linter.unusedVariables false

theorem less_ahead {sts : List Sto} {x y : Nat} {a b : Sto} (hx : sts[x]? = some a) (hy : sts[y]? = some b) : lessOf (cvP (ptsOf sts)) x y = aheadB a b := by
  rw [Bool.eq_iff_iff, cvP_less, ahead_lt]
  have h1 : ptAt (ptsOf sts) x = ptOf a := by rw [ptAt, ptsOf, List.getElem?_map, hx]; rfl
  have h2 : ptAt (ptsOf sts) y = ptOf b := by rw [ptAt, ptsOf, List.getElem?_map, hy]; rfl
  rw [h1, h2]
theorem drop_cons {α : Type} {l : List α} {j : Nat} {x : α} (h : l[j]? = some x) : l.drop j = x :: l.drop (j + 1) := by
  have := List.drop_eq_getElem_cons (l := l) (i := j) (List.getElem?_eq_some_iff.1 h).1
  rwa [(List.getElem?_eq_some_iff.1 h).2] at this
theorem natsC_get {l : List Nat} {i x : Nat} (h : l[i]? = some x) : (natsC l)[i]? = some (.int .i64 x) := by rw [natsC, List.getElem?_map, h]; rfl
set_option maxRecDepth 100000 in
set_option maxHeartbeats 6400000 in
theorem halves_any (B : Option Addr) (m d : Nat) (sts : List Sto) (vs : List Value) (A : Option Addr) (k c : Nat) (ord : List Nat) (W : Nat) (w : World) (hT : Stories w B m sts vs) (hO : Sl w A k 1 (natsC ord)) (hlt : ∀ x ∈ ord, x < m) (hW : 0 < W) (hWk : W < k) (hb : k * 8 ≤ 140737488355328) (hbm : m * 96 ≤ 140737488355328) :
    Calls Try.prog 27 #[.slice B m d, .slice A k c, .int .i64 W] w fun e w' => ∃ a q, e = .returned (.slice a k q) ∧ Star w w' [rowA 3 1 (.slice a k q) k (natsC (halvesF (lessOf (cvP (ptsOf sts))) W ord)), oldA w] := by
  obtain ⟨i0, hi0, hz0, hz1, hz2⟩ := info_parts Try.info3
  obtain ⟨less, hless⟩ : ∃ less, lessOf (cvP (ptsOf sts)) = less := ⟨_, rfl⟩
  rw [hless]
  have hok : ord.length = k := by have := hO.1; simp [natsC] at this; omega
  have HOK := Lib.hid hok
  have HLS := Lib.hid hless
  have HT := Lib.hid hT
  have HO := Lib.hid hO
  have HLT := Lib.hid hlt
  have H0 := Lib.hid ((Star.begin w).rowNil 3 1)
  clear hT hO hlt hok hless
  go_enter Try.func27, Try.ntmps27
  go_wp2_with fail
  go_loopw [7, 8] (fun l i wr => ∃ (t : Nat), t ≤ k + 2 * W ∧ i = .int .i64 t ∧ ∃ (done : List Nat) (a : Option Addr) (cnt q : Nat), l = .slice a cnt q ∧ done.length = cnt ∧ (t < k → cnt = t) ∧ Star w wr [rowA 3 1 (.slice a cnt q) cnt (natsC done), oldA w] ∧ Hid (halvesF less W ord = done ++ halvesF less W (ord.drop t))) (fun _ i _ => k - (intOf i).toNat)
  case atStart => exact ⟨0, by omega, rfl, [], none, 0, 0, rfl, rfl, fun _ => rfl, H0.out, Lib.hid rfl⟩
  case round =>
    clear H0
    obtain ⟨t, ht, rfl, done, a, cnt, q, rfl, hdl, hct, hR, hE⟩ := hrel
    by_cases htk : t < k
    · have hcnt := hct htk
      have htz : (t : Int) < k := by omega
      have HCN := Lib.hid (⟨hdl, hcnt⟩ : _ ∧ _)
      have HR := Lib.hid hR
      clear hct hdl hcnt hR
      obtain ⟨w1, rfl⟩ : ∃ w1, w1 = wr := ⟨_, rfl⟩
      obtain ⟨iE, hiE⟩ : ∃ iE : Nat, iE = min (t + W) k := ⟨_, rfl⟩
      obtain ⟨jE, hjE⟩ : ∃ jE : Nat, jE = min (t + 2 * W) k := ⟨_, rfl⟩
      have b1 : t < iE := by omega
      have b2 : iE ≤ jE := by omega
      have b3 : jE ≤ k := by omega
      have b4 : iE ≤ t + W := by omega
      have HI := Lib.hid hiE
      have HJ := Lib.hid hjE
      clear hiE hjE
      go_upto_region 6 with fail
      go_cut [10] (fun v wx => v = .int .i64 (iE : Int) ∧ wx = w1)
      case first =>
        go_wp2
        all_goals
          go_meet
          refine ⟨?_, rfl⟩
          have := HI.out
          congr 1
          omega
      case rest =>
        obtain ⟨rfl, rfl⟩ := hcut
        obtain ⟨w1, rfl⟩ : ∃ w1 : World, w1 = wc := ⟨_, rfl⟩
        go_upto_region 8 with fail
        go_cut [12] (fun v wx => v = .int .i64 (jE : Int) ∧ wx = w1)
        case first =>
          go_wp2
          all_goals
            go_meet
            refine ⟨?_, rfl⟩
            have := HJ.out
            congr 1
            omega
        case rest =>
          obtain ⟨rfl, rfl⟩ := hcut
          obtain ⟨w1, rfl⟩ : ∃ w1 : World, w1 = wc := ⟨_, rfl⟩
          obtain ⟨xs, hxs⟩ : ∃ xs, xs = (ord.drop t).take W := ⟨_, rfl⟩
          obtain ⟨ys, hys⟩ : ∃ ys, ys = ((ord.drop t).drop W).take W := ⟨_, rfl⟩
          have HX := Lib.hid (show (∀ i, i < iE - t → xs[i]? = ord[t + i]?) ∧ xs.length = iE - t from by
            have h1 := HI.out
            have h2 := HOK.out
            refine ⟨fun i hi => by rw [hxs, List.getElem?_take, if_pos (by omega), List.getElem?_drop], by rw [hxs, List.length_take, List.length_drop]; omega⟩)
          have HY := Lib.hid (show (∀ i, i < jE - iE → ys[i]? = ord[iE + i]?) ∧ ys.length = jE - iE from by
            have h1 := HI.out
            have h2 := HOK.out
            have h3 := HJ.out
            refine ⟨fun i hi => by rw [hys, List.getElem?_take, if_pos (by omega), List.getElem?_drop, List.getElem?_drop]; congr 1; omega, by rw [hys, List.length_take, List.length_drop, List.length_drop]; omega⟩)
          have HXS := Lib.hid hxs
          have HYS := Lib.hid hys
          clear hxs hys
          go_wp2_with fail
          go_loopw [7, 9, 11] (fun l i j wr => ∃ ix jy : Nat, t ≤ ix ∧ ix ≤ iE ∧ iE ≤ jy ∧ jy ≤ jE ∧ i = .int .i64 ix ∧ j = .int .i64 jy ∧ ∃ (z : List Nat) (a : Option Addr) (n' q : Nat), l = .slice a n' q ∧ Hid (n' = cnt + (ix - t) + (jy - iE)) ∧ Star w wr [rowA 3 1 (.slice a n' q) n' (natsC (done ++ z)), oldA w] ∧ Hid (mergeF less xs ys = z ++ mergeF less (xs.drop (ix - t)) (ys.drop (jy - iE)))) (fun _ i j _ => (iE - (intOf i).toNat) + (jE - (intOf j).toNat))
          case atStart => exact ⟨t, iE, by omega, by omega, by omega, by omega, rfl, rfl, [], a, cnt, q, rfl, Lib.hid (by omega), by rw [List.append_nil]; exact HR.out, Lib.hid (by simp)⟩
          case round =>
            clear HR
            obtain ⟨ix, jy, r1, r2, r3, r4, rfl, rfl, z, a, n', q, rfl, HN, hR, hM⟩ := hrel
            have hnk : n' ≤ k := by have h1 := HN.out; have h2 := HCN.out.2; omega
            have hnk2 : n' < k ∨ ¬ (ix < iE ∨ jy < jE) := by have h1 := HN.out; have h2 := HCN.out.2; omega
            by_cases hi : ix < iE
            · have hnk3 : n' < k := by omega
              obtain ⟨vx, hvx⟩ : ∃ vx, ord[ix]? = some vx := ⟨_, List.getElem?_eq_getElem (by have := HOK.out; omega)⟩
              have hxd : xs.drop (ix - t) = vx :: xs.drop (ix - t + 1) := drop_cons (by rw [HX.out.1 _ (by omega), show t + (ix - t) = ix from by omega]; exact hvx)
              obtain ⟨gO, oO, rfl, hgO, ca⟩ := HO.out.row (show ix < k by omega) (by omega)
              have z0 : wr.cell? ⟨gO, oO + ix, none⟩ = some (.int .i64 vx) := ((hR.pull 1).oldCell hgO).trans (by have := ca 0 _ (by rw [Nat.mul_one, Nat.add_zero]; exact natsC_get hvx); simpa using this)
              have hiz : (ix : Int) < iE := by omega
              have hid1 : decide (iE ≤ ix) = false := decide_eq_false (by omega)
              have hikz : (ix : Int) < k := by omega
              by_cases hj : jy < jE
              · obtain ⟨vy, hvy⟩ : ∃ vy, ord[jy]? = some vy := ⟨_, List.getElem?_eq_getElem (by have := HOK.out; omega)⟩
                have hyd : ys.drop (jy - iE) = vy :: ys.drop (jy - iE + 1) := drop_cons (by rw [HY.out.1 _ (by omega), show iE + (jy - iE) = jy from by omega]; exact hvy)
                obtain ⟨gO', oO', eO, -, cb⟩ := HO.out.row (show jy < k by omega) (by omega)
                injection eO with eO
                injection eO with e1 e2 e3
                subst e1 e2
                have y0 : wr.cell? ⟨gO, oO + jy, none⟩ = some (.int .i64 vy) := ((hR.pull 1).oldCell hgO).trans (by have := cb 0 _ (by rw [Nat.mul_one, Nat.add_zero]; exact natsC_get hvy); simpa using this)
                have hjz : (jy : Int) < jE := by omega
                have hjkz : (jy : Int) < k := by omega
                have hvxm := HLT.out vx (List.mem_of_getElem? hvx)
                have hvym := HLT.out vy (List.mem_of_getElem? hvy)
                have hvxz : (vx : Int) < m := by omega
                have hvyz : (vy : Int) < m := by omega
                obtain ⟨sa, MA, mk, mc, g, o, hsa, -, rfl, hg, hmk, hms, hmb, a0, a1, a2, a3, a4, a5, a6, a7, a8, a9⟩ := HT.out.cells hvxm
                obtain ⟨sb, NA, nk, nc, g', o', hsb, -, eB, hg', hnk9, hns, hnb, b0, b1, b2, b3, b4, b5, b6, b7, b8, b9⟩ := HT.out.cells hvym
                injection eB with eB
                injection eB with e1 e2 e3
                subst e1 e2
                have a0 : wr.cell? ⟨g, o + vx * 10, none⟩ = some (.int .i64 sa.thread) := ((hR.pull 1).oldCell hg).trans a0
                have a1 : wr.cell? ⟨g, o + vx * 10 + 1, none⟩ = some (.int .i64 sa.stamp) := ((hR.pull 1).oldCell hg).trans a1
                have a2 : wr.cell? ⟨g, o + vx * 10 + 2, none⟩ = some (.int .i64 sa.begin_) := ((hR.pull 1).oldCell hg).trans a2
                have a3 : wr.cell? ⟨g, o + vx * 10 + 3, none⟩ = some (.int .i64 sa.end_) := ((hR.pull 1).oldCell hg).trans a3
                have a4 : wr.cell? ⟨g, o + vx * 10 + 4, none⟩ = some (.int .i64 sa.fate) := ((hR.pull 1).oldCell hg).trans a4
                have a5 : wr.cell? ⟨g, o + vx * 10 + 5, none⟩ = some (.int .i64 sa.e) := ((hR.pull 1).oldCell hg).trans a5
                have a6 : wr.cell? ⟨g, o + vx * 10 + 6, none⟩ = some (.int .i64 sa.by_) := ((hR.pull 1).oldCell hg).trans a6
                have a7 : wr.cell? ⟨g, o + vx * 10 + 7, none⟩ = some (.int .i64 sa.opens) := ((hR.pull 1).oldCell hg).trans a7
                have a8 : wr.cell? ⟨g, o + vx * 10 + 8, none⟩ = some (.int .i64 sa.gate) := ((hR.pull 1).oldCell hg).trans a8
                have a9 : wr.cell? ⟨g, o + vx * 10 + 9, none⟩ = some (.slice MA mk mc) := ((hR.pull 1).oldCell hg).trans a9
                have b0 : wr.cell? ⟨g, o + vy * 10, none⟩ = some (.int .i64 sb.thread) := ((hR.pull 1).oldCell hg).trans b0
                have b1 : wr.cell? ⟨g, o + vy * 10 + 1, none⟩ = some (.int .i64 sb.stamp) := ((hR.pull 1).oldCell hg).trans b1
                have b2 : wr.cell? ⟨g, o + vy * 10 + 2, none⟩ = some (.int .i64 sb.begin_) := ((hR.pull 1).oldCell hg).trans b2
                have b3 : wr.cell? ⟨g, o + vy * 10 + 3, none⟩ = some (.int .i64 sb.end_) := ((hR.pull 1).oldCell hg).trans b3
                have b4 : wr.cell? ⟨g, o + vy * 10 + 4, none⟩ = some (.int .i64 sb.fate) := ((hR.pull 1).oldCell hg).trans b4
                have b5 : wr.cell? ⟨g, o + vy * 10 + 5, none⟩ = some (.int .i64 sb.e) := ((hR.pull 1).oldCell hg).trans b5
                have b6 : wr.cell? ⟨g, o + vy * 10 + 6, none⟩ = some (.int .i64 sb.by_) := ((hR.pull 1).oldCell hg).trans b6
                have b7 : wr.cell? ⟨g, o + vy * 10 + 7, none⟩ = some (.int .i64 sb.opens) := ((hR.pull 1).oldCell hg).trans b7
                have b8 : wr.cell? ⟨g, o + vy * 10 + 8, none⟩ = some (.int .i64 sb.gate) := ((hR.pull 1).oldCell hg).trans b8
                have b9 : wr.cell? ⟨g, o + vy * 10 + 9, none⟩ = some (.slice NA nk nc) := ((hR.pull 1).oldCell hg).trans b9
                have hle : less vy vx = aheadB sb sa := by rw [← HLS.out]; exact less_ahead hsb hsa
                have hMM := hM.out
                rw [hxd, hyd, mergeF] at hMM
                have AH := Lib.hid (ahead_any sb sa NA nk nc MA mk mc wr.drew (hns.after (by omega) (hR.drew.pull 1)) hnk9 hnb (hms.after (by omega) (hR.drew.pull 1)) hmk hmb)
                have HX1 := Lib.hid (show ∀ (W' : World), Star w W' [rowA 3 1 (.slice a n' q) n' (natsC (done ++ z)), oldA w] → W'.cell? ⟨gO, oO + ix, none⟩ = some (.int .i64 vx) from fun W' h => ((h.pull 1).oldCell hgO).trans (((hR.pull 1).oldCell hgO).symm.trans z0))
                have HY1 := Lib.hid (show ∀ (W' : World), Star w W' [rowA 3 1 (.slice a n' q) n' (natsC (done ++ z)), oldA w] → W'.cell? ⟨gO, oO + jy, none⟩ = some (.int .i64 vy) from fun W' h => ((h.pull 1).oldCell hgO).trans (((hR.pull 1).oldCell hgO).symm.trans y0))
                have HXY := Lib.hid (⟨hxd, hyd⟩ : _ ∧ _)
                have HR := Lib.hid hR
                have HMM := Lib.hid hMM
                have HLE := Lib.hid hle
                clear hR hM hMM hle hxd hyd hvx hvy ca cb hsa hsb hg hg' hmk hms hnk9 hns hgO
                go_wp2_with fail
                go_still_tail 14, (by kernel_rfl)
                change wpList _ _ _ _ _ wr.drew
                go_wp2_with fail
                refine AH.out.mono ?_
                rintro e' w3 ⟨rfl, hb3⟩
                have h3 := HR.out.drew.of_below hb3
                clear a0 a1 a2 a3 a4 a5 a6 a7 a8 a9 b0 b1 b2 b3 b4 b5 b6 b7 b8 b9 z0 y0 AH HR
                obtain ⟨bb, hbb⟩ : ∃ bb, aheadB sb sa = bb := ⟨_, rfl⟩
                rw [hbb]
                have hle := HLE.out
                rw [hbb] at hle
                have hMM := HMM.out
                rw [hle] at hMM
                clear HMM HLE hbb hle
                cases bb with
                | true =>
                  rw [if_pos rfl] at hMM
                  have HMG := Lib.hid (show mergeF less xs ys = z ++ (vy :: mergeF less (vx :: xs.drop (ix - t + 1)) (ys.drop (jy - iE + 1))) from hMM)
                  clear hMM
                  have y1 : w3.cell? ⟨gO, oO + jy, none⟩ = some (.int .i64 vy) := HY1.out _ h3
                  have hN := (h3.new (.cells #[.int .i64 vy] 3)).pull 1
                  have HEQ := Lib.hid (show natsC (done ++ (z ++ [vy])) = natsC (done ++ z) ++ [.int .i64 vy] from by simp [natsC])
                  go_wp2_with (at_builtin; refine wpList_append_star rfl (.tmp 71) (.tmp 76) 24 rfl 3 i0 _ 1 8 Try.underlying24 hi0 hz0 hz1 hz2 rfl (by decide) _ n' _ rfl hN ⟨w3.heap.size, 0, none⟩ 1 1 [.int .i64 vy] rfl rfl (cell_list_new _ _ rfl _ _) (by simp [Value.oneCell']) (by simp only [maxLen]; omega) (by omega) ?_; intro a' q' w9 h9; have HA := Lib.hid (h9.pick 3 [0, 2]); clear h9 hN)
                  go_roundw
                  case rel => exact ⟨ix, jy + 1, by omega, by omega, by omega, by omega, rfl, by go_num, z ++ [vy], a', n' + 1, q', rfl, Lib.hid (by have := HN.out; omega), by rw [HEQ.out]; exact HA.out, Lib.hid (by have hx := HMG.out; rw [hx, show jy + 1 - iE = jy - iE + 1 from by omega, HXY.out.1]; simp)⟩
                  case measure => simp [intOf]; omega
                | false =>
                  rw [if_neg (by decide)] at hMM
                  have HMG := Lib.hid (show mergeF less xs ys = z ++ (vx :: mergeF less (xs.drop (ix - t + 1)) (vy :: ys.drop (jy - iE + 1))) from hMM)
                  clear hMM
                  have x1 : w3.cell? ⟨gO, oO + ix, none⟩ = some (.int .i64 vx) := HX1.out _ h3
                  have hN := (h3.new (.cells #[.int .i64 vx] 3)).pull 1
                  have HEQ := Lib.hid (show natsC (done ++ (z ++ [vx])) = natsC (done ++ z) ++ [.int .i64 vx] from by simp [natsC])
                  go_wp2_with (at_builtin; refine wpList_append_star rfl (.tmp 80) (.tmp 85) 24 rfl 3 i0 _ 1 8 Try.underlying24 hi0 hz0 hz1 hz2 rfl (by decide) _ n' _ rfl hN ⟨w3.heap.size, 0, none⟩ 1 1 [.int .i64 vx] rfl rfl (cell_list_new _ _ rfl _ _) (by simp [Value.oneCell']) (by simp only [maxLen]; omega) (by omega) ?_; intro a' q' w9 h9; have HA := Lib.hid (h9.pick 3 [0, 2]); clear h9 hN)
                  go_roundw
                  case rel => exact ⟨ix + 1, jy, by omega, by omega, by omega, by omega, by go_num, rfl, z ++ [vx], a', n' + 1, q', rfl, Lib.hid (by have := HN.out; omega), by rw [HEQ.out]; exact HA.out, Lib.hid (by have hx := HMG.out; rw [hx, show ix + 1 - t = ix - t + 1 from by omega, HXY.out.2]; simp)⟩
                  case measure => simp [intOf]; omega
              · have hye : ys.drop (jy - iE) = [] := List.drop_eq_nil_of_le (by have := HY.out.2; omega)
                have hmg : mergeF less xs ys = z ++ (vx :: mergeF less (xs.drop (ix - t + 1)) (ys.drop (jy - iE))) := by
                  have := hM.out
                  rw [hxd, hye, mergeF_nil'] at this
                  rw [this, hye, mergeF_nil']
                have HMG := Lib.hid hmg
                have hjz : ¬ (jy : Int) < jE := by omega
                have hjd : decide (jy < jE) = false := decide_eq_false hj
                have HR := Lib.hid hR
                clear hM hmg hye hxd hR hgO ca hvx
                have hN := (HR.out.new (.cells #[.int .i64 vx] 3)).pull 1
                have HEQ := Lib.hid (show natsC (done ++ (z ++ [vx])) = natsC (done ++ z) ++ [.int .i64 vx] from by simp [natsC])
                go_wp2_with (at_builtin; refine wpList_append_star rfl (.tmp 80) (.tmp 85) 24 rfl 3 i0 _ 1 8 Try.underlying24 hi0 hz0 hz1 hz2 rfl (by decide) _ n' _ rfl hN ⟨wr.heap.size, 0, none⟩ 1 1 [.int .i64 vx] rfl rfl (cell_list_new _ _ rfl _ _) (by simp [Value.oneCell']) (by simp only [maxLen]; omega) (by omega) ?_; intro a' q' w9 h9; have HA := Lib.hid (h9.pick 3 [0, 2]); clear h9 hN)
                go_roundw
                case rel => exact ⟨ix + 1, jy, by omega, by omega, by omega, by omega, by go_num, rfl, z ++ [vx], a', n' + 1, q', rfl, Lib.hid (by have := HN.out; omega), by rw [HEQ.out]; exact HA.out, Lib.hid (by have hx := HMG.out; rw [hx, show ix + 1 - t = ix - t + 1 from by omega]; simp)⟩
                case measure => simp [intOf]; omega
            · by_cases hj : jy < jE
              · have hnk3 : n' < k := by omega
                obtain ⟨vy, hvy⟩ : ∃ vy, ord[jy]? = some vy := ⟨_, List.getElem?_eq_getElem (by have := HOK.out; omega)⟩
                have hyd : ys.drop (jy - iE) = vy :: ys.drop (jy - iE + 1) := drop_cons (by rw [HY.out.1 _ (by omega), show iE + (jy - iE) = jy from by omega]; exact hvy)
                obtain ⟨gO, oO, rfl, hgO, ca⟩ := HO.out.row (show jy < k by omega) (by omega)
                have y0 : wr.cell? ⟨gO, oO + jy, none⟩ = some (.int .i64 vy) := ((hR.pull 1).oldCell hgO).trans (by have := ca 0 _ (by rw [Nat.mul_one, Nat.add_zero]; exact natsC_get hvy); simpa using this)
                have hxe : xs.drop (ix - t) = [] := List.drop_eq_nil_of_le (by have := HX.out.2; omega)
                have hmg : mergeF less xs ys = z ++ (vy :: mergeF less (xs.drop (ix - t)) (ys.drop (jy - iE + 1))) := by
                  have := hM.out
                  rw [hyd, hxe, mergeF_nil] at this
                  rw [this, hxe, mergeF_nil]
                have HMG := Lib.hid hmg
                have hiz : ¬ (ix : Int) < iE := by omega
                have hid1 : decide (iE ≤ ix) = true := decide_eq_true (by omega)
                have hjz : (jy : Int) < jE := by omega
                have hjkz : (jy : Int) < k := by omega
                have HR := Lib.hid hR
                clear hM hmg hxe hyd hR hgO ca hvy
                have hN := (HR.out.new (.cells #[.int .i64 vy] 3)).pull 1
                have HEQ := Lib.hid (show natsC (done ++ (z ++ [vy])) = natsC (done ++ z) ++ [.int .i64 vy] from by simp [natsC])
                go_wp2_with (at_builtin; refine wpList_append_star rfl (.tmp 71) (.tmp 76) 24 rfl 3 i0 _ 1 8 Try.underlying24 hi0 hz0 hz1 hz2 rfl (by decide) _ n' _ rfl hN ⟨wr.heap.size, 0, none⟩ 1 1 [.int .i64 vy] rfl rfl (cell_list_new _ _ rfl _ _) (by simp [Value.oneCell']) (by simp only [maxLen]; omega) (by omega) ?_; intro a' q' w9 h9; have HA := Lib.hid (h9.pick 3 [0, 2]); clear h9 hN)
                go_roundw
                case rel => exact ⟨ix, jy + 1, by omega, by omega, by omega, by omega, rfl, by go_num, z ++ [vy], a', n' + 1, q', rfl, Lib.hid (by have := HN.out; omega), by rw [HEQ.out]; exact HA.out, Lib.hid (by have hx := HMG.out; rw [hx, show jy + 1 - iE = jy - iE + 1 from by omega]; simp)⟩
                case measure => simp [intOf]; omega
              · have hix : ix = iE := by omega
                have hjy : jy = jE := by omega
                have hmg := hM.out
                rw [List.drop_eq_nil_of_le (by have := HX.out.2; omega), mergeF_nil, List.drop_eq_nil_of_le (by have := HY.out.2; omega), List.append_nil] at hmg
                have hne : ord.drop t ≠ [] := fun e => by have h1 := congrArg List.length e; simp only [List.length_drop, List.length_nil] at h1; have := HOK.out; omega
                have hhv : halvesF less W ord = (done ++ z) ++ halvesF less W (ord.drop (t + 2 * W)) := by
                  rw [hE.out, halvesF_some less hW hne, List.append_assoc]
                  congr 1
                  have h1 := HXS.out
                  have h2 := HYS.out
                  rw [← hmg, h1, h2]
                  simp only [List.drop_drop]
                have hlen : (done ++ z).length = n' := by
                  have h1 := mergeF_len less xs ys
                  rw [hmg] at h1
                  have h2 := HX.out.2
                  have h3 := HY.out.2
                  have h4 := HN.out
                  have h5 := HCN.out.1
                  rw [List.length_append]
                  omega
                have hnt : t + 2 * W < k → n' = t + 2 * W := fun h => by
                  have h1 := HN.out
                  have h2 := HCN.out.2
                  have h3 := HJ.out
                  have h4 := HI.out
                  omega
                have hiz : ¬ (ix : Int) < iE := by omega
                have hjz : ¬ (jy : Int) < jE := by omega
                have HR := Lib.hid hR
                have HHV := Lib.hid hhv
                have HLN := Lib.hid hlen
                have HNT := Lib.hid hnt
                clear hM hmg hne hhv hlen hnt hR hix hjy
                go_wp2
                go_roundw
                case rel => exact ⟨t + 2 * W, by omega, by go_num, done ++ z, a, n', q, rfl, HLN.out, HNT.out, HR.out, HHV⟩
                case measure => simp [intOf]; omega
    · have htz : ¬ (t : Int) < k := by omega
      have e1 := hE.out
      rw [List.drop_eq_nil_of_le (by have := HOK.out; omega), halvesF_nil, List.append_nil] at e1
      have hk : cnt = k := by
        have h1 := halvesF_len less hW ord.length ord (Nat.le_refl _)
        rw [e1] at h1
        have := HOK.out
        omega
      rw [hk, ← e1] at hR
      have HR := Lib.hid hR
      have HKK := Lib.hid hk
      clear hE e1 hR hk hdl hct
      go_wp2
      go_ret
      exact ⟨a, q, by rw [HKK.out]; rfl, HR.out⟩
end Go.Proofs.Ytljdkfhkpjjfgaa
namespace Go.Proofs.Ytljdkfhkpjjfgaa
open Go.RowKit Go.Shelf
set_option linter.unusedVariables false

theorem halvesF_mem {less : Nat → Nat → Bool} {W : Nat} (hW : 0 < W) : ∀ (n : Nat) (l : List Nat), l.length ≤ n → ∀ x ∈ halvesF less W l, x ∈ l
  | 0, l, h, x, hx => by
    have : l = [] := List.eq_nil_of_length_eq_zero (by omega)
    rw [this, halvesF_nil] at hx
    cases hx
  | n + 1, l, h, x, hx => by
    by_cases hl : l = []
    · rw [hl, halvesF_nil] at hx
      cases hx
    · have h0 : 0 < l.length := List.length_pos_iff.2 hl
      rw [halvesF_some less hW hl] at hx
      rcases List.mem_append.1 hx with hx | hx
      · rcases List.mem_append.1 ((mergeF_perm less _ _).subset hx) with hx | hx
        · exact List.mem_of_mem_take hx
        · exact List.mem_of_mem_drop (List.mem_of_mem_take hx)
      · exact List.mem_of_mem_drop (halvesF_mem hW n _ (by rw [List.length_drop]; omega) x hx)
set_option maxRecDepth 100000 in
set_option maxHeartbeats 6400000 in
theorem order_ref (B : Option Addr) (m d : Nat) (sts : List Sto) (vs : List Value) (w : World) (hT : Stories w B m sts vs) (hbm : m * 96 ≤ 140737488355328) :
    Calls Try.prog 12 #[.slice B m d] w fun e w' => ∃ a c', e = .returned (.slice a m c') ∧ Star w w' [rowA 3 1 (.slice a m c') m (natsC (orderOf sts)), oldA w] := by
  obtain ⟨i0, hi0, hz0, hz1, hz2⟩ := info_parts Try.info3
  have HT := Lib.hid hT
  have H0 := Lib.hid ((Star.begin w).rowNil 3 1)
  clear hT
  go_enter Try.func12, Try.ntmps12
  go_wp2_with fail
  go_loopw [3, 4] (fun b i wr => ∃ j : Nat, j ≤ m ∧ i = .int .i64 j ∧ ∃ a q, b = .slice a j q ∧ Star w wr [rowA 3 1 (.slice a j q) j (natsC (List.range j)), oldA w]) (fun _ i _ => m - (intOf i).toNat)
  case atStart => exact ⟨0, Nat.zero_le _, rfl, none, 0, rfl, H0.out⟩
  case round =>
    clear H0
    obtain ⟨j, hj, rfl, a, q, rfl, hR⟩ := hrel
    by_cases hlt : j < m
    · have hjz : (j : Int) < m := by omega
      have hN := (hR.new (.cells #[.int .i64 j] 3)).pull 1
      clear hR
      go_wp2_with (at_builtin; refine wpList_append_star rfl (.tmp 12) (.tmp 14) 24 rfl 3 i0 _ 1 8 Try.underlying24 hi0 hz0 hz1 hz2 rfl (by decide) _ j _ rfl hN ⟨wr.heap.size, 0, none⟩ 1 1 [.int .i64 j] rfl rfl (cell_list_new _ _ rfl _ _) (by simp [Value.oneCell']) (by simp only [maxLen]; omega) (by omega) ?_; intro a' q' w4 h5; have H5 := Lib.hid (h5.pick 3 [0, 2]); clear h5 hN)
      go_roundw
      case rel => exact ⟨j + 1, by omega, by go_num, a', q', rfl, by rw [List.range_succ, natsC_snoc]; exact H5.out⟩
      case measure => simp [intOf]; omega
    · have hkn : j = m := by omega
      subst hkn
      have hjz : ¬ (j : Int) < j := by omega
      have HR := Lib.hid hR
      clear hR
      go_wp2_with fail
      go_loopw [3, 5] (fun b i wr => ∃ W : Nat, 0 < W ∧ W ≤ 2 * j + 1 ∧ i = .int .i64 W ∧ ∃ a q l, b = .slice a j q ∧ Star w wr [rowA 3 1 (.slice a j q) j (natsC l), oldA w] ∧ Hid (SPW (lessOf (cvP (ptsOf sts))) j W l ∧ ∀ x ∈ l, x < j)) (fun _ i _ => j - (intOf i).toNat)
      case atStart => exact ⟨1, by omega, by omega, rfl, a, q, List.range j, rfl, HR.out, Lib.hid ⟨spw_one j, fun x hx => List.mem_range.1 hx⟩⟩
      case round =>
        clear HR
        obtain ⟨W, hW, hWl, rfl, a, q, l, rfl, hR, hE⟩ := hrel
        by_cases hWk : W < j
        · have hWz : (W : Int) < j := by omega
          have hn := halvesF_len (lessOf (cvP (ptsOf sts))) hW l.length l (Nat.le_refl _)
          have hs := spw_two (weak_pts (ptsOf sts)) hW hE.out.1
          have hx2 : ∀ x ∈ halvesF (lessOf (cvP (ptsOf sts))) W l, x < j := fun x hx => hE.out.2 x (halvesF_mem hW l.length l (Nat.le_refl _) x hx)
          have HV := Lib.hid (halves_any B j d sts vs a j q l W wr (HT.out.after (by first | exact hR.pull 1)) hR.rowSl hE.out.2 hW hWk (by omega) hbm)
          have HR := Lib.hid hR
          have HS := Lib.hid (⟨hs, hx2⟩ : _ ∧ _)
          clear hR hE hn hs hx2
          go_wp2_with fail
          refine HV.out.mono ?_
          rintro e' w5 ⟨a', q', rfl, h5⟩
          have H6 := Lib.hid ((h5.frame (L := [_]) HR.out).pick 3 [0, 2])
          clear h5 HR HV
          go_wp2
          go_roundw
          case rel => exact ⟨2 * W, by omega, by omega, by go_num, a', q', _, rfl, H6.out, HS⟩
          case measure => simp [intOf]; omega
        · have hWz : ¬ (W : Int) < j := by omega
          have e1 : l = orderOf sts := by
            rw [orderOf, HT.out.ns]
            exact spw_all (weak_pts (ptsOf sts)) hE.out.1 (by omega)
          rw [e1] at hR
          have HR := Lib.hid hR
          clear hR hE e1
          go_wp2
          go_ret
          exact ⟨a, q, rfl, HR.out⟩
end Go.Proofs.Ytljdkfhkpjjfgaa
