/- Stable sort in plain Lean: the orders, and what each step of the sort does to a list of places: lemmas for the laws of ghost and opaque. -/
namespace Go.Proofs.Ytljdkfhkpjjfgaa
set_option linter.unusedVariables false

/-- a test that is a strict weak order -/
structure Weak (less : Nat → Nat → Bool) : Prop where
  asym : ∀ x y, less x y = true → less y x = false
  neg : ∀ x y z, less x z = true → less x y = true ∨ less y z = true
def tot (less : Nat → Nat → Bool) (x y : Nat) : Prop := less x y = true ∨ (less y x = false ∧ x < y)
section
variable {less : Nat → Nat → Bool}
theorem tot_trans (W : Weak less) {x y z : Nat} (h : tot less x y) (k : tot less y z) : tot less x z := by
  rcases h with h | ⟨h, hx⟩ <;> rcases k with k | ⟨k, ky⟩
  · rcases W.neg x z y h with h1 | h1
    · exact .inl h1
    · rw [W.asym _ _ k] at h1; cases h1
  · rcases W.neg x z y h with h1 | h1
    · exact .inl h1
    · rw [k] at h1; cases h1
  · rcases W.neg y x z k with h1 | h1
    · rw [h] at h1; cases h1
    · exact .inl h1
  · refine .inr ⟨?_, by omega⟩
    cases h2 : less z x with
    | false => rfl
    | true =>
      rcases W.neg z y x h2 with h1 | h1
      · rw [k] at h1; cases h1
      · rw [h] at h1; cases h1
theorem tot_asym (W : Weak less) {x y : Nat} (h : tot less x y) (k : tot less y x) : False := by
  rcases h with h | ⟨h, hx⟩ <;> rcases k with k | ⟨k, ky⟩
  · rw [W.asym _ _ k] at h; cases h
  · rw [k] at h; cases h
  · rw [h] at k; cases k
  · omega
/-- one list as another, in order -/
def SP (less : Nat → Nat → Bool) (x y : List Nat) : Prop := x.Perm y ∧ x.Pairwise (tot less)
theorem sorted_unique (W : Weak less) : ∀ {x y : List Nat}, x.Perm y → x.Pairwise (tot less) → y.Pairwise (tot less) → x = y
  | [], y, h, _, _ => by rw [List.nil_perm.1 h]
  | a :: x, [], h, _, _ => by have := h.length_eq; simp at this
  | a :: x, b :: y, h, hx, hy => by
    have hab : a = b := by
      have h1 : a ∈ b :: y := h.subset List.mem_cons_self
      have h2 : b ∈ a :: x := h.symm.subset List.mem_cons_self
      rcases List.mem_cons.1 h1 with e | e
      · exact e
      · rcases List.mem_cons.1 h2 with e2 | e2
        · exact e2.symm
        · exact absurd ((List.pairwise_cons.1 hx).1 b e2) fun t => tot_asym W t ((List.pairwise_cons.1 hy).1 a e)
    subst hab
    rw [sorted_unique W (List.perm_cons a |>.1 h) (List.pairwise_cons.1 hx).2 (List.pairwise_cons.1 hy).2]
theorem join_sorted (W : Weak less) {z1 z2 x1 x2 y1 y2 : List Nat} (h1 : SP less z1 (x1 ++ y1)) (h2 : SP less z2 (x2 ++ y2)) (hx : (x1 ++ x2).Pairwise (tot less)) (hy : (y1 ++ y2).Pairwise (tot less))
    (ha : ∀ u v, x1.getLast? = some u → y2.head? = some v → tot less u v) (hb : ∀ u v, y1.getLast? = some u → x2.head? = some v → tot less u v) : SP less (z1 ++ z2) ((x1 ++ x2) ++ (y1 ++ y2)) := by
  have across : ∀ {s t : List Nat}, s.Pairwise (tot less) → t.Pairwise (tot less) → (∀ u v, s.getLast? = some u → t.head? = some v → tot less u v) → ∀ a ∈ s, ∀ b ∈ t, tot less a b := by
    intro s t hs ht h a ha b hb
    obtain ⟨s', u, rfl⟩ : ∃ s' u, s = s' ++ [u] := ⟨s.dropLast, s.getLast (List.ne_nil_of_mem ha), (List.dropLast_concat_getLast _).symm⟩
    cases t with
    | nil => cases hb
    | cons v t =>
      have huv := h u v (by simp) rfl
      have h1 : a = u ∨ tot less a u := by
        rcases List.mem_append.1 ha with e | e
        · exact .inr ((List.pairwise_append.1 hs).2.2 a e u (by simp))
        · exact .inl (by simpa using e)
      have h2 : v = b ∨ tot less v b := by
        rcases List.mem_cons.1 hb with e | e
        · exact .inl e.symm
        · exact .inr ((List.pairwise_cons.1 ht).1 b e)
      rcases h1 with rfl | h1 <;> rcases h2 with rfl | h2
      · exact huv
      · exact tot_trans W huv h2
      · exact tot_trans W h1 huv
      · exact tot_trans W h1 (tot_trans W huv h2)
  obtain ⟨hx1, hx2, hx12⟩ := List.pairwise_append.1 hx
  obtain ⟨hy1, hy2, hy12⟩ := List.pairwise_append.1 hy
  refine ⟨?_, List.pairwise_append.2 ⟨h1.2, h2.2, fun a haz b hbz => ?_⟩⟩
  · have e1 : (z1 ++ z2).Perm ((x1 ++ y1) ++ (x2 ++ y2)) := h1.1.append h2.1
    refine e1.trans ?_
    rw [List.append_assoc, List.append_assoc]
    refine List.Perm.append_left _ ?_
    rw [← List.append_assoc, ← List.append_assoc]
    exact List.perm_append_comm.append_right _
  · have hA := h1.1.subset haz
    have hB := h2.1.subset hbz
    rcases List.mem_append.1 hA with a1 | a1 <;> rcases List.mem_append.1 hB with b1 | b1
    · exact hx12 a a1 b b1
    · exact across hx1 hy2 ha a a1 b b1
    · exact across hy1 hx2 hb a a1 b b1
    · exact hy12 a a1 b b1
/-- one taken in: the place is found -/
theorem insert_sorted (W : Weak less) {t1 t2 : List Nat} {x : Nat} (h : (t1 ++ t2).Pairwise (tot less)) (h1 : ∀ u, t1.getLast? = some u → tot less u x) (h2 : ∀ y ∈ t2, tot less x y) : (t1 ++ x :: t2).Pairwise (tot less) := by
  obtain ⟨p1, p2, p12⟩ := List.pairwise_append.1 h
  have hl : ∀ a ∈ t1, tot less a x := by
    intro a ha
    obtain ⟨s', u, rfl⟩ : ∃ s' u, t1 = s' ++ [u] := ⟨t1.dropLast, t1.getLast (List.ne_nil_of_mem ha), (List.dropLast_concat_getLast _).symm⟩
    have hu := h1 u (by simp)
    rcases List.mem_append.1 ha with e | e
    · exact tot_trans W ((List.pairwise_append.1 p1).2.2 a e u (by simp)) hu
    · have : a = u := by simpa using e
      rw [this]; exact hu
  refine List.pairwise_append.2 ⟨p1, List.pairwise_cons.2 ⟨h2, p2⟩, fun a ha b hb => ?_⟩
  rcases List.mem_cons.1 hb with rfl | hb
  · exact hl a ha
  · exact p12 a ha b hb
end

/-! exchanges -/
/-- two places exchanged -/
def swp (l : List Nat) (i j : Nat) : List Nat := (l.set i (l.getD j 0)).set j (l.getD i 0)
theorem swp_len (l : List Nat) (i j : Nat) : (swp l i j).length = l.length := by simp [swp]
theorem swp_at {p m q : List Nat} {u v : Nat} {i j : Nat} (hi : i = p.length) (hj : j = p.length + 1 + m.length) : swp (p ++ u :: (m ++ v :: q)) i j = p ++ v :: (m ++ u :: q) := by
  subst hi hj
  have h1 : (p ++ u :: (m ++ v :: q)).getD p.length 0 = u := by simp [List.getD]
  have h2 : (p ++ u :: (m ++ v :: q)).getD (p.length + 1 + m.length) 0 = v := by
    simp [List.getD, List.getElem?_append, show p.length + 1 + m.length - p.length = m.length + 1 by omega, show ¬ (p.length + 1 + m.length < p.length) by omega]
  rw [swp, h1, h2, List.set_append_right _ _ (Nat.le_refl _), Nat.sub_self, List.set_cons_zero, List.set_append_right _ _ (by omega), show p.length + 1 + m.length - p.length = m.length + 1 by omega, List.set_cons_succ, List.set_append_right _ _ (Nat.le_refl _), Nat.sub_self, List.set_cons_zero]
theorem swp_comm (l : List Nat) {i j : Nat} (h : i ≠ j) : swp l i j = swp l j i := by rw [swp, swp, List.set_comm _ _ h]
theorem swp_next {p q : List Nat} {u v : Nat} {i j : Nat} (hi : i = p.length) (hj : j = p.length + 1) : swp (p ++ u :: v :: q) i j = p ++ v :: u :: q := swp_at (m := []) hi hj
/-- as far as an exchange of ranges has come -/
def swpd (p u m v q : List Nat) (k : Nat) : List Nat := p ++ (v.take k ++ (u.drop k ++ (m ++ (u.take k ++ (v.drop k ++ q)))))
theorem swpd_zero (p u m v q : List Nat) : swpd p u m v q 0 = p ++ (u ++ (m ++ (v ++ q))) := by simp [swpd]
theorem swpd_all {p u m v q : List Nat} {k : Nat} (hu : u.length = k) (hv : v.length = k) : swpd p u m v q k = p ++ (v ++ (m ++ (u ++ q))) := by
  rw [swpd, List.take_of_length_le (by omega), List.take_of_length_le (by omega), List.drop_eq_nil_of_le (by omega), List.drop_eq_nil_of_le (by omega)]; rfl
theorem swpd_len {p u m v q : List Nat} {k : Nat} (hv : v.length = u.length) : (swpd p u m v q k).length = p.length + u.length + m.length + v.length + q.length := by
  simp [swpd]; omega
theorem swpd_succ {p u m v q : List Nat} {k a b : Nat} (hv : v.length = u.length) (hk : k < u.length) (ha : a = p.length) (hb : b = p.length + u.length + m.length) : swp (swpd p u m v q k) (a + k) (b + k) = swpd p u m v q (k + 1) := by
  have hkv : k < v.length := by omega
  have e1 : swpd p u m v q k = (p ++ v.take k) ++ u[k] :: ((u.drop (k + 1) ++ (m ++ u.take k)) ++ v[k] :: (v.drop (k + 1) ++ q)) := by
    rw [swpd, List.drop_eq_getElem_cons hk, List.drop_eq_getElem_cons hkv]; simp only [List.append_assoc, List.cons_append]
  have e2 : swpd p u m v q (k + 1) = (p ++ v.take k) ++ v[k] :: ((u.drop (k + 1) ++ (m ++ u.take k)) ++ u[k] :: (v.drop (k + 1) ++ q)) := by
    rw [swpd, List.take_succ_eq_append_getElem hk, List.take_succ_eq_append_getElem hkv]; simp only [List.append_assoc, List.cons_append, List.nil_append]
  rw [e1, e2]
  refine swp_at ?_ ?_
  · simp; omega
  · simp; omega

/-! pieces -/
theorem at_second {p x r : List Nat} {c : Nat} (h1 : p.length ≤ c) (h2 : c < p.length + x.length) : (p ++ (x ++ r))[c]? = x[c - p.length]? := by
  rw [List.getElem?_append_right h1, List.getElem?_append_left (by omega)]
theorem at_third {p x y r : List Nat} {c : Nat} (h1 : p.length + x.length ≤ c) (h2 : c < p.length + x.length + y.length) : (p ++ (x ++ (y ++ r)))[c]? = y[c - (p.length + x.length)]? := by
  rw [List.getElem?_append_right (by omega), List.getElem?_append_right (by omega), List.getElem?_append_left (by omega)]
  congr 1; omega
theorem last_take {x : List Nat} {k u : Nat} (h : (x.take k).getLast? = some u) (hk : k ≤ x.length) : 0 < k ∧ x[k - 1]? = some u := by
  rcases Nat.eq_zero_or_pos k with rfl | h0
  · simp at h
  · refine ⟨h0, ?_⟩
    rw [List.getLast?_eq_getElem?, List.length_take, Nat.min_eq_left hk, List.getElem?_take] at h
    rwa [if_pos (by omega)] at h
theorem head_drop {x : List Nat} {k v : Nat} (h : (x.drop k).head? = some v) : k < x.length ∧ x[k]? = some v := by
  rw [List.head?_eq_getElem?, List.getElem?_drop, Nat.add_zero] at h
  exact ⟨(List.getElem?_eq_some_iff.1 h).1, h⟩

/-! blocks -/
/-- a stretch of a list -/
def seg (l : List Nat) (i j : Nat) : List Nat := (l.take j).drop i
theorem seg_len (l : List Nat) (i j : Nat) : (seg l i j).length = min j l.length - i := by simp [seg]
theorem seg_cut {l : List Nat} {i j k : Nat} (h1 : i ≤ j) (h2 : j ≤ k) : seg l i k = seg l i j ++ seg l j k := by
  unfold seg
  have e : (l.take k).drop i = ((l.take k).take j ++ (l.take k).drop j).drop i := by rw [List.take_append_drop]
  rw [e, List.take_take, Nat.min_eq_left h2]
  by_cases hl : i ≤ (l.take j).length
  · rw [List.drop_append_of_le_length hl]
  · have hl2 : l.length < i := by rw [List.length_take] at hl; omega
    have d1 : (l.take k).drop i = [] := List.drop_eq_nil_of_le (by rw [List.length_take]; omega)
    have d2 : (l.take j).drop i = [] := List.drop_eq_nil_of_le (by rw [List.length_take]; omega)
    have d3 : (l.take k).drop j = [] := List.drop_eq_nil_of_le (by rw [List.length_take] at hl ⊢; omega)
    rw [List.drop_append, d2, d3]; simp
theorem seg_split (l : List Nat) {i j : Nat} (h : i ≤ j) : l = l.take i ++ (seg l i j ++ l.drop j) := by
  unfold seg
  have h1 : l.take i ++ (l.take j).drop i = l.take j := by
    have := List.take_append_drop i (l.take j)
    rwa [List.take_take, Nat.min_eq_left h] at this
  rw [← List.append_assoc, h1, List.take_append_drop]
theorem seg_none {l : List Nat} {i j : Nat} (h : l.length ≤ i) : seg l i j = [] := List.drop_eq_nil_of_le (by rw [List.length_take]; omega)
theorem seg_end {l : List Nat} {i j : Nat} (h : l.length ≤ j) : seg l i j = l.drop i := by rw [seg, List.take_of_length_le h]
/-- a stretch that has been put in order -/
def Ok (less : Nat → Nat → Bool) (l l0 : List Nat) (i j : Nat) : Prop := SP less (seg l i j) (seg l0 i j)
section
variable {less : Nat → Nat → Bool} {l l' l0 : List Nat}
theorem ok_none {i j : Nat} (h : l.length = l0.length) (hi : l0.length ≤ i) : Ok less l l0 i j := by
  unfold Ok SP
  rw [seg_none (by omega), seg_none (by omega)]
  exact ⟨List.Perm.refl _, List.Pairwise.nil⟩
/-- a stretch changed: the others stay -/
theorem seg_other {l : List Nat} {z : List Nat} {a b i j : Nat} (hab : a ≤ b) (hb : b ≤ l.length) (hz : z.length = b - a) (h : j ≤ a ∨ b ≤ i) : seg (l.take a ++ (z ++ l.drop b)) i j = seg l i j := by
  have hl : (l.take a ++ (z ++ l.drop b)).length = l.length := by simp [hz]; omega
  apply List.ext_getElem?
  intro k
  simp only [seg, List.getElem?_drop, List.getElem?_take]
  split
  · rename_i hk
    rcases h with h | h
    · rw [List.getElem?_append_left (by rw [List.length_take]; omega), List.getElem?_take, if_pos (by omega)]
    · rw [List.getElem?_append_right (by rw [List.length_take]; omega), List.getElem?_append_right (by rw [List.length_take]; omega), List.getElem?_drop]
      congr 1
      rw [List.length_take]; omega
  · rfl
theorem seg_here {l : List Nat} {z : List Nat} {a b : Nat} (hab : a ≤ b) (hb : b ≤ l.length) (hz : z.length = b - a) : seg (l.take a ++ (z ++ l.drop b)) a b = z := by
  have h1 : (l.take a).length = a := by rw [List.length_take]; omega
  have h2 : (l.take a ++ (z ++ l.drop b)).take b = l.take a ++ z := by
    rw [← List.append_assoc]
    exact List.take_left' (by rw [List.length_append, h1, hz]; omega)
  rw [seg, h2]
  exact List.drop_left' h1
theorem seg_sub {l0 : List Nat} (h : l0.Pairwise (· < ·)) (i j : Nat) : (seg l0 i j).Pairwise (· < ·) := (h.sublist (List.take_sublist _ _)).sublist (List.drop_sublist _ _)
theorem seg_lt {l0 : List Nat} (h : l0.Pairwise (· < ·)) {i j k : Nat} (h1 : i ≤ j) (h2 : j ≤ k) : ∀ u ∈ seg l0 i j, ∀ v ∈ seg l0 j k, u < v := by
  have := seg_sub h i k
  rw [seg_cut h1 h2] at this
  exact (List.pairwise_append.1 this).2.2
end
end Go.Proofs.Ytljdkfhkpjjfgaa
