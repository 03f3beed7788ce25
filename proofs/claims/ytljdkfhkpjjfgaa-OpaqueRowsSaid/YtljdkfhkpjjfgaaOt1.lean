/- Rows of stories, plain: lemmas for the laws of layer 22. -/
import Derived.Test.YtljdkfhkpjjfgaaOrC
namespace Go.Proofs.Ytljdkfhkpjjfgaa
set_option linter.unusedVariables false

/-- what a move says where it is done -/
def MvOk (F : Cells) (i : Nat) (own : Cells) (m : Mv) : Prop := m.write = false → (m.x = wantF F own m.cell ∧ (m.own = false → m.gate = 2 * (i : Int)))
def MovesOk (F : Cells) (i : Nat) : Cells → List Mv → Prop
  | _, [] => True
  | own, m :: ms => MvOk F i own m ∧ MovesOk F i (ownS own m) ms
theorem moves_snoc (F : Cells) (i : Nat) (m : Mv) : ∀ (ms : List Mv) (own : Cells), MovesOk F i own ms → MvOk F i (ms.foldl ownS own) m → MovesOk F i own (ms ++ [m])
  | [], own, _, h => ⟨h, trivial⟩
  | a :: ms, own, h, hm => ⟨h.1, moves_snoc F i m ms _ h.2 hm⟩
theorem moves_expl (F : Cells) (i : Nat) : ∀ (ms : List Mv) (own : Cells), MovesOk F i own ms → explS F own ms = true
  | [], _, _ => by rw [explS]
  | m :: ms, own, h => by
    rw [explS]
    have h2 := moves_expl F i ms _ h.2
    unfold ownS at h2
    cases hw : m.write with
    | true => rw [hw, if_pos rfl] at h2; rw [if_pos rfl]; exact h2
    | false => rw [hw, if_neg (by decide)] at h2; rw [if_neg (by decide), if_pos (h.1 hw).1.symm]; exact h2
theorem moves_gate (F : Cells) (i : Nat) : ∀ (ms : List Mv) (own : Cells), MovesOk F i own ms → ∀ m ∈ ms, m.write = false → m.own = false → m.gate = 2 * (i : Int)
  | [], _, _, m, h, _, _ => nomatch h
  | a :: ms, own, h, m, hm, hw, ho => by
    rcases List.mem_cons.1 hm with rfl | hm
    · exact (h.1 hw).2 ho
    · exact moves_gate F i ms _ h.2 m hm hw ho
/-- another value of the first read is not what there is -/
theorem moves_bad (F : Cells) (i : Nat) : ∀ (ms : List Mv) (own : Cells) (j : Nat) (m : Mv) (y : Int), MovesOk F i own ms → ms[j]? = some m → m.write = false → (∀ (v : Nat) (z : Mv), v < j → ms[v]? = some z → z.write = true) → y ≠ m.x → explS F own (ms.set j { m with x := y }) = false
  | [], _, _, _, _, _, h, _, _, _ => by simp at h
  | a :: ms, own, 0, m, y, h, hj, hw, hb, hy => by
    simp at hj
    subst hj
    rw [List.set_cons_zero, explS]
    show (if a.write then _ else if wantF F own a.cell = y then _ else false) = false
    rw [hw, if_neg (by decide), if_neg (fun e => hy (by rw [(h.1 hw).1, e]))]
  | a :: ms, own, j + 1, m, y, h, hj, hw, hb, hy => by
    have haw : a.write = true := hb 0 a (by omega) rfl
    rw [List.set_cons_succ, explS, haw, if_pos rfl]
    have h2 := h.2
    unfold ownS at h2
    rw [haw, if_pos rfl] at h2
    exact moves_bad F i ms _ j m y h2 (by simpa using hj) hw (fun v z hv hz => hb (v + 1) z (by omega) (by simpa using hz)) hy
/-- stories one behind the other -/
def RowP : Cells → Nat → Int → List Sto → Prop
  | _, _, _, [] => True
  | F, i, b, s :: r => (b ≤ s.begin_ ∧ s.begin_ < s.end_ ∧ ((s.fate = 1 ∧ s.gate = 2 * (i : Int) + 1) ∨ s.fate = 2) ∧ s.opens = 2 * (i : Int) ∧ MovesOk F i (fun _ => none) s.moves) ∧ RowP (putsF F (leftOf s)) (i + 1) (s.end_ + 1) r
def lastB (b : Int) (l : List Sto) : Int := l.foldl (fun _ s => s.end_ + 1) b
theorem row_snoc : ∀ (l : List Sto) (F : Cells) (i : Nat) (b : Int) (s : Sto), RowP F i b l → RowP (putsS F l) (i + l.length) (lastB b l) [s] → RowP F i b (l ++ [s])
  | [], F, i, b, s, _, h => h
  | a :: l, F, i, b, s, h, hs => ⟨h.1, row_snoc l _ _ _ s h.2 (by
      have e : i + 1 + l.length = i + (a :: l).length := by simp; omega
      rw [e]; exact hs)⟩
theorem lastB_snoc (b : Int) (l : List Sto) (s : Sto) : lastB b (l ++ [s]) = s.end_ + 1 := by simp [lastB]
theorem putsS_snoc (F : Cells) (l : List Sto) (s : Sto) : putsS F (l ++ [s]) = putsF (putsS F l) (leftOf s) := by simp [putsS]
theorem row_reads : ∀ (l : List Sto) (F : Cells) (i : Nat) (b : Int), RowP F i b l → readS F l = true
  | [], _, _, _, _ => by rw [readS]
  | s :: l, F, i, b, h => by
    rw [readS, moves_expl F i _ _ h.1.2.2.2.2, row_reads l _ _ _ h.2]
    rfl
theorem row_begin : ∀ (l : List Sto) (F : Cells) (i : Nat) (b : Int), RowP F i b l → ∀ s ∈ l, b ≤ s.begin_ ∧ s.begin_ < s.end_
  | [], _, _, _, _, s, h => nomatch h
  | a :: l, F, i, b, h, s, hs => by
    rcases List.mem_cons.1 hs with rfl | hs
    · exact ⟨h.1.1, h.1.2.1⟩
    · have h1 := row_begin l _ _ _ h.2 s hs
      have := h.1.1
      have := h.1.2.1
      exact ⟨by omega, h1.2⟩
theorem row_pair : ∀ (l : List Sto) (F : Cells) (i : Nat) (b : Int), RowP F i b l → l.Pairwise fun a c => a.end_ < c.begin_
  | [], _, _, _, _ => List.Pairwise.nil
  | a :: l, F, i, b, h => List.pairwise_cons.2 ⟨fun c hc => by have := (row_begin l _ _ _ h.2 c hc).1; omega, row_pair l _ _ _ h.2⟩
theorem row_time {l : List Sto} {F : Cells} {i : Nat} {b : Int} (h : RowP F i b l) : l.Pairwise fun a c => ¬ AgS a c := by
  have h1 := row_pair l F i b h
  have h2 := row_begin l F i b h
  refine h1.imp_of_mem fun {a c} ha hc hac => ?_
  rintro ⟨_, h3⟩
  have := (h2 a ha).2
  have := (h2 c hc).2
  omega
theorem row_point : ∀ (l : List Sto) (F : Cells) (i : Nat) (b : Int), RowP F i b l → ∀ (k : Nat) (s : Sto), l[k]? = some s → 2 * ((i + k : Nat) : Int) ≤ (pointOf s).1 ∧ (pointOf s).1 ≤ 2 * ((i + k : Nat) : Int) + 1
  | [], _, _, _, _, k, s, h => by simp at h
  | a :: l, F, i, b, h, 0, s, hs => by
    simp at hs
    subst hs
    obtain ⟨-, -, hf, ho, hm⟩ := h.1
    unfold pointOf
    by_cases hc : a.fate = 1 ∧ sel true a.moves ≠ []
    · rw [if_pos hc]
      rcases hf with ⟨_, hg⟩ | h2
      · show 2 * ((i + 0 : Nat) : Int) ≤ a.gate ∧ a.gate ≤ _
        rw [hg, Nat.add_zero]; omega
      · have := hc.1; omega
    · rw [if_neg hc]
      unfold lastOf
      cases hl : (sel false a.moves).getLast? with
      | none => show 2 * ((i + 0 : Nat) : Int) ≤ a.opens ∧ a.opens ≤ _; rw [ho, Nat.add_zero]; omega
      | some m =>
        have hmem := List.mem_of_getLast? hl
        unfold sel at hmem
        rw [List.mem_filter] at hmem
        have hg := moves_gate F i a.moves _ hm m hmem.1 (by have := hmem.2; cases hw : m.write <;> simp_all) (by have := hmem.2; cases hw : m.write <;> cases ho : m.own <;> simp_all)
        show 2 * ((i + 0 : Nat) : Int) ≤ m.gate ∧ m.gate ≤ _
        rw [hg, Nat.add_zero]; omega
  | a :: l, F, i, b, h, k + 1, s, hs => by
    have := row_point l _ _ _ h.2 k s (by simpa using hs)
    rw [show i + (k + 1) = i + 1 + k from by omega]
    exact this
theorem row_order {l : List Sto} {F : Cells} {b : Int} (h : RowP F 0 b l) : orderOf l = List.range l.length := by
  have h2 := sortT_sp (weak_pts (ptsOf l)) (List.range l.length) List.pairwise_lt_range
  refine sorted_unique (weak_pts (ptsOf l)) h2.1 h2.2 ?_
  refine List.pairwise_lt_range.imp_of_mem fun {x y} hx hy hxy => .inl ?_
  rw [cvP_less]
  have hx := List.mem_range.1 hx
  have hy := List.mem_range.1 hy
  have px := row_point l F 0 b h x _ (List.getElem?_eq_getElem hx)
  have py := row_point l F 0 b h y _ (List.getElem?_eq_getElem hy)
  have e : ∀ k (hk : k < l.length), ptAt (ptsOf l) k = ptOf l[k] := fun k hk => by simp [ptAt, ptsOf, hk]
  rw [e x hx, e y hy]
  left
  show (pointOf l[x]).1 < (pointOf l[y]).1
  omega
theorem row_check {st : List Int} {l : List Sto} (h : RowP (begF st) 0 1 l) : checkP st l (intsOf (List.range l.length)) = (0, 0) := check_range st l (row_reads l _ _ _ h) (row_time h)
/-- against the time: turned round -/
theorem row_turned {st : List Int} {l : List Sto} (h : RowP (begF st) 0 1 l) (h2 : 1 < l.length) : checkP st l (intsOf (List.range l.length).reverse) = (221, 1) := by
  have hev : evP l.length [] (intsOf (List.range l.length).reverse) = true := evP_of (List.range l.length).reverse [] (fun i hi => List.mem_range.1 (List.mem_reverse.1 hi)) (by rw [List.nil_append]; exact (List.reverse_perm _).nodup_iff.2 List.nodup_range) (by simp)
  obtain ⟨n, hn⟩ : ∃ n, l.length = n + 2 := ⟨l.length - 2, by omega⟩
  have hr : (List.range l.length).reverse = (n + 1) :: n :: (List.range n).reverse := by
    rw [hn, List.range_succ, List.range_succ]; simp
  have hp := List.pairwise_iff_getElem.1 (row_pair l _ _ _ h) n (n + 1) (by omega) (by omega) (by omega)
  have hb := row_begin l _ _ _ h l[n] (List.getElem_mem _)
  have e1 : stAt l ((n + 1 : Nat) : Int) = l[n + 1] := by simp [stAt, hn]
  have e2 : stAt l ((n : Nat) : Int) = l[n] := by simp [stAt, hn]
  have ht : timeP l 0 0 (intsOf (List.range l.length).reverse) = some 1 := by
    rw [hr]
    show timeP l 0 0 (((n + 1 : Nat) : Int) :: ((n : Nat) : Int) :: intsOf (List.range n).reverse) = some 1
    rw [timeP, if_neg (fun h => absurd h.1 (by omega)), if_pos (Or.inl rfl), e1, timeP, e2, if_pos ⟨by omega, by omega, hp⟩]
  rw [checkP, hev, if_pos rfl, ht]
  rfl
theorem readP_S (sts : List Sto) : ∀ (A : List Int) (z : Int) (B : List Int) (k : Nat) (f : Cells), readS f (A.map (stAt sts)) = true → explS (putsS f (A.map (stAt sts))) (fun _ => none) (stAt sts z).moves = false → readP sts k f (A ++ z :: B) = some (k + A.length)
  | [], z, B, k, f, _, h => by
    rw [List.nil_append, readP]
    have : explS f (fun _ => none) (stAt sts z).moves = false := h
    rw [this]; rfl
  | a :: A, z, B, k, f, h1, h2 => by
    rw [List.map_cons, readS, Bool.and_eq_true] at h1
    rw [List.cons_append, readP, if_pos h1.1, readP_S sts A z B (k + 1) _ h1.2 h2]
    simp; omega
theorem row_at : ∀ (l : List Sto) (F : Cells) (i : Nat) (b : Int) (k : Nat) (s : Sto), RowP F i b l → l[k]? = some s → MovesOk (putsS F (l.take k)) (i + k) (fun _ => none) s.moves
  | [], _, _, _, _, _, _, h => by simp at h
  | a :: l, F, i, b, 0, s, h, hs => by
    simp at hs
    subst hs
    exact h.1.2.2.2.2
  | a :: l, F, i, b, k + 1, s, h, hs => by
    have := row_at l _ _ _ k s h.2 (by simpa using hs)
    rw [show i + (k + 1) = i + 1 + k from by omega]
    exact this
/-- another value of a read is told at its place -/
theorem row_bad {st : List Int} {l : List Sto} {k j : Nat} {s : Sto} {m : Mv} {y : Int} (h : RowP (begF st) 0 1 l) (hk : l[k]? = some s) (hj : s.moves[j]? = some m) (hw : m.write = false) (hb : ∀ (v : Nat) (z : Mv), v < j → s.moves[v]? = some z → z.write = true) (hy : y ≠ m.x) :
    checkP st (l.set k { s with moves := s.moves.set j { m with x := y } }) (intsOf (List.range l.length)) = (222, (k : Int)) := by
  obtain ⟨l', hl'⟩ : ∃ l', l.set k { s with moves := s.moves.set j { m with x := y } } = l' := ⟨_, rfl⟩
  have hlen : l'.length = l.length := by rw [← hl', List.length_set]
  have hkl := (List.getElem?_eq_some_iff.1 hk).1
  have hbad : explS (putsS (begF st) (l.take k)) (fun _ => none) (s.moves.set j { m with x := y }) = false := moves_bad _ _ _ _ j m y (by have := row_at l _ _ _ k s h hk; exact this) hj hw hb hy
  have hev : evP l'.length [] (intsOf (List.range l.length)) = true := by
    rw [hlen]
    exact evP_of (List.range l.length) [] (fun i hi => List.mem_range.1 hi) (by simpa using List.nodup_range) (by simp)
  have hst : ∀ i : Nat, i < l.length → stAt l' (i : Int) = if i = k then { s with moves := s.moves.set j { m with x := y } } else l[i]?.getD ⟨0, 0, 0, 0, 0, 0, 0, 0, 0, []⟩ := fun i hi => by
    rw [stAt, Int.toNat_natCast, ← hl']
    by_cases hik : i = k
    · subst hik; rw [if_pos rfl, List.getElem?_set_self hi]; rfl
    · rw [if_neg hik, List.getElem?_set_ne (fun e => hik e.symm)]
  have hsk : s = l[k] := by rw [List.getElem?_eq_getElem hkl] at hk; injection hk with hk; exact hk.symm
  have hbe : ∀ i : Nat, i < l.length → (stAt l' (i : Int)).begin_ = (stAt l (i : Int)).begin_ ∧ (stAt l' (i : Int)).end_ = (stAt l (i : Int)).end_ := fun i hi => by
    rw [hst i hi]
    by_cases hik : i = k
    · subst hik; rw [if_pos rfl]; simp [stAt, hi, hsk]
    · rw [if_neg hik]; simp [stAt]
  have ht : timeP l' 0 0 (intsOf (List.range l.length)) = none := by
    rw [timeP_none]
    have h3 : (intsOf (List.range l.length)).Pairwise fun a b => ¬ Against l a b := ((check_ok st l _).1 (row_check h)).2.2
    refine h3.imp_of_mem fun {a b} ha hb hab => ?_
    obtain ⟨i, hi, rfl⟩ := List.mem_map.1 ha
    obtain ⟨i2, hi2, rfl⟩ := List.mem_map.1 hb
    unfold Against at hab ⊢
    rw [(hbe i (List.mem_range.1 hi)).1, (hbe i2 (List.mem_range.1 hi2)).2]
    exact hab
  have hr : readP l' 0 (begF st) (intsOf (List.range l.length)) = some k := by
    have hsplit : intsOf (List.range l.length) = intsOf (List.range k) ++ ((k : Nat) : Int) :: intsOf ((List.range l.length).drop (k + 1)) := by
      have e := List.take_append_drop k (List.range l.length)
      rw [drop_cons (x := k) (by rw [List.getElem?_range hkl])] at e
      have e2 : (List.range l.length).take k = List.range k := by rw [List.take_range, Nat.min_eq_left (by omega)]
      rw [e2] at e
      conv => lhs; rw [← e]
      simp [intsOf]
    have hmap : (intsOf (List.range k)).map (stAt l') = l.take k := by
      apply List.ext_getElem?
      intro i
      rw [intsOf, List.map_map, List.getElem?_map]
      rcases Nat.lt_or_ge i k with hi | hi
      · rw [List.getElem?_range hi, Option.map_some, List.getElem?_take, if_pos hi]
        show some (stAt l' (i : Int)) = _
        rw [hst i (by omega), if_neg (by omega), List.getElem?_eq_getElem (show i < l.length by omega)]
        rfl
      · rw [List.getElem?_eq_none (by simpa using hi), List.getElem?_eq_none (by rw [List.length_take]; omega)]
        rfl
    have hrd := row_reads l _ _ _ h
    rw [← List.take_append_drop k l, readS_append, Bool.and_eq_true] at hrd
    rw [hsplit, readP_S l' _ _ _ 0 _ (by rw [hmap]; exact hrd.1) (by rw [hmap, hst k hkl, if_pos rfl]; exact hbad)]
    simp [intsOf]
  rw [hl', checkP, hev, if_pos rfl, ht, hr]
end Go.Proofs.Ytljdkfhkpjjfgaa
