/- Final in the sorted order is the document's Final, in plain Lean: lemmas for the laws of ghost. -/
import Derived.Test.YtfekjbaojefhoaaGh23
namespace Go.Proofs.Ytfekjbaojefhoaa
open Go.RowKit Go.Shelf
set_option linter.unusedVariables false

/-- what pairs leave at a cell -/
def valOf (ps : List (Int × Int)) (c : Nat) : Option Int := ps.foldl (fun o p => if p.1 = (c : Int) then some p.2 else o) none
theorem valOf_snoc (ps : List (Int × Int)) (p : Int × Int) (c : Nat) : valOf (ps ++ [p]) c = if p.1 = (c : Int) then some p.2 else valOf ps c := by simp [valOf]
theorem snoc_ind {α : Type} {P : List α → Prop} (h0 : P []) (h1 : ∀ l a, P l → P (l ++ [a])) : ∀ l, P l := by
  intro l
  have : ∀ n, ∀ l : List α, l.length = n → P l := by
    intro n
    induction n with
    | zero => intro l hl; rw [List.eq_nil_of_length_eq_zero hl]; exact h0
    | succ n ih =>
      intro l hl
      have hne : l ≠ [] := by intro e; subst e; simp at hl
      rw [← List.dropLast_concat_getLast hne]
      exact h1 _ _ (ih _ (by rw [List.length_dropLast, hl]; rfl))
  exact this _ l rfl
theorem puts_at (out : List Int) (c : Nat) (hc : c < out.length) : ∀ ps : List (Int × Int), (ps.foldl putC out).getD c 0 = (valOf ps c).getD (out.getD c 0) := by
  refine snoc_ind rfl fun ps p ih => ?_
  rw [List.foldl_append, List.foldl_cons, List.foldl_nil, valOf_snoc]
  have hl := puts_len ps out
  generalize ps.foldl putC out = cur at ih hl ⊢
  unfold putC
  by_cases hp : p.1 = (c : Int)
  · rw [if_pos (by omega), if_pos hp, show p.1.toNat = c by omega, List.getD, List.getElem?_set, if_pos rfl, if_pos (by omega)]; rfl
  · rw [if_neg hp]
    split
    · rename_i hr
      rw [← ih, List.getD, List.getElem?_set, if_neg (by omega), List.getD]
    · exact ih
/-- a story's value at a cell -/
def vAt (sts : List Sto) (c : Nat) (i : Nat) : Option Int := match sts[i]? with | some s => valOf (writesOf s.moves) c | none => none
/-- the best of a list: the last by the order among those that write the cell -/
def Best (less : Nat → Nat → Bool) (v : Nat → Option Int) (l : List Nat) (r : Option (Nat × Int)) : Prop :=
  match r with
  | none => ∀ i ∈ l, v i = none
  | some (i, x) => i ∈ l ∧ v i = some x ∧ ∀ k ∈ l, v k ≠ none → k = i ∨ tot less k i
theorem best_unique {less : Nat → Nat → Bool} (Wk : Weak less) {v : Nat → Option Int} {l l' : List Nat} {r r' : Option (Nat × Int)} (hl : l.Perm l') (h : Best less v l r) (h' : Best less v l' r') : r = r' := by
  cases r with
  | none =>
    cases r' with
    | none => rfl
    | some q =>
      obtain ⟨i, x⟩ := q
      obtain ⟨h1, h2, _⟩ := h'
      have := h i (hl.symm.subset h1)
      rw [this] at h2; cases h2
  | some p =>
    obtain ⟨i, x⟩ := p
    obtain ⟨h1, h2, h3⟩ := h
    cases r' with
    | none => have := h' i (hl.subset h1); rw [this] at h2; cases h2
    | some q =>
      obtain ⟨j, y⟩ := q
      obtain ⟨k1, k2, k3⟩ := h'
      have e : i = j := by
        rcases h3 j (hl.symm.subset k1) (by rw [k2]; simp) with e | e
        · exact e.symm
        · rcases k3 i (hl.subset h1) (by rw [h2]; simp) with e' | e'
          · exact e'
          · exact (tot_asym Wk e e').elim
      subst e
      rw [h2] at k2
      injection k2 with k2
      rw [k2]
theorem final_best (less : Nat → Nat → Bool) (sts : List Sto) (zs : List Int) (c : Nat) (hc : c < zs.length) : ∀ ord : List Nat, ord.Pairwise (tot less) → ∃ r, Best less (vAt sts c) ord r ∧ (finalOf sts ord zs).getD c 0 = match r with | none => zs.getD c 0 | some (_, x) => x := by
  refine snoc_ind (fun _ => ⟨none, fun i hi => by simp at hi, rfl⟩) fun ord i ih hp => ?_
  obtain ⟨hp1, _, hp3⟩ := List.pairwise_append.1 hp
  obtain ⟨r, hr, he⟩ := ih hp1
  have hl := final_len sts ord zs
  have e1 : finalOf sts (ord ++ [i]) zs = putS sts (finalOf sts ord zs) i := by rw [finalOf, List.foldl_append]; rfl
  rw [e1]
  generalize finalOf sts ord zs = cur at he hl ⊢
  have e2 : (putS sts cur i).getD c 0 = (vAt sts c i).getD (cur.getD c 0) := by
    unfold putS vAt
    cases hs : sts[i]? with
    | none => rfl
    | some s => exact puts_at cur c (by omega) _
  rw [e2]
  cases hv : vAt sts c i with
  | none =>
    refine ⟨r, ?_, he⟩
    cases r with
    | none =>
      intro k hk
      rcases List.mem_append.1 hk with hk | hk
      · exact hr k hk
      · rw [List.mem_singleton.1 hk]; exact hv
    | some q =>
      obtain ⟨j, y⟩ := q
      obtain ⟨k1, k2, k3⟩ := hr
      refine ⟨List.mem_append_left _ k1, k2, fun k hk hne => ?_⟩
      rcases List.mem_append.1 hk with hk | hk
      · exact k3 k hk hne
      · rw [List.mem_singleton.1 hk] at hne; exact absurd hv hne
  | some x =>
    refine ⟨some (i, x), ⟨by simp, hv, fun k hk hne => ?_⟩, rfl⟩
    rcases List.mem_append.1 hk with hk | hk
    · exact .inr (hp3 k hk i (by simp))
    · exact .inl (List.mem_singleton.1 hk)

/-! the document's -/
structure RF where
  out : List Int
  gs : List Int
  bs : List Bool
def rfPut (gate : Int) (st : RF) (p : Int × Int) : RF :=
  if 0 ≤ p.1 ∧ p.1 < st.out.length ∧ (st.bs.getD p.1.toNat false = false ∨ st.gs.getD p.1.toNat 0 ≤ gate) then ⟨st.out.set p.1.toNat p.2, st.gs.set p.1.toNat gate, st.bs.set p.1.toNat true⟩ else st
def rfSto (st : RF) (s : Sto) : RF := if s.fate = 1 then (writesOf s.moves).foldl (rfPut s.gate) st else st
def rf0 (zs : List Int) : RF := ⟨zs, List.replicate zs.length 0, List.replicate zs.length false⟩
def refFin (sts : List Sto) (zs : List Int) : RF := sts.foldl rfSto (rf0 zs)
/-- all three of one length -/
structure RFn (n : Nat) (st : RF) : Prop where
  o : st.out.length = n
  g : st.gs.length = n
  b : st.bs.length = n
theorem rfn_put {n : Nat} {gate : Int} {st : RF} (h : RFn n st) (p : Int × Int) : RFn n (rfPut gate st p) := by
  unfold rfPut
  split
  · exact ⟨by simp [h.o], by simp [h.g], by simp [h.b]⟩
  · exact h
theorem rfn_puts {n : Nat} {gate : Int} : ∀ (ps : List (Int × Int)) {st : RF}, RFn n st → RFn n (ps.foldl (rfPut gate) st)
  | [], _, h => h
  | p :: ps, _, h => rfn_puts ps (rfn_put h p)
theorem rfn_sto {n : Nat} {st : RF} (h : RFn n st) (s : Sto) : RFn n (rfSto st s) := by
  unfold rfSto
  split
  · exact rfn_puts _ h
  · exact h
theorem rfn_fin {n : Nat} : ∀ (sts : List Sto) {st : RF}, RFn n st → RFn n (sts.foldl rfSto st)
  | [], _, h => h
  | s :: sts, _, h => rfn_fin sts (rfn_sto h s)
theorem rfn_0 (zs : List Int) : RFn zs.length (rf0 zs) := ⟨rfl, by simp [rf0], by simp [rf0]⟩
def rfAt (st : RF) (c : Nat) : Int × Int × Bool := (st.out.getD c 0, st.gs.getD c 0, st.bs.getD c false)
theorem rfPut_at {n : Nat} {gate : Int} {st : RF} (h : RFn n st) (p : Int × Int) {c : Nat} (hc : c < n) : rfAt (rfPut gate st p) c = if p.1 = (c : Int) ∧ ((rfAt st c).2.2 = false ∨ (rfAt st c).2.1 ≤ gate) then (p.2, gate, true) else rfAt st c := by
  have ho := h.o
  have hg := h.g
  have hb := h.b
  unfold rfPut
  by_cases hp : p.1 = (c : Int)
  · have e : p.1.toNat = c := by omega
    rw [e]
    by_cases hk : st.bs.getD c false = false ∨ st.gs.getD c 0 ≤ gate
    · rw [if_pos ⟨by omega, by omega, hk⟩, if_pos ⟨hp, hk⟩]
      simp only [rfAt, List.getD, List.getElem?_set, if_pos (show c < st.out.length by omega), if_pos (show c < st.gs.length by omega), if_pos (show c < st.bs.length by omega), if_true, Option.getD_some]
    · rw [if_neg (fun h => hk h.2.2), if_neg (fun h => hk h.2)]
  · refine Eq.trans ?_ (if_neg fun h => hp h.1).symm
    split
    · rename_i hr
      have hne : ¬ p.1.toNat = c := by omega
      simp only [rfAt, List.getD, List.getElem?_set, if_neg hne]
    · rfl
theorem rfPuts_at {n : Nat} {gate : Int} {st : RF} (h : RFn n st) {c : Nat} (hc : c < n) : ∀ ps : List (Int × Int), rfAt (ps.foldl (rfPut gate) st) c = match valOf ps c with | none => rfAt st c | some x => if (rfAt st c).2.2 = false ∨ (rfAt st c).2.1 ≤ gate then (x, gate, true) else rfAt st c := by
  refine snoc_ind rfl fun ps p ih => ?_
  rw [List.foldl_append, List.foldl_cons, List.foldl_nil, rfPut_at (rfn_puts ps h) p hc, valOf_snoc, ih]
  by_cases hp : p.1 = (c : Int)
  · simp only [hp, true_and, if_true]
    cases hv : valOf ps c with
    | none => rfl
    | some x =>
      by_cases hk : (rfAt st c).2.2 = false ∨ (rfAt st c).2.1 ≤ gate
      · simp only [if_pos hk]
        rw [if_pos (.inr (Int.le_refl _))]
      · simp only [if_neg hk]
  · simp only [hp, false_and, if_false]
theorem gate_at {sts : List Sto} {j : Nat} {s : Sto} (h : sts[j]? = some s) : gateOf sts j = s.gate := by simp [gateOf, h]
theorem ref_best (sts : List Sto) (zs : List Int) (c : Nat) (hc : c < zs.length) : ∀ j, j ≤ sts.length → ∃ r, Best (lessOf (cvG sts)) (vAt sts c) (byOf sts j) r ∧ (match r with | none => rfAt ((sts.take j).foldl rfSto (rf0 zs)) c = (zs.getD c 0, 0, false) | some (i, x) => rfAt ((sts.take j).foldl rfSto (rf0 zs)) c = (x, gateOf sts i, true)) := by
  intro j
  induction j with
  | zero => exact fun _ => ⟨none, fun i hi => by simp [byOf] at hi, by simp [rfAt, rf0, hc]⟩
  | succ j ih =>
    intro hj
    obtain ⟨r, hr, he⟩ := ih (by omega)
    obtain ⟨s, hs⟩ : ∃ s, sts[j]? = some s := ⟨_, List.getElem?_eq_getElem (by omega)⟩
    have hn := rfn_fin (sts.take j) (rfn_0 zs)
    rw [take_succ hs, List.foldl_append, List.foldl_cons, List.foldl_nil, byOf_succ hs]
    generalize (sts.take j).foldl rfSto (rf0 zs) = st at he hn ⊢
    have hle : ∀ x y, lessOf (cvG sts) x y = decide (gateOf sts x < gateOf sts y) := fun x y => less_cmp _ _
    by_cases hf : s.fate = 1
    · rw [if_pos hf]
      have e1 : rfSto st s = (writesOf s.moves).foldl (rfPut s.gate) st := by rw [rfSto, if_pos hf]
      have e2 : vAt sts c j = valOf (writesOf s.moves) c := by rw [vAt, hs]
      rw [e1, rfPuts_at hn hc, ← e2]
      cases hv : vAt sts c j with
      | none =>
        refine ⟨r, ?_, he⟩
        cases r with
        | none =>
          intro k hk
          rcases List.mem_append.1 hk with hk | hk
          · exact hr k hk
          · rw [List.mem_singleton.1 hk]; exact hv
        | some q =>
          obtain ⟨i, y⟩ := q
          obtain ⟨k1, k2, k3⟩ := hr
          refine ⟨List.mem_append_left _ k1, k2, fun k hk hne => ?_⟩
          rcases List.mem_append.1 hk with hk | hk
          · exact k3 k hk hne
          · rw [List.mem_singleton.1 hk] at hne; exact absurd hv hne
      | some x =>
        cases r with
        | none =>
          refine ⟨some (j, x), ⟨by simp, hv, fun k hk hne => ?_⟩, ?_⟩
          · rcases List.mem_append.1 hk with hk | hk
            · exact absurd (hr k hk) hne
            · exact .inl (List.mem_singleton.1 hk)
          · dsimp only at he ⊢
            rw [he, if_pos (.inl rfl), gate_at hs]
        | some q =>
          obtain ⟨i, y⟩ := q
          obtain ⟨k1, k2, k3⟩ := hr
          have hij := byOf_mem k1
          dsimp only at he ⊢
          by_cases hg : gateOf sts i ≤ s.gate
          · have hij2 : tot (lessOf (cvG sts)) i j := .inr ⟨by rw [hle, gate_at hs]; exact decide_eq_false (by omega), hij⟩
            refine ⟨some (j, x), ⟨by simp, hv, fun k hk hne => ?_⟩, ?_⟩
            · rcases List.mem_append.1 hk with hk | hk
              · rcases k3 k hk hne with e | e
                · rw [e]; exact .inr hij2
                · exact .inr (tot_trans (weak_gate sts) e hij2)
              · exact .inl (List.mem_singleton.1 hk)
            · dsimp only
              rw [he, if_pos (.inr hg), gate_at hs]
          · have hji : tot (lessOf (cvG sts)) j i := .inl (by rw [hle, gate_at hs]; exact decide_eq_true (by omega))
            refine ⟨some (i, y), ⟨List.mem_append_left _ k1, k2, fun k hk hne => ?_⟩, ?_⟩
            · rcases List.mem_append.1 hk with hk | hk
              · exact k3 k hk hne
              · rw [List.mem_singleton.1 hk]; exact .inr hji
            · dsimp only
              rw [he, if_neg]
              rintro (h | h)
              · cases h
              · exact hg h
    · rw [if_neg hf, List.append_nil]
      have e1 : rfSto st s = st := by rw [rfSto, if_neg hf]
      rw [e1]
      exact ⟨r, hr, he⟩
theorem final_is_ref (sts : List Sto) (zs : List Int) : (refFin sts zs).out = finalOf sts (ordOf sts sts.length) zs := by
  have hn := rfn_fin sts (rfn_0 zs)
  have hl := final_len sts (ordOf sts sts.length) zs
  have hsp := sortT_sp (weak_gate sts) (byOf sts sts.length) (byOf_lt sts sts.length)
  refine List.ext_getElem? fun c => ?_
  by_cases hc : c < zs.length
  · have h1 : (refFin sts zs).out[c]? = some ((refFin sts zs).out.getD c 0) := by rw [List.getD, List.getElem?_eq_getElem (by have := hn.o; unfold refFin; omega)]; rfl
    have h2 : (finalOf sts (ordOf sts sts.length) zs)[c]? = some ((finalOf sts (ordOf sts sts.length) zs).getD c 0) := by rw [List.getD, List.getElem?_eq_getElem (by omega)]; rfl
    rw [h1, h2]
    congr 1
    obtain ⟨r, hr, he⟩ := final_best (lessOf (cvG sts)) sts zs c hc (ordOf sts sts.length) hsp.2
    obtain ⟨r', hr', he'⟩ := ref_best sts zs c hc sts.length (Nat.le_refl _)
    have : r = r' := best_unique (weak_gate sts) hsp.1 hr hr'
    subst this
    rw [he]
    rw [List.take_length] at he'
    cases r with
    | none => have := congrArg (·.1) he'; exact this
    | some q =>
      obtain ⟨i, x⟩ := q
      have := congrArg (·.1) he'; exact this
  · rw [List.getElem?_eq_none (by have := hn.o; unfold refFin; omega), List.getElem?_eq_none (by omega)]
end Go.Proofs.Ytfekjbaojefhoaa
