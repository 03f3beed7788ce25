/- The document s Memory, Put, Get: lemmas for the laws of layer 22. -/
import Derived.Test.YtljdkfhkpjjfgaaOp29
namespace Go.Proofs.Ytljdkfhkpjjfgaa
open Go.RowKit Go.Shelf
set_option linter.unusedVariables false

/-- the document's memory: an object of a start and pairs -/
def docA (b : Nat) (S : Value) (ps : List (Int × Int)) : HA := exA fun aq : Option Addr × Nat => Holds [cellsA b #[S, .slice aq.1 ps.length aq.2] 67, rowA 70 2 (.slice aq.1 ps.length aq.2) ps.length (pairsC ps)]
section
variable {W w : World} {L : List HA} {b : Nat} {S : Value} {ps : List (Int × Int)}
theorem doc_open (h : Star W w (docA b S ps :: L)) : ∃ a q, Star W w (cellsA b #[S, .slice a ps.length q] 67 :: rowA 70 2 (.slice a ps.length q) ps.length (pairsC ps) :: L) := by
  obtain ⟨⟨a, q⟩, h1⟩ := h.ex
  exact ⟨a, q, h1.flat⟩
theorem doc_shut {a : Option Addr} {q n : Nat} (hn : ps.length = n) (h : Star W w (cellsA b #[S, .slice a n q] 67 :: rowA 70 2 (.slice a n q) n (pairsC ps) :: L)) : Star W w (docA b S ps :: L) := by
  subst hn
  exact Star.exI (f := fun aq : Option Addr × Nat => Holds [cellsA b #[S, .slice aq.1 ps.length aq.2] 67, rowA 70 2 (.slice aq.1 ps.length aq.2) ps.length (pairsC ps)]) (a, q) (Star.fold (L := [_, _]) h)
end
def putL (ps : List (Int × Int)) (k v : Int) : List (Int × Int) := match ixOf ps k with | some i => ps.set i (k, v) | none => ps ++ [(k, v)]
theorem putL_len (ps : List (Int × Int)) (k v : Int) : (putL ps k v).length ≤ ps.length + 1 := by
  unfold putL
  split <;> simp
theorem ixOf_at' {ps : List (Int × Int)} {k : Int} {j : Nat} {x : Int} (hj : ps[j]? = some (k, x)) (hn : ∀ p ∈ ps.take j, p.1 ≠ k) : ixOf ps k = some j := by
  unfold ixOf
  have hl := (List.getElem?_eq_some_iff.1 hj).1
  rw [List.findIdx?_eq_some_iff_getElem]
  refine ⟨by simpa using hl, ?_, fun i hi => ?_⟩
  · have := (List.getElem?_eq_some_iff.1 hj).2
    simp [this]
  · have h1 : ps[i]'(by omega) ∈ ps.take j := by
      rw [List.mem_take_iff_getElem]
      exact ⟨i, by omega, rfl⟩
    simpa using hn _ h1
theorem ixOf_no {ps : List (Int × Int)} {k : Int} (hn : ∀ p ∈ ps, p.1 ≠ k) : ixOf ps k = none := by
  unfold ixOf
  rw [List.findIdx?_eq_none_iff]
  intro x hx
  obtain ⟨p, hp, rfl⟩ := List.mem_map.1 hx
  simpa using hn p hp
set_option maxRecDepth 100000 in
set_option maxHeartbeats 6400000 in
theorem put_any (b : Nat) (S : Value) (ps : List (Int × Int)) (k v : Int) (R : List HA) (W w : World) (h : Star W w (docA b S ps :: R)) (hb : (ps.length + 1) * 16 ≤ 140737488355328) :
    Calls Try.prog 37 #[.pointer (some ⟨b, 0, none⟩), .int .i64 k, .int .i64 v] w fun e w' => e = .returned (.tuple #[]) ∧ Star W w' (docA b S (putL ps k v) :: R) := by
  obtain ⟨i0, hi, hz0, hz1, hz2⟩ := info_parts Try.info70
  obtain ⟨a, q, h⟩ := doc_open h
  obtain ⟨n, hn⟩ : ∃ n, ps.length = n := ⟨_, rfl⟩
  rw [hn] at h hb
  have l1 : w.cell? ⟨b, 1, none⟩ = some (.slice a n q) := h.cell 1
  have H := Lib.hid h
  have HN := Lib.hid hn
  clear h hn
  go_enter Try.func37, Try.ntmps37
  go_wp2_with fail
  go_loop [6] (fun i => ∃ j : Nat, j ≤ n ∧ i = .int .i64 j ∧ Hid (∀ p ∈ ps.take j, p.1 ≠ k)) (fun i => n - (intOf i).toNat)
  case atStart => exact ⟨0, Nat.zero_le _, rfl, Lib.hid (by simp)⟩
  case round =>
    obtain ⟨j, hj, rfl, hE⟩ := hrel
    by_cases hlt : j < n
    · obtain ⟨p, hp⟩ : ∃ p, ps[j]? = some p := ⟨_, List.getElem?_eq_getElem (by have := HN.out; omega)⟩
      obtain ⟨c, x⟩ := p
      obtain ⟨g, rfl, -, -, cw, fw⟩ := (H.out.pull 1).rowAt (by omega)
      have c0 : w.cell? ⟨g, j * 2, none⟩ = some (.int .i64 c) := (cw _ (by omega)).trans ((pairsC_at (j := 0) hp (by omega)).trans rfl)
      have c1 : w.cell? ⟨g, j * 2 + 1, none⟩ = some (.int .i64 x) := (cw _ (by omega)).trans ((pairsC_at (j := 1) hp (by omega)).trans rfl)
      have f1 : w.frozen? ⟨g, j * 2 + 1, none⟩ = false := fw _
      have hjz : (j : Int) < n := by omega
      by_cases hck : c = k
      · subst hck
        have hcb : (c == c) = true := by simp
        have hix := ixOf_at' hp hE.out
        have hs := (H.out.pull 1).rowSet (j * 2 + 1) (.int .i64 v)
        rw [pairsC_set hix] at hs
        have hpl : putL ps c v = ps.set j (c, v) := by rw [putL, hix]
        have HS := Lib.hid (doc_shut (ps := ps.set j (c, v)) (by rw [List.length_set]; exact HN.out) hs.swap)
        have HP := Lib.hid hpl
        clear hp cw fw hix hs hpl hE
        go_wp2
        refine bodyPost_ret (results_none rfl _ _ _) rfl ?_
        exact ⟨rfl, by rw [HP.out]; exact HS.out⟩
      · have hcb : (c == k) = false := by simpa using hck
        have E1 := Lib.hid (show ∀ p ∈ ps.take (j + 1), p.1 ≠ k from fun p hm => by
          rw [take_succ hp] at hm
          rcases List.mem_append.1 hm with hm | hm
          · exact hE.out p hm
          · rw [List.mem_singleton.1 hm]; exact hck)
        clear hp cw fw hE hck
        go_wp2
        go_round
        case rel => exact ⟨j + 1, by omega, by go_num, E1⟩
        case measure => simp [intOf]; omega
    · have hjz : ¬ (j : Int) < n := by omega
      have hix : ixOf ps k = none := ixOf_no (by have := hE.out; rwa [List.take_of_length_le (by have := HN.out; omega)] at this)
      have hpl : putL ps k v = ps ++ [(k, v)] := by rw [putL, hix]
      have HP := Lib.hid hpl
      have hN := (H.out.new (.cells #[.int .i64 k, .int .i64 v] 70)).pull 2
      clear hE hix hpl
      go_wp2_with (at_builtin; refine wpList_append_star rfl (.tmp 38) (.tmp 42) 63 rfl 70 i0 _ 2 16 Try.underlying63 hi hz0 hz1 hz2 rfl (by decide) _ n _ rfl hN ⟨w.heap.size, 0, none⟩ 1 1 (pairC (k, v)) rfl rfl (cell_list_new _ _ rfl _ _) (by simp [pairC, Value.oneCell']) (by simp only [maxLen]; omega) (by omega) ?_; intro a' q' w4 h5; have l4 : w4.cell? ⟨b, 1, none⟩ = some (.slice a n q) := (h5.pull 2).cell 1; have f4 : w4.frozen? ⟨b, 1, none⟩ = false := (h5.pull 2).frozen 1; have H6 := Lib.hid ((h5.pull 2).set 1 (.slice a' (n + 1) q')); clear h5 hN)
      refine bodyPost_end (results_none rfl _ _ _) rfl ?_
      refine ⟨rfl, ?_⟩
      rw [HP.out]
      exact doc_shut (by rw [List.length_append, HN.out, List.length_singleton]) (by rw [pairsC_snoc]; exact H6.out.pick 3 [0, 1])
end Go.Proofs.Ytljdkfhkpjjfgaa
namespace Go.Proofs.Ytljdkfhkpjjfgaa
open Go.RowKit Go.Shelf
set_option linter.unusedVariables false

/-- what pairs say of a cell: the last one counts -/
def lastL (ps : List (Int × Int)) (k : Int) : Option Int := ps.foldl (fun acc p => if p.1 = k then some p.2 else acc) none
theorem lastL_snoc (ps : List (Int × Int)) (p : Int × Int) (k : Int) : lastL (ps ++ [p]) k = if p.1 = k then some p.2 else lastL ps k := by simp [lastL]
theorem lastL_none : ∀ (ps : List (Int × Int)) (k : Int), (∀ p ∈ ps, p.1 ≠ k) → lastL ps k = none := by
  intro ps k
  refine snocI (P := fun ps => (∀ p ∈ ps, p.1 ≠ k) → lastL ps k = none) (fun _ => rfl) (fun l a ih h => ?_) ps
  rw [lastL_snoc, if_neg (h a (by simp)), ih (fun p hp => h p (by simp [hp]))]
where
  snocI {α : Type} {P : List α → Prop} (h0 : P []) (h1 : ∀ l a, P l → P (l ++ [a])) (l : List α) : P l := by
    rw [← List.reverse_reverse l]
    induction l.reverse with
    | nil => exact h0
    | cons a r ih => rw [List.reverse_cons]; exact h1 _ _ ih
theorem lastL_append : ∀ (a b : List (Int × Int)) (k : Int), lastL (a ++ b) k = (lastL b k).or (lastL a k) := by
  intro a b k
  refine lastL_none.snocI (P := fun b => lastL (a ++ b) k = (lastL b k).or (lastL a k)) ?_ (fun l p ih => ?_) b
  · rw [List.append_nil]; rfl
  · rw [← List.append_assoc, lastL_snoc, lastL_snoc, ih]
    split <;> simp
theorem lastL_mem {ps : List (Int × Int)} {k v : Int} (h : lastL ps k = some v) : (k, v) ∈ ps := by
  revert h
  refine lastL_none.snocI (P := fun ps => lastL ps k = some v → (k, v) ∈ ps) (fun h => by cases h) (fun l p ih h => ?_) ps
  rw [lastL_snoc] at h
  by_cases hp : p.1 = k
  · rw [if_pos hp] at h
    injection h with h
    have : p = (k, v) := by rw [← hp, ← h]
    simp [this]
  · rw [if_neg hp] at h
    simp [ih h]
def KeysOk (ps : List (Int × Int)) : Prop := (ps.map (·.1)).Nodup
theorem lastL_some {ps : List (Int × Int)} (hk : KeysOk ps) {k v : Int} : lastL ps k = some v ↔ (k, v) ∈ ps := by
  refine ⟨lastL_mem, fun h => ?_⟩
  obtain ⟨a, b, rfl⟩ := List.append_of_mem h
  have hb : ∀ p ∈ b, p.1 ≠ k := fun p hp e => by
    unfold KeysOk at hk
    rw [List.map_append, List.map_cons] at hk
    exact (List.nodup_cons.1 (List.nodup_append.1 hk).2.1).1 (by rw [show (k, v).1 = p.1 from e.symm]; exact List.mem_map_of_mem hp)
  have e : a ++ (k, v) :: b = (a ++ [(k, v)]) ++ b := by simp
  rw [e, lastL_append, lastL_none b k hb, lastL_snoc]
  simp
theorem keys_put {ps : List (Int × Int)} (hk : KeysOk ps) (k v : Int) : KeysOk (putL ps k v) := by
  unfold putL KeysOk
  cases h : ixOf ps k with
  | some i => show ((ps.set i (k, v)).map (·.1)).Nodup; rw [keys_set h]; exact hk
  | none =>
    rw [List.map_append, List.nodup_append]
    refine ⟨hk, by simp, fun a ha b hb => ?_⟩
    simp only [List.map_cons, List.map_nil, List.mem_singleton] at hb
    subst hb
    intro e
    subst e
    unfold ixOf at h
    rw [List.findIdx?_eq_none_iff] at h
    simpa using h a ha
theorem lastL_put {ps : List (Int × Int)} (hk : KeysOk ps) (k v k' : Int) : lastL (putL ps k v) k' = if k' = k then some v else lastL ps k' := by
  unfold putL
  cases h : ixOf ps k with
  | none =>
    rw [lastL_snoc]
    by_cases hkk : k' = k
    · rw [if_pos hkk.symm, if_pos hkk]
    · rw [if_neg (fun e => hkk e.symm), if_neg hkk]
  | some i =>
    obtain ⟨x, hx⟩ := ixOf_some h
    have hks : KeysOk (ps.set i (k, v)) := by unfold KeysOk; rw [keys_set h]; exact hk
    have hil := (List.getElem?_eq_some_iff.1 hx).1
    by_cases hkk : k' = k
    · subst hkk
      rw [if_pos rfl, lastL_some hks]
      exact List.mem_iff_getElem?.2 ⟨i, by rw [List.getElem?_set_self hil]⟩
    · rw [if_neg hkk]
      have key : ∀ v', (k', v') ∈ ps.set i (k, v) ↔ (k', v') ∈ ps := fun v' => by
        rw [List.mem_iff_getElem?, List.mem_iff_getElem?]
        constructor
        · rintro ⟨j, hj⟩
          by_cases hij : i = j
          · subst hij
            rw [List.getElem?_set_self hil] at hj
            injection hj with hj
            injection hj with h1 h2
            exact absurd h1.symm hkk
          · rw [List.getElem?_set_ne hij] at hj
            exact ⟨j, hj⟩
        · rintro ⟨j, hj⟩
          by_cases hij : i = j
          · subst hij
            rw [hx] at hj
            injection hj with hj
            injection hj with h1 h2
            exact absurd h1.symm hkk
          · exact ⟨j, by rw [List.getElem?_set_ne hij]; exact hj⟩
      cases hl : lastL ps k' with
      | some v' => rw [lastL_some hks, key]; exact lastL_mem hl
      | none =>
        cases hl2 : lastL (ps.set i (k, v)) k' with
        | none => rfl
        | some v' =>
          have := (lastL_some hk).2 ((key v').1 (lastL_mem hl2))
          rw [hl] at this
          cases this
/-- what the document's memory tells -/
def docF (st : List Int) (ps : List (Int × Int)) : Cells := fun k => (lastL ps k).or (begF st k)
theorem docF_put {st : List Int} {ps : List (Int × Int)} (hk : KeysOk ps) (k v : Int) : docF st (putL ps k v) = putF (docF st ps) k v := by
  funext x
  unfold docF putF
  rw [lastL_put hk]
  by_cases hx : x = k
  · rw [if_pos hx, if_pos hx]; rfl
  · rw [if_neg hx, if_neg hx]
theorem docF_nil (st : List Int) : docF st [] = begF st := by funext x; rfl
end Go.Proofs.Ytljdkfhkpjjfgaa
namespace Go.Proofs.Ytljdkfhkpjjfgaa
open Go.RowKit Go.Shelf
set_option linter.unusedVariables false

set_option maxRecDepth 100000 in
set_option maxHeartbeats 6400000 in
theorem get_any (b : Nat) (SA : Option Addr) (sn sc : Nat) (st : List Int) (ps : List (Int × Int)) (k : Int) (R : List HA) (W w : World) (h : Star W w (docA b (.slice SA sn sc) ps :: R)) (hS : Sl w SA sn 1 (intsC st)) (hsb : sn * 8 ≤ 140737488355328) :
    Calls Try.prog 38 #[.pointer (some ⟨b, 0, none⟩), .int .i64 k] w fun e w' => e = .returned (.int .i64 ((docF st ps k).getD 0)) ∧ w = w' := by
  obtain ⟨a, q, h⟩ := doc_open h
  obtain ⟨n, hn⟩ : ∃ n, ps.length = n := ⟨_, rfl⟩
  rw [hn] at h
  have hnb := (h.pull 1).rowCap
  have hnb1 := hnb.1
  have hnb2 := hnb.2
  unfold maxLen at hnb2
  have l0 : w.cell? ⟨b, 0, none⟩ = some (.slice SA sn sc) := h.cell 0
  have l1 : w.cell? ⟨b, 1, none⟩ = some (.slice a n q) := h.cell 1
  have hsl : st.length = sn := by have := hS.1; rw [intsC_len] at this; omega
  have H := Lib.hid h
  have HN := Lib.hid hn
  have HS := Lib.hid hS
  have HSL := Lib.hid hsl
  obtain ⟨v0, hv0⟩ : ∃ v0, (docF st ps k).getD 0 = v0 := ⟨_, rfl⟩
  rw [hv0]
  have HV := Lib.hid hv0
  clear h hn hnb hS hsl hv0
  go_enter Try.func38, Try.ntmps38
  go_wp2_with fail
  go_loop [5] (fun i => ∃ t : Nat, t ≤ n ∧ i = .int .i64 ((t : Int) - 1) ∧ Hid (∀ p ∈ ps.drop t, p.1 ≠ k)) (fun i => (intOf i + 1).toNat)
  case atStart => exact ⟨n, Nat.le_refl _, rfl, Lib.hid (by rw [List.drop_eq_nil_of_le (by have := HN.out; omega)]; simp)⟩
  case round =>
    obtain ⟨t, ht, rfl, hE⟩ := hrel
    rcases t with _ | t
    · have ez : ((0 : Nat) : Int) - 1 = -1 := rfl
      rw [ez]
      have hno : docF st ps k = begF st k := by
        have := hE.out
        rw [List.drop_zero] at this
        unfold docF
        rw [lastL_none ps k this]
        rfl
      have hv1 := HV.out
      rw [hno] at hv1
      clear hno hE ez
      by_cases hk0 : 0 ≤ k
      · obtain ⟨kk, rfl⟩ : ∃ kk : Nat, k = kk := ⟨k.toNat, by omega⟩
        by_cases hks : kk < sn
        · obtain ⟨z, hz⟩ : ∃ z, st[kk]? = some z := ⟨_, List.getElem?_eq_getElem (by have := HSL.out; omega)⟩
          have hv : (begF st (kk : Int)).getD 0 = z := by
            unfold begF
            rw [if_pos hk0, Int.toNat_natCast, hz]; rfl
          have EV := Lib.hid (hv1.symm.trans hv)
          obtain ⟨g, o, rfl, hg, ca⟩ := HS.out.row hks (by omega)
          have z0 : w.cell? ⟨g, o + kk, none⟩ = some (.int .i64 z) := by have := ca 0 _ (by rw [Nat.mul_one, Nat.add_zero]; exact intsC_get hz); simpa using this
          have hkz : (kk : Int) < sn := by omega
          clear ca hz hv hv1
          go_wp2
          go_ret
          exact ⟨by rw [EV.out]; rfl, rfl⟩
        · have hv : (begF st (kk : Int)).getD 0 = 0 := by
            unfold begF
            rw [if_pos hk0, Int.toNat_natCast, List.getElem?_eq_none (by have := HSL.out; omega)]; rfl
          have EV := Lib.hid (hv1.symm.trans hv)
          have hkz : ¬ (kk : Int) < sn := by omega
          clear hv hv1
          go_wp2
          go_ret
          exact ⟨by rw [EV.out]; rfl, rfl⟩
      · have hv : (begF st k).getD 0 = 0 := by
          unfold begF
          rw [if_neg hk0]; rfl
        have EV := Lib.hid (hv1.symm.trans hv)
        clear hv hv1
        go_wp2
        go_ret
        exact ⟨by rw [EV.out]; rfl, rfl⟩
    · obtain ⟨p, hp⟩ : ∃ p, ps[t]? = some p := ⟨_, List.getElem?_eq_getElem (by have := HN.out; omega)⟩
      obtain ⟨c, x⟩ := p
      obtain ⟨g, rfl, -, -, cw, -⟩ := (H.out.pull 1).rowAt (by omega)
      have c0 : w.cell? ⟨g, t * 2, none⟩ = some (.int .i64 c) := (cw _ (by omega)).trans ((pairsC_at (j := 0) hp (by omega)).trans rfl)
      have c1 : w.cell? ⟨g, t * 2 + 1, none⟩ = some (.int .i64 x) := (cw _ (by omega)).trans ((pairsC_at (j := 1) hp (by omega)).trans rfl)
      have ez : ((t + 1 : Nat) : Int) - 1 = (t : Int) := by omega
      rw [ez]
      have htz : (0 : Int) ≤ t := by omega
      have htl : (t : Int) < n := by omega
      have htn : t < n := by omega
      have hd : ps.drop t = (c, x) :: ps.drop (t + 1) := drop_cons hp
      by_cases hck : c = k
      · subst hck
        have hcb : (c == c) = true := by simp
        have hv : (docF st ps c).getD 0 = x := by
          unfold docF
          have e : ps = ps.take t ++ ([(c, x)] ++ ps.drop (t + 1)) := by
            conv => lhs; rw [← List.take_append_drop t ps, hd]
            rfl
          rw [e, lastL_append, lastL_append, lastL_none _ _ hE.out]
          simp [lastL]
        have EV := Lib.hid (HV.out.symm.trans hv)
        clear hp cw hd hv hE ez
        go_wp2
        go_ret
        exact ⟨by rw [EV.out]; rfl, rfl⟩
      · have hcb : (c == k) = false := by simpa using hck
        have E1 := Lib.hid (show ∀ p ∈ ps.drop t, p.1 ≠ k from fun p hm => by
          rw [hd] at hm
          rcases List.mem_cons.1 hm with rfl | hm
          · exact hck
          · exact hE.out p hm)
        clear hp cw hE hck hd ez
        go_wp2
        go_round
        case rel => exact ⟨t, by omega, by go_num, E1⟩
        case measure => simp [intOf]
end Go.Proofs.Ytljdkfhkpjjfgaa
