/- The document's Memory, Get walked: lemmas for the laws of layer 22. -/
import Derived.Test.YtljdkfhkpjjfgaaOr2
namespace Go.Proofs.Ytljdkfhkpjjfgaa
open Go.RowKit Go.Shelf
set_option linter.unusedVariables false

set_option maxRecDepth 100000 in
set_option maxHeartbeats 6400000 in
theorem get_any (b : Nat) (SA : Option Addr) (sn sc : Nat) (st : List Int) (ps : List (Int × Int)) (k : Int) (R : List HA) (W w : World) (h : Star W w (docA b (.slice SA sn sc) ps :: R)) (hS : Sl w SA sn 1 (intsC st)) (hsb : sn * 8 ≤ 140737488355328) :
    Calls Try.prog 38 #[.pointer (some ⟨b, 0, none⟩), .int .i64 k] w fun e w' => e = .returned (.int .i64 ((docF st ps k).getD 0)) ∧ w = w' := by
  obtain ⟨a, q, h⟩ := doc_open h
  obtain ⟨n, hn⟩ : ∃ n, ps.length = n := ⟨_, rfl⟩
  rw [hn] at h
  have hnb := (h.pull 1).rowCap
  have hnb1 := hnb.1
  have hnb2 := hnb.2
  unfold maxLen at hnb2
  have l0 : w.cell? ⟨b, 0, none⟩ = some (.slice SA sn sc) := h.cell 0
  have l1 : w.cell? ⟨b, 1, none⟩ = some (.slice a n q) := h.cell 1
  have hsl : st.length = sn := by have := hS.1; rw [intsC_len] at this; omega
  have H := Lib.hid h
  have HN := Lib.hid hn
  have HS := Lib.hid hS
  have HSL := Lib.hid hsl
  obtain ⟨v0, hv0⟩ : ∃ v0, (docF st ps k).getD 0 = v0 := ⟨_, rfl⟩
  rw [hv0]
  have HV := Lib.hid hv0
  clear h hn hnb hS hsl hv0
  go_enter Try.func38, Try.ntmps38
  go_wp2_with fail
  go_loop [5] (fun i => ∃ t : Nat, t ≤ n ∧ i = .int .i64 ((t : Int) - 1) ∧ Hid (∀ p ∈ ps.drop t, p.1 ≠ k)) (fun i => (intOf i + 1).toNat)
  case atStart => exact ⟨n, Nat.le_refl _, rfl, Lib.hid (by rw [List.drop_eq_nil_of_le (by have := HN.out; omega)]; simp)⟩
  case round =>
    obtain ⟨t, ht, rfl, hE⟩ := hrel
    rcases t with _ | t
    · have ez : ((0 : Nat) : Int) - 1 = -1 := rfl
      rw [ez]
      have hno : docF st ps k = begF st k := by
        have := hE.out
        rw [List.drop_zero] at this
        unfold docF
        rw [lastL_none ps k this]
        rfl
      have hv1 := HV.out
      rw [hno] at hv1
      clear hno hE ez
      by_cases hk0 : 0 ≤ k
      · obtain ⟨kk, rfl⟩ : ∃ kk : Nat, k = kk := ⟨k.toNat, by omega⟩
        by_cases hks : kk < sn
        · obtain ⟨z, hz⟩ : ∃ z, st[kk]? = some z := ⟨_, List.getElem?_eq_getElem (by have := HSL.out; omega)⟩
          have hv : (begF st (kk : Int)).getD 0 = z := by
            unfold begF
            rw [if_pos hk0, Int.toNat_natCast, hz]; rfl
          have EV := Lib.hid (hv1.symm.trans hv)
          obtain ⟨g, o, rfl, hg, ca⟩ := HS.out.row hks (by omega)
          have z0 : w.cell? ⟨g, o + kk, none⟩ = some (.int .i64 z) := by have := ca 0 _ (by rw [Nat.mul_one, Nat.add_zero]; exact intsC_get hz); simpa using this
          have hkz : (kk : Int) < sn := by omega
          clear ca hz hv hv1
          go_wp2
          go_ret
          exact ⟨by rw [EV.out]; rfl, rfl⟩
        · have hv : (begF st (kk : Int)).getD 0 = 0 := by
            unfold begF
            rw [if_pos hk0, Int.toNat_natCast, List.getElem?_eq_none (by have := HSL.out; omega)]; rfl
          have EV := Lib.hid (hv1.symm.trans hv)
          have hkz : ¬ (kk : Int) < sn := by omega
          clear hv hv1
          go_wp2
          go_ret
          exact ⟨by rw [EV.out]; rfl, rfl⟩
      · have hv : (begF st k).getD 0 = 0 := by
          unfold begF
          rw [if_neg hk0]; rfl
        have EV := Lib.hid (hv1.symm.trans hv)
        clear hv hv1
        go_wp2
        go_ret
        exact ⟨by rw [EV.out]; rfl, rfl⟩
    · obtain ⟨p, hp⟩ : ∃ p, ps[t]? = some p := ⟨_, List.getElem?_eq_getElem (by have := HN.out; omega)⟩
      obtain ⟨c, x⟩ := p
      obtain ⟨g, rfl, -, -, cw, -⟩ := (H.out.pull 1).rowAt (by omega)
      have c0 : w.cell? ⟨g, t * 2, none⟩ = some (.int .i64 c) := (cw _ (by omega)).trans ((pairsC_at (j := 0) hp (by omega)).trans rfl)
      have c1 : w.cell? ⟨g, t * 2 + 1, none⟩ = some (.int .i64 x) := (cw _ (by omega)).trans ((pairsC_at (j := 1) hp (by omega)).trans rfl)
      have ez : ((t + 1 : Nat) : Int) - 1 = (t : Int) := by omega
      rw [ez]
      have htz : (0 : Int) ≤ t := by omega
      have htl : (t : Int) < n := by omega
      have htn : t < n := by omega
      have hd : ps.drop t = (c, x) :: ps.drop (t + 1) := drop_cons hp
      by_cases hck : c = k
      · subst hck
        have hcb : (c == c) = true := by simp
        have hv : (docF st ps c).getD 0 = x := by
          unfold docF
          have e : ps = ps.take t ++ ([(c, x)] ++ ps.drop (t + 1)) := by
            conv => lhs; rw [← List.take_append_drop t ps, hd]
            rfl
          rw [e, lastL_append, lastL_append, lastL_none _ _ hE.out]
          simp [lastL]
        have EV := Lib.hid (HV.out.symm.trans hv)
        clear hp cw hd hv hE ez
        go_wp2
        go_ret
        exact ⟨by rw [EV.out]; rfl, rfl⟩
      · have hcb : (c == k) = false := by simpa using hck
        have E1 := Lib.hid (show ∀ p ∈ ps.drop t, p.1 ≠ k from fun p hm => by
          rw [hd] at hm
          rcases List.mem_cons.1 hm with rfl | hm
          · exact hck
          · exact hE.out p hm)
        clear hp cw hE hck hd ez
        go_wp2
        go_round
        case rel => exact ⟨t, by omega, by go_num, E1⟩
        case measure => simp [intOf]
end Go.Proofs.Ytljdkfhkpjjfgaa
