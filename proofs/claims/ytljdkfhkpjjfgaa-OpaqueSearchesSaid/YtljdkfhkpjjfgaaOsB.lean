/- The next order, the document s Search walked: lemmas for the laws of layer 22. -/
import Derived.Test.YtljdkfhkpjjfgaaOsA
namespace Go.Proofs.Ytljdkfhkpjjfgaa
open Go.RowKit Go.Shelf
set_option linter.unusedVariables false

theorem rev_of {n t : Nat} {cur l1 : List Nat} (hc : cur.length = n) (hl : l1.length = n) (h : ∀ i, i < n → cur[i]? = if t ≤ i then l1[t + (n - 1) - i]? else l1[i]?) (ht : t ≤ n) : cur = l1.take t ++ (l1.drop t).reverse := by
  apply List.ext_getElem?
  intro i
  rcases Nat.lt_or_ge i n with hi | hi
  · rw [h i hi]
    by_cases hti : t ≤ i
    · rw [if_pos hti, List.getElem?_append_right (by rw [List.length_take]; omega), List.length_take, Nat.min_eq_left (by omega), List.getElem?_reverse (by rw [List.length_drop]; omega), List.getElem?_drop, List.length_drop]
      congr 1
      omega
    · rw [if_neg hti, List.getElem?_append_left (by rw [List.length_take]; omega), List.getElem?_take, if_pos (by omega)]
  · rw [List.getElem?_eq_none (by omega), List.getElem?_eq_none (by simp; omega)]
theorem next_of {l cur : List Nat} {t u a b : Nat} (ha : l[t]? = some a) (hb : l[u]? = some b) (htu : t < u) (hd : (l.drop (t + 1)).Pairwise (· > ·)) (hab : a < b) (hs : ∀ v z, u < v → l[v]? = some z → z < a)
    (hc : cur = ((l.set t b).set u a).take (t + 1) ++ (((l.set t b).set u a).drop (t + 1)).reverse) : IsNext l cur := by
  have hul := (List.getElem?_eq_some_iff.1 hb).1
  have e3 : (l.drop (t + 1)).drop (u - t - 1) = b :: l.drop (u + 1) := by
    rw [List.drop_drop, show t + 1 + (u - t - 1) = u from by omega]
    exact drop_cons hb
  have e4 : l.drop (t + 1) = (l.drop (t + 1)).take (u - t - 1) ++ b :: l.drop (u + 1) := by
    conv => lhs; rw [← List.take_append_drop (u - t - 1) (l.drop (t + 1)), e3]
  have e5 : l = l.take t ++ a :: ((l.drop (t + 1)).take (u - t - 1) ++ b :: l.drop (u + 1)) := by
    conv => lhs; rw [← List.take_append_drop t l, drop_cons ha, e4]
  have hlt : (l.take t).length = t := by rw [List.length_take]; omega
  have hls : ((l.drop (t + 1)).take (u - t - 1)).length = u - t - 1 := by rw [List.length_take, List.length_drop]; omega
  generalize l.take t = pre at e5 hlt
  generalize (l.drop (t + 1)).take (u - t - 1) = s1 at e4 e5 hls
  have hs2 : ∀ z ∈ l.drop (u + 1), z < a := fun z hz => by
    obtain ⟨i, hi⟩ := List.mem_iff_getElem?.1 hz
    rw [List.getElem?_drop] at hi
    exact hs _ z (by omega) hi
  generalize l.drop (u + 1) = s2 at e4 e5 hs2
  rw [e4] at hd
  refine ⟨pre, a, s1, b, s2, e5, hd, hab, hs2, ?_⟩
  have e6 : (l.set t b).set u a = pre ++ b :: (s1 ++ a :: s2) := by
    conv => lhs; rw [e5]
    rw [List.set_append_right _ _ (by omega), List.set_append_right _ _ (by omega), hlt, Nat.sub_self, List.set_cons_zero, show u - t = (u - t - 1) + 1 from by omega, List.set_cons_succ, List.set_append_right _ _ (by omega), hls, Nat.sub_self, List.set_cons_zero]
  rw [hc, e6]
  have e7 : (pre ++ b :: (s1 ++ a :: s2)).take (t + 1) = pre ++ [b] := by
    rw [List.take_append, List.take_of_length_le (by omega), hlt, Nat.add_sub_cancel_left, List.take_succ_cons, List.take_zero]
  have e8 : (pre ++ b :: (s1 ++ a :: s2)).drop (t + 1) = s1 ++ a :: s2 := by
    rw [List.drop_append, List.drop_eq_nil_of_le (by omega), hlt, Nat.add_sub_cancel_left, List.drop_succ_cons, List.drop_zero, List.nil_append]
  rw [e7, e8, List.append_assoc]
  rfl
theorem nd_inj {l : List Nat} (h : l.Nodup) {i j x : Nat} (hi : l[i]? = some x) (hj : l[j]? = some x) : i = j := by
  have key : ∀ i j, i < j → l[i]? = some x → l[j]? = some x → False := fun i j hij hi hj => by
    obtain ⟨h1, e1⟩ := List.getElem?_eq_some_iff.1 hi
    obtain ⟨h2, e2⟩ := List.getElem?_eq_some_iff.1 hj
    exact (List.pairwise_iff_getElem.1 h i j h1 h2 hij) (e1.trans e2.symm)
  rcases Nat.lt_trichotomy i j with h1 | h1 | h1
  · exact (key i j h1 hi hj).elim
  · exact h1
  · exact (key j i h1 hj hi).elim
def NextR (l : List Nat) (b : Bool) (l' : List Nat) : Prop := (b = true ∧ IsNext l l') ∨ (b = false ∧ l' = l ∧ l.Pairwise (· > ·))
def NextPost (g n q : Nat) (l : List Nat) (R : List HA) (W : World) (e : Ending) (w' : World) : Prop := ∃ b l', e = .returned (.bool b) ∧ Star W w' (rowA 3 1 (.slice (some ⟨g, 0, none⟩) n q) n (natsC l') :: R) ∧ NextR l b l'
set_option maxRecDepth 100000 in
set_option maxHeartbeats 6400000 in
theorem next_any (g n q : Nat) (l : List Nat) (R : List HA) (W w : World) (h : Star W w (rowA 3 1 (.slice (some ⟨g, 0, none⟩) n q) n (natsC l) :: R)) (hn1 : 1 ≤ n) (hnd : l.Nodup) (hnb : n ≤ 9007199254740992) :
    Calls Try.prog 36 #[.slice (some ⟨g, 0, none⟩) n q] w (NextPost g n q l R W) := by
  have hll : l.length = n := by have := h.rowLen; simp [natsC] at this; omega
  have cell : ∀ (i x : Nat), l[i]? = some x → w.cell? ⟨g, i, none⟩ = some (.int .i64 (x : Int)) ∧ w.frozen? ⟨g, i, none⟩ = false := fun i x hx => row1_cell h (natsC_get hx)
  have HC := Lib.hid cell
  have H := Lib.hid h
  have HL := Lib.hid hll
  have HND := Lib.hid hnd
  clear h hnd hll cell
  go_enter Try.func36, Try.ntmps36
  go_wp2_with fail
  go_loopw [3] (fun i wr => ∃ t : Nat, t ≤ n - 1 ∧ i = .int .i64 ((t : Int) - 1) ∧ (∃ q, wr = w.drewN q) ∧ Hid ((l.drop t).Pairwise (· > ·))) (fun i _ => (intOf i + 1).toNat)
  case atStart =>
    refine ⟨n - 1, Nat.le_refl _, ?_, ⟨0, rfl⟩, Lib.hid ?_⟩
    · congr 1; omega
    · have h1 : (l.drop (n - 1)).length ≤ 1 := by rw [List.length_drop]; have := HL.out; omega
      generalize l.drop (n - 1) = s at h1
      match s, h1 with
      | [], _ => exact List.Pairwise.nil
      | [x], _ => exact List.pairwise_singleton _ _
      | x :: y :: r, h1 => simp at h1
  case round =>
    obtain ⟨t, ht, rfl, ⟨q1, rfl⟩, hD⟩ := hrel
    rcases t with _ | t
    · have ez : ((0 : Nat) : Int) - 1 = -1 := rfl
      rw [ez]
      have hd := hD.out
      rw [List.drop_zero] at hd
      have HD := Lib.hid hd
      clear hD hd ez
      go_wp2
      go_quiet (fail)
      go_wp2
      go_ret
      exact ⟨false, l, rfl, by first | exact H.out.drewN _ | exact (H.out.drewN _).drewN _, .inr ⟨rfl, rfl, HD.out⟩⟩
    · have ez : ((t + 1 : Nat) : Int) - 1 = (t : Int) := by omega
      rw [ez]
      have htz : (0 : Int) ≤ t := by omega
      have htn : (t : Int) < n := by omega
      have htn1 : (t : Int) + 1 < n := by omega
      obtain ⟨a, ha⟩ : ∃ a, l[t]? = some a := ⟨_, List.getElem?_eq_getElem (by have := HL.out; omega)⟩
      obtain ⟨b0, hb0⟩ : ∃ b, l[t + 1]? = some b := ⟨_, List.getElem?_eq_getElem (by have := HL.out; omega)⟩
      have c0 := (HC.out t a ha).1
      have c1 := (HC.out (t + 1) b0 hb0).1
      have hsw : IntKind.i64.wrap ((t : Int) + 1) = (t : Int) + 1 := by rw [IntKind.wrap_i64]; omega
      have hs0 : (0 : Int) ≤ (t : Int) + 1 := by omega
      have hsn : ((t : Int) + 1).toNat = t + 1 := by omega
      by_cases hgt : b0 < a
      · have hgz : (b0 : Int) < a := by omega
        have hgd : decide (b0 < a) = true := decide_eq_true hgt
        have hd2 : (l.drop t).Pairwise (· > ·) := by
          rw [drop_cons ha, List.pairwise_cons]
          refine ⟨fun z hz => ?_, hD.out⟩
          have hd := hD.out
          rw [drop_cons hb0] at hz hd
          rcases List.mem_cons.1 hz with rfl | hz
          · exact hgt
          · have := (List.pairwise_cons.1 hd).1 z hz
            show z < a
            omega
        have HD := Lib.hid hd2
        clear ha hb0 hD hd2 ez
        go_wp2
        go_quiet (fail)
        clear hsw hs0 hsn
        go_wp2
        go_roundw
        case rel => exact ⟨t, by omega, by go_num, ⟨_, by first | rfl | rw [World.drewN_drewN]⟩, HD⟩
        case measure => simp [intOf]
      · have hgz : ¬ (b0 : Int) < a := by omega
        have hgd : decide (b0 < a) = false := decide_eq_false hgt
        have hab0 : a < b0 := by
          rcases Nat.lt_trichotomy a b0 with h1 | h1 | h1
          · exact h1
          · exfalso
            subst h1
            have h2 := nd_inj HND.out ha hb0
            omega
          · omega
        have HA := Lib.hid (⟨ha, hb0⟩ : _ ∧ _)
        have hn1z : (n : Int) - 1 = ((n - 1 : Nat) : Int) := by omega
        have hnl : ¬ (t : Int) < 0 := by omega
        clear ha hb0 ez
        go_wp2
        go_quiet (fail)
        clear hsw hs0 hsn
        go_wp2_with fail
        go_loopw [4] (fun j wz => ∃ u : Nat, t < u ∧ u < n ∧ j = .int .i64 u ∧ (∃ q, wz = w.drewN q) ∧ Hid (∀ v z : Nat, u < v → l[v]? = some z → z < a)) (fun j _ => (intOf j).toNat)
        case atStart =>
          refine ⟨n - 1, by omega, by omega, by first | rfl | (congr 1; omega), ⟨_, by first | rfl | rw [World.drewN_drewN]⟩, Lib.hid fun v z hv hz => ?_⟩
          have := (List.getElem?_eq_some_iff.1 hz).1
          have := HL.out
          omega
        case round =>
          clear hgz hgd
          obtain ⟨u, htu, hun, rfl, ⟨q2, rfl⟩, hU⟩ := hrel
          obtain ⟨b, hb⟩ : ∃ b, l[u]? = some b := ⟨_, List.getElem?_eq_getElem (by have := HL.out; omega)⟩
          have c2 := (HC.out u b hb).1
          have huz : (u : Int) < n := by omega
          have huz0 : (0 : Int) ≤ u := by omega
          by_cases hba : b < a
          · have hbz : (b : Int) < a := by omega
            have hbd : decide (b < a) = true := decide_eq_true hba
            have hut : t + 1 < u := by
              rcases Nat.lt_or_ge (t + 1) u with h1 | h1
              · exact h1
              · have h2 : u = t + 1 := by omega
                rw [h2, HA.out.2] at hb
                injection hb with hb
                omega
            have HU := Lib.hid (show ∀ v z : Nat, u - 1 < v → l[v]? = some z → z < a from fun v z hv hz => by
              by_cases hvu : v = u
              · rw [hvu, hb] at hz; injection hz with hz; omega
              · exact hU.out v z (by omega) hz)
            have hu1 : (u : Int) - 1 = ((u - 1 : Nat) : Int) := by omega
            clear hb hU
            go_wp2
            go_quiet (fail)
            go_wp2
            go_roundw
            case rel => exact ⟨u - 1, by omega, by omega, by first | rfl | (congr 1; omega), ⟨_, by first | rfl | rw [World.drewN_drewN]⟩, HU⟩
            case measure => simp [intOf]; omega
          · have hbz : ¬ (b : Int) < a := by omega
            have hbd : decide (b < a) = false := decide_eq_false hba
            have hbb : a < b := by
              rcases Nat.lt_trichotomy a b with h1 | h1 | h1
              · exact h1
              · exfalso
                subst h1
                have := nd_inj HND.out HA.out.1 hb
                omega
              · omega
            have p0 := (HC.out t a HA.out.1).1
            have p1 := (HC.out t a HA.out.1).2
            have p2 := (HC.out u b hb).2
            have FU := Lib.hid (⟨hb, hU.out⟩ : _ ∧ _)
            clear hb hU
            go_wp2
            go_quiet (fail)
            go_upto_region 9 with fail
            go_region
            generalize hw6 : w.drewN _ = w6
            have h5 : Star W w6 (rowA 3 1 (.slice (some ⟨g, 0, none⟩) n q) n (natsC l) :: R) := by rw [← hw6]; exact H.out.drewN _
            obtain ⟨l1, hl1⟩ : ∃ l1, (l.set t b).set u a = l1 := ⟨_, rfl⟩
            have h6 := (h5.rowSet t (.int .i64 b)).rowSet u (.int .i64 a)
            have hns : ((natsC l).set t (.int .i64 b)).set u (.int .i64 a) = natsC l1 := by rw [← hl1, natsC, natsC, List.map_set, List.map_set]
            rw [hns] at h6
            have hl1n : l1.length = n := by rw [← hl1, List.length_set, List.length_set]; exact HL.out
            have H6 := Lib.hid h6
            have HL1 := Lib.hid hl1
            have HL1N := Lib.hid hl1n
            clear hw6 h5 h6 hns hl1 hl1n c0 c1 c2 p0 p1 p2
            generalize (w6.setCell _ _).setCell _ _ = w7 at H6 ⊢
            go_wp2_with fail
            go_loopw [5, 6] (fun x y wz => ∃ (xx yy : Nat) (cur : List Nat), x = .int .i64 xx ∧ y = .int .i64 yy ∧ xx + yy ≤ t + n ∧ t + n ≤ xx + yy ∧ t + 1 ≤ xx ∧ yy ≤ n - 1 ∧ Star W wz (rowA 3 1 (.slice (some ⟨g, 0, none⟩) n q) n (natsC cur) :: R) ∧ Hid (cur.length = n ∧ ∀ i, i < n → cur[i]? = if t + 1 ≤ i ∧ (i < xx ∨ yy < i) then l1[t + 1 + (n - 1) - i]? else l1[i]?)) (fun x y _ => n - (intOf x).toNat)
            case atStart => exact ⟨t + 1, n - 1, l1, by go_num, by first | rfl | (congr 1; omega), by omega, by omega, by omega, by omega, H6.out, Lib.hid ⟨HL1N.out, fun i hi => by rw [if_neg (by omega)]⟩⟩
            case round =>
              clear H6
              obtain ⟨xx, yy, cur, rfl, rfl, r1, r2, r3, r4, hR, hQ⟩ := hrel
              by_cases hxy : xx < yy
              · obtain ⟨x, hx⟩ : ∃ x, cur[xx]? = some x := ⟨_, List.getElem?_eq_getElem (by have := hQ.out.1; omega)⟩
                obtain ⟨y, hy⟩ : ∃ y, cur[yy]? = some y := ⟨_, List.getElem?_eq_getElem (by have := hQ.out.1; omega)⟩
                obtain ⟨v0, v1⟩ := row1_cell hR (natsC_get hx)
                obtain ⟨u0, u1⟩ := row1_cell hR (natsC_get hy)
                have hxyz : (xx : Int) < yy := by omega
                have hxn : (xx : Int) < n := by omega
                have hyn : (yy : Int) < n := by omega
                have hx0 : (0 : Int) ≤ xx := by omega
                have hy0 : (0 : Int) ≤ yy := by omega
                have h7 := (hR.rowSet xx (.int .i64 y)).rowSet yy (.int .i64 x)
                have hns : ((natsC cur).set xx (.int .i64 y)).set yy (.int .i64 x) = natsC ((cur.set xx y).set yy x) := by rw [natsC, natsC, List.map_set, List.map_set]
                rw [hns] at h7
                have hq : ((cur.set xx y).set yy x).length = n ∧ ∀ i, i < n → ((cur.set xx y).set yy x)[i]? = if t + 1 ≤ i ∧ (i < xx + 1 ∨ yy - 1 < i) then l1[t + 1 + (n - 1) - i]? else l1[i]? := by
                  have hcl := hQ.out.1
                  refine ⟨by rw [List.length_set, List.length_set]; exact hcl, fun i hi => ?_⟩
                  have qx := hQ.out.2 xx (by omega)
                  have qy := hQ.out.2 yy (by omega)
                  rw [if_neg (by omega), hx] at qx
                  rw [if_neg (by omega), hy] at qy
                  by_cases hiy : i = yy
                  · subst hiy
                    rw [List.getElem?_set_self (by rw [List.length_set]; omega), if_pos (by omega), qx]
                    first | rfl | (congr 1; omega)
                  · rw [List.getElem?_set_ne (fun e => hiy e.symm)]
                    by_cases hix : i = xx
                    · subst hix
                      rw [List.getElem?_set_self (by omega), if_pos (by omega), qy]
                      first | rfl | (congr 1; omega)
                    · rw [List.getElem?_set_ne (fun e => hix e.symm), hQ.out.2 i hi]
                      by_cases hc : t + 1 ≤ i ∧ (i < xx ∨ yy < i)
                      · rw [if_pos hc, if_pos (by omega)]
                      · rw [if_neg hc, if_neg (by omega)]
                have hyy1 : (yy : Int) - 1 = ((yy - 1 : Nat) : Int) := by omega
                have H7 := Lib.hid h7.drew
                have HQ := Lib.hid hq
                have HY1 := Lib.hid hyy1
                clear hR hQ h7 hns hq hx hy hyy1
                go_upto_region 13 with fail
                go_region
                go_wp2
                go_roundw
                case rel => exact ⟨xx + 1, yy - 1, (cur.set xx y).set yy x, by go_num, by rw [← HY1.out], by omega, by omega, by omega, by omega, H7.out, HQ⟩
                case measure => simp [intOf]; omega
              · have hxyz : ¬ (xx : Int) < yy := by omega
                have hrev : cur = l1.take (t + 1) ++ (l1.drop (t + 1)).reverse := by
                  refine rev_of hQ.out.1 HL1N.out (fun i hi => ?_) (by omega)
                  rw [hQ.out.2 i hi]
                  by_cases hti : t + 1 ≤ i
                  · by_cases hix : i < xx ∨ yy < i
                    · rw [if_pos ⟨hti, hix⟩, if_pos hti]
                    · rw [if_neg (fun h => hix h.2), if_pos hti]
                      congr 1
                      omega
                  · rw [if_neg (fun h => hti h.1), if_neg hti]
                have hnx : IsNext l cur := next_of HA.out.1 FU.out.1 htu hD.out hbb FU.out.2 (by rw [HL1.out]; exact hrev)
                have HNX := Lib.hid hnx
                have HR := Lib.hid hR
                clear hQ hrev hnx hR
                go_wp2
                go_ret
                exact ⟨true, cur, rfl, HR.out, .inl ⟨rfl, HNX.out⟩⟩
end Go.Proofs.Ytljdkfhkpjjfgaa
namespace Go.Proofs.Ytljdkfhkpjjfgaa
open Go.RowKit Go.Shelf
set_option linter.unusedVariables false

/-- a list as a number -/
def valL : List Nat → Nat
  | [] => 0
  | x :: l => x * 8 ^ l.length + valL l
theorem valL_lt : ∀ (l : List Nat), (∀ x ∈ l, x < 8) → valL l < 8 ^ l.length
  | [], _ => by simp [valL]
  | x :: l, h => by
    have h1 := valL_lt l (fun y hy => h y (by simp [hy]))
    have h2 := h x (by simp)
    have h3 : (x + 1) * 8 ^ l.length ≤ 8 * 8 ^ l.length := Nat.mul_le_mul_right _ (by omega)
    rw [valL, List.length_cons, Nat.pow_succ, Nat.mul_comm (8 ^ l.length) 8]
    rw [Nat.succ_mul] at h3
    omega
theorem valL_mono : ∀ (a b : List Nat), a.length = b.length → (∀ x ∈ a, x < 8) → lexLt a b → valL a < valL b
  | [], b, _, _, h => by cases h
  | _ :: _, [], _, _, h => by cases h
  | x :: a, y :: b, hl, ha, h => by
    have hl' : a.length = b.length := by simpa using hl
    rw [valL, valL, hl']
    rcases h with h | ⟨rfl, h⟩
    · have h1 := valL_lt a (fun z hz => ha z (by simp [hz]))
      rw [hl'] at h1
      have h3 : (x + 1) * 8 ^ b.length ≤ y * 8 ^ b.length := Nat.mul_le_mul_right _ (by omega)
      rw [Nat.succ_mul] at h3
      omega
    · have := valL_mono a b hl' (fun z hz => ha z (by simp [hz])) h
      omega
theorem next_lt {l l' : List Nat} (h : IsNext l l') : lexLt l l' := by
  obtain ⟨pre, a, s1, b, s2, rfl, _, hab, _, rfl⟩ := h
  exact (lex_append _ _ pre).2 (.inl hab)
/-- the numbers of a row, out of the heap -/
def rdW (w : World) (g m : Nat) : List Nat := (List.range m).map fun i => match w.cell? ⟨g, i, none⟩ with | some (.int _ x) => x.toNat | _ => 0
theorem rdW_row {W w : World} {L : List HA} {g m c : Nat} {l : List Nat} (h : Star W w (rowA 3 1 (.slice (some ⟨g, 0, none⟩) m c) m (natsC l) :: L)) : rdW w g m = l := by
  have hl : l.length = m := by have := h.rowLen; simp [natsC] at this; omega
  apply List.ext_getElem?
  intro i
  rw [rdW, List.getElem?_map]
  rcases Nat.lt_or_ge i m with hi | hi
  · obtain ⟨x, hx⟩ : ∃ x, l[i]? = some x := ⟨_, List.getElem?_eq_getElem (by omega)⟩
    rw [List.getElem?_range hi, hx, Option.map_some, (row1_cell h (natsC_get hx)).1]
    simp
  · rw [List.getElem?_eq_none (by simpa using hi), List.getElem?_eq_none (by omega)]
    rfl
theorem check_empty (st : List Int) (sts : List Sto) (h : sts.length = 0) : checkP st sts (intsOf []) = (0, 0) := by
  have : sts = [] := List.eq_nil_of_length_eq_zero h
  subst this
  rfl
set_option maxRecDepth 100000 in
set_option maxHeartbeats 6400000 in
theorem search_doc (X : Nat) (SA : Option Addr) (sn sc : Nat) (st : List Int) (B : Option Addr) (m d : Nat) (sts : List Sto) (vs : List Value) (w : World)
    (hST : Sl w SA sn 1 (intsC st)) (hsb : sn * 8 ≤ 140737488355328) (hT : Stories w B m sts vs) (hbm : m * 96 ≤ 140737488355328) (hX : m ≤ 7 → ∀ s ∈ sts, s.moves.length ≤ X) (hXb : X ≤ 1000000) :
    Calls Try.prog 18 #[.slice SA sn sc, .slice B m d] w (SrchR w (srchP st sts) (srchE sts)) := by
  have hml : sts.length = m := hT.ns
  by_cases h7 : m ≤ 7
  · have h7z : ¬ (7 : Int) < m := by omega
    have e0 : srchE sts = 0 := by rw [srchE, hml, if_pos h7]
    rw [e0]
    have hm1 := make_ints 24 3 (.int .i64 0) 8 m rfl Try.underlying24 Try.info3 (by omega) (by omega)
    have h1 := (Star.begin w).rowNew 3 1 (Array.replicate m (.int .i64 0)) m (by simp only [maxLen]; omega) (by simp)
    have e1 : (Array.replicate m (Value.int .i64 0)).toList = natsC (List.range 0 ++ List.replicate (m - 0) 0) := by rw [Array.toList_replicate]; simp [natsC]
    rw [e1] at h1
    have HT := Lib.hid hT
    have HST := Lib.hid hST
    have HX := Lib.hid (hX h7)
    have HML := Lib.hid hml
    have H1 := Lib.hid h1
    clear hT hST hX hml h1 e0 e1
    go_enter Try.func18, Try.ntmps18
    go_wp2_with fail
    generalize w.heap.size = g at H1 ⊢
    clear hm1
    go_loopw [8] (fun i wr => ∃ j : Nat, j ≤ m ∧ i = .int .i64 j ∧ Star w wr [rowA 3 1 (.slice (some ⟨g, 0, none⟩) m m) m (natsC (List.range j ++ List.replicate (m - j) 0)), oldA w]) (fun i _ => m - (intOf i).toNat)
    case atStart => exact ⟨0, Nat.zero_le _, rfl, H1.out⟩
    case round =>
      clear H1
      obtain ⟨j, hj, rfl, hR⟩ := hrel
      by_cases hlt : j < m
      · have hjz : (j : Int) < m := by omega
        obtain ⟨c0, c1⟩ := row1_cell hR (natsC_get (i := j) (x := 0) (by rw [List.getElem?_append_right (by simp), List.length_range, Nat.sub_self, List.getElem?_replicate, if_pos (by omega)]))
        have h2 := hR.rowSet j (.int .i64 j)
        have hs : (natsC (List.range j ++ List.replicate (m - j) 0)).set j (.int .i64 j) = natsC (List.range (j + 1) ++ List.replicate (m - (j + 1)) 0) := by
          have e : (List.range j ++ List.replicate (m - j) 0).set j j = List.range (j + 1) ++ List.replicate (m - (j + 1)) 0 := by
            rw [List.set_append_right _ _ (by simp), show m - j = (m - (j + 1)) + 1 from by omega, List.replicate_succ, List.length_range, Nat.sub_self, List.set_cons_zero, List.range_succ]
            simp
          rw [← e, natsC, natsC, List.map_set]
        rw [hs] at h2
        have H2 := Lib.hid h2
        clear hR h2 hs
        go_wp2
        go_roundw
        case rel => exact ⟨j + 1, by omega, by go_num, H2.out⟩
        case measure => simp [intOf]; omega
      · have hjm : j = m := by omega
        rw [hjm, Nat.sub_self, List.replicate_zero, List.append_nil] at hR
        have HR := Lib.hid hR
        have hjz : ¬ (j : Int) < m := by omega
        clear hR hjm
        go_wp2_with fail
        clear hjz
        go_loopw [9] (fun _ wr => ∃ l : List Nat, Star w wr [rowA 3 1 (.slice (some ⟨g, 0, none⟩) m m) m (natsC l), oldA w] ∧ Hid (l.Perm (List.range m) ∧ Refused st sts l)) (fun _ wr => 8 ^ m - valL (rdW wr g m))
        case atStart => exact ⟨List.range m, HR.out, Lib.hid ⟨List.Perm.refl _, by have := refused_first st sts; rwa [HML.out] at this⟩⟩
        case round =>
          clear HR
          obtain ⟨l, hR, hE⟩ := hrel
          have hlen : l.length = m := by rw [hE.out.1.length_eq, List.length_range]
          have hCD := check_doc X SA sn sc st B m d sts vs (some ⟨g, 0, none⟩) m m (intsOf l) wr (HST.out.after (by omega) (hR.pull 1)) hsb (HT.out.after (hR.pull 1)) hbm (by have := hR.rowSl; rwa [natsC_ints] at this) (by omega) HX.out (by have : m * X ≤ 7 * X := Nat.mul_le_mul_right _ h7; omega)
          obtain ⟨E, hE1⟩ : ∃ E, (checkP st sts (intsOf l)).1 = E := ⟨_, rfl⟩
          obtain ⟨F, hF1⟩ : ∃ F, (checkP st sts (intsOf l)).2 = F := ⟨_, rfl⟩
          rw [hE1, hF1] at hCD
          have HE := Lib.hid hE1
          have CD := Lib.hid hCD
          have HR := Lib.hid hR
          have HLN := Lib.hid hlen
          clear hR hCD hE1 hF1 hlen
          go_wp2_with fail
          refine CD.out.mono ?_
          rintro e' w3 ⟨rfl, hb3⟩
          have hR3 := HR.out.of_below hb3
          clear CD
          by_cases h0 : E = 0
          · have h0b : (E == 0) = true := by simpa using h0
            have hck := check_zero (HE.out.trans h0)
            have hs := srch_found (st := st) (sts := sts) (l := l) (by rw [HML.out]; exact h7) (by rw [HML.out]; exact hE.out.1) hE.out.2 hck
            have HS := Lib.hid hs
            have H3 := Lib.hid hR3
            clear h0 hck hs hR3 hb3 HR hE
            go_wp2
            exact bodyPost_ret (v := .tuple #[.slice (some ⟨g, 0, none⟩) m m, .bool true, .int .i64 0]) (by simp [results, Try.results18, go_sem]) rfl (by rw [HS.out]; exact ⟨_, m, by rw [Option.getD_some, HLN.out]; rfl, by rw [Option.getD_some, HLN.out]; exact H3.out⟩)
          · have h0b : (E == 0) = false := by simpa using h0
            have hck : checkP st sts (intsOf l) ≠ (0, 0) := fun e => h0 (by rw [← HE.out, e])
            have hm1 : 1 ≤ m := by
              rcases Nat.eq_zero_or_pos m with h1 | h1
              · exfalso
                have h2 : l = [] := List.eq_nil_of_length_eq_zero (by rw [HLN.out, h1])
                rw [h2] at hck
                exact hck (check_empty st sts (by rw [HML.out, h1]))
              · exact h1
            have hnd : l.Nodup := hE.out.1.nodup_iff.2 List.nodup_range
            have NX := Lib.hid (next_any g m m l _ w w3 hR3 hm1 hnd (by omega))
            have hrd : rdW wr g m = l := rdW_row HR.out
            have HCK := Lib.hid hck
            have HRD := Lib.hid hrd
            clear h0 hck hR3 hb3 HR hnd hrd
            go_wp2_with fail
            refine NX.out.mono ?_
            rintro e' w4 ⟨b, l', rfl, h4, hN⟩
            clear NX
            cases b with
            | true =>
              obtain ⟨-, hnx⟩ | ⟨h, -⟩ := hN
              case inr => cases h
              have hp' : l'.Perm (List.range m) := (next_perm hnx).trans hE.out.1
              have hrf := refused_next (st := st) (sts := sts) (by rw [HML.out]; exact hE.out.1) hE.out.2 HCK.out hnx
              have hrd4 : rdW w4 g m = l' := rdW_row h4
              have h8 : ∀ (q : List Nat), q.Perm (List.range m) → ∀ x ∈ q, x < 8 := fun q hq x hx => by
                have := List.mem_range.1 (hq.subset hx)
                omega
              have hv := valL_mono l l' (by rw [(next_perm hnx).length_eq]) (h8 l hE.out.1) (next_lt hnx)
              have hvb := valL_lt l' (h8 l' hp')
              rw [hp'.length_eq, List.length_range] at hvb
              have HM := Lib.hid (show 8 ^ m - valL (rdW w4 g m) < 8 ^ m - valL (rdW wr g m) from by rw [hrd4, HRD.out]; omega)
              have H4 := Lib.hid h4
              have HPR := Lib.hid (⟨hp', hrf⟩ : _ ∧ _)
              clear h4 hE hnx hp' hrf hrd4 h8 hv hvb HRD
              go_wp2
              go_roundw
              case rel => exact ⟨l', H4.out, HPR⟩
              case measure => exact HM.out
            | false =>
              obtain ⟨h, -⟩ | ⟨-, rfl, hds⟩ := hN
              case inl => cases h
              have hs := srch_none (st := st) (sts := sts) (l := l') (by rw [HML.out]; exact h7) (by rw [HML.out]; exact hE.out.1) hE.out.2 HCK.out hds
              have HS := Lib.hid hs
              have H4 := Lib.hid ((h4.rowNil 3 1).pick 3 [0, 2])
              clear h4 hE hds hs
              go_wp2
              exact bodyPost_ret (v := .tuple #[.slice none 0 0, .bool false, .int .i64 0]) (by simp [results, Try.results18, go_sem]) rfl (by rw [HS.out]; have hh : Star w w4 [rowA 3 1 (.slice none 0 0) 0 [], oldA w] := H4.out; exact ⟨none, 0, rfl, hh⟩)
  · have hml7 : srchP st sts = none := by rw [srchP, hml, if_neg h7]
    have e0 : srchE sts = 223 := by rw [srchE, hml, if_neg h7]
    rw [hml7, e0]
    have h7z : (7 : Int) < m := by omega
    have HB := Lib.hid ((Star.begin w).rowNil 3 1)
    clear hT hST hml7 e0 hX
    go_enter Try.func18, Try.ntmps18
    go_wp2
    exact bodyPost_ret (v := .tuple #[.slice none 0 0, .bool false, .int .i64 223]) (by simp [results, Try.results18, go_sem]) rfl (by have hh : Star w w [rowA 3 1 (.slice none 0 0) 0 [], oldA w] := HB.out; exact ⟨none, 0, rfl, hh⟩)
end Go.Proofs.Ytljdkfhkpjjfgaa
