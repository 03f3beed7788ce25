/- The stable sort whole, over a comparer: the comparer may make memory: lemmas for the laws of layer 22. -/
import Derived.Test.YtljdkfhkpjjfgaaSrt5b
namespace Go.Proofs.Ytljdkfhkpjjfgaa
open Go.RowKit
set_option linter.unusedVariables false

theorem dvd_gap {B i a : Nat} (hi : B ∣ i) (ha : B ∣ a) (h1 : i ≤ a) (h2 : a < i + B) : i = a := by
  have h3 : B ∣ a - i := Nat.dvd_sub ha hi
  have := Nat.eq_zero_of_dvd_of_lt h3 (by omega)
  omega
section
variable {less : Nat → Nat → Bool} {B a b n : Nat} {l l0 z : List Nat}
structure St1 (less : Nat → Nat → Bool) (B a : Nat) (l l0 : List Nat) : Prop where
  len : l.length = l0.length
  blk : ∀ i, B ∣ i → i + B ≤ a → Ok less l l0 i (i + B)
  rest : l.drop a = l0.drop a
structure Blk (less : Nat → Nat → Bool) (B : Nat) (l l0 : List Nat) : Prop where
  len : l.length = l0.length
  blk : ∀ i, B ∣ i → Ok less l l0 i (i + B)
structure St2 (less : Nat → Nat → Bool) (B a : Nat) (l l0 : List Nat) : Prop where
  len : l.length = l0.length
  two : ∀ i, 2 * B ∣ i → i + 2 * B ≤ a → Ok less l l0 i (i + 2 * B)
  one : ∀ i, B ∣ i → a ≤ i → Ok less l l0 i (i + B)
theorem ok_here (hab : a ≤ b) (hb : b ≤ l.length) (hlen : l.length = l0.length) (hz : SP less z (seg l0 a b)) : Ok less (l.take a ++ (z ++ l.drop b)) l0 a b := by
  have hzl : z.length = b - a := by rw [hz.1.length_eq, seg_len]; omega
  unfold Ok; rw [seg_here hab hb hzl]; exact hz
theorem ok_other {i j : Nat} (hab : a ≤ b) (hb : b ≤ l.length) (hzl : z.length = b - a) (h : j ≤ a ∨ b ≤ i) (hk : Ok less l l0 i j) : Ok less (l.take a ++ (z ++ l.drop b)) l0 i j := by
  unfold Ok; rw [seg_other hab hb hzl h]; exact hk
theorem put_len (hab : a ≤ b) (hb : b ≤ l.length) (hzl : z.length = b - a) : (l.take a ++ (z ++ l.drop b)).length = l.length := by
  simp only [List.length_append, List.length_take, List.length_drop]; omega
theorem st1_step (h : St1 less B a l l0) (hB : B ∣ a) (hb : b = a + B) (hbn : b ≤ l0.length) (hz : SP less z (seg l0 a b)) : St1 less B b (l.take a ++ (z ++ l.drop b)) l0 := by
  have hl := h.len
  have hzl : z.length = b - a := by rw [hz.1.length_eq, seg_len]; omega
  refine ⟨by rw [put_len (by omega) (by omega) hzl, hl], fun i hi hib => ?_, ?_⟩
  · by_cases h1 : i + B ≤ a
    · exact ok_other (by omega) (by omega) hzl (.inl h1) (h.blk i hi h1)
    · have : i = a := dvd_gap hi hB (by omega) (by omega)
      subst this
      rw [← hb]
      exact ok_here (by omega) (by omega) hl hz
  · have e1 : (l.take a ++ (z ++ l.drop b)).drop b = l.drop b := by
      rw [← List.append_assoc]
      exact List.drop_left' (by rw [List.length_append, List.length_take]; omega)
    have e2 : l.drop b = (l.drop a).drop B := by rw [List.drop_drop, hb]
    rw [e1, e2, h.rest, List.drop_drop, ← hb]
theorem seg_past {l : List Nat} {i j k : Nat} (h1 : l.length ≤ j) (h2 : l.length ≤ k) : seg l i j = seg l i k := by rw [seg_end h1, seg_end h2]
theorem blk_last (hl : l.length = l0.length) (hn : n = l0.length) (hB : B ∣ a) (han : a ≤ n) (hnb : n ≤ a + B) (hz : SP less z (seg l0 a n)) (hblk : ∀ i, B ∣ i → i + B ≤ a → Ok less l l0 i (i + B)) : Blk less B (l.take a ++ (z ++ l.drop n)) l0 := by
  have hzl : z.length = n - a := by rw [hz.1.length_eq, seg_len]; omega
  have hl2 := put_len (l := l) (z := z) (a := a) (b := n) (by omega) (by omega) hzl
  refine ⟨by rw [hl2, hl], fun i hi => ?_⟩
  by_cases h1 : i + B ≤ a
  · exact ok_other (by omega) (by omega) hzl (.inl h1) (hblk i hi h1)
  · by_cases h2 : i ≤ a
    · have : i = a := dvd_gap hi hB h2 (by omega)
      subst this
      unfold Ok
      rw [seg_past (j := i + B) (k := n) (by rw [hl2]; omega) (by rw [hl2]; omega), seg_past (l := l0) (j := i + B) (k := n) (by omega) (by omega)]
      exact ok_here (by omega) (by omega) hl hz
    · have h3 : a + B ≤ i := by
        rcases Nat.lt_or_ge i (a + B) with h4 | h4
        · exact absurd (dvd_gap hB hi (by omega) h4) (by omega)
        · exact h4
      exact ok_none (by rw [hl2, hl]) (by omega)
theorem two_sp (h : l0.Pairwise (· < ·)) {i j k : Nat} (h1 : i ≤ j) (h2 : j ≤ k) (k1 : Ok less l l0 i j) (k2 : Ok less l l0 j k) (hz : SP less z (seg l i j ++ seg l j k)) : SP less z (seg l0 i k) := by
  refine ⟨?_, hz.2⟩
  rw [seg_cut h1 h2]
  exact hz.1.trans (k1.1.append k2.1)
theorem st2_step (h : St2 less B a l l0) (h0 : l0.Pairwise (· < ·)) (hB0 : 0 < B) (hB : 2 * B ∣ a) (hb : b = a + 2 * B) (hbn : b ≤ l0.length) (hz : SP less z (seg l a (a + B) ++ seg l (a + B) b)) : St2 less B b (l.take a ++ (z ++ l.drop b)) l0 := by
  have hl := h.len
  have hBa : B ∣ a := Nat.dvd_trans ⟨2, by omega⟩ hB
  have hz2 : SP less z (seg l0 a b) := two_sp h0 (by omega) (by omega) (h.one a hBa (Nat.le_refl _)) (by have := h.one (a + B) (Nat.dvd_add hBa (Nat.dvd_refl _)) (by omega); rw [show a + B + B = b by omega] at this; exact this) hz
  have hzl : z.length = b - a := by rw [hz2.1.length_eq, seg_len]; omega
  refine ⟨by rw [put_len (by omega) (by omega) hzl, hl], fun i hi hib => ?_, fun i hi hib => ok_other (by omega) (by omega) hzl (.inr hib) (h.one i hi (by omega))⟩
  by_cases h1 : i + 2 * B ≤ a
  · exact ok_other (by omega) (by omega) hzl (.inl h1) (h.two i hi h1)
  · have : i = a := dvd_gap hi hB (by omega) (by omega)
    subst this
    rw [← hb]
    exact ok_here (by omega) (by omega) hl hz2
theorem st2_last (h : St2 less B a l l0) (h0 : l0.Pairwise (· < ·)) (hB0 : 0 < B) (hB : 2 * B ∣ a) (hn : n = l0.length) (h1 : a + B ≤ n) (h2 : n ≤ a + 2 * B) (hz : SP less z (seg l a (a + B) ++ seg l (a + B) n)) : Blk less (2 * B) (l.take a ++ (z ++ l.drop n)) l0 := by
  have hl := h.len
  have hBa : B ∣ a := Nat.dvd_trans ⟨2, by omega⟩ hB
  have hk := h.one (a + B) (Nat.dvd_add hBa (Nat.dvd_refl _)) (by omega)
  have hk2 : Ok less l l0 (a + B) n := by
    unfold Ok at hk ⊢
    rwa [seg_past (j := a + B + B) (k := n) (by omega) (by omega), seg_past (l := l0) (j := a + B + B) (k := n) (by omega) (by omega)] at hk
  have hz2 : SP less z (seg l0 a n) := two_sp h0 (by omega) (by omega) (h.one a hBa (Nat.le_refl _)) hk2 hz
  exact blk_last hl hn hB (by omega) h2 hz2 h.two
theorem st2_skip (h : St2 less B a l l0) (hB0 : 0 < B) (hB : 2 * B ∣ a) (hn : n = l0.length) (h1 : n ≤ a + B) : Blk less (2 * B) l l0 := by
  have hl := h.len
  have hBa : B ∣ a := Nat.dvd_trans ⟨2, by omega⟩ hB
  refine ⟨hl, fun i hi => ?_⟩
  by_cases q1 : i + 2 * B ≤ a
  · exact h.two i hi q1
  · by_cases q2 : i ≤ a
    · have : i = a := dvd_gap hi hB q2 (by omega)
      subst this
      have hk := h.one i hBa (Nat.le_refl _)
      unfold Ok at hk ⊢
      rwa [seg_past (j := i + B) (k := i + 2 * B) (by omega) (by omega), seg_past (l := l0) (j := i + B) (k := i + 2 * B) (by omega) (by omega)] at hk
    · have h3 : a + 2 * B ≤ i := by
        rcases Nat.lt_or_ge i (a + 2 * B) with h4 | h4
        · exact absurd (dvd_gap hB hi (by omega) h4) (by omega)
        · exact h4
      exact ok_none hl (by omega)
theorem st2_start (h : Blk less B l l0) : St2 less B 0 l l0 := ⟨h.len, fun i _ hi => by
    rcases Nat.eq_zero_or_pos B with hB | hB
    · subst hB
      have : i = 0 := by omega
      subst this
      exact h.blk 0 (Nat.dvd_refl _)
    · omega, fun i hi _ => h.blk i hi⟩
theorem blk_all (h : Blk less B l l0) (hB : l0.length ≤ B) : SP less l l0 := by
  have hk := h.blk 0 (Nat.dvd_zero _)
  unfold Ok at hk
  rw [seg_end (by have := h.len; omega), seg_end (by omega), List.drop_zero, List.drop_zero] at hk
  exact hk
theorem st1_start : St1 less B 0 l0 l0 := ⟨rfl, fun i _ h => by
    unfold Ok
    have h1 : i = 0 := by omega
    have h2 : B = 0 := by omega
    subst h1 h2
    exact ⟨List.Perm.refl _, List.Pairwise.nil⟩, rfl⟩
/-- what a merge is to be given -/
theorem mg_mk {ok : Nat → Prop} {m : Nat} (h0 : l0.Pairwise (· < ·)) (hok : ∀ x ∈ l0, ok x) (hl : l.length = l0.length) (h1 : a ≤ m) (h2 : m ≤ b) (h3 : b ≤ l0.length) (k1 : Ok less l l0 a m) (k2 : Ok less l l0 m b) : Mg less ok a m b (l.take a) (seg l a m) (seg l m b) where
  ha := by rw [List.length_take]; omega
  hm := by rw [seg_len]; omega
  hb := by rw [seg_len]; omega
  hx := k1.2
  hy := k2.2
  hxy := fun u hu v hv => seg_lt h0 h1 h2 u (k1.1.subset hu) v (k2.1.subset hv)
  okx := fun u hu => hok u (List.mem_of_mem_take (List.mem_of_mem_drop (k1.1.subset hu)))
  oky := fun u hu => hok u (List.mem_of_mem_take (List.mem_of_mem_drop (k2.1.subset hu)))
theorem four_parts (l : List Nat) {m : Nat} (h1 : a ≤ m) (h2 : m ≤ b) : l = l.take a ++ (seg l a m ++ (seg l m b ++ l.drop b)) := by
  have := seg_split l (i := a) (j := b) (by omega)
  rw [seg_cut h1 h2, List.append_assoc] at this
  exact this
end
set_option maxRecDepth 100000 in
set_option maxHeartbeats 6400000 in
theorem stable_any (g n q : Nat) (l0 : List Nat) (cap : Value) (ok : Nat → Prop) (cv : Nat → Nat → Int) (W w : World) (R : List HA) (hn : n ≤ 17592186044416)
    (hs : l0.Pairwise (· < ·)) (hok : ∀ x ∈ l0, ok x) (Wk : Weak (lessOf cv)) (hC : Cmps g n q W R cap ok cv) (h : Star W w (plcA g n q l0 :: R)) :
    Calls Try.prog 41 #[.slice (some ⟨g, 0, none⟩) n q, .int .i64 n, .func (.func 24) #[] #[cap]] w fun e w' => e = .returned (.tuple #[]) ∧ ∃ z, SP (lessOf cv) z l0 ∧ Star W w' (plcA g n q z :: R) := by
  have hl := plc_len h
  have HL := Lib.hid hl
  have HS := Lib.hid (⟨hs, hok⟩ : l0.Pairwise (· < ·) ∧ ∀ x ∈ l0, ok x)
  have HC := Lib.hid hC
  have HW := Lib.hid Wk
  have h0 := h
  clear h hl hs hok hC Wk
  go_enter Try.func41, Try.ntmps41
  go_wp2
  go_loopw [7, 8] (fun i j wr => ∃ a : Nat, 20 ∣ a ∧ a ≤ n ∧ i = .int .i64 (a : Int) ∧ j = .int .i64 ((a + 20 : Nat) : Int) ∧ ∃ l, St1 (lessOf cv) 20 a l l0 ∧ Star W wr (plcA g n q l :: R)) (fun i _ _ => n + 20 - (intOf i).toNat)
  case atStart => exact ⟨0, by omega, by omega, by go_num, by go_num, l0, st1_start, h0⟩
  case round =>
    clear h0
    obtain ⟨a, ha20, han, rfl, rfl, l, hst, hR⟩ := hrel
    obtain ⟨b, hb⟩ : ∃ b : Nat, b = a + 20 := ⟨_, rfl⟩
    rw [← hb]
    by_cases hlt : b ≤ n
    · have hsg : seg l a b = seg l0 a b := by
        unfold seg
        rw [List.drop_take, List.drop_take, hst.rest]
      have C := Lib.hid (ins_any g n q a b (l.take a) (seg l0 a b) (l.drop b) cap ok cv W wr R (by have := HL.out; have := hst.len; rw [List.length_take]; omega) (by have := HL.out; rw [seg_len]; omega) hn (seg_sub HS.out.1 _ _) (fun x hx => HS.out.2 x (List.mem_of_mem_take (List.mem_of_mem_drop hx))) HW.out HC.out
        (by rw [← hsg, ← seg_split l (by omega)]; exact hR))
      have HST := Lib.hid hst
      have hlt2 : decide (b ≤ n) = true := by simpa using hlt
      have HB := Lib.hid (⟨hb, ha20⟩ : b = a + 20 ∧ 20 ∣ a)
      have ha2 : a ≤ b := by omega
      clear hsg hst hR hb ha20
      go_wp2_with fail
      refine C.out.mono ?_
      rintro e' w1 ⟨rfl, z, hz, h1⟩
      have H1 := Lib.hid (⟨hz, h1⟩ : _ ∧ _)
      clear hz h1
      go_wp2
      go_roundw
      case rel => exact ⟨b, by have := HB.out; omega, by omega, rfl, by go_num, _, st1_step HST.out HB.out.2 HB.out.1 (by have := HL.out; omega) H1.out.1, H1.out.2⟩
      case measure => have := HB.out; simp [intOf]; omega
    · have hsg : seg l a n = seg l0 a n := by
        unfold seg
        rw [List.drop_take, List.drop_take, hst.rest]
      have C := Lib.hid (ins_any g n q a n (l.take a) (seg l0 a n) (l.drop n) cap ok cv W wr R (by have := HL.out; have := hst.len; rw [List.length_take]; omega) (by have := HL.out; rw [seg_len]; omega) hn (seg_sub HS.out.1 _ _) (fun x hx => HS.out.2 x (List.mem_of_mem_take (List.mem_of_mem_drop hx))) HW.out HC.out
        (by rw [← hsg, ← seg_split l (by omega)]; exact hR))
      have HST := Lib.hid hst
      have hlt2 : decide (b ≤ n) = false := by simpa using hlt
      have HB := Lib.hid (⟨hb, ha20⟩ : b = a + 20 ∧ 20 ∣ a)
      have hbn2 : n < a + 20 := by omega
      clear hsg hst hR hb ha20
      go_wp2_with fail
      refine C.out.mono ?_
      rintro e' w1 ⟨rfl, z, hz, h1⟩
      have hblk := blk_last HST.out.len HL.out.symm HB.out.2 han (by omega) hz HST.out.blk
      have H1 := Lib.hid (⟨hblk, h1⟩ : _ ∧ _)
      clear hz h1 hblk C HST HB
      generalize l.take a ++ (z ++ l.drop n) = l1 at H1
      go_wp2_with fail
      go_loopw [6, 7, 8, 9] (fun B i j m wz => ∃ B' : Nat, 20 ≤ B' ∧ B' ≤ 2 * n + 20 ∧ B = .int .i64 (B' : Int) ∧ ∃ l, Blk (lessOf cv) B' l l0 ∧ Star W wz (plcA g n q l :: R)) (fun B _ _ _ _ => 3 * n + 20 - (intOf B).toNat)
      case atStart => exact ⟨20, by omega, by omega, by go_num, l1, H1.out.1, H1.out.2⟩
      case round =>
        clear H1
        obtain ⟨B, hB1, hB2, rfl, l, hbk, hR⟩ := hrel
        by_cases hBn : B < n
        · have hBd : decide (B < n) = true := by simpa using hBn
          have h0 : St2 (lessOf cv) B 0 l l0 ∧ Star W wr (plcA g n q l :: R) := ⟨st2_start hbk, hR⟩
          obtain ⟨wo, rfl⟩ : ∃ wo : World, wo = wr := ⟨_, rfl⟩
          clear hbk hR
          go_wp2_with fail
          go_loopw [7, 8] (fun i j wz => ∃ a : Nat, 2 * B ∣ a ∧ a ≤ n ∧ i = .int .i64 (a : Int) ∧ j = .int .i64 ((a + 2 * B : Nat) : Int) ∧ ∃ l, St2 (lessOf cv) B a l l0 ∧ Star W wz (plcA g n q l :: R)) (fun i _ _ => n + 2 * n - (intOf i).toNat)
          case atStart => exact ⟨0, Nat.dvd_zero _, by omega, by go_num, by go_num, l, h0.1, h0.2⟩
          case round =>
            clear h0
            obtain ⟨a, haB, han, rfl, rfl, l, hst, hR⟩ := hrel
            obtain ⟨b, hb⟩ : ∃ b : Nat, b = a + 2 * B := ⟨_, rfl⟩
            rw [← hb]
            obtain ⟨m, hm⟩ : ∃ m : Nat, m = a + B := ⟨_, rfl⟩
            have hmz : (a : Int) + B = (m : Int) := by omega
            have HMZ := Lib.hid hmz
            have hBa : B ∣ a := Nat.dvd_trans ⟨2, by omega⟩ haB
            have k1 : Ok (lessOf cv) l l0 a m := by rw [hm]; exact hst.one a hBa (Nat.le_refl _)
            have k2 : Ok (lessOf cv) l l0 m b := by
              have := hst.one m (by rw [hm]; exact Nat.dvd_add hBa (Nat.dvd_refl _)) (by omega)
              rwa [show m + B = b by omega] at this
            by_cases hlt : b ≤ n
            · have hlen := hst.len
              have M := mg_mk (a := a) (b := b) HS.out.1 HS.out.2 hlen (by omega) (by omega) (by have := HL.out; omega) k1 k2
              have C := Lib.hid (merge_any g n q cap ok cv W R hn HW.out HC.out _ a m b (l.take a) (seg l a m) (seg l m b) (l.drop b) wr (Nat.le_refl _) (by rw [seg_len]; have := HL.out; omega) (by rw [seg_len]; have := HL.out; omega) M (by rw [← four_parts l (by omega) (by omega)]; exact hR))
              have HST := Lib.hid hst
              have hlt2 : decide (b ≤ n) = true := by simpa using hlt
              have HB := Lib.hid (⟨hb, haB, hm⟩ : b = a + 2 * B ∧ 2 * B ∣ a ∧ m = a + B)
              have ha2 : a ≤ b := by omega
              have hb2 : 2 * (B : Int) = ((2 * B : Nat) : Int) := by omega
              clear hst hR hb haB hm hmz M k1 k2 hBa hlen hb2
              go_wp2_with fail
              rw [HMZ.out]
              refine C.out.mono ?_
              rintro e' w1 ⟨rfl, z, hz, h1⟩
              have H1 := Lib.hid (⟨hz, h1⟩ : _ ∧ _)
              clear hz h1
              go_wp2
              go_roundw
              case rel =>
                obtain ⟨q1, q2, q3⟩ := HB.out
                refine ⟨b, by rw [q1]; exact Nat.dvd_add q2 (Nat.dvd_refl _), by omega, rfl, by go_num, _, st2_step HST.out HS.out.1 (by omega) q2 q1 (by have := HL.out; omega) ?_, H1.out.2⟩
                rw [← q3]; exact H1.out.1
              case measure => have := HB.out; simp [intOf]; omega
            · have hlt2 : decide (b ≤ n) = false := by simpa using hlt
              by_cases hmn : m < n
              · have hlen := hst.len
                have hmd : decide (m < n) = true := by simpa using hmn
                have k3 : Ok (lessOf cv) l l0 m n := by
                  unfold Ok at k2 ⊢
                  rwa [seg_past (j := b) (k := n) (by have := HL.out; omega) (by have := HL.out; omega), seg_past (l := l0) (j := b) (k := n) (by have := HL.out; omega) (by have := HL.out; omega)] at k2
                have M := mg_mk (a := a) (b := n) HS.out.1 HS.out.2 hlen (by omega) (by omega) (by have := HL.out; omega) k1 k3
                have C := Lib.hid (merge_any g n q cap ok cv W R hn HW.out HC.out _ a m n (l.take a) (seg l a m) (seg l m n) (l.drop n) wr (Nat.le_refl _) (by rw [seg_len]; have := HL.out; omega) (by rw [seg_len]; have := HL.out; omega) M (by rw [← four_parts l (by omega) (by omega)]; exact hR))
                have HST := Lib.hid hst
                have HB := Lib.hid (⟨hb, haB, hm⟩ : b = a + 2 * B ∧ 2 * B ∣ a ∧ m = a + B)
                have hmn2 : (a : Int) + B < n := by omega
                clear hst hR hb haB hm hmz M k1 k2 k3 hBa hlen
                go_wp2_with fail
                rw [HMZ.out]
                refine C.out.mono ?_
                rintro e' w1 ⟨rfl, z, hz, h1⟩
                have hfin : Blk (lessOf cv) (2 * B) (l.take a ++ (z ++ l.drop n)) l0 := by
                  obtain ⟨q1, q2, q3⟩ := HB.out
                  exact st2_last HST.out HS.out.1 (by omega) q2 HL.out.symm (by omega) (by omega) (by rw [← q3]; exact hz)
                have H1 := Lib.hid (⟨hfin, h1⟩ : _ ∧ _)
                clear hz h1 hfin
                go_wp2
                go_roundw
                case rel => exact ⟨2 * B, by omega, by omega, by go_num, _, H1.out.1, H1.out.2⟩
                case measure => simp [intOf]; omega
              · have hmd : decide (m < n) = false := by simpa using hmn
                have hfin : Blk (lessOf cv) (2 * B) l l0 := st2_skip hst (by omega) haB HL.out.symm (by omega)
                have H1 := Lib.hid (⟨hfin, hR⟩ : _ ∧ _)
                have hmn2 : ¬ (a : Int) + B < n := by omega
                clear hst hR hb haB hm hmz k1 k2 hBa hfin
                go_wp2
                go_roundw
                case rel => exact ⟨2 * B, by omega, by omega, by go_num, _, H1.out.1, H1.out.2⟩
                case measure => simp [intOf]; omega
        · have hBd : decide (B < n) = false := by simpa using hBn
          have hsp := blk_all hbk (by have := HL.out; omega)
          have H2 := Lib.hid (⟨hsp, hR⟩ : _ ∧ _)
          clear hsp hR hbk
          go_wp2
          go_end0
          exact ⟨rfl, l, H2.out.1, H2.out.2⟩
set_option maxRecDepth 100000 in
theorem sort_any (g n q : Nat) (l0 : List Nat) (cap : Value) (ok : Nat → Prop) (cv : Nat → Nat → Int) (W w : World) (R : List HA) (hn : n ≤ 17592186044416)
    (hs : l0.Pairwise (· < ·)) (hok : ∀ x ∈ l0, ok x) (Wk : Weak (lessOf cv)) (hC : Cmps g n q W R cap ok cv) (h : Star W w (plcA g n q l0 :: R)) :
    Calls Try.prog 23 #[.slice (some ⟨g, 0, none⟩) n q, .func (.func 24) #[] #[cap]] w fun e w' => e = .returned (.tuple #[]) ∧ ∃ z, SP (lessOf cv) z l0 ∧ Star W w' (plcA g n q z :: R) := by
  have C := Lib.hid (stable_any g n q l0 cap ok cv W w R hn hs hok Wk hC h)
  clear hs hok Wk hC h
  go_enter Try.func23, Try.ntmps23
  go_wp2_with fail
  refine C.out.mono ?_
  rintro e' w1 ⟨rfl, z, hz, h1⟩
  have H1 := Lib.hid (⟨hz, h1⟩ : _ ∧ _)
  clear hz h1
  go_wp2
  go_end0
  exact ⟨rfl, z, H1.out.1, H1.out.2⟩
end Go.Proofs.Ytljdkfhkpjjfgaa
