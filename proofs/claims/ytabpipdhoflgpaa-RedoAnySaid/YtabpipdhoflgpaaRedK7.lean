/- The law RedoAny, walked. -/
import Derived.Test.YtabpipdhoflgpaaRedK6
namespace Go.Proofs.Ytabpipdhoflgpaa
open Go.RowKit
set_option linter.unusedVariables false

def strs (xs : List ByteArray) : List Value := xs.map Value.string
theorem strs_get {xs : List ByteArray} {k : Nat} {u : Value} (h : (strs xs)[k]? = some u) : ∃ x, u = .string x ∧ xs[k]? = some x := by
  rw [strs, List.getElem?_map] at h
  obtain ⟨x, h1, h2⟩ := Option.map_eq_some_iff.1 h
  exact ⟨x, h2.symm, h1⟩
theorem strs_one (xs : List ByteArray) : ∀ u ∈ strs xs, u.oneCell' = true := by
  intro u hu
  obtain ⟨x, _, rfl⟩ := List.mem_map.1 hu
  rfl
theorem i64_and15 (n : Int) : bits .and .i64 n 15 = n % 16 := by
  have h15 : (BitVec.ofInt 64 15).toNat = 2 ^ 4 - 1 := by decide
  have key : (BitVec.ofInt 64 n &&& BitVec.ofInt 64 15).toNat = (n % ((2 ^ 64 : Nat) : Int)).toNat % 2 ^ 4 := by
    rw [BitVec.toNat_and, BitVec.toNat_ofInt, h15, Nat.and_two_pow_sub_one_eq_mod]
  show IntKind.i64.wrap ((BitVec.ofInt 64 n &&& BitVec.ofInt 64 15).toNat : Nat) = n % 16
  rw [key, IntKind.wrap_i64]
  omega
theorem most_n (most : Int) : ∃ N : Nat, wrap64 (1 + bits BinOp.and IntKind.i64 most 15) = (N : Int) ∧ 1 ≤ N ∧ N ≤ 16 := by
  rw [i64_and15]
  refine ⟨(1 + most % 16).toNat, ?_, by omega, by omega⟩
  simp only [wrap64]
  omega
theorem placeZ_take_hit {α : Type} [DecidableEq α] {ks : List α} {k : α} {q : Nat} (hn : ks.Nodup) (h : ks[q]? = some k) : placeZ (ks.take (q + 1)) k = q := by
  have hq := (List.getElem?_eq_some_iff.1 h).1
  refine placeZ_hit (by rw [List.getElem?_take, if_pos (by omega)]; exact h) ?_
  rw [List.take_take, Nat.min_eq_left (by omega)]
  intro hm
  obtain ⟨i, hi⟩ := List.mem_iff_getElem?.1 hm
  rw [List.getElem?_take] at hi
  split at hi
  · rename_i hiq
    exact nodup_ne hn hi h (by omega) rfl
  · cases hi
theorem notin_take_idxOf {α : Type} [DecidableEq α] : ∀ (l : List α) (k : α), k ∉ l.take (l.idxOf k)
  | [], k => by simp
  | a :: l, k => by
    by_cases h : a = k
    · subst h; simp
    · have hb : (a == k) = false := by simpa using h
      rw [List.idxOf_cons, hb, cond_false, List.take_succ_cons, List.mem_cons, not_or]
      exact ⟨fun e => h e.symm, notin_take_idxOf l k⟩
theorem placeZ_take_skip {α : Type} [DecidableEq α] {ks : List α} {k x : α} {q : Nat} (h : ks[q]? = some x) (hx : x ≠ k) : placeZ (ks.take (q + 1)) k = placeZ (ks.take q) k := by
  have hq := (List.getElem?_eq_some_iff.1 h).1
  by_cases hm : k ∈ ks.take q
  · have h1 := idxOf_get hm
    have hlt := (List.getElem?_eq_some_iff.1 h1).1
    have e1 : placeZ (ks.take q) k = ((ks.take q).idxOf k : Nat) := by rw [placeZ, if_pos hm]
    rw [e1]
    have hlt' : (ks.take q).idxOf k < q := by rw [List.length_take] at hlt; omega
    refine placeZ_hit ?_ ?_
    · rw [List.getElem?_take, if_pos (by omega)]
      rw [List.getElem?_take, if_pos hlt'] at h1
      exact h1
    · have h2 := notin_take_idxOf (ks.take q) k
      rw [List.take_take, Nat.min_eq_left (by omega)] at h2 ⊢
      exact h2
  · have h2 : k ∉ ks.take (q + 1) := take_miss h hx hm
    rw [placeZ_miss hm, placeZ_miss h2]
theorem Sl.sub {w : World} {g o n size : Nat} {xs : List Value} (h : Sl w (some ⟨g, o, none⟩) n size xs) (i : Nat) (hn : 0 < n) : ∀ t u, (xs.drop (i * size))[t]? = some u → w.cell? ((⟨g, o + i * size, none⟩ : Addr).add t) = some u := by
  intro t u hu
  obtain ⟨g', o', e, hc⟩ := h.2 hn
  injection e with e
  injection e with e1 e2
  subst e1 e2
  rw [List.getElem?_drop] at hu
  rw [Addr.add_lit, Nat.add_assoc]
  exact hc _ _ hu
theorem sub_src (g c j n size : Nat) (xs : List Value) (hc : n + 1 ≤ c) : ∃ A2 : Addr, (if c = j + 1 then some (⟨g, 0, none⟩ : Addr) else some ⟨g, (j + 1) * size, none⟩) = some A2 ∧ ∀ w', Sl w' (some ⟨g, 0, none⟩) (n + 1) size xs → 0 < n - j → ∃ ad, some A2 = some ad ∧ ∀ t u, (xs.drop ((j + 1) * size))[t]? = some u → w'.cell? (ad.add t) = some u := by
  by_cases h : c = j + 1
  · exact ⟨⟨g, 0, none⟩, by simp [h], fun w' _ h0 => by omega⟩
  · refine ⟨⟨g, (j + 1) * size, none⟩, by simp [h], fun w' hw _ => ⟨_, rfl, fun t u hu => ?_⟩⟩
    have := hw.sub (j + 1) (by omega) t u hu
    rwa [Nat.zero_add] at this
theorem take_src {w : World} {g n size j : Nat} {xs : List Value} (h : Sl w (some ⟨g, 0, none⟩) n size xs) : 0 < j → ∃ ad, some (⟨g, 0, none⟩ : Addr) = some ad ∧ ∀ t u, (xs.take (j * size))[t]? = some u → w.cell? (ad.add t) = some u := by
  refine fun _ => ⟨_, rfl, fun t u hu => ?_⟩
  rw [List.getElem?_take] at hu
  split at hu
  · have hx : 0 < xs.length := by have := (List.getElem?_eq_some_iff.1 hu).1; omega
    have hn : 0 < n := by
      rcases Nat.eq_zero_or_pos n with h0 | h0
      · rw [h.1, h0, Nat.zero_mul] at hx; omega
      · exact h0
    have := h.sub 0 hn t u (by simpa using hu)
    simpa using this
  · cases hu
theorem Try.info9 : (Try.prog.info? 9).map (fun i => (i.zero, i.size, i.bytes)) = some (some (.string ByteArray.empty), 1, 16) := by kernel_rfl
abbrev anyL (b N : Nat) (kvs : List (Key × ByteArray)) (a a2 : Option Addr) (c c2 : Nat) (W : World) : List HA :=
  [LK.A b N kvs, rowA 29 2 (.slice a kvs.length c) kvs.length (k2 (kvs.map (fun x : Key × ByteArray => x.1))), rowA 9 1 (.slice a2 kvs.length c2) kvs.length (strs (kvs.map (fun x : Key × ByteArray => x.2))), oldA W]

set_option maxHeartbeats 8000000 in
set_option maxRecDepth 100000 in
theorem any_walk (most drop : Int) (A : Option Addr) (len cap : Nat) (ss : List ByteArray) (W : World) (hz : ss.length = len) (hA : Sl W A len 1 (strs ss)) (hlt : ∀ g o, A = some ⟨g, o, none⟩ → 0 < len → g < W.heap.size) (hlen : len ≤ 9223372036854775807) :
    Calls Try.prog 3 #[.int .i64 most, .slice A len cap, .int .i64 drop] W fun e w' => e = .returned (.bool true) ∧ Below W.heap.size W w' := by
  have hS := Star.begin W
  obtain ⟨N, hN, hN1, hN2⟩ := most_n most
  have HA := Lib.hid hA
  have HLT := Lib.hid hlt
  clear hA hlt
  go_enter Try.func3, Try.ntmps3
  go_wp2_with fail
  refine (awake_any _ W _ hS).mono ?_
  rintro e w1 ⟨rfl, hS1⟩
  go_wp2_with fail
  refine (knew_ok N _ W _ hS1 (by omega) (by omega)).mono ?_
  rintro e w2 ⟨b, rfl, h2⟩
  have h3 : Star W w2 (anyL b N [] none none 0 0 W) := ((h2.rowNil 29 2).rowNil 9 1).pick 4 [2, 1, 0, 3]
  clear hS hS1 h2
  go_wp2
  clear hN
  go_loopw [11, 12, 13] (fun ord lst i wr => ∃ q : Nat, q ≤ len ∧ i = .int .i64 q ∧ ∃ (kvs : List (Key × ByteArray)) (a a2 : Option Addr) (c c2 : Nat), ord = .slice a kvs.length c ∧ lst = .slice a2 kvs.length c2 ∧ kvs.length ≤ N ∧ Star W wr (anyL b N kvs a a2 c c2 W)) (fun _ _ i _ => len - (intOf i).toNat)
  case atStart => exact ⟨0, Nat.zero_le _, rfl, [], none, none, 0, 0, rfl, rfl, Nat.zero_le _, h3⟩
  case round =>
    clear h3
    obtain ⟨q, hq, rfl, kvs, a, a2, c, c2, rfl, rfl, hk, hR⟩ := hrel
    by_cases hql : q < len
    · obtain ⟨x, hx⟩ : ∃ x, ss[q]? = some x := ⟨_, List.getElem?_eq_getElem (by omega)⟩
      obtain ⟨y, hy⟩ : ∃ y, ss[len - 1 - q]? = some y := ⟨_, List.getElem?_eq_getElem (by omega)⟩
      obtain ⟨g, o, rfl, hcl⟩ := HA.out.2 (by omega)
      have hg := HLT.out g o rfl (by omega)
      have x0 := hcl q (.string x) (by simp [strs, hx])
      have y0 := hcl (len - 1 - q) (.string y) (by simp [strs, hy])
      have x1 := x0
      rw [← (hR.pull 3).oldCell (p := ⟨g, o + q, none⟩) hg] at x1
      obtain ⟨kn, hkn⟩ : ∃ kn, bits BinOp.and IntKind.i64 (x.size : Int) 1 = kn := ⟨_, rfl⟩
      have hqz : (q : Int) < len := by omega
      have Y0 := Lib.hid y0
      clear hcl hx hy x0 y0
      go_wp2
      go_region_held3 (fun w' => w'.cell? ⟨g, o + q, none⟩ = some (.string x)) (go_keep) (fail)
      have h4 := (hR.new (.cells #[.string x, .int .i64 kn] 29)).drew
      have hnd : (kvs.map (fun x : Key × ByteArray => x.1)).Nodup := by obtain ⟨_, _, _, _, ho, _⟩ := log_open hR; exact ho.nd2
      generalize (wr.alloc (.cells #[.string x, .int .i64 kn] 29)).drew = wK at h4 ⊢
      generalize wr.heap.size = gK at h4 ⊢
      have e0 : wK.cell? ⟨gK, 0, none⟩ = some (.string x) := h4.cell 0
      have e1 : wK.cell? ⟨gK, 1, none⟩ = some (.int .i64 kn) := h4.cell 1
      have HND := Lib.hid hnd
      clear hR x1 hkn hnd
      go_wp2
      go_loopw [15, 16] (fun at_ j wi => ∃ p : Nat, p ≤ kvs.length ∧ j = .int .i64 p ∧ at_ = .int .i64 (placeZ ((kvs.map (fun x : Key × ByteArray => x.1)).take p) (x, kn)) ∧ ∃ m, wi = wK.drewN m) (fun _ j _ => kvs.length - (intOf j).toNat)
      case atStart => exact ⟨0, Nat.zero_le _, rfl, by simp [placeZ], 0, rfl⟩
      case round =>
        obtain ⟨p, hp, rfl, rfl, m, rfl⟩ := hrel
        by_cases hpl : p < kvs.length
        · obtain ⟨k', hk'⟩ : ∃ k', (kvs.map (fun x : Key × ByteArray => x.1))[p]? = some k' := ⟨_, List.getElem?_eq_getElem (by simpa using hpl)⟩
          obtain ⟨g2, rfl, _, _, hck, _⟩ := (h4.pull 2).rowAt (by omega)
          obtain ⟨z1, z2⟩ := k2_at hk'
          have f1 : wK.cell? ⟨g2, p * 2, none⟩ = some (.string k'.1) := by rw [hck _ (by omega), z1]
          have f2 : wK.cell? ⟨g2, p * 2 + 1, none⟩ = some (.int .i64 k'.2) := by rw [hck _ (by omega), z2]
          have ke := fun w => key_eql k'.1 x k'.2 kn w
          have hpz : (p : Int) < kvs.length := by omega
          have H4 := Lib.hid h4
          clear hck z1 z2 h4
          by_cases hkx : k' = (x, kn)
          · have hd : decide ((k'.1, k'.2) = (x, kn)) = true := by subst hkx; simp
            have hpt := placeZ_take_hit HND.out (hkx ▸ hk')
            go_wp2
            go_quiet (fail)
            go_wp2
            go_roundw
            case rel => exact ⟨p + 1, by omega, by go_num, by rw [hpt], _, rfl⟩
            case measure => simp [intOf]; omega
          · have hd : decide ((k'.1, k'.2) = (x, kn)) = false := by simp only [decide_eq_false_iff_not]; exact hkx
            have hpt := placeZ_take_skip hk' hkx
            go_wp2
            go_quiet (fail)
            go_wp2
            go_roundw
            case rel => exact ⟨p + 1, by omega, by go_num, by rw [hpt], _, rfl⟩
            case measure => simp [intOf]; omega
        · have hat : placeZ ((kvs.map (fun x : Key × ByteArray => x.1)).take p) (x, kn) = placeZ (kvs.map (fun x : Key × ByteArray => x.1)) (x, kn) := by rw [List.take_of_length_le (by simp; omega)]
          have hpz : ¬ (p : Int) < kvs.length := by omega
          have h5 := h4.drewN m
          rw [hat]
          generalize wK.drewN m = wP at h5 ⊢
          clear h4 e0 e1 hat
          have e0 : wP.cell? ⟨gK, 0, none⟩ = some (.string x) := h5.cell 0
          have e1 : wP.cell? ⟨gK, 1, none⟩ = some (.int .i64 kn) := h5.cell 1
          have hyP := Y0.out
          rw [← (h5.pull 4).oldCell (p := ⟨g, o + (len - 1 - q), none⟩) hg] at hyP
          clear HA HLT Y0 hpl hp
          obtain ⟨b1, hb1⟩ : ∃ b1, bits BinOp.and IntKind.i64 (q : Int) 7 = b1 := ⟨_, rfl⟩
          obtain ⟨b2, hb2⟩ : ∃ b2, bits BinOp.and IntKind.i64 drop 7 = b2 := ⟨_, rfl⟩
          rcases placeZ_cases (kvs.map (fun x : Key × ByteArray => x.1)) (x, kn) with hP | ⟨j, hP, hjl⟩
          · rw [hP]
            by_cases hbb : b1 = b2
            · have hbb' : (b1 == b2) = true := by simpa using hbb
              go_wp2_with fail
              refine (kdrop_miss b N kvs _ W _ (x, kn) (h5.pull 1) (by omega) (miss_of hP)).mono ?_
              rintro e w3 ⟨rfl, h6⟩
              go_wp2
              go_roundw
              case rel => exact ⟨q + 1, by omega, by go_num, kvs, a, a2, c, c2, rfl, rfl, hk, h6.pick 5 [0, 2, 3, 4]⟩
              case measure => simp [intOf]; omega
            · have hbb' : (b1 == b2) = false := by simpa using hbb
              have h6 := (h5.new (.cells (pairC y) 9)).pick 6 [2, 0, 1, 3, 4, 5]
              by_cases hf : N ≤ kvs.length
              · have hkN : ((kvs.length : Int) == (N : Int)) = true := by simp; omega
                go_wp2_with fail
                refine (kput_full b N kvs _ W _ wP.heap.size (x, kn) h6 (miss_of hP) (by omega)).mono ?_
                rintro e w3 ⟨rfl, h7⟩
                go_wp2
                go_roundw
                case rel => exact ⟨q + 1, by omega, by go_num, kvs, a, a2, c, c2, rfl, rfl, hk, h7.pick 6 [0, 3, 4, 5]⟩
                case measure => simp [intOf]; omega
              · have hkN : ((kvs.length : Int) == (N : Int)) = false := by simp; omega
                obtain ⟨i0, hi, hz0, hz1, hz2⟩ := info_parts Try.info29
                obtain ⟨i1, hi1, hy0, hy1, hy2⟩ := info_parts Try.info9
                go_wp2_with fail
                refine (kput_room b N kvs _ W _ wP.heap.size (x, kn) y h6 (by omega) (miss_of hP) (by omega)).mono ?_
                rintro e w3 ⟨rfl, h7⟩
                have u0 : w3.cell? ⟨gK, 0, none⟩ = some (.string x) := (h7.pull 1).cell 0
                have u1 : w3.cell? ⟨gK, 1, none⟩ = some (.int .i64 kn) := (h7.pull 1).cell 1
                have h8 := (h7.new (.cells #[.string x, .int .i64 kn] 29)).pick 6 [3, 0, 1, 2, 4, 5]
                have tok1 : True := trivial
                clear e0 e1 h5 h6
                go_wp2_with (at_builtin; first
                  | (have _t := tok1; refine wpList_append_star rfl _ _ 30 rfl 29 i0 _ 2 24 Try.underlying30 hi hz0 hz1 hz2 rfl (by decide) _ kvs.length _ rfl h8 ⟨w3.heap.size, 0, none⟩ 1 1 [.string x, .int .i64 kn] rfl rfl (cell_two_at _ _ rfl _ _ _) (by simp [Value.oneCell']) (by simp only [maxLen]; omega) (by omega) ?_; intro a' c' w4 hS1; have h9 := (hS1.new (.cells #[.string y] 9)).pick 7 [5, 0, 1, 2, 3, 4, 6]; clear tok1)
                  | (refine wpList_append_star rfl _ _ 22 rfl 9 i1 _ 1 16 Try.underlying22 hi1 hy0 hy1 hy2 rfl (by decide) _ kvs.length _ rfl h9 ⟨w4.heap.size, 0, none⟩ 1 1 [.string y] rfl rfl (cell_one_new _ _ _) (by simp [Value.oneCell']) (by simp only [maxLen]; omega) (by omega) ?_; intro a'' c'' w5 hS2))
                go_roundw
                case rel =>
                  have hL := hS2.pick 7 [4, 2, 0, 6]
                  refine ⟨q + 1, by omega, by go_num, kvs ++ [((x, kn), y)], a', a'', c', c'', by simp, by simp, by simp; omega, ?_⟩
                  simp only [anyL, List.map_append, List.map_cons, List.map_nil, k2_app, k2, List.length_append, List.length_cons, List.length_nil, Nat.zero_add, strs]
                  exact hL
                case measure => simp [intOf]; omega
          · rw [hP]
            obtain ⟨v0, hj0⟩ : ∃ v0, kvs[j]? = some ((x, kn), v0) := by
              have hjl' : j < kvs.length := by simpa using hjl
              have h1 := placeZ_at hP
              rw [List.getElem?_map, List.getElem?_eq_getElem hjl'] at h1
              refine ⟨(kvs[j]).2, ?_⟩
              rw [List.getElem?_eq_getElem hjl']
              simp only [Option.map_some, Option.some.injEq] at h1
              rw [← h1]
            have hjl' : j < kvs.length := by simpa using hjl
            by_cases hbb : b1 = b2
            · have hbb' : (b1 == b2) = true := by simpa using hbb
              obtain ⟨i0, hi, hz0, hz1, hz2⟩ := info_parts Try.info29
              obtain ⟨i1, hi1, hy0, hy1, hy2⟩ := info_parts Try.info9
              obtain ⟨n, hnk⟩ : ∃ n, kvs.length = n + 1 := ⟨kvs.length - 1, by omega⟩
              obtain ⟨g2, rfl, hc2, hcm, _, _⟩ := (h5.pull 2).rowAt (by omega)
              obtain ⟨g3, rfl, hd2, hdm, _, _⟩ := (h5.pull 3).rowAt (by omega)
              have hnz : (kvs.eraseIdx j).length = n := by rw [List.length_eraseIdx]; split <;> omega
              obtain ⟨A2, hA2, hs2⟩ := sub_src g2 c j n 2 (k2 (kvs.map (fun x : Key × ByteArray => x.1))) (by omega)
              obtain ⟨A3, hA3, hs3⟩ := sub_src g3 c2 j n 1 (strs (kvs.map (fun x : Key × ByteArray => x.2))) (by omega)
              rw [Nat.mul_one] at hA3
              have HS2 := Lib.hid hs2
              have HS3 := Lib.hid hs3
              have hcm' : c ≤ 9223372036854775807 := by simpa [maxLen] using hcm
              have hdm' : c2 ≤ 9223372036854775807 := by simpa [maxLen] using hdm
              have hjn : j ≤ n := by omega
              clear hs2 hs3 hcm hdm
              go_wp2_with fail
              refine (kdrop_hit b N kvs _ W _ (x, kn) j (h5.pull 1) (by omega) hP).mono ?_
              rintro e w3 ⟨rfl, h6⟩
              clear e0 e1 h5
              have h7 : Star W w3 [LK.A b N (kvs.eraseIdx j), rowA 29 2 (.slice (some ⟨g2, 0, none⟩) (n + 1) c) (n + 1) (k2 (kvs.map (fun x : Key × ByteArray => x.1))), rowA 9 1 (.slice (some ⟨g3, 0, none⟩) (n + 1) c2) (n + 1) (strs (kvs.map (fun x : Key × ByteArray => x.2))), oldA W] := by rw [← hnk]; exact h6.pick 5 [0, 2, 3, 4]
              rw [hnk] at hc2 hd2
              have h8 := (h7.rowNew 29 2 #[] 0 (by simp [maxLen]) rfl).drew
              have hq1 := take_src (j := j) (h8.pull 2).rowSl
              have hj1 : (0 : Int) ≤ (j : Int) + 1 := by omega
              have hjc : j ≤ c := by omega
              have hjd : j ≤ c2 := by omega
              have hjc' : (j : Int) ≤ (c : Int) := by omega
              have hjd' : (j : Int) ≤ (c2 : Int) := by omega
              have hjn' : (j : Int) ≤ (n : Int) := by omega
              have hjn2 : (j : Int) + 1 ≤ (n : Int) + 1 := by omega
              have hnc' : (n : Int) + 1 ≤ (c : Int) := by omega
              have hnd' : (n : Int) + 1 ≤ (c2 : Int) := by omega
              have hjw : IntKind.i64.wrap ((j : Int) + 1) = (j : Int) + 1 := by rw [IntKind.wrap_i64]; omega
              clear h6
              go_wp2
              go_region_held3 (fun w' => True) (trivial) (first
                | (refine step_append_star_any rfl (.tmp 90) (.tmp 93) 30 rfl 29 i0 _ 2 24 Try.underlying30 hi hz0 hz1 hz2 rfl (by decide) _ 0 [] rfl h8 _ j c _ rfl (by rw [List.length_take, k2_len]; simp; omega) hq1 (fun u hu => k2_one _ u (List.mem_of_mem_take hu)) (by simp only [maxLen]; omega) (by omega) ?_; intro a' c' w4 hS1; have hq2 := HS2.out _ (hS1.pull 2).rowSl)
                | (refine step_append_star_any rfl (.tmp 94) (.tmp 98) 30 rfl 29 i0 _ 2 24 Try.underlying30 hi hz0 hz1 hz2 rfl (by decide) _ (0 + j) _ rfl hS1 (some A2) (n - j) (c - (j + 1)) _ (by simp [Act.eval]) (by rw [List.length_drop, k2_len]; simp; omega) hq2 (fun u hu => k2_one _ u (List.mem_of_mem_drop hu)) (by simp only [maxLen]; omega) (by omega) ?_; intro a'' c'' w5 hS2))
              have hS3 : Star W w5 [rowA 29 2 (.slice a'' n c'') n (k2 ((kvs.eraseIdx j).map (fun x : Key × ByteArray => x.1))), LK.A b N (kvs.eraseIdx j), rowA 29 2 (.slice (some ⟨g2, 0, none⟩) (n + 1) c) (n + 1) (k2 (kvs.map (fun x : Key × ByteArray => x.1))), rowA 9 1 (.slice (some ⟨g3, 0, none⟩) (n + 1) c2) (n + 1) (strs (kvs.map (fun x : Key × ByteArray => x.2))), oldA W] := by
                have h := hS2
                rw [show 0 + j + (n - j) = n by omega, List.nil_append, ← k2_erase, ← map_eraseIdx'] at h
                exact h
              have h10 := (hS3.rowNew 9 1 #[] 0 (by simp [maxLen]) rfl).drew
              have hq3 := take_src (j := j) (h10.pull 4).rowSl
              clear hS2 hS3 hS1 h8 h7 hq1 hq2
              go_wp2
              go_region_held3 (fun w' => True) (trivial) (first
                | (refine step_append_star_any rfl (.tmp 100) (.tmp 103) 22 rfl 9 i1 _ 1 16 Try.underlying22 hi1 hy0 hy1 hy2 rfl (by decide) _ 0 [] rfl h10 _ j c2 _ rfl (by rw [List.length_take]; simp [strs]; omega) hq3 (fun u hu => strs_one _ u (List.mem_of_mem_take hu)) (by simp only [maxLen]; omega) (by omega) ?_; intro a3 c3 w6 hS4; have hq4 := HS3.out _ (hS4.pull 4).rowSl)
                | (refine step_append_star_any rfl (.tmp 104) (.tmp 108) 22 rfl 9 i1 _ 1 16 Try.underlying22 hi1 hy0 hy1 hy2 rfl (by decide) _ (0 + j) _ rfl hS4 (some A3) (n - j) (c2 - (j + 1)) _ (by simp [Act.eval]) (by rw [List.length_drop]; simp [strs]; omega) hq4 (fun u hu => strs_one _ u (List.mem_of_mem_drop hu)) (by simp only [maxLen]; omega) (by omega) ?_; intro a4 c4 w7 hS5))
              have hS6 : Star W w7 [rowA 9 1 (.slice a4 n c4) n (strs ((kvs.eraseIdx j).map (fun x : Key × ByteArray => x.2))), rowA 29 2 (.slice a'' n c'') n (k2 ((kvs.eraseIdx j).map (fun x : Key × ByteArray => x.1))), LK.A b N (kvs.eraseIdx j), rowA 29 2 (.slice (some ⟨g2, 0, none⟩) (n + 1) c) (n + 1) (k2 (kvs.map (fun x : Key × ByteArray => x.1))), rowA 9 1 (.slice (some ⟨g3, 0, none⟩) (n + 1) c2) (n + 1) (strs (kvs.map (fun x : Key × ByteArray => x.2))), oldA W] := by
                have h := hS5
                rw [show 0 + j + (n - j) = n by omega, List.nil_append, Nat.mul_one, Nat.mul_one, ← List.eraseIdx_eq_take_drop_succ, strs, ← map_eraseIdx', ← map_eraseIdx'] at h
                exact h
              clear hS4 hS5 hq3 hq4 h10
              go_wp2
              go_roundw
              case rel => exact ⟨q + 1, by omega, by go_num, kvs.eraseIdx j, a'', a4, c'', c4, by rw [hnz], by rw [hnz], by omega, by have h := hS6.pick 6 [2, 1, 0, 5]; rw [anyL, hnz]; exact h⟩
              case measure => simp [intOf]; omega
            · have hbb' : (b1 == b2) = false := by simpa using hbb
              have h6 := (h5.new (.cells (pairC y) 9)).pick 6 [2, 0, 1, 3, 4, 5]
              go_wp2_with fail
              refine (kput_hit b N kvs _ W _ wP.heap.size (x, kn) y j v0 h6 hj0).mono ?_
              rintro e w3 ⟨rfl, h7⟩
              clear e0 e1 h5 h6
              have h8 : Star W w3 (rowA 9 1 (.slice a2 kvs.length c2) kvs.length (strs (kvs.map (fun x : Key × ByteArray => x.2))) :: _) := h7.pull 3
              obtain ⟨g3, rfl, _, _, hcl, hfl⟩ := h8.rowAt (by omega)
              have s1 : w3.cell? ⟨g3, j, none⟩ = some (.string v0) := by rw [hcl j (by omega)]; simp [strs, hj0]
              have s2 := hfl j
              have hjz : (j : Int) < kvs.length := by omega
              have h9 := h8.rowSet j (.string y)
              clear hcl hfl h8 h7
              go_wp2
              go_roundw
              case rel =>
                have hL := h9.pick 5 [1, 3, 0, 4]
                refine ⟨q + 1, by omega, by go_num, kvs.set j ((x, kn), y), a, some ⟨g3, 0, none⟩, c, c2, by simp, by simp, by simpa using hk, ?_⟩
                rw [anyL, List.map_set, List.map_set, List.length_set, set_same (placeZ_at hP), show strs ((kvs.map (fun x : Key × ByteArray => x.2)).set j y) = (strs (kvs.map (fun x : Key × ByteArray => x.2))).set j (.string y) by simp [strs]]
                exact hL
              case measure => simp [intOf]; omega
    · have hqz : ¬ (q : Int) < len := by omega
      clear HA HLT
      go_wp2_with fail
      refine (kkeys_any b N kvs _ W _ hR (by omega)).mono ?_
      rintro e w3 ⟨aa, ca, rfl, h3⟩
      have b1 : ((kvs.length : Int) != kvs.length) = false := by simp
      clear hR
      go_wp2_with fail
      refine (klen_any b N kvs _ W _ (h3.pull 1)).mono ?_
      rintro e w4 ⟨rfl, rfl⟩
      go_wp2
      go_loopw [21] (fun i wi => ∃ p : Nat, p ≤ kvs.length ∧ i = .int .i64 p ∧ Star W wi (rowA 29 2 (.slice aa kvs.length ca) kvs.length (k2 (kvs.map (fun x : Key × ByteArray => x.1))) :: anyL b N kvs a a2 c c2 W)) (fun i _ => kvs.length - (intOf i).toNat)
      case atStart => exact ⟨0, Nat.zero_le _, rfl, h3⟩
      case round =>
        obtain ⟨p, hp, rfl, h4⟩ := hrel
        clear h3
        by_cases hpl : p < kvs.length
        · obtain ⟨⟨k, v⟩, hkv⟩ : ∃ u, kvs[p]? = some u := ⟨_, List.getElem?_eq_getElem hpl⟩
          have hkk : (kvs.map (fun x : Key × ByteArray => x.1))[p]? = some k := by rw [List.getElem?_map, hkv]; rfl
          have hvv : (strs (kvs.map (fun x : Key × ByteArray => x.2)))[p]? = some (.string v) := by simp [strs, hkv]
          obtain ⟨cc, hcc, hG⟩ := kget_hit b N kvs _ W _ k v (h4.pull 1) (List.mem_of_getElem? hkv)
          obtain ⟨cd, hcd, hT⟩ := kat_ok b N kvs _ W _ p k v (h4.pull 1) (by omega) hkv
          obtain ⟨z1, z2⟩ := k2_at hkk
          obtain ⟨g1, rfl, _, _, hc1, _⟩ := h4.rowAt (by omega)
          obtain ⟨g2, rfl, _, _, hc2, _⟩ := (h4.pull 2).rowAt (by omega)
          obtain ⟨g3, rfl, _, _, hc3, _⟩ := (h4.pull 3).rowAt (by omega)
          have f1 := (hc1 (p * 2) (by omega)).trans z1
          have f2 := (hc1 (p * 2 + 1) (by omega)).trans z2
          have f3 := (hc2 (p * 2) (by omega)).trans z1
          have f4 := (hc2 (p * 2 + 1) (by omega)).trans z2
          have f5 := (hc3 p (by omega)).trans hvv
          have v1 : _ = some (Value.string v) := cell_of_row _ cc 0 (pairC v) 9 (0, 0) hcc
          have v2 : _ = some (Value.string v) := cell_of_row _ cd 0 (pairC v) 9 (0, 0) hcd
          have HG := Lib.hid hG
          have HT := Lib.hid hT
          have hpz : (p : Int) < kvs.length := by omega
          clear hG hT hcc hcd hc1 hc2 hc3 z1 z2 hvv
          go_wp2_with fail
          refine (HG.out _ (Below.refl _ _)).mono ?_
          rintro e w5 ⟨rfl, hb5⟩
          go_wp2_with fail
          refine (HT.out _ hb5).mono ?_
          rintro e w6 ⟨rfl, hb6⟩
          have hb7 := hb5.trans (hb6.mono hb5.size)
          have h6 := (h4.of_below hb7).new (.cells #[.string k.1, .int .i64 k.2] 29)
          have hb8 := hb7.alloc hb7.size (.cells #[.string k.1, .int .i64 k.2] 29)
          have i1 := (hb8.cell (World.block_lt_of_cell? _ _ f1)).trans f1
          have i2 := (hb8.cell (World.block_lt_of_cell? _ _ f2)).trans f2
          have i3 := (hb8.cell (World.block_lt_of_cell? _ _ f3)).trans f3
          have i4 := (hb8.cell (World.block_lt_of_cell? _ _ f4)).trans f4
          have i5 := (hb8.cell (World.block_lt_of_cell? _ _ f5)).trans f5
          have i6 := (hb8.cell (World.block_lt_of_cell? _ _ v1)).trans v1
          have i7 := (hb8.cell (World.block_lt_of_cell? _ _ v2)).trans v2
          have j3 := (hb5.cell (World.block_lt_of_cell? _ _ f3)).trans f3
          have tn := fun w => key_neq k.1 k.1 k.2 k.2 w
          have td : decide ((k.1, k.2) = (k.1, k.2)) = true := by simp
          have ts : (v.toList != v.toList) = false := by simp
          have H6 := Lib.hid h6
          clear HG HT hb5 hb6 hb7 hb8 h6 h4 f1 f2 f3 f4 f5 v1 v2
          go_wp2
          go_quiet (fail)
          go_wp2
          go_roundw
          case rel => exact ⟨p + 1, by omega, by go_num, H6.out.drop.drewN _⟩
          case measure => simp [intOf]; omega
        · have hpz : ¬ (p : Int) < kvs.length := by omega
          go_wp2
          go_ret
          exact ⟨rfl, (h4.pull 4).below⟩
end Go.Proofs.Ytabpipdhoflgpaa
