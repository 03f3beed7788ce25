/- A step over a log and the document's, walked: lemmas for the law RedoPlays. Printed by gen_does.py. -/
import Derived.Test.YtabpipdhoflgpaaRed7
namespace Go.Proofs.Ytabpipdhoflgpaa
open Go.RowKit
set_option linter.unusedVariables false

section
variable (R : List HA) (W w : World) (b c : Nat) (most : Int) (kvs : List (Int × Int)) (o : Bool) (K V : Int)

set_option maxHeartbeats 1600000 in
set_option maxRecDepth 100000 in
theorem does_none (kd : Int) (n1 : kd ≠ 1) (n2 : kd ≠ 2) (n3 : kd ≠ 3) (n4 : kd ≠ 4) (n5 : kd ≠ 5) (n6 : kd ≠ 6) (hS : Star W w (LI.A b most kvs :: rlogA c most kvs :: R)) (hm : most ≤ 4096) (hl : kvs.length ≤ most) :
    Calls Try.prog 15 #[.pointer (some ⟨b, 0, none⟩), .pointer (some ⟨c, 0, none⟩), .agg #[.bool o, .int .i64 kd, .int .i64 K, .int .i64 V]] w fun e w' => e = .returned (.bool true) ∧ ∃ kvs' : List (Int × Int), kvs'.length ≤ most ∧ Star W w' (LI.A b most kvs' :: rlogA c most kvs' :: R) := by
  have hn : kvs.length ≤ 1000000 := by omega
  have h1 := hS.new (.cells #[.bool o, .int .i64 kd, .int .i64 K, .int .i64 V] 48)
  generalize hwO : w.alloc (.cells #[.bool o, .int .i64 kd, .int .i64 K, .int .i64 V] 48) = wO at h1
  generalize hgO : w.heap.size = gO at h1
  clear hS
  have c0 : wO.cell? ⟨gO, 0, none⟩ = some (.bool o) := h1.cell 0
  have c1 : wO.cell? ⟨gO, 1, none⟩ = some (.int .i64 kd) := h1.cell 1
  have c2 : wO.cell? ⟨gO, 2, none⟩ = some (.int .i64 K) := h1.cell 2
  have c3 : wO.cell? ⟨gO, 3, none⟩ = some (.int .i64 V) := h1.cell 3
  have H1 := Lib.hid h1
  have HL := Lib.hid hl
  clear h1 hl hn hm
  subst hwO hgO
  go_enter Try.func15, Try.ntmps15
  go_wp2
  go_ret
  exact ⟨rfl, kvs, HL.out, H1.out.drop⟩
set_option maxHeartbeats 1600000 in
set_option maxRecDepth 100000 in
theorem does_put (hS : Star W w (LI.A b most kvs :: rlogA c most kvs :: R)) (hm : most ≤ 4096) (hl : kvs.length ≤ most) :
    Calls Try.prog 15 #[.pointer (some ⟨b, 0, none⟩), .pointer (some ⟨c, 0, none⟩), .agg #[.bool o, .int .i64 1, .int .i64 K, .int .i64 V]] w fun e w' => e = .returned (.bool true) ∧ ∃ kvs' : List (Int × Int), kvs'.length ≤ most ∧ Star W w' (LI.A b most kvs' :: rlogA c most kvs' :: R) := by
  have hn : kvs.length ≤ 1000000 := by omega
  have h1 := hS.new (.cells #[.bool o, .int .i64 1, .int .i64 K, .int .i64 V] 48)
  generalize hwO : w.alloc (.cells #[.bool o, .int .i64 1, .int .i64 K, .int .i64 V] 48) = wO at h1
  generalize hgO : w.heap.size = gO at h1
  clear hS
  have c0 : wO.cell? ⟨gO, 0, none⟩ = some (.bool o) := h1.cell 0
  have c1 : wO.cell? ⟨gO, 1, none⟩ = some (.int .i64 1) := h1.cell 1
  have c2 : wO.cell? ⟨gO, 2, none⟩ = some (.int .i64 K) := h1.cell 2
  have c3 : wO.cell? ⟨gO, 3, none⟩ = some (.int .i64 V) := h1.cell 3
  have D1 : Hid (∀ (R : List HA) (w : World), Star W w (LI.A b most kvs :: R) → Calls Try.prog 27 #[.pointer (some ⟨b, 0, none⟩), .int .i64 K, .int .i64 V] w fun e w' => e = .returned (.int .i64 (putE most kvs K)) ∧ Star W w' (LI.A b most (putK most kvs K V) :: R)) := fun R w h => iput_any b most kvs R W w K V h hn
  have D2 : Hid (∀ (R : List HA) (w : World), Star W w (rlogA c most kvs :: R) → Calls Try.prog 28 #[.pointer (some ⟨c, 0, none⟩), .int .i64 K, .int .i64 V] w fun e w' => e = .returned (.int .i64 (putE most kvs K)) ∧ Star W w' (rlogA c most (putK most kvs K V) :: R)) := fun R w h => rput_any c most kvs R W w K V h hn
  have HL : Hid (((putK most kvs K V).length : Int) ≤ most) := putK_len hl
  generalize putE most kvs K = x at D1 D2
  generalize putK most kvs K V = k2 at D1 D2 HL
  clear hn hm hl
  subst hwO hgO
  go_enter Try.func15, Try.ntmps15
  go_wp2_with fail
  refine (D1.out _ _ (h1.pull 1)).mono ?_
  rintro e w1 ⟨rfl, h2⟩
  have d2 : w1.cell? ⟨w.heap.size, 2, none⟩ = some (.int .i64 K) := (h2.pull 1).cell 2
  have d3 : w1.cell? ⟨w.heap.size, 3, none⟩ = some (.int .i64 V) := (h2.pull 1).cell 3
  go_wp2_with fail
  refine (D2.out _ _ (h2.pull 2)).mono ?_
  rintro e w2 ⟨rfl, h3⟩
  go_wp2
  go_ret
  exact ⟨rfl, k2, HL.out, h3.pick 3 [1, 0]⟩
set_option maxHeartbeats 1600000 in
set_option maxRecDepth 100000 in
theorem does_get (hS : Star W w (LI.A b most kvs :: rlogA c most kvs :: R)) (hm : most ≤ 4096) (hl : kvs.length ≤ most) :
    Calls Try.prog 15 #[.pointer (some ⟨b, 0, none⟩), .pointer (some ⟨c, 0, none⟩), .agg #[.bool o, .int .i64 2, .int .i64 K, .int .i64 V]] w fun e w' => e = .returned (.bool true) ∧ ∃ kvs' : List (Int × Int), kvs'.length ≤ most ∧ Star W w' (LI.A b most kvs' :: rlogA c most kvs' :: R) := by
  have hn : kvs.length ≤ 1000000 := by omega
  have h1 := hS.new (.cells #[.bool o, .int .i64 2, .int .i64 K, .int .i64 V] 48)
  generalize hwO : w.alloc (.cells #[.bool o, .int .i64 2, .int .i64 K, .int .i64 V] 48) = wO at h1
  generalize hgO : w.heap.size = gO at h1
  clear hS
  have c0 : wO.cell? ⟨gO, 0, none⟩ = some (.bool o) := h1.cell 0
  have c1 : wO.cell? ⟨gO, 1, none⟩ = some (.int .i64 2) := h1.cell 1
  have c2 : wO.cell? ⟨gO, 2, none⟩ = some (.int .i64 K) := h1.cell 2
  have c3 : wO.cell? ⟨gO, 3, none⟩ = some (.int .i64 V) := h1.cell 3
  have HL := Lib.hid hl
  have D1 : Hid (∀ (R : List HA) (w : World), Star W w (LI.A b most kvs :: R) → Calls Try.prog 29 #[.pointer (some ⟨b, 0, none⟩), .int .i64 K] w fun e w' => e = .returned (.tuple #[.int .i64 (getV kvs K), .bool (getB kvs K)]) ∧ w = w') := fun R w h => iget_any b most kvs R W w K h hn
  have D2 : Hid (∀ (R : List HA) (w : World), Star W w (rlogA c most kvs :: R) → Calls Try.prog 30 #[.pointer (some ⟨c, 0, none⟩), .int .i64 K] w fun e w' => e = .returned (.tuple #[.int .i64 (getV kvs K), .bool (getB kvs K)]) ∧ w = w') := fun R w h => rget_any c most kvs R W w K h hn
  generalize getV kvs K = x at D1 D2
  generalize getB kvs K = y at D1 D2
  clear hn hm hl
  subst hwO hgO
  go_enter Try.func15, Try.ntmps15
  go_wp2_with fail
  refine (D1.out _ _ (h1.pull 1)).mono ?_
  rintro e w1 ⟨rfl, rfl⟩
  go_wp2_with fail
  refine (D2.out _ _ (h1.pull 2)).mono ?_
  rintro e w2 ⟨rfl, rfl⟩
  go_wp2
  go_ret
  exact ⟨rfl, kvs, HL.out, h1.drop⟩
set_option maxHeartbeats 1600000 in
set_option maxRecDepth 100000 in
theorem does_at (hS : Star W w (LI.A b most kvs :: rlogA c most kvs :: R)) (hm : most ≤ 4096) (hl : kvs.length ≤ most) :
    Calls Try.prog 15 #[.pointer (some ⟨b, 0, none⟩), .pointer (some ⟨c, 0, none⟩), .agg #[.bool o, .int .i64 3, .int .i64 K, .int .i64 V]] w fun e w' => e = .returned (.bool true) ∧ ∃ kvs' : List (Int × Int), kvs'.length ≤ most ∧ Star W w' (LI.A b most kvs' :: rlogA c most kvs' :: R) := by
  have hn : kvs.length ≤ 1000000 := by omega
  have h1 := hS.new (.cells #[.bool o, .int .i64 3, .int .i64 K, .int .i64 V] 48)
  generalize hwO : w.alloc (.cells #[.bool o, .int .i64 3, .int .i64 K, .int .i64 V] 48) = wO at h1
  generalize hgO : w.heap.size = gO at h1
  clear hS
  have c0 : wO.cell? ⟨gO, 0, none⟩ = some (.bool o) := h1.cell 0
  have c1 : wO.cell? ⟨gO, 1, none⟩ = some (.int .i64 3) := h1.cell 1
  have c2 : wO.cell? ⟨gO, 2, none⟩ = some (.int .i64 K) := h1.cell 2
  have c3 : wO.cell? ⟨gO, 3, none⟩ = some (.int .i64 V) := h1.cell 3
  have HL := Lib.hid hl
  have D1 : Hid (∀ (R : List HA) (w : World), Star W w (LI.A b most kvs :: R) → Calls Try.prog 17 #[.pointer (some ⟨b, 0, none⟩), .int .i64 K] w fun e w' => e = .returned (.tuple #[.int .i64 (atR kvs K).1.1, .int .i64 (atR kvs K).1.2, .int .i64 (atR kvs K).2]) ∧ w = w') := fun R w h => iat_any b most kvs R W w K h hn
  have D2 : Hid (∀ (R : List HA) (w : World), Star W w (rlogA c most kvs :: R) → Calls Try.prog 31 #[.pointer (some ⟨c, 0, none⟩), .int .i64 K] w fun e w' => e = .returned (.tuple #[.int .i64 (atR kvs K).1.1, .int .i64 (atR kvs K).1.2, .int .i64 (atR kvs K).2]) ∧ ∃ m, w' = w.drewN m) := fun R w h => rat_any c most kvs R W w K h hn
  generalize (atR kvs K).1.1 = x at D1 D2
  generalize (atR kvs K).1.2 = y at D1 D2
  generalize (atR kvs K).2 = z at D1 D2
  clear hn hm hl
  subst hwO hgO
  go_enter Try.func15, Try.ntmps15
  go_wp2_with fail
  refine (D1.out _ _ (h1.pull 1)).mono ?_
  rintro e w1 ⟨rfl, rfl⟩
  go_wp2_with fail
  refine (D2.out _ _ (h1.pull 2)).mono ?_
  rintro e w2 ⟨rfl, m, rfl⟩
  go_wp2
  go_ret
  exact ⟨rfl, kvs, HL.out, (h1.drewN m).drop⟩
set_option maxHeartbeats 1600000 in
set_option maxRecDepth 100000 in
theorem does_drop (hS : Star W w (LI.A b most kvs :: rlogA c most kvs :: R)) (hm : most ≤ 4096) (hl : kvs.length ≤ most) :
    Calls Try.prog 15 #[.pointer (some ⟨b, 0, none⟩), .pointer (some ⟨c, 0, none⟩), .agg #[.bool o, .int .i64 4, .int .i64 K, .int .i64 V]] w fun e w' => e = .returned (.bool true) ∧ ∃ kvs' : List (Int × Int), kvs'.length ≤ most ∧ Star W w' (LI.A b most kvs' :: rlogA c most kvs' :: R) := by
  have hn : kvs.length ≤ 1000000 := by omega
  have h1 := hS.new (.cells #[.bool o, .int .i64 4, .int .i64 K, .int .i64 V] 48)
  generalize hwO : w.alloc (.cells #[.bool o, .int .i64 4, .int .i64 K, .int .i64 V] 48) = wO at h1
  generalize hgO : w.heap.size = gO at h1
  clear hS
  have c0 : wO.cell? ⟨gO, 0, none⟩ = some (.bool o) := h1.cell 0
  have c1 : wO.cell? ⟨gO, 1, none⟩ = some (.int .i64 4) := h1.cell 1
  have c2 : wO.cell? ⟨gO, 2, none⟩ = some (.int .i64 K) := h1.cell 2
  have c3 : wO.cell? ⟨gO, 3, none⟩ = some (.int .i64 V) := h1.cell 3
  have D1 : Hid (∀ (R : List HA) (w : World), Star W w (LI.A b most kvs :: R) → Calls Try.prog 32 #[.pointer (some ⟨b, 0, none⟩), .int .i64 K] w fun e w' => e = .returned (.bool (getB kvs K)) ∧ Star W w' (LI.A b most (dropK kvs K) :: R)) := fun R w h => idrop_any b most kvs R W w K h hn
  have D2 : Hid (∀ (R : List HA) (w : World), Star W w (rlogA c most kvs :: R) → Calls Try.prog 33 #[.pointer (some ⟨c, 0, none⟩), .int .i64 K] w fun e w' => e = .returned (.bool (getB kvs K)) ∧ Star W w' (rlogA c most (dropK kvs K) :: R)) := fun R w h => rdrop_any c most kvs R W w K h hn
  have HL : Hid (((dropK kvs K).length : Int) ≤ most) := dropK_len hl
  generalize getB kvs K = y at D1 D2
  generalize dropK kvs K = k2 at D1 D2 HL
  clear hn hm hl
  subst hwO hgO
  go_enter Try.func15, Try.ntmps15
  go_wp2_with fail
  refine (D1.out _ _ (h1.pull 1)).mono ?_
  rintro e w1 ⟨rfl, h2⟩
  have d2 : w1.cell? ⟨w.heap.size, 2, none⟩ = some (.int .i64 K) := (h2.pull 1).cell 2
  go_wp2_with fail
  refine (D2.out _ _ (h2.pull 2)).mono ?_
  rintro e w2 ⟨rfl, h3⟩
  go_wp2
  go_ret
  exact ⟨rfl, k2, HL.out, h3.pick 3 [1, 0]⟩
set_option maxHeartbeats 1600000 in
set_option maxRecDepth 100000 in
theorem does_clear (hS : Star W w (LI.A b most kvs :: rlogA c most kvs :: R)) (hm : most ≤ 4096) (hl : kvs.length ≤ most) :
    Calls Try.prog 15 #[.pointer (some ⟨b, 0, none⟩), .pointer (some ⟨c, 0, none⟩), .agg #[.bool o, .int .i64 5, .int .i64 K, .int .i64 V]] w fun e w' => e = .returned (.bool true) ∧ ∃ kvs' : List (Int × Int), kvs'.length ≤ most ∧ Star W w' (LI.A b most kvs' :: rlogA c most kvs' :: R) := by
  have hn : kvs.length ≤ 1000000 := by omega
  have h1 := hS.new (.cells #[.bool o, .int .i64 5, .int .i64 K, .int .i64 V] 48)
  generalize hwO : w.alloc (.cells #[.bool o, .int .i64 5, .int .i64 K, .int .i64 V] 48) = wO at h1
  generalize hgO : w.heap.size = gO at h1
  clear hS
  have c0 : wO.cell? ⟨gO, 0, none⟩ = some (.bool o) := h1.cell 0
  have c1 : wO.cell? ⟨gO, 1, none⟩ = some (.int .i64 5) := h1.cell 1
  have c2 : wO.cell? ⟨gO, 2, none⟩ = some (.int .i64 K) := h1.cell 2
  have c3 : wO.cell? ⟨gO, 3, none⟩ = some (.int .i64 V) := h1.cell 3
  have HL := Lib.hid (show (0:Int) ≤ most by omega)
  have D1 : Hid (∀ (R : List HA) (w : World), Star W w (LI.A b most kvs :: R) → Calls Try.prog 34 #[.pointer (some ⟨b, 0, none⟩)] w fun e w' => e = .returned (.tuple #[]) ∧ Star W w' (LI.A b most [] :: R)) := fun R w h => iclear_any b most kvs R W w h
  have D2 : Hid (∀ (R : List HA) (w : World), Star W w (rlogA c most kvs :: R) → Calls Try.prog 35 #[.pointer (some ⟨c, 0, none⟩)] w fun e w' => e = .returned (.tuple #[]) ∧ Star W w' (rlogA c most [] :: R)) := fun R w h => rclear_any c most kvs R W w h
  clear hn hm hl
  subst hwO hgO
  go_enter Try.func15, Try.ntmps15
  go_wp2_with fail
  refine (D1.out _ _ (h1.pull 1)).mono ?_
  rintro e w1 ⟨rfl, h2⟩
  go_wp2_with fail
  refine (D2.out _ _ (h2.pull 2)).mono ?_
  rintro e w2 ⟨rfl, h3⟩
  go_wp2
  go_ret
  exact ⟨rfl, [], by simpa using HL.out, h3.pick 3 [1, 0]⟩
set_option maxHeartbeats 1600000 in
set_option maxRecDepth 100000 in
theorem does_keys (hS : Star W w (LI.A b most kvs :: rlogA c most kvs :: R)) (hm : most ≤ 4096) (hl : kvs.length ≤ most) :
    Calls Try.prog 15 #[.pointer (some ⟨b, 0, none⟩), .pointer (some ⟨c, 0, none⟩), .agg #[.bool o, .int .i64 6, .int .i64 K, .int .i64 V]] w fun e w' => e = .returned (.bool true) ∧ ∃ kvs' : List (Int × Int), kvs'.length ≤ most ∧ Star W w' (LI.A b most kvs' :: rlogA c most kvs' :: R) := by
  have hn : kvs.length ≤ 1000000 := by omega
  have h1 := hS.new (.cells #[.bool o, .int .i64 6, .int .i64 K, .int .i64 V] 48)
  generalize hwO : w.alloc (.cells #[.bool o, .int .i64 6, .int .i64 K, .int .i64 V] 48) = wO at h1
  generalize hgO : w.heap.size = gO at h1
  clear hS
  have c0 : wO.cell? ⟨gO, 0, none⟩ = some (.bool o) := h1.cell 0
  have c1 : wO.cell? ⟨gO, 1, none⟩ = some (.int .i64 6) := h1.cell 1
  have c2 : wO.cell? ⟨gO, 2, none⟩ = some (.int .i64 K) := h1.cell 2
  have c3 : wO.cell? ⟨gO, 3, none⟩ = some (.int .i64 V) := h1.cell 3
  obtain ⟨i3, hi3, hy0, hy1, hy2⟩ := info_parts Try.info3
  have HL := Lib.hid hl
  have D1 : Hid (∀ (R : List HA) (w : World), Star W w (LI.A b most kvs :: R) → Calls Try.prog 19 #[.pointer (some ⟨b, 0, none⟩)] w fun e w' => ∃ a c, e = .returned (.slice a kvs.length c) ∧ Star W w' (rowA 3 1 (.slice a kvs.length c) kvs.length (ints (kvs.map (·.1))) :: LI.A b most kvs :: R)) := fun R w h => ikeys_any b most kvs R W w h hn
  clear hm hl
  subst hwO hgO
  go_enter Try.func15, Try.ntmps15
  go_wp2_with fail
  refine (D1.out _ _ (h1.pull 1)).mono ?_
  rintro e w1 ⟨a, ca, rfl, h2⟩
  have h3 : Star W w1 (rlogA c most kvs :: _) := h2.pull 3
  obtain ⟨a3, c3, a4, c4, h4⟩ := rlog_open h3
  have e1 : w1.cell? ⟨c, 1, none⟩ = some (.slice a3 kvs.length c3) := h4.cell 1
  have DS := Lib.hid (same_any a a3 kvs.length kvs.length ca c3 _ _ w1 (by simp) (by simp) h2.rowSl (h4.pull 1).rowSl (by omega) (by omega))
  have h5 := h2.pick 4 [0, 1, 3]
  clear h1 h2 h3 h4
  go_wp2_with fail
  refine DS.out.mono ?_
  rintro e w2 ⟨rfl, m, rfl⟩
  have h6 := h5.drewN m
  have hz : decide (kvs.map (·.1) = kvs.map (·.1)) = true := decide_eq_true rfl
  clear h5 DS D1 e1
  generalize w1.drewN m = w2 at h6 ⊢
  go_wp2
  go_loopw [21] (fun i wr => ∃ q : Nat, q ≤ kvs.length ∧ i = .int .i64 q ∧ ∃ ys : List Int, ys.length = kvs.length ∧ Star W wr (rowA 3 1 (.slice a kvs.length ca) kvs.length (ints ys) :: LI.A b most kvs :: rlogA c most kvs :: R)) (fun i _ => kvs.length - (intOf i).toNat)
  case atStart => exact ⟨0, Nat.zero_le _, rfl, kvs.map (fun x : Int × Int => x.1), by simp, h6⟩
  case round =>
    obtain ⟨q, hq, rfl, ys, hys, hR⟩ := hrel
    clear h6
    by_cases hql : q < kvs.length
    · obtain ⟨g, rfl, _, _, hcv, hfv⟩ := hR.rowAt (by omega)
      have hcq := hcv q (by omega)
      obtain ⟨x, hx⟩ : ∃ x, ys[q]? = some x := ⟨_, List.getElem?_eq_getElem (by omega)⟩
      rw [ints, List.getElem?_map, hx] at hcq
      simp only [Option.map_some] at hcq
      have hfq := hfv q
      have hN := fun u => (show (ints ys).set q (.int .i64 u) = ints (ys.set q u) by simp [ints]) ▸ hR.rowSet q (.int .i64 u)
      clear hcv hfv hx hR
      have hqz : (q : Int) < kvs.length := by omega
      go_wp2
      go_roundw
      case rel => exact ⟨q + 1, by omega, by go_num, _, by simpa using hys, hN _⟩
      case measure => simp [intOf]; omega
    · have h7 := hR
      clear hR
      have hqz : ¬ (q : Int) < kvs.length := by omega
      go_wp2_with (at_builtin; refine wpList_append_star_any rfl _ _ 50 rfl 3 i3 _ 1 8 Try.underlying50 hi3 hy0 hy1 hy2 rfl (by decide) _ _ _ rfl (h7.new (.cells #[.int .i64 1, .int .i64 2] 3) |>.pull 1) (some ⟨wr.heap.size, 0, none⟩) 2 2 [.int .i64 1, .int .i64 2] rfl rfl ?_ (by simp [Value.oneCell']) (by simp only [maxLen]; omega) (by omega) ?_; rotate_left; intro a' c' w3 h8)
      go_ret
      exact ⟨rfl, kvs, HL.out, h8.pick 4 [2, 3]⟩

theorem does_any (kd : Int) (hS : Star W w (LI.A b most kvs :: rlogA c most kvs :: R)) (hm : most ≤ 4096) (hl : kvs.length ≤ most) :
    Calls Try.prog 15 #[.pointer (some ⟨b, 0, none⟩), .pointer (some ⟨c, 0, none⟩), .agg #[.bool o, .int .i64 kd, .int .i64 K, .int .i64 V]] w fun e w' => e = .returned (.bool true) ∧ ∃ kvs' : List (Int × Int), kvs'.length ≤ most ∧ Star W w' (LI.A b most kvs' :: rlogA c most kvs' :: R) := by
  by_cases n1 : kd = 1
  · subst n1; exact does_put R W w b c most kvs o K V hS hm hl
  by_cases n2 : kd = 2
  · subst n2; exact does_get R W w b c most kvs o K V hS hm hl
  by_cases n3 : kd = 3
  · subst n3; exact does_at R W w b c most kvs o K V hS hm hl
  by_cases n4 : kd = 4
  · subst n4; exact does_drop R W w b c most kvs o K V hS hm hl
  by_cases n5 : kd = 5
  · subst n5; exact does_clear R W w b c most kvs o K V hS hm hl
  by_cases n6 : kd = 6
  · subst n6; exact does_keys R W w b c most kvs o K V hS hm hl
  exact does_none R W w b c most kvs o K V kd n1 n2 n3 n4 n5 n6 hS hm hl
end
end Go.Proofs.Ytabpipdhoflgpaa
