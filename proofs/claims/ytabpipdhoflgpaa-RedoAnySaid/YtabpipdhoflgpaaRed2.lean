/- The logs as assertions; Find, Index, Same: lemmas for the laws of redo. -/
import Derived.Test.YtabpipdhoflgpaaRed1
namespace Go.Proofs.Ytabpipdhoflgpaa
open Go.RowKit
set_option linter.unusedVariables false

/-- a key's place; -1: it has none -/
def placeZ {α : Type} [DecidableEq α] (ks : List α) (k : α) : Int := if k ∈ ks then (ks.idxOf k : Int) else -1
theorem idxOf_at {α : Type} [DecidableEq α] : ∀ {ks : List α} {k : α} {j : Nat}, ks[j]? = some k → k ∉ ks.take j → ks.idxOf k = j
  | [], k, j, h, _ => by simp at h
  | x :: ks, k, 0, h, _ => by
    simp only [List.getElem?_cons_zero, Option.some.injEq] at h
    subst h
    simp
  | x :: ks, k, j + 1, h, hn => by
    simp only [List.getElem?_cons_succ] at h
    simp only [List.take_succ_cons, List.mem_cons, not_or] at hn
    have hb : (x == k) = false := by simpa using fun e => hn.1 e.symm
    rw [List.idxOf_cons, hb, idxOf_at h hn.2]
    rfl
theorem placeZ_hit {α : Type} [DecidableEq α] {ks : List α} {k : α} {j : Nat} (h : ks[j]? = some k) (hn : k ∉ ks.take j) : placeZ ks k = j := by
  rw [placeZ, if_pos (List.mem_of_getElem? h), idxOf_at h hn]
theorem placeZ_miss {α : Type} [DecidableEq α] {ks : List α} {k : α} (hn : k ∉ ks) : placeZ ks k = -1 := if_neg hn
theorem take_miss {α : Type} {ks : List α} {k x : α} {j : Nat} (h : ks[j]? = some x) (hx : x ≠ k) (hn : k ∉ ks.take j) : k ∉ ks.take (j + 1) := by
  obtain ⟨hj, rfl⟩ := List.getElem?_eq_some_iff.1 h
  rw [List.take_succ_eq_append_getElem hj, List.mem_append, not_or]
  exact ⟨hn, by simpa using fun e => hx e.symm⟩

theorem ints_get {xs : List Int} {k : Nat} {u : Value} (h : (ints xs)[k]? = some u) : ∃ x, u = .int .i64 x ∧ xs[k]? = some x := by
  simp only [ints, List.getElem?_map, Option.map_eq_some_iff] at h
  obtain ⟨x, hx, rfl⟩ := h
  exact ⟨x, rfl, hx⟩
theorem take_snoc {α : Type} {xs : List α} {k : Nat} {x : α} (h : xs[k]? = some x) : xs.take (k + 1) = xs.take k ++ [x] := by
  obtain ⟨hk, rfl⟩ := List.getElem?_eq_some_iff.1 h
  exact List.take_succ_eq_append_getElem hk
theorem ne_of_at {α : Type} {xs ys : List α} {k : Nat} {x y : α} (h1 : xs[k]? = some x) (h2 : ys[k]? = some y) (h : x ≠ y) : xs ≠ ys := by
  rintro rfl
  rw [h1] at h2
  exact h (Option.some.inj h2)

set_option maxHeartbeats 800000 in
theorem index_int (A : Option Addr) (n c : Nat) (ks : List Int) (k : Int) (w : World) (hA : Sl w A n 1 (ints ks)) (hn : n ≤ 9223372036854775807) :
    Calls Try.prog 37 #[.slice A n c, .int .i64 k] w fun e w' => e = .returned (.int .i64 (placeZ ks k)) ∧ w = w' := by
  have hkl : ks.length = n := by have := hA.1; simpa [ints] using this
  go_enter Try.func37, Try.ntmps37
  go_wp2
  go_loopw [8] (fun i wr => ∃ j : Nat, j ≤ n ∧ i = .int .i64 j ∧ Hid (k ∉ ks.take j) ∧ wr = w) (fun i _ => n - (intOf i).toNat)
  case atStart => exact ⟨0, Nat.zero_le _, rfl, by simp [Hid], rfl⟩
  case round =>
    obtain ⟨j, hj, rfl, hmiss, rfl⟩ := hrel
    by_cases hjn : j < n
    · obtain ⟨g, o, u, rfl, hu, hcu⟩ := hA.at1 hjn
      obtain ⟨x, rfl, hx⟩ := ints_get hu
      have Hx := Lib.hid hx
      clear hA hu hx
      by_cases hxk : k = x
      · subst hxk
        have hkk : (k == k) = true := by simp
        have hP : Hid (placeZ ks k = j) := placeZ_hit Hx.out hmiss.out
        go_wp2
        go_ret
        exact ⟨by rw [hP.out]; rfl, rfl⟩
      · have hkk : (k == x) = false := by simpa using hxk
        have hm2 : Hid (k ∉ ks.take (j + 1)) := take_miss Hx.out (fun e => hxk e.symm) hmiss.out
        clear hxk
        go_wp2
        go_roundw
        case rel => exact ⟨j + 1, by omega, by go_num, hm2, by first | rfl | trivial⟩
        case measure => simp [intOf]; omega
    · have hP : Hid (placeZ ks k = -1) := placeZ_miss (by have := hmiss.out; rwa [List.take_of_length_le (by omega)] at this)
      go_wp2
      go_ret
      exact ⟨by rw [hP.out]; rfl, rfl⟩

theorem same_any (A B : Option Addr) (n m c d : Nat) (xs ys : List Int) (w : World) (hx : xs.length = n) (hy : ys.length = m) (ha : Sl w A n 1 (ints xs)) (hb : Sl w B m 1 (ints ys)) (hn : n ≤ 9223372036854775807) (hm : m ≤ 9223372036854775807) :
    Calls Try.prog 18 #[.slice A n c, .slice B m d] w fun e w' => e = .returned (.bool (decide (xs = ys))) ∧ ∃ k, w' = w.drewN k := by
  by_cases hnm : n = m
  · subst hnm
    have hne : ((n : Int) != n) = false := by simp
    go_enter Try.func18, Try.ntmps18
    go_wp2
    go_loopw [5] (fun i wr => ∃ k : Nat, k ≤ n ∧ i = .int .i64 k ∧ xs.take k = ys.take k ∧ ∃ q, wr = w.drewN q) (fun i _ => n - (intOf i).toNat)
    case atStart => exact ⟨0, Nat.zero_le _, rfl, rfl, 0, rfl⟩
    case round =>
      obtain ⟨k, hk, rfl, he, q, rfl⟩ := hrel
      have He : Hid (xs.take k = ys.take k) := he
      clear he
      by_cases hlt : k < n
      · obtain ⟨g, o, u, rfl, hu, hcu⟩ := ha.at1 hlt
        obtain ⟨g', o', u', rfl, hu', hcu'⟩ := hb.at1 hlt
        obtain ⟨x, rfl, hx1⟩ := ints_get hu
        obtain ⟨y, rfl, hy1⟩ := ints_get hu'
        have Hx := Lib.hid hx1
        have Hy := Lib.hid hy1
        clear ha hb hu hu' hx1 hy1
        by_cases hxy : x = y
        · have hb1 : (x != y) = false := by simpa using hxy
          have He' : Hid (xs.take (k + 1) = ys.take (k + 1)) := by rw [take_snoc Hx.out, take_snoc Hy.out, He.out, hxy]; rfl
          clear hxy
          go_wp2
          go_quiet (fail)
          go_wp2
          go_roundw
          case rel => exact ⟨k + 1, by omega, by go_num, He'.out, _, rfl⟩
          case measure => simp [intOf]; omega
        · have hb1 : (x != y) = true := by simpa using hxy
          have Hne : Hid (decide (xs = ys) = false) := decide_eq_false (ne_of_at Hx.out Hy.out hxy)
          clear hxy
          go_wp2
          go_quiet (fail)
          go_wp2
          go_ret
          exact ⟨by rw [Hne.out]; rfl, _, World.drewN_drewN _ _ _⟩
      · have hkn : k = n := by omega
        have Hxy : Hid (decide (xs = ys) = true) := decide_eq_true (by have := He.out; rw [hkn] at this; rwa [List.take_of_length_le (by omega), List.take_of_length_le (by omega)] at this)
        clear hkn
        go_wp2
        go_ret
        exact ⟨by rw [Hxy.out]; rfl, _, rfl⟩
  · have hne : ((n : Int) != m) = true := by simp; omega
    have Hne : Hid (decide (xs = ys) = false) := decide_eq_false (by rintro rfl; omega)
    go_enter Try.func18, Try.ntmps18
    go_wp2
    go_ret
    exact ⟨by rw [Hne.out]; rfl, 0, rfl⟩

/-! the document's log -/
def rlogA (b : Nat) (most : Int) (kvs : List (Int × Int)) : HA :=
  exA fun x : (Option Addr × Nat) × (Option Addr × Nat) => Holds [cellsA b #[.int .i64 most, .slice x.1.1 kvs.length x.1.2, .slice x.2.1 kvs.length x.2.2] 53, rowA 3 1 (.slice x.1.1 kvs.length x.1.2) kvs.length (ints (kvs.map (·.1))), rowA 2 1 (.slice x.2.1 kvs.length x.2.2) kvs.length (ints (kvs.map (·.2)))]
theorem rlog_open {W w : World} {L : List HA} {b : Nat} {most : Int} {kvs : List (Int × Int)} (h : Star W w (rlogA b most kvs :: L)) : ∃ a c a2 c2, Star W w (cellsA b #[.int .i64 most, .slice a kvs.length c, .slice a2 kvs.length c2] 53 :: rowA 3 1 (.slice a kvs.length c) kvs.length (ints (kvs.map (·.1))) :: rowA 2 1 (.slice a2 kvs.length c2) kvs.length (ints (kvs.map (·.2))) :: L) := by
  obtain ⟨⟨⟨a, c⟩, a2, c2⟩, h⟩ := h.ex
  exact ⟨a, c, a2, c2, h.flat⟩
theorem rlog_shut {W w : World} {L : List HA} {b : Nat} {most : Int} {kvs : List (Int × Int)} {a a2 : Option Addr} {c c2 : Nat} (h : Star W w (cellsA b #[.int .i64 most, .slice a kvs.length c, .slice a2 kvs.length c2] 53 :: rowA 3 1 (.slice a kvs.length c) kvs.length (ints (kvs.map (·.1))) :: rowA 2 1 (.slice a2 kvs.length c2) kvs.length (ints (kvs.map (·.2))) :: L)) : Star W w (rlogA b most kvs :: L) :=
  Star.exI ((a, c), (a2, c2)) (Star.fold (L := [_, _, _]) h)

set_option maxHeartbeats 800000 in
theorem find_any (b : Nat) (most : Int) (kvs : List (Int × Int)) (k : Int) (R : List HA) (W w : World) (hS : Star W w (rlogA b most kvs :: R)) (hn : kvs.length ≤ 1000000) :
    Calls Try.prog 36 #[.pointer (some ⟨b, 0, none⟩), .int .i64 k] w fun e w' => e = .returned (.int .i64 (placeZ (kvs.map (·.1)) k)) ∧ w = w' := by
  obtain ⟨a, c, a2, c2, h1⟩ := rlog_open hS
  have c1 : w.cell? ⟨b, 1, none⟩ = some (.slice a kvs.length c) := h1.cell 1
  have hA := (h1.pull 1).rowSl
  generalize hks : kvs.map (·.1) = ks at hA ⊢
  have hkl : ks.length = kvs.length := by rw [← hks]; simp
  generalize hn' : kvs.length = n at c1 hA hkl hn
  clear hS h1 hks hn'
  go_enter Try.func36, Try.ntmps36
  go_wp2
  go_loopw [5] (fun i wr => ∃ j : Nat, j ≤ n ∧ i = .int .i64 j ∧ Hid (k ∉ ks.take j) ∧ wr = w) (fun i _ => n - (intOf i).toNat)
  case atStart => exact ⟨0, Nat.zero_le _, rfl, by simp [Hid], rfl⟩
  case round =>
    obtain ⟨j, hj, rfl, hmiss, rfl⟩ := hrel
    by_cases hjn : j < n
    · obtain ⟨g, o, u, rfl, hu, hcu⟩ := hA.at1 hjn
      obtain ⟨x, rfl, hx⟩ := ints_get hu
      have Hx := Lib.hid hx
      clear hA hu hx
      by_cases hxk : x = k
      · subst hxk
        have hkk : (x == x) = true := by simp
        have hP : Hid (placeZ ks x = j) := placeZ_hit Hx.out hmiss.out
        go_wp2
        go_ret
        exact ⟨by rw [hP.out]; rfl, rfl⟩
      · have hkk : (x == k) = false := by simpa using hxk
        have hm2 : Hid (k ∉ ks.take (j + 1)) := take_miss Hx.out hxk hmiss.out
        clear hxk
        go_wp2
        go_roundw
        case rel => exact ⟨j + 1, by omega, by go_num, hm2, by first | rfl | trivial⟩
        case measure => simp [intOf]; omega
    · have hP : Hid (placeZ ks k = -1) := placeZ_miss (by have := hmiss.out; rwa [List.take_of_length_le (by omega)] at this)
      go_wp2
      go_ret
      exact ⟨by rw [hP.out]; rfl, rfl⟩
end Go.Proofs.Ytabpipdhoflgpaa
