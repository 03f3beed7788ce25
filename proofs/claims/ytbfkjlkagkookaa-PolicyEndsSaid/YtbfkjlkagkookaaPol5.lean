/- Contracts of lent and of whole, walked: lemmas for the laws of policy. -/
import Derived.Test.YtbfkjlkagkookaaPol4
import Derived.BigQuiet
import Derived.Laws.StructEq
namespace Go.Proofs.Ytbfkjlkagkookaa
open Go.RowKit
set_option linter.unusedVariables false

theorem Try.info33 : (Try.prog.info? 33).map (fun i => (i.zero, i.size, i.bytes)) = some (some (.agg #[.int .i64 0, .int .i64 0, .int .i64 0, .int .i64 0]), 4, 32) := by kernel_rfl
theorem info_parts {P : Program} {e : TypeId} {z : Value} {size bytes : Nat} (h : (P.info? e).map (fun i => (i.zero, i.size, i.bytes)) = some (some z, size, bytes)) : ∃ i, P.info? e = some i ∧ i.zero = some z ∧ i.size = size ∧ i.bytes = bytes := by
  obtain ⟨i, hi, he⟩ := Option.map_eq_some_iff.1 h
  injection he with h1 h2
  injection h2 with h2 h3
  exact ⟨i, hi, h1, h2, h3⟩

def vcells (v : Vic) : List Value := [.int .i64 v.1, .int .i64 v.2.1, .int .i64 v.2.2.1, .int .i64 v.2.2.2]
def vrow (vs : List Vic) : List Value := vs.flatMap vcells
theorem vrow_length (vs : List Vic) : (vrow vs).length = vs.length * 4 := by
  induction vs with
  | nil => rfl
  | cons v vs ih => simp only [vrow, List.flatMap_cons, List.length_append, List.length_cons] at ih ⊢; rw [ih]; simp [vcells]; omega
theorem vrow_append (vs us : List Vic) : vrow (vs ++ us) = vrow vs ++ vrow us := by simp [vrow]
theorem vrow_get (vs : List Vic) (k j : Nat) (v : Vic) (hv : vs[k]? = some v) (hj : j < 4) : (vrow vs)[k * 4 + j]? = (vcells v)[j]? := by
  induction vs generalizing k with
  | nil => simp at hv
  | cons u vs ih =>
    have hl : (vcells u).length = 4 := rfl
    cases k with
    | zero =>
      simp only [List.getElem?_cons_zero, Option.some.injEq] at hv
      subst hv
      simp only [vrow, List.flatMap_cons]
      rw [List.getElem?_append_left (by omega)]
      simp
    | succ k =>
      simp only [List.getElem?_cons_succ] at hv
      have := ih k hv
      simp only [vrow, List.flatMap_cons] at this ⊢
      rw [List.getElem?_append_right (by omega), hl, ← this]
      congr 1
      omega
theorem vrow_get_inv (vs : List Vic) (i : Nat) (u : Value) (hu : (vrow vs)[i]? = some u) : ∃ v, vs[i / 4]? = some v ∧ (vcells v)[i % 4]? = some u := by
  have hi : i < (vrow vs).length := (List.getElem?_eq_some_iff.1 hu).1
  rw [vrow_length] at hi
  have hk : i / 4 < vs.length := by omega
  refine ⟨vs[i / 4], List.getElem?_eq_getElem hk, ?_⟩
  rw [← vrow_get vs (i / 4) (i % 4) _ (List.getElem?_eq_getElem hk) (by omega), ← hu]
  congr 1
  omega
theorem VSl.sl {w : World} {A : Option Addr} {n : Nat} {vs : List Vic} (h : VSl w A n vs) : Sl w A n 4 (vrow vs) := by
  refine ⟨by rw [vrow_length, h.1], fun h0 => ?_⟩
  obtain ⟨g, o, rfl, _⟩ := h.2 0 _ (List.getElem?_eq_getElem (by rw [h.1]; exact h0))
  refine ⟨g, o, rfl, fun j u hu => ?_⟩
  obtain ⟨v, hv, hu⟩ := vrow_get_inv vs j u hu
  obtain ⟨g', o', e, c0, c1, c2, c3⟩ := h.2 _ v hv
  injection e with e
  injection e with e1 e2
  subst e1 e2
  have hj : o + j = o + j / 4 * 4 + j % 4 := by omega
  rw [hj]
  have hm : j % 4 < 4 := Nat.mod_lt _ (by decide)
  generalize j % 4 = m at hu hm
  match m, hm with
  | 0, _ => simp [vcells] at hu; subst hu; exact c0
  | 1, _ => simp [vcells] at hu; subst hu; exact c1
  | 2, _ => simp [vcells] at hu; subst hu; exact c2
  | 3, _ => simp [vcells] at hu; subst hu; exact c3
theorem Sl.vsl {w : World} {A : Option Addr} {n : Nat} {vs : List Vic} (h : Sl w A n 4 (vrow vs)) : VSl w A n vs := by
  have hn : vs.length = n := by have := h.1; rw [vrow_length] at this; omega
  refine ⟨hn, fun k v hv => ?_⟩
  have hk : k < vs.length := (List.getElem?_eq_some_iff.1 hv).1
  obtain ⟨g, o, rfl, hc⟩ := h.2 (by omega)
  refine ⟨g, o, rfl, ?_, ?_, ?_, ?_⟩
  · exact hc _ _ (vrow_get vs k 0 v hv (by decide))
  · exact hc _ _ (vrow_get vs k 1 v hv (by decide))
  · exact hc _ _ (vrow_get vs k 2 v hv (by decide))
  · exact hc _ _ (vrow_get vs k 3 v hv (by decide))
theorem VSl.front {w : World} {A : Option Addr} {n : Nat} {vs us : List Vic} (h : VSl w A n (vs ++ us)) : VSl w A vs.length vs := by
  refine ⟨rfl, fun k v hv => h.2 k v ?_⟩
  rw [List.getElem?_append_left (List.getElem?_eq_some_iff.1 hv).1]; exact hv
theorem vrow_one (vs : List Vic) : ∀ u ∈ vrow vs, u.oneCell' = true := by
  intro u hu
  simp only [vrow, List.mem_flatMap] at hu
  obtain ⟨v, _, hu⟩ := hu
  simp only [vcells, List.mem_cons, List.not_mem_nil, or_false] at hu
  rcases hu with rfl | rfl | rfl | rfl <;> rfl
/-- the mark behind what was lent -/
def markV : Vic := (-77, 0, 0, 0)
theorem cell_four_new (w : World) (x y z u : Value) (t : TypeId) : ∀ j v, [x, y, z, u][j]? = some v → (w.alloc (.cells #[x, y, z, u] t)).cell? ((⟨w.heap.size, 0, none⟩ : Addr).add j) = some v := by
  intro j v hv
  have hadd : (⟨w.heap.size, 0, none⟩ : Addr).add j = ⟨w.heap.size, j, none⟩ := by unfold Addr.add; split <;> simp_all
  rw [hadd]
  have hS := (Star.begin w).new (.cells #[x, y, z, u] t)
  rw [hS.cell j]
  simpa using hv

section
variable (A : Option Addr) (n cap : Nat) (vs : List Vic) (R : List HA) (W w : World)
set_option maxHeartbeats 800000 in
theorem lent_any (hS : Star W w R) (hv : VSl w A n vs) (hb : (n + 1) * 32 ≤ 140737488355328) :
    Calls Try.prog 8 #[.slice A n cap] w fun e w' => ∃ a c, e = .returned (.slice a n c) ∧ n + 1 ≤ c ∧ c ≤ maxLen ∧ Star W w' (rowA 33 4 (.slice a (n + 1) c) (n + 1) (vrow (vs ++ [markV])) :: R) := by
  obtain ⟨i0, hi, hz0, hz1, hz2⟩ := info_parts Try.info33
  have hN := (hS.rowNew 33 4 #[] 0 (by simp [maxLen]) rfl)
  have hvl := hv.1
  have hsrc := (hv.below ((Below.refl w.heap.size w).alloc (Nat.le_refl _) (.cells #[] 33))).sl.src
  have hmx : n + 1 ≤ maxLen := by simp only [maxLen]; omega
  clear hv hS
  have tok1 : True := trivial
  go_enter Try.func8, Try.ntmps8
  go_wp2_with (at_builtin; first
    | (have _t := tok1; refine wpList_append_star_any rfl _ _ 24 rfl 33 i0 _ 4 32 Try.underlying24 hi hz0 hz1 hz2 rfl (by decide) _ _ _ rfl hN A n cap (vrow vs) rfl (by rw [vrow_length, hvl]) hsrc (vrow_one vs) (by omega) (by omega) ?_; intro a' c' w1 hS1; simp only [Nat.zero_add, List.nil_append] at hS1; clear hN hsrc tok1)
    | (refine wpList_append_star rfl _ _ 24 rfl 33 i0 _ 4 32 Try.underlying24 hi hz0 hz1 hz2 rfl (by decide) _ _ _ rfl ((hS1.new _).pull 1) ⟨w1.heap.size, 0, none⟩ 1 1 [.int .i64 (-77), .int .i64 0, .int .i64 0, .int .i64 0] rfl rfl (cell_four_new _ _ _ _ _ _) (by simp [Value.oneCell']) (by omega) (by omega) ?_; intro a2 c2 w2 hS2; have hcap := hS2.rowCap; have hn1 : n ≤ c2 := by omega))
  go_ret
  refine ⟨_, _, rfl, by omega, hcap.2, ?_⟩
  simpa [vrow_append, vrow, vcells, markV] using (hS2.pull 1).drop

end
theorem eq33 (x1 x2 x3 x4 y1 y2 y3 y4 : Int) (w : World) : (binOp .eql 33 (.agg #[.int .i64 x1, .int .i64 x2, .int .i64 x3, .int .i64 x4]) (.agg #[.int .i64 y1, .int .i64 y2, .int .i64 y3, .int .i64 y4])).run Try.prog w = .ok (.bool (decide ((x1, x2, x3, x4) = (y1, y2, y3, y4)))) w := by
  have hs : Try.prog.stoodInHeld 33 = false := by kernel_rfl
  simp only [Prod.mk.injEq, go_sem]
  simp [go_sem, Op.eqFields]
  by_cases h1 : x1 = y1 <;> by_cases h2 : x2 = y2 <;> by_cases h3 : x3 = y3 <;> by_cases h4 : x4 = y4 <;> simp [h1, h2, h3, h4]
theorem neq33 (x1 x2 x3 x4 y1 y2 y3 y4 : Int) (w : World) : (binOp .neq 33 (.agg #[.int .i64 x1, .int .i64 x2, .int .i64 x3, .int .i64 x4]) (.agg #[.int .i64 y1, .int .i64 y2, .int .i64 y3, .int .i64 y4])).run Try.prog w = .ok (.bool (!decide ((x1, x2, x3, x4) = (y1, y2, y3, y4)))) w := by
  have hs : Try.prog.stoodInHeld 33 = false := by kernel_rfl
  simp only [Prod.mk.injEq, go_sem]
  simp [go_sem, Op.eqFields]
  by_cases h1 : x1 = y1 <;> by_cases h2 : x2 = y2 <;> by_cases h3 : x3 = y3 <;> by_cases h4 : x4 = y4 <;> simp [h1, h2, h3, h4]

set_option maxHeartbeats 1600000 in
theorem whole_any (a B : Option Addr) (c cap n : Nat) (vs : List Vic) (w : World) (ha : VSl w a (n + 1) (vs ++ [markV])) (hb : VSl w B n vs) (hc : n + 1 ≤ c) (hm : c ≤ maxLen) :
    Calls Try.prog 11 #[.slice a n c, .slice B n cap] w fun e w' => e = .returned (.bool true) ∧ ∃ m, w' = w.drewN m := by
  have hvl := hb.1
  have hcm : c ≤ 9223372036854775807 := by simpa [maxLen] using hm
  obtain ⟨g, o, rfl, m0, m1, m2, m3⟩ := ha.2 n markV (by rw [List.getElem?_append_right (by omega)]; simp [hvl])
  simp only [markV] at m0 m1 m2 m3
  have hlt : (n : Int) + 1 ≤ c := by omega
  have Ha := Lib.hid ha
  have Hb := Lib.hid hb
  have M0 := Lib.hid m0
  have M1 := Lib.hid m1
  have M2 := Lib.hid m2
  have M3 := Lib.hid m3
  clear ha hb hm m0 m1 m2 m3
  go_enter Try.func11, Try.ntmps11
  go_wp2
  go_loopw [6] (fun i wr => ∃ k : Nat, k ≤ n ∧ i = .int .i64 k ∧ ∃ q, wr = w.drewN q) (fun i _ => n - (intOf i).toNat)
  case atStart => exact ⟨0, Nat.zero_le _, rfl, 0, rfl⟩
  case round =>
    obtain ⟨k, hk, rfl, q, rfl⟩ := hrel
    by_cases hlt1 : k < n
    · obtain ⟨v, hvk⟩ : ∃ v, vs[k]? = some v := ⟨_, List.getElem?_eq_getElem (by omega)⟩
      obtain ⟨g', o', rfl, b0, b1, b2, b3⟩ := Hb.out.2 k v hvk
      obtain ⟨g2, o2, e, a0, a1, a2, a3⟩ := Ha.out.2 k v (by rw [List.getElem?_append_left (by omega)]; exact hvk)
      injection e with e
      injection e with e1 e2
      subst e1 e2
      obtain ⟨v1, v2, v3, v4⟩ := v
      simp only at a0 a1 a2 a3 b0 b1 b2 b3
      have hq := fun w => neq33 v1 v2 v3 v4 v1 v2 v3 v4 w
      simp only [decide_true, Bool.not_true] at hq
      have Hvk := Lib.hid hvk
      clear hvk hvl
      go_wp2
      go_quiet (fail)
      go_wp2
      go_roundw
      case rel => exact ⟨k + 1, by omega, by go_num, _, rfl⟩
      case measure => simp [intOf]; omega
    · have hkn : k = n := by omega
      subst hkn
      have m0 := M0.out
      have m1 := M1.out
      have m2 := M2.out
      have m3 := M3.out
      have hq := fun w => eq33 (-77) 0 0 0 (-77) 0 0 0 w
      simp only [decide_true] at hq
      go_wp2
      go_ret
      exact ⟨rfl, _, rfl⟩
end Go.Proofs.Ytbfkjlkagkookaa
