/- Contracts of policy's table of rules and of Verdict, walked: lemmas for the laws of policy. -/
import Derived.Test.YtbfkjlkagkookaaPol1
namespace Go.Proofs.Ytbfkjlkagkookaa
open Go.RowKit
set_option linter.unusedVariables false

/-- victims as a slice's cells: slot, generation, stamp, thread -/
abbrev Vic := Int × Int × Int × Int
def VSl (w : World) (A : Option Addr) (n : Nat) (vs : List Vic) : Prop :=
  vs.length = n ∧ ∀ (k : Nat) (v : Vic), vs[k]? = some v → ∃ g o, A = some ⟨g, o, none⟩ ∧ w.cell? ⟨g, o + k * 4, none⟩ = some (.int .i64 v.1) ∧ w.cell? ⟨g, o + k * 4 + 1, none⟩ = some (.int .i64 v.2.1) ∧ w.cell? ⟨g, o + k * 4 + 2, none⟩ = some (.int .i64 v.2.2.1) ∧ w.cell? ⟨g, o + k * 4 + 3, none⟩ = some (.int .i64 v.2.2.2)
theorem VSl.below {w w' : World} {A : Option Addr} {n : Nat} {vs : List Vic} (h : VSl w A n vs) (hb : Below w.heap.size w w') : VSl w' A n vs := by
  refine ⟨h.1, fun k v hv => ?_⟩
  obtain ⟨g, o, e, c0, c1, c2, c3⟩ := h.2 k v hv
  have hg : g < w.heap.size := World.block_lt_of_cell? w _ c0
  exact ⟨g, o, e, by rw [hb.cell (p := ⟨g, _, none⟩) hg]; exact c0, by rw [hb.cell (p := ⟨g, _, none⟩) hg]; exact c1, by rw [hb.cell (p := ⟨g, _, none⟩) hg]; exact c2, by rw [hb.cell (p := ⟨g, _, none⟩) hg]; exact c3⟩

theorem zero50 (w : World) : (zeroValue 50).run Try.prog w = .ok .nilFunc w := by kernel_rfl
def fnV (k : Nat) : Value := .func (.func k) #[] #[]
def ruleM : List (Int × Value) := [(1, fnV 25), (2, fnV 26), (3, fnV 27)]

set_option maxHeartbeats 400000 in
theorem rules_any (R : List HA) (W w : World) (hS : Star W w R) : Calls Try.prog 22 #[] w fun e w' => ∃ b, e = .returned (.map (some b)) ∧ Star W w' (mapA encI b ruleM :: R) := by
  have hmm := @run_makeMap Try.prog
  have h1 := hS.mapNew encI
  have tok1 : True := trivial
  have tok2 : True := trivial
  go_enter Try.func22, Try.ntmps22
  go_wp2_with (first
    | (have _t := tok1; refine wpList_insert_star rfl _ _ _ 51 rfl Try.underlying51 Try.underlying3 encI_key encI_inj rfl 1 rfl _ rfl h1 ?_; intro w2 h2; clear tok1)
    | (have _t := tok2; refine wpList_insert_star rfl _ _ _ 51 rfl Try.underlying51 Try.underlying3 encI_key encI_inj rfl 2 rfl _ rfl h2 ?_; intro w3 h3; clear tok2)
    | (refine wpList_insert_star rfl _ _ _ 51 rfl Try.underlying51 Try.underlying3 encI_key encI_inj rfl 3 rfl _ rfl h3 ?_; intro w4 h4))
  go_ret
  exact ⟨_, rfl, h4⟩

section
variable (c : Cfg) (stamp defers : Int) (A : Option Addr) (n cap : Nat) (w : World)
def comm (c : Cfg) (stamp defers : Int) (A : Option Addr) (n cap : Nat) : Value := .agg #[.int .i64 c.cells, .int .i64 c.slots, .int .i64 c.bits, .int .i64 c.tag, .int .i64 c.bias, .int .i64 c.defer_, .int .i64 stamp, .int .i64 defers, .slice A n cap]
set_option maxHeartbeats 400000 in
theorem rule1 : Calls Try.prog 25 #[comm c stamp defers A n cap] w fun e w' => e = .returned (.int .i64 1) ∧ Below w.heap.size w w' := by
  unfold comm
  go_enter Try.func25, Try.ntmps25
  go_wp2
  go_ret
  exact ⟨rfl, (Below.refl _ _).alloc (Nat.le_refl _) _⟩
def rule2V (bias defer_ : Int) (n : Nat) (defers : Int) : Int := if bias < n ∧ defers < defer_ then 2 else 1
set_option maxHeartbeats 400000 in
theorem rule2 : Calls Try.prog 26 #[comm c stamp defers A n cap] w fun e w' => e = .returned (.int .i64 (rule2V c.bias c.defer_ n defers)) ∧ Below w.heap.size w w' := by
  obtain ⟨x1, x2, x3, x4, x5, x6⟩ := c
  simp only [comm]
  have hb : ∀ o, Below w.heap.size w (w.alloc o) := fun o => (Below.refl _ _).alloc (Nat.le_refl _) _
  by_cases h1 : x5 < n
  · by_cases h2 : defers < x6
    · have E : Hid (rule2V x5 x6 n defers = 2) := if_pos ⟨h1, h2⟩
      go_enter Try.func26, Try.ntmps26
      go_wp2
      go_ret
      exact ⟨by rw [E.out]; rfl, hb _⟩
    · have E : Hid (rule2V x5 x6 n defers = 1) := if_neg fun h => h2 h.2
      go_enter Try.func26, Try.ntmps26
      go_wp2
      go_ret
      exact ⟨by rw [E.out]; rfl, hb _⟩
  · have E : Hid (rule2V x5 x6 n defers = 1) := if_neg fun h => h1 h.1
    go_enter Try.func26, Try.ntmps26
    go_wp2
    go_ret
    exact ⟨by rw [E.out]; rfl, hb _⟩
/-- does a victim have a lesser stamp? -/
def lessV (vs : List Vic) (stamp : Int) : Bool := vs.any fun v => decide (v.2.2.1 < stamp)
theorem lessV_take {vs : List Vic} {k : Nat} {v : Vic} {stamp : Int} (hv : vs[k]? = some v) : lessV (vs.take (k + 1)) stamp = (lessV (vs.take k) stamp || decide (v.2.2.1 < stamp)) := by
  obtain ⟨hk, rfl⟩ := List.getElem?_eq_some_iff.1 hv
  rw [List.take_succ_eq_append_getElem hk]
  simp only [lessV, List.any_append, List.any_cons, List.any_nil, Bool.or_false]
theorem lessV_of {vs : List Vic} {k : Nat} {v : Vic} {stamp : Int} (hv : vs[k]? = some v) (h : v.2.2.1 < stamp) : lessV vs stamp = true := by
  simp only [lessV, List.any_eq_true, decide_eq_true_eq]
  exact ⟨v, List.mem_of_getElem? hv, h⟩
def rule3V (vs : List Vic) (stamp : Int) : Int := if lessV vs stamp then 3 else 1
set_option maxHeartbeats 800000 in
theorem rule3 (vs : List Vic) (hv : VSl w A n vs) (hn : n ≤ 9223372036854775807) : Calls Try.prog 27 #[comm c stamp defers A n cap] w fun e w' => e = .returned (.int .i64 (rule3V vs stamp)) ∧ Below w.heap.size w w' := by
  obtain ⟨x1, x2, x3, x4, x5, x6⟩ := c
  simp only [comm]
  have hS := ((Star.begin w).new (.cells #[.int .i64 x1, .int .i64 x2, .int .i64 x3, .int .i64 x4, .int .i64 x5, .int .i64 x6, .int .i64 stamp, .int .i64 defers, .slice A n cap] 54))
  have Hv := Lib.hid hv
  have hvl := hv.1
  clear hv
  go_enter Try.func27, Try.ntmps27
  go_wp2
  go_loopw [8] (fun i wr => ∃ k : Nat, k ≤ n ∧ i = .int .i64 k ∧ Hid (lessV (vs.take k) stamp = false) ∧ Star w wr [cellsA w.heap.size #[.int .i64 x1, .int .i64 x2, .int .i64 x3, .int .i64 x4, .int .i64 x5, .int .i64 x6, .int .i64 stamp, .int .i64 defers, .slice A n cap] 54, oldA w]) (fun i _ => n - (intOf i).toNat)
  case atStart => exact ⟨0, Nat.zero_le _, rfl, by simp [Hid, lessV], hS⟩
  case round =>
    obtain ⟨k, hk, rfl, hl, hR⟩ := hrel
    have c6 : wr.cell? ⟨w.heap.size, 6, none⟩ = some (.int .i64 stamp) := hR.cell 6
    have hlt0 := hR.lt
    by_cases hkn : k < n
    · obtain ⟨v, hvk⟩ : ∃ v, vs[k]? = some v := ⟨_, List.getElem?_eq_getElem (by omega)⟩
      obtain ⟨g, o, rfl, c0, c1, c2, c3⟩ := Hv.out.2 k v hvk
      have hg : g < w.heap.size := World.block_lt_of_cell? w _ c0
      have ho := fun j => hR.swap.oldCell (p := ⟨g, j, none⟩) hg
      rw [← ho] at c0 c1 c2 c3
      have ht := lessV_take (stamp := stamp) hvk
      have hof := lessV_of (stamp := stamp) hvk
      obtain ⟨v1, v2, v3, v4⟩ := v
      have Hvk := Lib.hid hvk
      clear ho hS hvk
      by_cases hs : v3 < stamp
      · have E : Hid (rule3V vs stamp = 3) := if_pos (hof hs)
        clear hof ht
        go_wp2
        go_ret
        refine ⟨by rw [E.out]; rfl, ?_⟩
        exact (hR.swap.new _ |>.swap).below
      · have E : Hid (lessV (vs.take (k + 1)) stamp = false) := by rw [ht, hl.out]; exact decide_eq_false hs
        clear hof ht
        go_wp2
        go_roundw
        case rel => exact ⟨k + 1, by omega, by go_num, E, (hR.new _).drop⟩
        case measure => simp [intOf]; omega
    · have E : Hid (rule3V vs stamp = 1) := by
        have := hl.out
        rw [List.take_of_length_le (by omega)] at this
        exact if_neg (by rw [this]; simp)
      go_wp2
      go_ret
      exact ⟨by rw [E.out]; rfl, hR.swap.below⟩
end
end Go.Proofs.Ytbfkjlkagkookaa
