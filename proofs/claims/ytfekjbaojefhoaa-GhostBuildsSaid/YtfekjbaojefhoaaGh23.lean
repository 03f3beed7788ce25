/- The comparer of Final, and its sort at any length: lemmas for the laws of ghost. -/
import Derived.Test.YtfekjbaojefhoaaGh18
import Derived.Test.YtfekjbaojefhoaaSrt6
import Derived.Deep.QuietTactic
namespace Go.Proofs.Ytfekjbaojefhoaa
open Go.RowKit Go.Shelf
set_option linter.unusedVariables false

def cmpI (a b : Int) : Int := if a < b then -1 else if b < a then 1 else 0
theorem cmp_any (a b : Int) (w : World) : Calls Try.prog 35 #[.int .i64 a, .int .i64 b] w fun e w' => e = .returned (.int .i64 (cmpI a b)) ∧ w' = w := by
  rcases Int.lt_trichotomy a b with h | h | h
  · have e : cmpI a b = -1 := by simp [cmpI, h]
    rw [e]
    clear e
    go_enter Try.func35, Try.ntmps35
    go_wp2
    go_ret
    exact ⟨rfl, rfl⟩
  · subst h
    have e : cmpI a a = 0 := by simp [cmpI]
    rw [e]
    clear e
    go_enter Try.func35, Try.ntmps35
    go_wp2
    go_ret
    exact ⟨rfl, rfl⟩
  · have h2 : ¬ a < b := by omega
    have e : cmpI a b = 1 := by simp [cmpI, h, h2]
    rw [e]
    clear e
    go_enter Try.func35, Try.ntmps35
    go_wp2
    go_ret
    exact ⟨rfl, rfl⟩
def gateOf (sts : List Sto) (i : Nat) : Int := (sts[i]?.map (·.gate)).getD 0
def cvG (sts : List Sto) (x y : Nat) : Int := cmpI (gateOf sts x) (gateOf sts y)
theorem less_cmp (a b : Int) : decide (cmpI a b < 0) = decide (a < b) := by
  unfold cmpI
  by_cases h : a < b
  · simp [h]
  · by_cases h2 : b < a <;> simp [h, h2]
theorem weak_gate (sts : List Sto) : Weak (lessOf (cvG sts)) := by
  have e : ∀ x y, lessOf (cvG sts) x y = decide (gateOf sts x < gateOf sts y) := fun x y => less_cmp _ _
  refine ⟨fun x y h => ?_, fun x y z h => ?_⟩
  · rw [e] at h ⊢
    have := of_decide_eq_true h
    exact decide_eq_false (by omega)
  · rw [e] at h
    rw [e, e, decide_eq_true_eq, decide_eq_true_eq]
    have := of_decide_eq_true h
    omega
set_option maxRecDepth 100000 in
theorem cl_any (B : Option Addr) (m d b : Nat) (sts : List Sto) (vs : List Value) (x y : Nat) (w : World) (hx : x < m) (hy : y < m) (hT : Stories w B m sts vs) (hb : w.cell? ⟨b, 0, none⟩ = some (.slice B m d)) (hm : m ≤ 17592186044416) :
    Calls Try.prog 34 #[.int .i64 x, .int .i64 y, .pointer (some ⟨b, 0, none⟩)] w fun e w' => e = .returned (.int .i64 (cvG sts x y)) ∧ ∃ q, w' = w.drewN q := by
  obtain ⟨s, hs⟩ : ∃ s, sts[x]? = some s := ⟨_, List.getElem?_eq_getElem (by have := hT.ns; omega)⟩
  obtain ⟨v, hv⟩ : ∃ v, vs[x]? = some v := ⟨_, List.getElem?_eq_getElem (by have := hT.nv; omega)⟩
  obtain ⟨s', hs'⟩ : ∃ s, sts[y]? = some s := ⟨_, List.getElem?_eq_getElem (by have := hT.ns; omega)⟩
  obtain ⟨v', hv'⟩ : ∃ v, vs[y]? = some v := ⟨_, List.getElem?_eq_getElem (by have := hT.nv; omega)⟩
  obtain ⟨g, o, rfl, hg, ca⟩ := hT.row.row hx (by omega)
  obtain ⟨g', o', e, hg', cb⟩ := hT.row.row hy (by omega)
  injection e with e
  injection e with e1 e2
  subst e1 e2
  have a8 : w.cell? ⟨g, o + x * 10 + 8, none⟩ = some (.int .i64 s.gate) := ca 8 _ (by rw [stosC_at hs hv (by omega)]; rfl)
  have b8 : w.cell? ⟨g, o + y * 10 + 8, none⟩ = some (.int .i64 s'.gate) := cb 8 _ (by rw [stosC_at hs' hv' (by omega)]; rfl)
  have e1 : cvG sts x y = cmpI s.gate s'.gate := by simp [cvG, gateOf, hs, hs']
  rw [e1]
  have hxz : (x : Int) < m := by omega
  have hyz : (y : Int) < m := by omega
  clear hT ca cb hs hv hs' hv' e1
  go_enter Try.func34, Try.ntmps34
  go_wp2_with fail
  go_quiet ((go_at_call 35; exact quiet_left ((cmp_any _ _ _).mono fun _ _ h => ⟨h.1, h.2.symm⟩)))
  go_wp2
  go_ret
  exact ⟨rfl, _, rfl⟩
theorem idx_nats (l : List Nat) : idxC l = natsC l := rfl
set_option maxRecDepth 100000 in
theorem ins_none (a : Option Addr) (c : Nat) (f : Value) (w : World) : Calls Try.prog 39 #[.slice a 0 c, .int .i64 0, .int .i64 0, f] w fun e w' => e = .returned (.tuple #[]) ∧ w' = w := by
  go_enter Try.func39, Try.ntmps39
  go_wp2
  go_loopw [8] (fun i wr => i = .int .i64 1 ∧ wr = w) (fun _ _ => 0)
  case atStart => exact ⟨by go_num, rfl⟩
  case round =>
    obtain ⟨rfl, rfl⟩ := hrel
    go_wp2
    go_end0
    exact ⟨rfl, rfl⟩
set_option maxRecDepth 100000 in
theorem stable_none (a : Option Addr) (c : Nat) (f : Value) (w : World) : Calls Try.prog 37 #[.slice a 0 c, .int .i64 0, f] w fun e w' => e = .returned (.tuple #[]) ∧ w' = w := by
  go_enter Try.func37, Try.ntmps37
  go_wp2
  go_loopw [7, 8] (fun i j wr => i = .int .i64 0 ∧ j = .int .i64 20 ∧ wr = w) (fun _ _ _ => 0)
  case atStart => exact ⟨by go_num, by go_num, rfl⟩
  case round =>
    obtain ⟨rfl, rfl, rfl⟩ := hrel
    go_wp2_with fail
    refine (ins_none a c f _).mono ?_
    rintro e w' ⟨rfl, rfl⟩
    go_wp2_with fail
    go_loopw [6] (fun i wz => i = .int .i64 20 ∧ wz = w') (fun _ _ => 0)
    case atStart => exact ⟨by go_num, rfl⟩
    case round =>
      obtain ⟨rfl, rfl⟩ := hrel
      go_wp2
      go_end0
      exact ⟨rfl, rfl⟩
theorem sort_none (a : Option Addr) (c : Nat) (f : Value) (w : World) : Calls Try.prog 33 #[.slice a 0 c, f] w fun e w' => e = .returned (.tuple #[]) ∧ w' = w := by
  go_enter Try.func33, Try.ntmps33
  go_wp2_with fail
  refine (stable_none a c f _).mono ?_
  rintro e w' ⟨rfl, rfl⟩
  go_wp2
  go_end0
  exact ⟨rfl, rfl⟩
/-- a list put in order, in plain Lean -/
def insT (less : Nat → Nat → Bool) (x : Nat) : List Nat → List Nat
  | [] => [x]
  | y :: l => if less x y = true ∨ (less y x = false ∧ x < y) then x :: y :: l else y :: insT less x l
def sortT (less : Nat → Nat → Bool) : List Nat → List Nat
  | [] => []
  | x :: l => insT less x (sortT less l)
theorem insT_perm (less : Nat → Nat → Bool) (x : Nat) : ∀ l, (insT less x l).Perm (x :: l)
  | [] => List.Perm.refl _
  | y :: l => by
    unfold insT
    split
    · exact List.Perm.refl _
    · exact (List.Perm.cons y (insT_perm less x l)).trans (List.Perm.swap x y l)
theorem tot_total {less : Nat → Nat → Bool} {x y : Nat} (h : ¬ tot less x y) (hne : x ≠ y) : tot less y x := by
  unfold tot at h ⊢
  cases hy : less y x with
  | true => exact .inl rfl
  | false =>
    refine .inr ⟨?_, ?_⟩
    · cases hx : less x y with
      | false => rfl
      | true => exact absurd (.inl hx) h
    · rcases Nat.lt_trichotomy x y with k | k | k
      · exact absurd (.inr ⟨hy, k⟩) h
      · exact absurd k hne
      · exact k
theorem insT_sorted {less : Nat → Nat → Bool} (Wk : Weak less) (x : Nat) : ∀ l, (∀ y ∈ l, x ≠ y) → l.Pairwise (tot less) → (insT less x l).Pairwise (tot less)
  | [], _, _ => List.pairwise_singleton _ _
  | y :: l, hne, h => by
    unfold insT
    have hp := List.pairwise_cons.1 h
    split
    · rename_i hc
      refine List.pairwise_cons.2 ⟨fun z hz => ?_, h⟩
      rcases List.mem_cons.1 hz with rfl | hz
      · exact hc
      · exact tot_trans Wk hc (hp.1 z hz)
    · rename_i hc
      refine List.pairwise_cons.2 ⟨fun z hz => ?_, insT_sorted Wk x l (fun z hz => hne z (List.mem_cons_of_mem _ hz)) hp.2⟩
      rcases List.mem_cons.1 ((insT_perm less x l).subset hz) with rfl | hz
      · exact tot_total hc (hne y List.mem_cons_self)
      · exact hp.1 z hz
theorem sortT_perm (less : Nat → Nat → Bool) : ∀ l, (sortT less l).Perm l
  | [] => List.Perm.refl _
  | x :: l => (insT_perm less x _).trans (List.Perm.cons x (sortT_perm less l))
theorem sortT_sp {less : Nat → Nat → Bool} (Wk : Weak less) : ∀ l : List Nat, l.Pairwise (· < ·) → SP less (sortT less l) l
  | [], _ => ⟨List.Perm.refl _, List.Pairwise.nil⟩
  | x :: l, h => by
    have hp := List.pairwise_cons.1 h
    refine ⟨sortT_perm less (x :: l), insT_sorted Wk x _ (fun y hy => ?_) (sortT_sp Wk l hp.2).2⟩
    have := hp.1 y ((sortT_perm less l).subset hy)
    omega
theorem byOf_lt (sts : List Sto) (j : Nat) : (byOf sts j).Pairwise (· < ·) := List.Pairwise.sublist List.filter_sublist List.pairwise_lt_range
theorem byOf_mem {sts : List Sto} {j i : Nat} (h : i ∈ byOf sts j) : i < j := by
  rw [byOf, List.mem_filter, List.mem_range] at h
  exact h.1
def ordOf (sts : List Sto) (m : Nat) : List Nat := sortT (lessOf (cvG sts)) (byOf sts m)
theorem sorts_to (w : World) (B : Option Addr) (m d : Nat) (sts : List Sto) (vs : List Value) (hT : Stories w B m sts vs) (hm : m ≤ 17592186044416) : SortsTo w B m d (byOf sts m) (ordOf sts m) := by
  have hsp := sortT_sp (weak_gate sts) (byOf sts m) (byOf_lt sts m)
  have hlen : (ordOf sts m).length = (byOf sts m).length := hsp.1.length_eq
  refine ⟨hlen, fun i hi => byOf_mem (hsp.1.subset hi), fun a q W L hS => ?_⟩
  rcases Nat.eq_zero_or_pos (byOf sts m).length with h0 | h0
  · have e1 : byOf sts m = [] := List.eq_nil_of_length_eq_zero h0
    have e2 : ordOf sts m = [] := List.eq_nil_of_length_eq_zero (by omega)
    rw [e1] at hS ⊢
    rw [e2]
    refine (sort_none a q _ W).mono ?_
    rintro e w' ⟨rfl, rfl⟩
    exact ⟨rfl, hS⟩
  · obtain ⟨g, rfl, _⟩ := hS.rowAt (by omega)
    have hbl := byOf_len sts m
    refine (sort_any g (byOf sts m).length q (byOf sts m) (.pointer (some ⟨w.heap.size, 0, none⟩)) (· < m) (cvG sts) w W _ (by omega) (byOf_lt sts m) (fun x hx => byOf_mem hx) (weak_gate sts) (fun l W' x y hx hy hS' => ?_) hS).mono ?_
    · have h1 := hS'.pull 1
      have hO : Star w W' [oldA w] := (Star.fold (M := [oldA w]) hS'.drop.drop).drop
      exact cl_any B m d w.heap.size sts vs x y W' hx hy
        ⟨hT.row.after (by omega) hO, hT.ns, hT.nv, fun i s v hs hv => by
          obtain ⟨A, k, c, e, hk, hms, hb⟩ := hT.mv i s v hs hv
          exact ⟨A, k, c, e, hk, hms.after (by omega) hO, hb⟩⟩ (h1.cell 0) hm
    · rintro e w' ⟨rfl, z, hz, h1⟩
      have : z = ordOf sts m := sorted_unique (weak_gate sts) (hz.1.trans hsp.1.symm) hz.2 hsp.2
      rw [this] at h1
      exact ⟨rfl, h1⟩
end Go.Proofs.Ytfekjbaojefhoaa
