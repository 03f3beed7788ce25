/- A range over a function, its invariant said by assertions on disjoint parts of the heap: lemmas for the laws of ghost. -/
import Derived.Test.YtljdkfhkpjjfgaaGh4
import Derived.RangeFuncNested
import Derived.RangeFuncBound
import Derived.RangeFuncCalls
import Derived.RangeFuncLeaves
import Derived.RangeFuncBox
import Derived.OwnWalkIn
import Derived.TacticsInMore
import Derived.LoopNIn
import Derived.LoopIn
namespace Go.Proofs.Ytljdkfhkpjjfgaa
open Go.RowKit
set_option linter.unusedVariables false

/-- blocks that an invariant may speak of: what lay ahead of the loop; cells that are no loop variable's -/
def okObj : Obj → Bool
  | .cells _ t _ => t != 46
  | _ => false
def cutB (B : Nat) (p : Part) : Part := fun k => match p k with | some o => if k < B ∨ okObj o = true then some o else none | none => none
theorem cutB_le (B : Nat) (p : Part) : Part.le (cutB B p) p := by
  intro k o h
  unfold cutB at h
  split at h
  · rename_i o' ho
    split at h
    · rw [ho]; exact h
    · cases h
  · cases h
theorem cutB_some {B : Nat} {p : Part} {k : Nat} {o : Obj} (h : p k = some o) (hk : k < B ∨ okObj o = true) : cutB B p k = some o := by
  simp only [cutB, h, if_pos hk]
theorem cutB_ok {B : Nat} {p : Part} {k : Nat} {o : Obj} (h : cutB B p k = some o) : k < B ∨ okObj o = true := by
  unfold cutB at h
  split at h
  · split at h
    · rename_i hk; injection h with h; subst h; exact hk
    · cases h
  · cases h
def Cel (B : Nat) (A : HA) : Prop := ∀ p, A p → A (cutB B p)
theorem cel_holds {B : Nat} : ∀ {L : List HA}, (∀ A ∈ L, Cel B A) → Cel B (Holds L)
  | [], _ => fun p _ => trivial
  | A :: L, h => by
    rintro p ⟨a, c, hA, hL, hd, ha, hc⟩
    refine ⟨cutB B a, cutB B c, h A List.mem_cons_self a hA, cel_holds (fun A hA => h A (List.mem_cons_of_mem _ hA)) c hL, fun k o hk => ?_, fun k o hk => ?_, fun k o hk => ?_⟩
    · have h1 := hd k o (cutB_le B a k o hk)
      unfold cutB; rw [h1]
    · exact cutB_some (ha k o (cutB_le B a k o hk)) (cutB_ok hk)
    · exact cutB_some (hc k o (cutB_le B c k o hk)) (cutB_ok hk)
theorem cel_cells {B b : Nat} {cs : Array Value} {t : TypeId} (h : b < B ∨ t ≠ 46) : Cel B (cellsA b cs t) := by
  intro p hp
  exact cutB_some hp (h.imp id fun h => by simp [okObj, h])
theorem cel_row {B size n : Nat} {e : TypeId} {v : Value} {xs : List Value} (he : e ≠ 46) : Cel B (rowA e size v n xs) := by
  rintro p ⟨hl, hp⟩
  refine ⟨hl, ?_⟩
  rcases hp with h | ⟨g, cap, cur, hv, hg, r⟩
  · exact .inl h
  · exact .inr ⟨g, cap, cur, hv, cutB_some hg (.inr (by simp [okObj, he])), r⟩
theorem cel_old {B : Nat} {w0 : World} (h : w0.heap.size ≤ B) : Cel B (oldA w0) := by
  intro p hp k hk
  have := hp k hk
  rw [Array.getElem?_eq_getElem hk] at this ⊢
  exact cutB_some this (.inl (by omega))
theorem cel_map {κ : Type} {B b : Nat} {enc : κ → Value} {m : List (κ × Value)} (h : b < B) : Cel B (mapA enc b m) := by
  rintro p ⟨es, clock, hb, hp⟩
  exact ⟨es, clock, cutB_some hb (.inl h), hp⟩
theorem cel_fact {B : Nat} {q : Prop} : Cel B (factA q) := fun p h => h
theorem cel_at {B b : Nat} {o : Obj} (h : b < B) : Cel B (atA b o) := fun p hp => cutB_some hp (.inl h)
theorem cel_ex {B : Nat} {α : Sort _} {f : α → HA} (h : ∀ x, Cel B (f x)) : Cel B (exA f) := fun p ⟨x, hp⟩ => ⟨x, h x p hp⟩

/-- whatever else lies at or beyond B -/
def restA (B : Nat) (W : World) : HA := fun p => ∀ k o, W.heap[k]? = some o → B ≤ k → okObj o = false → p k = some o
section
variable {w0 W W' : World} {L : List HA} {B : Nat}
theorem Star.rest (h : Star w0 W L) (hc : ∀ A ∈ L, Cel B A) : Star w0 W (restA B W :: L) := by
  obtain ⟨io, hh⟩ := h
  refine ⟨io, fun k => match heapOf W k with | some o => if k < B ∨ okObj o = true then none else some o | none => none, cutB B (heapOf W), ?_, cel_holds hc _ hh, ?_, ?_, cutB_le _ _⟩
  · intro k o hk hB ho
    have : heapOf W k = some o := hk
    simp only [this]
    rw [if_neg (by simp [ho]; omega)]
  · intro k o hk
    dsimp at hk
    split at hk
    · rename_i o' ho
      split at hk
      · cases hk
      · rename_i hn
        unfold cutB
        rw [ho]
        simp only [if_neg hn]
    · cases hk
  · intro k o hk
    dsimp at hk
    split at hk
    · rename_i o' ho
      split at hk
      · cases hk
      · rw [ho]; exact hk
    · cases hk
theorem Star.restAt {o : Obj} {k : Nat} (h : Star w0 W' (restA B W :: L)) (hk : W.heap[k]? = some o) (hB : B ≤ k) (ho : okObj o = false) : W'.heap[k]? = some o := by
  obtain ⟨_, a, c, hA, _, _, ha, _⟩ := h
  exact ha k o (hA k o hk hB ho)
theorem Star.turn {row : Option Nat} (h : Star w0 W L) (hc : ∀ A ∈ L, Cel B A) (hg : W.grownBy W' row) (hr : ∀ r, row = some r → B ≤ r ∧ ∃ o : Obj, W.heap[r]? = some o ∧ o.isCells = false) : Star w0 W' L := by
  refine ⟨⟨hg.os.trans h.1.os, hg.tape.trans h.1.tape, hg.output.trans h.1.output⟩, (cel_holds hc _ h.2).up fun k o hk => ?_⟩
  have h1 := cutB_le _ _ k o hk
  have hlt : k < W.heap.size := (Array.getElem?_eq_some_iff.1 h1).1
  have h2 := cutB_ok hk
  refine (hg.block k hlt ?_).trans h1
  intro e
  obtain ⟨hB, o', ho', hnc⟩ := hr k e.symm
  have : o' = o := by have h3 : W.heap[k]? = some o := h1; rw [h3] at ho'; injection ho' with h; exact h.symm
  subst this
  rcases h2 with h2 | h2
  · omega
  · cases o' <;> simp_all [okObj, Obj.isCells]
theorem Star.putObj {o o' : Obj} {l : Nat} (h : Star w0 W L) (hc : ∀ A ∈ L, Cel B A) (hB : B ≤ l) (hl : W.heap[l]? = some o) (ho : o.isCells = false) : Star w0 (W.putObj l o') L :=
  h.turn hc (grownBy_putObj' W l o') (fun r e => by cases e; exact ⟨hB, o, hl, ho⟩)
theorem Star.keepsFrom (h : Star w0 W' (restA B W :: L)) (hs : W.heap.size ≤ W'.heap.size) : KeepsFrom B W W' :=
  ⟨hs, fun k o hB hk ho => h.restAt hk hB (by cases o <;> simp_all [okObj, Obj.isCells])⟩
theorem Star.belowTwo (h : Star w0 W (L ++ [oldA w0])) {L' : List HA} (h' : Star w0 W' (L' ++ [oldA w0])) (hs : W.heap.size ≤ W'.heap.size) : Below w0.heap.size W W' := by
  have g : ∀ {X : World} {M : List HA}, Star w0 X (M ++ [oldA w0]) → Below w0.heap.size w0 X := by
    intro X M hX
    obtain ⟨io, hh⟩ := hX
    obtain ⟨a, c, _, hO, _, _, hc⟩ := hh.unappend
    exact Star.below (L := []) ⟨io, hO.up hc⟩
  have b1 := g h
  have b2 := g h'
  exact ⟨b2.os.trans b1.os.symm, b2.tape.trans b1.tape.symm, b2.output.trans b1.output.symm, hs, fun k hk => (b2.block k hk).trans (b1.block k hk).symm⟩
end

/-- how a round's body may be left -/
def starPost (w0 : World) (B : Nat) (W : World) (g gr : List Mv → List HA) (pre : List Mv) : Exit → Act → World → Prop
  | .normal, _, W' => W.heap.size ≤ W'.heap.size ∧ Star w0 W' (restA B W :: (g pre ++ [oldA w0]))
  | .ret, _, W' => W.heap.size ≤ W'.heap.size ∧ Star w0 W' (restA B W :: (gr pre ++ [oldA w0]))
  | _, _, _ => False

/-- what a round that goes on keeps: what lay ahead of the function; the iterator's own flag -/
def keepK (n₀ Bw : Nat) (W W' : World) : Prop := Below n₀ W W' ∧ W'.cell? ⟨Bw, 0, none⟩ = W.cell? ⟨Bw, 0, none⟩
theorem wpIn_rangeStar {F : Fence} {n : Nat} {P : Program} {g0 : Operand} {ps : Array Tmp} {assign body : Code} {Q : Exit → Act → World → Prop} {a : Act} {w0 w : World} (xs : List Mv) (Bw : Nat) (u : Value) (hBw : Bw < w.heap.size)
    (hro : F.round = none) (h1 : 1 ≤ n) {gf : Nat} {lb : Array Value} (hg : a.eval g0 = .func (.func gf) #[] lb) (hFg : F.fn gf) (eg : ∀ args w, (callFunc gf args).run P w = .ok (.enter gf args) w)
    (hseq : SeqStopsK F (n - 1) P gf lb (fun m : Mv => #[.agg (mvC m).toArray]) (keepK w0.heap.size Bw) (fun ys => ys = xs) (fun pre => pre <+: xs) xs.length w) (hps : ps.size = 1)
    (g gr : List Mv → List HA) (hcg : ∀ pre, ∀ A ∈ g pre, Cel w.heap.size A) (hcr : ∀ pre, ∀ A ∈ gr pre, Cel w.heap.size A) (act : Mv → Nat → Act) (bx : Bool)
    (hgw : ∀ pre W, Star w0 W (g pre ++ [oldA w0]) → W.cell? ⟨Bw, 0, none⟩ = some u)
    (h0 : Star w0 w (g [] ++ [oldA w0]))
    (hassign : ∀ (l : Nat) (x : Mv) (W : World) (K : Act → World → Prop), (bx = true → K (act x W.heap.size) (W.alloc (.cells (mvC x).toArray 46))) → (bx = false → K (act x 0) W) →
      assign.wpIn (F.inRound l) (n - 1 - 1) P (Exit.then K (fun _ _ _ => False)) { tmps := (ps.zip #[.agg (mvC x).toArray]).foldl (fun t (p, v) => t.setIfInBounds p v) a.tmps, defers := [] } W)
    (hbody : ∀ (l : Nat) (pre : List Mv) (x : Mv) (Bx : Nat) (W : World), Star w0 W (restA w.heap.size W :: (g pre ++ [oldA w0])) → (bx = true → w.heap.size ≤ Bx ∧ W.heap[Bx]? = some (.cells (mvC x).toArray 46 (0, 0))) → w.heap.size ≤ W.heap.size → pre.length < xs.length →
      body.wpIn (F.inRound l) (n - 1 - 1) P (starPost w0 w.heap.size W g gr (pre ++ [x])) (act x Bx) W)
    (hdone : ∀ (D : Nat) (W : World), w.heap.size ≤ D → Star w0 W (g xs ++ [oldA w0]) → W.heap[D]? = some (.deferred (some [])) → Q .normal { a with defers := { target := .collected D, args := #[] } :: a.defers } W)
    (hstop : ∀ (D : Nat) (pre : List Mv) (W : World), w.heap.size ≤ D → pre <+: xs → Star w0 W (gr pre ++ [oldA w0]) → W.heap[D]? = some (.deferred (some [])) → Code.ret.wpIn F n P Q { a with defers := { target := .collected D, args := #[] } :: a.defers } W) :
    (Code.rangeFunc g0 ps assign body).wpIn F n P Q a w := by
  have hw : w0.heap.size ≤ w.heap.size := by
    obtain ⟨io, hh⟩ := h0
    obtain ⟨_, c, _, hO, _, _, hc⟩ := hh.unappend
    exact Star.oldSize (L := []) ⟨io, hO.up hc⟩
  have cg : ∀ pre, ∀ A ∈ g pre ++ [oldA w0], Cel w.heap.size A := fun pre A hA => by
    rcases List.mem_append.1 hA with h | h
    · exact hcg pre A h
    · simp at h; subst h; exact cel_old hw
  have cr : ∀ pre, ∀ A ∈ gr pre ++ [oldA w0], Cel w.heap.size A := fun pre A hA => by
    rcases List.mem_append.1 hA with h | h
    · exact hcr pre A h
    · simp at h; subst h; exact cel_old hw
  refine wpIn_rangeFunc_ownH (w0 := w) hro h1 hg hFg eg hseq (fun h k => ⟨belowK_t h.1 k.1, k.2.trans h.2⟩) (fun W l o o' hl h hc hk => ⟨belowK_b hw W l o o' hl h hc hk, by
      have := grownBy_putObj' W l o'
      exact World.cell?_of_block (this.block Bw (by have := (Array.getElem?_eq_some_iff.1 h).1; omega) (by intro e; injection e with e; omega))⟩) (Below.refl _ _) (fun _ => by rw [hps]; rfl)
    (fun pre W => Star w0 W (g pre ++ [oldA w0]) ∧ w.heap.size ≤ W.heap.size)
    (fun c pre W => c = .ret ∧ Star w0 W (gr pre ++ [oldA w0]))
    (fun s W W' row hs hgr hr => ⟨hs.1.turn (cg s) hgr hr, Nat.le_trans hs.2 hgr.size⟩)
    (fun c s W W' row hs hgr hr => ⟨hs.1, hs.2.turn (cr s) hgr hr⟩)
    ⟨h0, Nat.le_refl _⟩
    (fun x a' W => ∃ Bx, (bx = true → w.heap.size ≤ Bx ∧ W.heap[Bx]? = some (.cells (mvC x).toArray 46 (0, 0))) ∧ a' = act x Bx)
    (fun x a' _ W W' row hs hgr hr => by
      obtain ⟨Bx, hBc, ha⟩ := hs
      refine ⟨Bx, fun hb => ?_, ha⟩
      obtain ⟨hB, hc⟩ := hBc hb
      refine ⟨hB, (hgr.block Bx (Array.getElem?_eq_some_iff.1 hc).1 fun e => ?_).trans hc⟩
      obtain ⟨_, o, ho, hnc⟩ := hr Bx e.symm
      rw [hc] at ho
      injection ho with ho
      subst ho
      cases hnc)
    (fun l pre x W K hI hK => hassign l x W K (fun hb => ?_) (fun hb => ?_)) (fun l pre x a' W hl hlr hI hA hlen => ?_) (fun D ys W hD hS hI hk => ?_) (fun D c pre W hD hS hI hk => ?_)
  · refine hK _ _ ((KeepsOthers.alloc _ _).from _) ⟨(Below.refl _ W).alloc (by have := hI.2; omega) _, World.cell?_of_block (Below.heap_alloc W _ Bw (by have := hI.2; omega))⟩ ⟨(hI.1.new _).drop, by simp; have := hI.2; omega⟩ ⟨W.heap.size, fun _ => ⟨hI.2, World.alloc_heap_new W _⟩, rfl⟩
  · exact hK _ _ (KeepsFrom.refl _ _) ⟨Below.refl _ _, rfl⟩ hI ⟨0, (fun h => by rw [hb] at h; cases h), rfl⟩
  · obtain ⟨Bx, hBc, rfl⟩ := hA
    refine wpIn_mono (hbody l pre x Bx W (hI.1.rest (cg pre)) hBc hI.2 hlen) ?_
    intro e a' W' hp
    cases e with
    | normal => exact ⟨hp.2.keepsFrom hp.1, ⟨hI.1.belowTwo hp.2.drop hp.1, (hgw _ _ hp.2.drop).trans (hgw _ _ hI.1).symm⟩, hp.2.drop, Nat.le_trans hI.2 hp.1⟩
    | ret => exact ⟨hp.2.keepsFrom hp.1, rfl, hp.2.drop⟩
    | exit id => exact hp.elim
    | goto t => exact hp.elim
    | panic ch => exact hp.elim
    | outgrown => exact hp.elim
  · subst hS; exact hdone D W hD hI.1 hk
  · obtain ⟨rfl, h⟩ := hI
    exact hstop D pre W hD hS h hk
end Go.Proofs.Ytljdkfhkpjjfgaa
