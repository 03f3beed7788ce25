/-
  Memory, more: copy into a row of one's own, a row made with a variable length.
-/
import Derived.Test.YtljdkfhkpjjfgaaMem
import Derived.Laws.CopyRow
import Derived.Laws.CopyOwn
import Derived.Laws.MakeOwn
import Derived.Laws.OwnMore
namespace Go.Proofs.Ytljdkfhkpjjfgaa
open Go.RowKit
set_option linter.unusedVariables false

section
variable {P : Program} {W w : World} {L : List HA}
theorem run_copy_rows (w : World) (dT sT ty elem : TypeId) (g dLen dCap : Nat) (a : Addr) (sLen sCap size : Nat) (cur : Array Value) (t : TypeId) (cs : List Value)
    (hu : P.underlying dT = some (.slice elem)) (hs : (P.info? elem).map (·.size) = some size)
    (hg : w.heap[g]? = some (.cells cur t (0, 0))) (hn : cs.length = Nat.min sLen dLen * size)
    (hsrc : ∀ j v, cs[j]? = some v → w.cell? (a.add j) = some v) (hfit : cs.length ≤ cur.size) (h1 : ∀ v ∈ cs, v.oneCell' = true) :
    (Builtin.copy_ #[dT, sT] ty #[.slice (some ⟨g, 0, none⟩) dLen dCap, .slice (some a) sLen sCap]).run P w =
      .ok (goInt (Nat.min sLen dLen)) (w.setRow g (cs ++ cur.toList.drop cs.length).toArray) := by
  have hl := run_loadCells_list (P := P) w a cs hsrc
  have hst := run_storeCells_at P g 0 t cs 0 cur w hg (by simpa using hfit) h1
  cases hq : P.info? elem with
  | none => simp [hq] at hs
  | some i =>
    have hi : i.size = size := by simpa [hq] using hs
    simp [Builtin.copy_, run_underlying hu, Builtin.lenOf, Builtin.firstCells, sizeOf, typeInfo, hq, hi, ← hn, hl, hst]
theorem Star.copied {e : TypeId} {size g n c m : Nat} {xs ys : List Value} {A : Option Addr} {q : Nat} (dT sT ty : TypeId) (hu : P.underlying dT = some (.slice e)) (hs : (P.info? e).map (·.size) = some size)
    (hS : Star W w (rowA e size (.slice (some ⟨g, 0, none⟩) n c) n xs :: L)) (hm : m ≤ n) (hy : Sl w A m size ys) (h1 : ∀ u ∈ ys, u.oneCell' = true) :
    ∃ w', (Builtin.copy_ #[dT, sT] ty #[.slice (some ⟨g, 0, none⟩) n c, .slice A m q]).run P w = .ok (goInt m) w' ∧ Star W w' (rowA e size (.slice (some ⟨g, 0, none⟩) n c) n (ys ++ xs.drop (m * size)) :: L) := by
  obtain ⟨io, pa, pb, hA, hL, hd, ha, hb⟩ := hS
  obtain ⟨hxl, h0⟩ := hA
  rcases h0 with ⟨hv, _⟩ | ⟨g', cap, cur, hv, hg, hc, hcm, hsz, ht⟩
  · cases hv
  injection hv with hv1 hv2 hv3
  injection hv1 with hv1
  injection hv1 with hv1
  subst hv1 hv3
  have hS' : Star W w (atA g (.cells cur e (0, 0)) :: L) := ⟨io, pa, pb, hg, hL, hd, ha, hb⟩
  have hgw := hS'.heap
  have hmin : Nat.min m n = m := Nat.min_eq_left hm
  have hyl := hy.1
  have hle : m * size ≤ n * size := Nat.mul_le_mul_right _ hm
  have hle2 : n * size ≤ c * size := Nat.mul_le_mul_right _ hc
  rcases Nat.eq_zero_or_pos m with h00 | hpos
  · subst h00
    have hy0 : ys = [] := List.eq_nil_of_length_eq_zero (by omega)
    subst hy0
    refine ⟨w, ?_, ?_⟩
    · cases hq : P.info? e with
      | none => simp [hq] at hs
      | some i =>
        have hl := run_loadCells_list (P := P) w
        cases A with
        | none => simp [Builtin.copy_, run_underlying hu, Builtin.lenOf, Builtin.firstCells, sizeOf, typeInfo, hq, storeCells]
        | some ad => 
          have hl := run_loadCells_list (P := P) w ad [] (by simp)
          simp at hl
          simp [Builtin.copy_, run_underlying hu, Builtin.lenOf, Builtin.firstCells, sizeOf, typeInfo, hq, storeCells, hl]
    · refine ⟨io, pa, pb, ⟨by simpa using hxl, .inr ⟨g, c, cur, rfl, hg, hc, hcm, hsz, by simpa using ht⟩⟩, hL, hd, ha, hb⟩
  · obtain ⟨ad, rfl, hsrc⟩ := hy.src hpos
    have hrun := run_copy_rows (P := P) w dT sT ty e g n c ad m q size cur e ys hu hs hgw (by rw [hmin]; exact hyl) hsrc (by omega) h1
    rw [hmin] at hrun
    refine ⟨_, hrun, ?_⟩
    have h2 := hS'.put (w' := w.setRow g (ys ++ cur.toList.drop ys.length).toArray) (o' := .cells (ys ++ cur.toList.drop ys.length).toArray e (0, 0)) ⟨rfl, rfl, rfl⟩ (setRow_heap w g cur _ e _ hgw) (fun k hk _ => setRow_other w g k _ hk)
    refine h2.head fun p hp => ⟨?_, .inr ⟨g, c, _, rfl, hp, hc, hcm, ?_, ?_⟩⟩
    · rw [List.length_append, List.length_drop, hyl, hxl]; omega
    · simp only [List.size_toArray, List.length_append, List.length_drop, Array.length_toList]; omega
    · rw [← ht, hyl]
      rw [List.take_append, hyl, List.take_of_length_le (by omega), List.take_drop]
      congr 2
      congr 1
      omega
theorem wpList_copy_star {ops : Array Oper} {rest : List Oper} {o : Oper} {a : Act} {Q : Exit → Act → World → Prop} (hgd : o.guard = none) (d s : Operand) (dT sT : TypeId)
    (ho : o.op = .call { callee := .builtin .copy, args := #[d, s], argTypes := #[dT, sT] })
    (e : TypeId) (size : Nat) (hu : P.underlying dT = some (.slice e)) (hs : (P.info? e).map (·.size) = some size)
    (g n c : Nat) (xs : List Value) (hd : a.eval d = .slice (some ⟨g, 0, none⟩) n c) (hS : Star W w (rowA e size (.slice (some ⟨g, 0, none⟩) n c) n xs :: L))
    (A : Option Addr) (m q : Nat) (ys : List Value) (hx : a.eval s = .slice A m q) (hm : m ≤ n) (hy : Sl w A m size ys) (h1 : ∀ u ∈ ys, u.oneCell' = true)
    (h : ∀ w', Star W w' (rowA e size (.slice (some ⟨g, 0, none⟩) n c) n (ys ++ xs.drop (m * size)) :: L) → wpList P ops Q rest (a.put o.dst (goInt m)) w') : wpList P ops Q (o :: rest) a w := by
  obtain ⟨w', hr, h2⟩ := Star.copied (q := q) dT sT o.type hu hs hS hm hy h1
  refine wpList_plain hgd fun K hK => ?_
  unfold Oper.wp
  simp only [execOp, ho, resolve, invoke, builtin, Sem.run_bind, Sem.run_pure, Result.andThen_ok, List.map_toArray, List.map_cons, List.map_nil, hd, hx, hr]
  exact hK _ _ (h w' h2)
/-- a row made with n elements, all zero -/
theorem run_make_star (w : World) (t e : TypeId) (i : TypeInfo) (z : Value) (ht : P.underlying t = some (.slice e)) (hi : P.info? e = some i) (hz : i.zero = some z) (n : Nat) (hb : i.bytes * n ≤ 281474976710656) (h63 : n ≤ 9223372036854775807) :
    (Instr.makeSlice t (.int .i64 (n : Int)) (.int .i64 (n : Int))).run P w = .ok (.slice (some ⟨w.heap.size, 0, none⟩) n n) (w.alloc (.cells (madeCells z.cells (n * i.size)) e)) := by
  have hb2 : (i.bytes : Int) * (n : Int) ≤ 281474976710656 := by
    have h := Int.ofNat_le.2 hb
    rw [Int.natCast_mul] at h
    exact h
  have := run_make (P := P) w t e i z ht hi hz .i64 .i64 (n : Int) (n : Int) (by omega) (Int.le_refl _) hb2 (by omega)
  rw [Int.toNat_natCast] at this
  exact this
theorem Star.made (h : Star W w L) (e : TypeId) (size : Nat) (z : Array Value) (n : Nat) (hn : n ≤ maxLen) : Star W (w.alloc (.cells (madeCells z (n * size)) e)) (rowA e size (.slice (some ⟨w.heap.size, 0, none⟩) n n) n (madeCells z (n * size)).toList :: L) :=
  h.rowNew e size _ n hn (size_madeCells _ _)
end
end Go.Proofs.Ytljdkfhkpjjfgaa
