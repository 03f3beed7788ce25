/- Rows written in place: slices.Delete by one, slices.Index: lemmas for the laws of redo. -/
import Derived.Test.YtabpipdhoflgpaaMaps
import Derived.Test.YtabpipdhoflgpaaProg
import Derived.StillTailTactics
import Derived.WalkSpells
import Derived.WalkLawsBesides
import Derived.Laws.EntriesVeiled
import Derived.Lib.Hide
import Derived.Lib.SliceRun
import Derived.BigRegion
import Derived.BigQuiet
import Derived.Deep.RegionHeld3
import Derived.Deep.RegionWith
import Derived.Deep.RegionLaw
namespace Go.Proofs.Ytabpipdhoflgpaa
open Go.RowKit
set_option linter.unusedVariables false

section
variable {W w : World} {L : List HA}
theorem Star.sets {b : Nat} {t : TypeId} : ∀ (vs : List Value) {w : World} {cs : Array Value} (o : Nat), Star W w (cellsA b cs t :: L) → o + vs.length ≤ cs.size →
    ∃ cs', Star W (w.setCells b o vs) (cellsA b cs' t :: L) ∧ cs'.size = cs.size ∧ cs'.toList = cs.toList.take o ++ vs ++ cs.toList.drop (o + vs.length)
  | [], w, cs, o, h, ho => ⟨cs, h, rfl, by simp⟩
  | v :: r, w, cs, o, h, ho => by
    simp only [List.length_cons] at ho
    obtain ⟨cs', h1, h2, h3⟩ := Star.sets r (o + 1) (h.set o v) (by simp; omega)
    refine ⟨cs', h1, by rw [h2]; simp, ?_⟩
    rw [h3]
    have hol : o < cs.toList.length := by simp; omega
    simp only [Array.toList_setIfInBounds]
    have e1 : (cs.toList.set o v).take (o + 1) = cs.toList.take o ++ [v] := by
      rw [List.take_succ_eq_append_getElem (by simp; omega), List.take_set_of_le (Nat.le_refl _)]
      simp
    have e2 : (cs.toList.set o v).drop (o + 1 + r.length) = cs.toList.drop (o + (r.length + 1)) := by
      rw [List.drop_set_of_lt (by omega)]
      congr 1
      omega
    rw [e1, e2]
    simp
theorem Star.rowOpen {e : TypeId} {size n : Nat} {a : Option Addr} {c m : Nat} {xs : List Value} (h : Star W w (rowA e size (.slice a m c) n xs :: L)) (hn : 0 < n) :
    ∃ g cur, a = some ⟨g, 0, none⟩ ∧ Star W w (cellsA g cur e :: L) ∧ n ≤ c ∧ c ≤ maxLen ∧ cur.size = c * size ∧ cur.toList.take (n * size) = xs := by
  obtain ⟨i, p, q, hA, r⟩ := h
  rcases hA.2 with ⟨_, h0⟩ | ⟨g, cap, cur, hv, hg, hc, hm, hs, ht⟩
  · omega
  · injection hv with ha hm' hc'
    subst ha hm' hc'
    exact ⟨g, cur, rfl, ⟨i, p, q, hg, r⟩, hc, hm, hs, ht⟩
theorem Star.rowShut {e : TypeId} {size n c : Nat} {g : Nat} {cur : Array Value} (h : Star W w (cellsA g cur e :: L)) (hc : n ≤ c) (hm : c ≤ maxLen) (hs : cur.size = c * size) :
    Star W w (rowA e size (.slice (some ⟨g, 0, none⟩) n c) n (cur.toList.take (n * size)) :: L) := by
  refine h.head fun p hp => ⟨?_, .inr ⟨g, c, cur, rfl, hp, hc, hm, hs, rfl⟩⟩
  rw [List.length_take, Array.length_toList, hs]
  exact Nat.min_eq_left (Nat.mul_le_mul_right _ hc)
end

theorem Try.info3 : (Try.prog.info? 3).map (fun i => (i.zero, i.size, i.bytes)) = some (some (.int .i64 0), 1, 8) := by kernel_rfl
theorem Try.info2 : (Try.prog.info? 2).map (fun i => (i.zero, i.size, i.bytes)) = some (some (.int .i64 0), 1, 8) := by kernel_rfl
theorem info_parts {P : Program} {e : TypeId} {z : Value} {size bytes : Nat} (h : (P.info? e).map (fun i => (i.zero, i.size, i.bytes)) = some (some z, size, bytes)) : ∃ i, P.info? e = some i ∧ i.zero = some z ∧ i.size = size ∧ i.bytes = bytes := by
  obtain ⟨i, hi, he⟩ := Option.map_eq_some_iff.1 h
  injection he with h1 h2
  injection h2 with h2 h3
  exact ⟨i, hi, h1, h2, h3⟩
theorem zero3 (w : World) : (zeroValue 3).run Try.prog w = .ok (.int .i64 0) w := by kernel_rfl
def ints (xs : List Int) : List Value := xs.map (Value.int .i64)
theorem ints_one (xs : List Int) : ∀ u ∈ ints xs, u.oneCell' = true := by
  intro u hu
  obtain ⟨x, _, rfl⟩ := List.mem_map.1 hu
  rfl

set_option maxHeartbeats 1600000 in
set_option maxRecDepth 100000 in
theorem del_int (a : Option Addr) (n c i : Nat) (xs : List Value) (R : List HA) (W w : World) (hS : Star W w (rowA 3 1 (.slice a (n + 1) c) (n + 1) xs :: R)) (hi : i ≤ n) (h1 : ∀ u ∈ xs, u.oneCell' = true) :
    Calls Try.prog 38 #[.slice a (n + 1) c, .int .i64 i, .int .i64 ((i : Int) + 1)] w fun e w' => e = .returned (.slice a n c) ∧ Star W w' (rowA 3 1 (.slice a n c) n (xs.eraseIdx i) :: R) := by
  obtain ⟨i0, hi0, hz0, hz1, hz2⟩ := info_parts Try.info3
  obtain ⟨g, cur, rfl, hC, hnc, hcm, hcs, hxs⟩ := hS.rowOpen (by omega)
  clear hS
  rw [Nat.mul_one] at hcs hxs
  have hcm' : c ≤ 9223372036854775807 := by simpa [maxLen] using hcm
  have hxl : xs.length = n + 1 := by rw [← hxs, List.length_take, Array.length_toList, hcs]; omega
  obtain ⟨news, hnews⟩ : ∃ news, news = xs.drop (i + 1) := ⟨_, rfl⟩
  have hlen : news.length = n - i := by rw [hnews, List.length_drop, hxl]; omega
  have hat : ∀ t u, news[t]? = some u → w.cell? ⟨g, i + 1 + t, none⟩ = some u := by
    intro t u hu
    rw [hC.cell, ← Array.getElem?_toList]
    rw [hnews, List.getElem?_drop, ← hxs, List.getElem?_take] at hu
    split at hu
    · exact hu
    · cases hu
  obtain ⟨A, hA, hsrc⟩ : ∃ A : Addr, (if c = i + 1 then some (⟨g, 0, none⟩ : Addr) else some ⟨g, i + 1, none⟩) = some A ∧ Hid (∀ t u, news[t]? = some u → w.drew.cell? (A.add t) = some u) := by
    by_cases h : c = i + 1
    · refine ⟨⟨g, 0, none⟩, by simp [h], fun t u hu => ?_⟩
      have h0 : news.length = 0 := by rw [hlen]; omega
      rw [List.length_eq_zero_iff.1 h0] at hu
      simp at hu
    · refine ⟨⟨g, i + 1, none⟩, by simp [h], fun t u hu => ?_⟩
      rw [Addr.add_lit]
      exact hat t u hu
  have s1 : Hid (news.length = (n - i) * 1) := by rw [Nat.mul_one]; exact hlen
  have s2 : Hid (∀ u ∈ news, u.oneCell' = true) := fun u hu => h1 u (by rw [hnews] at hu; exact List.mem_of_mem_drop hu)
  have s3 : Hid (∀ t, t < news.length → (w.drew.cell? ⟨g, 0 + i * 1 + t, none⟩).isSome = true ∧ w.drew.frozen? ⟨g, 0 + i * 1 + t, none⟩ = false) := by
    intro t ht
    rw [hlen] at ht
    rw [Nat.mul_one, Nat.zero_add]
    refine ⟨?_, hC.drew.frozen _⟩
    rw [hC.drew.cell, Array.getElem?_eq_getElem (by omega)]; rfl
  obtain ⟨W1, hW1⟩ : ∃ W1, W1 = w.drew.setCells g (0 + i * 1) news := ⟨_, rfl⟩
  obtain ⟨cs1, hC1, hcs1, hl1⟩ := hC.drew.sets news (0 + i * 1) (by rw [hlen, hcs]; omega)
  rw [← hW1] at hC1
  have hcl : ∀ ty, (Builtin.clear_ #[50] ty #[.slice (some ⟨g, n, none⟩) 1 (c - n)]).run Try.prog W1 = .ok (.tuple #[]) (W1.setCells g n [.int .i64 0]) :=
    fun ty => Lib.run_clear_slice W1 50 3 ty (.int .i64 0) Try.underlying50 zero3 rfl rfl g n 1 _ (by omega) (fun j hj => by rw [hC1.cell, Array.getElem?_eq_getElem (by omega)]; rfl) (fun j hj => hC1.frozen _)
  obtain ⟨cs2, hC2, hcs2, hl2⟩ := hC1.sets [.int .i64 0] n (by simp; omega)
  have hW : Hid (W1 = w.drew.setCells g (0 + i * 1) news) := hW1
  have hres : Hid (cs2.toList.take n = xs.eraseIdx i) := by
    rw [hl2]
    simp only [Nat.zero_add, Nat.mul_one] at hl1
    have e1 : (cs1.toList.take n).length = n := by rw [List.length_take, Array.length_toList]; omega
    rw [List.append_assoc, List.take_append_of_le_length (by omega), List.take_of_length_le (by omega), hl1, List.eraseIdx_eq_take_drop_succ, ← hnews]
    have e2 : (cur.toList.take i ++ news).length = n := by rw [List.length_append, List.length_take, Array.length_toList, hlen]; omega
    rw [List.take_append_of_le_length (by omega), List.take_of_length_le (by omega), ← hxs, List.take_take, Nat.min_eq_left (by omega)]
    exact rfl
  have hin : i + (n - i) = n := by omega
  have Hfin := Lib.hid (hC2.rowShut (n := n) (c := c) (size := 1) (by omega) hcm (by rw [hcs2, hcs1, hcs, Nat.mul_one]))
  have hic : i ≤ c := by omega
  have hi1 : (0 : Int) ≤ (i : Int) + 1 := by omega
  clear hW1 hat hlen hnews hC hC1 hC2 hl1 hl2 hcs hcs1 hcs2 hxs h1 hxl
  go_enter Try.func38, Try.ntmps38
  go_wp2_with fail
  go_region_law (refine step_append_room rfl (.tmp 22) (.tmp 25) 50 rfl 3 i0 1 Try.underlying50 hi0 hz1 g 0 i c (by simp [Act.eval, Act.put]) A (n - i) (c - (i + 1)) news (by simp [Act.eval, Act.put]) s1.out hsrc.out s2.out (by omega) s3.out ?_; rw [← hW.out])
  go_wp2
  go_ret
  refine ⟨rfl, ?_⟩
  have := Hfin.out
  rw [Nat.mul_one, hres.out] at this
  exact this
end Go.Proofs.Ytabpipdhoflgpaa
