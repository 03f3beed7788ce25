/- slices.Delete by one at keys that are structs: lemmas for the law RedoAny. -/
import Derived.Test.YtabpipdhoflgpaaRedK1
namespace Go.Proofs.Ytabpipdhoflgpaa
open Go.RowKit
set_option linter.unusedVariables false

set_option maxHeartbeats 1600000 in
set_option maxRecDepth 100000 in
theorem del_key (a : Option Addr) (n c i : Nat) (ks : List Key) (R : List HA) (W w : World) (hS : Star W w (rowA 29 2 (.slice a (n + 1) c) (n + 1) (k2 ks) :: R)) (hi : i ≤ n) :
    Calls Try.prog 26 #[.slice a (n + 1) c, .int .i64 i, .int .i64 ((i : Int) + 1)] w fun e w' => e = .returned (.slice a n c) ∧ Star W w' (rowA 29 2 (.slice a n c) n (k2 (ks.eraseIdx i)) :: R) := by
  obtain ⟨i0, hi0, hz0, hz1, hz2⟩ := info_parts Try.info29
  have hkl : (k2 ks).length = (n + 1) * 2 := hS.rowLen
  obtain ⟨g, cur, rfl, hC, hnc, hcm, hcs, hxs⟩ := hS.rowOpen (by omega)
  clear hS
  have hcm' : c ≤ 9223372036854775807 := by simpa [maxLen] using hcm
  obtain ⟨news, hnews⟩ : ∃ news, news = (k2 ks).drop ((i + 1) * 2) := ⟨_, rfl⟩
  have hlen : news.length = (n - i) * 2 := by rw [hnews, List.length_drop, hkl]; omega
  have hat : ∀ t u, news[t]? = some u → w.cell? ⟨g, (i + 1) * 2 + t, none⟩ = some u := by
    intro t u hu
    rw [hC.cell, ← Array.getElem?_toList]
    rw [hnews, List.getElem?_drop, ← hxs, List.getElem?_take] at hu
    split at hu
    · exact hu
    · cases hu
  obtain ⟨A, hA, hsrc⟩ : ∃ A : Addr, (if c = i + 1 then some (⟨g, 0, none⟩ : Addr) else some ⟨g, (i + 1) * 2, none⟩) = some A ∧ Hid (∀ t u, news[t]? = some u → w.drew.cell? (A.add t) = some u) := by
    by_cases h : c = i + 1
    · refine ⟨⟨g, 0, none⟩, by simp [h], fun t u hu => ?_⟩
      have h0 : news.length = 0 := by rw [hlen]; omega
      rw [List.length_eq_zero_iff.1 h0] at hu
      simp at hu
    · refine ⟨⟨g, (i + 1) * 2, none⟩, by simp [h], fun t u hu => ?_⟩
      rw [Addr.add_lit]
      exact hat t u hu
  have s1 : Hid (news.length = (n - i) * 2) := hlen
  have s2 : Hid (∀ u ∈ news, u.oneCell' = true) := fun u hu => k2_one ks u (by rw [hnews] at hu; exact List.mem_of_mem_drop hu)
  have s3 : Hid (∀ t, t < news.length → (w.drew.cell? ⟨g, 0 + i * 2 + t, none⟩).isSome = true ∧ w.drew.frozen? ⟨g, 0 + i * 2 + t, none⟩ = false) := by
    intro t ht
    rw [hlen] at ht
    rw [Nat.zero_add]
    refine ⟨?_, hC.drew.frozen _⟩
    rw [hC.drew.cell, Array.getElem?_eq_getElem (by omega)]; rfl
  obtain ⟨W1, hW1⟩ : ∃ W1, W1 = w.drew.setCells g (0 + i * 2) news := ⟨_, rfl⟩
  obtain ⟨cs1, hC1, hcs1, hl1⟩ := hC.drew.sets news (0 + i * 2) (by rw [hlen, hcs]; omega)
  rw [← hW1] at hC1
  have hcl : ∀ ty, (Builtin.clear_ #[30] ty #[.slice (some ⟨g, n * 2, none⟩) 1 (c - n)]).run Try.prog W1 = .ok (.tuple #[]) (W1.setCells g (n * 2) [.string ⟨#[]⟩, .int .i64 0]) :=
    fun ty => run_clear_one W1 30 29 ty _ [.string ⟨#[]⟩, .int .i64 0] Try.underlying30 zero29 (by kernel_rfl) (by simp [Value.oneCell']) g (n * 2) _ (fun j hj => by rw [hC1.cell, Array.getElem?_eq_getElem (by simp at hj; omega)]; rfl) (fun j hj => hC1.frozen _)
  obtain ⟨cs2, hC2, hcs2, hl2⟩ := hC1.sets [.string ⟨#[]⟩, .int .i64 0] (n * 2) (by simp; omega)
  have hW : Hid (W1 = w.drew.setCells g (0 + i * 2) news) := hW1
  have hres : Hid (cs2.toList.take (n * 2) = k2 (ks.eraseIdx i)) := by
    rw [hl2, k2_erase]
    simp only [Nat.zero_add] at hl1
    have e1 : (cs1.toList.take (n * 2)).length = n * 2 := by rw [List.length_take, Array.length_toList]; omega
    rw [List.append_assoc, List.take_append_of_le_length (by omega), List.take_of_length_le (by omega), hl1, ← hnews]
    have e2 : (cur.toList.take (i * 2) ++ news).length = n * 2 := by rw [List.length_append, List.length_take, Array.length_toList, hlen]; omega
    rw [List.take_append_of_le_length (by omega), List.take_of_length_le (by omega), ← hxs, List.take_take, Nat.min_eq_left (by omega)]
    exact rfl
  have hin : i + (n - i) = n := by omega
  have Hfin := Lib.hid (hC2.rowShut (n := n) (c := c) (size := 2) (by omega) hcm (by rw [hcs2, hcs1, hcs]))
  have hic : i ≤ c := by omega
  have hi1 : (0 : Int) ≤ (i : Int) + 1 := by omega
  clear hW1 hat hlen hnews hC hC1 hC2 hl1 hl2 hcs hcs1 hcs2 hxs hkl
  go_enter Try.func26, Try.ntmps26
  go_wp2_with fail
  go_region_law (refine step_append_room rfl (.tmp 22) (.tmp 25) 30 rfl 29 i0 2 Try.underlying30 hi0 hz1 g 0 i c (by simp [Act.eval, Act.put]) A (n - i) (c - (i + 1)) news (by simp [Act.eval, Act.put]) s1.out hsrc.out s2.out (by omega) s3.out ?_; rw [← hW.out])
  go_wp2
  go_ret
  refine ⟨rfl, ?_⟩
  have := Hfin.out
  rw [hres.out] at this
  exact this
end Go.Proofs.Ytabpipdhoflgpaa
