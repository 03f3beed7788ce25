/- samePairs, sameCells: lemmas for the laws of ghost. Printed by gen_gh12.py. -/
import Derived.Test.YtfekjbaojefhoaaGh11
namespace Go.Proofs.Ytfekjbaojefhoaa
open Go.RowKit Go.Shelf
set_option linter.unusedVariables false

def intsC (zs : List Int) : List Value := zs.map fun z => .int .i64 z
set_option maxRecDepth 100000 in
set_option maxHeartbeats 3200000 in
theorem samePairs_any (ps : List (Int × Int)) (A B : Option Addr) (n c d : Nat) (w : World) (hA : Sl w A n 2 (pairsC ps)) (hB : Sl w B n 2 (pairsC ps)) (hb : n ≤ 9223372036854775807) :
    Calls Try.prog 18 #[.slice A n c, .slice B n d] w fun e w' => e = .returned (.bool true) ∧ ∃ q, w' = w.drewN q := by
  have HA := Lib.hid hA
  have HB := Lib.hid hB
  have hn : ps.length = n := by have := hA.1; rw [pairsC_len] at this; omega
  have HN := Lib.hid hn
  clear hA hB hn
  go_enter Try.func18, Try.ntmps18
  go_wp2_with fail
  go_loopw [5] (fun i wr => ∃ k : Nat, k ≤ n ∧ i = .int .i64 k ∧ ∃ q, wr = w.drewN q) (fun i _ => n - (intOf i).toNat)
  case atStart => exact ⟨0, Nat.zero_le _, rfl, 0, rfl⟩
  case round =>
    obtain ⟨k, hk, rfl, q, rfl⟩ := hrel
    by_cases hlt : k < n
    · obtain ⟨p, hp⟩ : ∃ p, ps[k]? = some p := ⟨_, List.getElem?_eq_getElem (by have := HN.out; omega)⟩
      obtain ⟨g, o, rfl, hg, ca⟩ := HA.out.row hlt (by omega)
      obtain ⟨g', o', rfl, hg', cb⟩ := HB.out.row hlt (by omega)
      have a0 : w.cell? ⟨g, o + k * 2 + 0, none⟩ = some (.int .i64 p.1) := ca 0 _ (by rw [pairsC_at hp (by omega)]; rfl)
      have a1 : w.cell? ⟨g, o + k * 2 + 1, none⟩ = some (.int .i64 p.2) := ca 1 _ (by rw [pairsC_at hp (by omega)]; rfl)
      have b0 : w.cell? ⟨g', o' + k * 2 + 0, none⟩ = some (.int .i64 p.1) := cb 0 _ (by rw [pairsC_at hp (by omega)]; rfl)
      have b1 : w.cell? ⟨g', o' + k * 2 + 1, none⟩ = some (.int .i64 p.2) := cb 1 _ (by rw [pairsC_at hp (by omega)]; rfl)
      simp only [Nat.add_zero] at a0 b0
      have hq := fun w => pair_neq p.1 p.2 w
      have hkz : (k : Int) < n := by omega
      clear ca cb hp
      go_wp2
      go_quiet (fail)
      go_wp2
      go_roundw
      case rel => exact ⟨k + 1, by omega, by go_num, _, rfl⟩
      case measure => simp [intOf]; omega
    · have hkn : k = n := by omega
      subst hkn
      go_wp2
      go_ret
      exact ⟨rfl, _, rfl⟩
set_option maxRecDepth 100000 in
set_option maxHeartbeats 3200000 in
theorem sameCells_any (ps : List Int) (A B : Option Addr) (n c d : Nat) (w : World) (hA : Sl w A n 1 (intsC ps)) (hB : Sl w B n 1 (intsC ps)) (hb : n ≤ 9223372036854775807) :
    Calls Try.prog 23 #[.slice A n c, .slice B n d] w fun e w' => e = .returned (.bool true) ∧ ∃ q, w' = w.drewN q := by
  have HA := Lib.hid hA
  have HB := Lib.hid hB
  have hn : ps.length = n := by have := hA.1; simp only [intsC, List.length_map] at this; omega
  have HN := Lib.hid hn
  clear hA hB hn
  go_enter Try.func23, Try.ntmps23
  go_wp2_with fail
  go_loopw [5] (fun i wr => ∃ k : Nat, k ≤ n ∧ i = .int .i64 k ∧ ∃ q, wr = w.drewN q) (fun i _ => n - (intOf i).toNat)
  case atStart => exact ⟨0, Nat.zero_le _, rfl, 0, rfl⟩
  case round =>
    obtain ⟨k, hk, rfl, q, rfl⟩ := hrel
    by_cases hlt : k < n
    · obtain ⟨p, hp⟩ : ∃ p, ps[k]? = some p := ⟨_, List.getElem?_eq_getElem (by have := HN.out; omega)⟩
      obtain ⟨g, o, rfl, hg, ca⟩ := HA.out.row hlt (by omega)
      obtain ⟨g', o', rfl, hg', cb⟩ := HB.out.row hlt (by omega)
      have a0 : w.cell? ⟨g, o + k * 1 + 0, none⟩ = some (.int .i64 p) := ca 0 _ (by simp [intsC, hp])
      have b0 : w.cell? ⟨g', o' + k * 1 + 0, none⟩ = some (.int .i64 p) := cb 0 _ (by simp [intsC, hp])
      simp only [Nat.add_zero, Nat.mul_one] at a0 b0
      have hkz : (k : Int) < n := by omega
      clear ca cb hp
      go_wp2
      go_quiet (fail)
      go_wp2
      go_roundw
      case rel => exact ⟨k + 1, by omega, by go_num, _, rfl⟩
      case measure => simp [intOf]; omega
    · have hkn : k = n := by omega
      subst hkn
      go_wp2
      go_ret
      exact ⟨rfl, _, rfl⟩
end Go.Proofs.Ytfekjbaojefhoaa
