/- The test of lists of stories: lemmas for the laws of ghost. Printed by gen_gr3.py. -/
import Derived.Test.YtfekjbaojefhoaaGh28
namespace Go.Proofs.Ytfekjbaojefhoaa
open Go.RowKit Go.Shelf
set_option linter.unusedVariables false

set_option maxRecDepth 100000 in
set_option maxHeartbeats 3200000 in
theorem sameAll_any (A B : Option Addr) (n c d : Nat) (sts : List Sto) (vs us : List Value) (w : World) (hA : Stories w A n sts vs) (hB : Stories w B n sts us) (hn : n ≤ 4611686018427387904) :
    Calls Try.prog 12 #[.slice A n c, .slice B n d] w fun e w' => e = .returned (.bool true) ∧ Below w.heap.size w w' := by
  have HA := Lib.hid hA
  have HB := Lib.hid hB
  have h0 := Star.begin w
  clear hA hB
  go_enter Try.func12, Try.ntmps12
  go_wp2_with fail
  go_loopw [5] (fun i wr => ∃ k : Nat, k ≤ n ∧ i = .int .i64 k ∧ Star w wr [oldA w]) (fun i _ => n - (intOf i).toNat)
  case atStart => exact ⟨0, Nat.zero_le _, rfl, h0⟩
  case round =>
    clear h0
    obtain ⟨k, hk, rfl, hR⟩ := hrel
    by_cases hlt : k < n
    · obtain ⟨s, hs⟩ : ∃ s, sts[k]? = some s := ⟨_, List.getElem?_eq_getElem (by have := HA.out.ns; omega)⟩
      obtain ⟨v, hv⟩ : ∃ v, vs[k]? = some v := ⟨_, List.getElem?_eq_getElem (by have := HA.out.nv; omega)⟩
      obtain ⟨u, hu⟩ : ∃ v, us[k]? = some v := ⟨_, List.getElem?_eq_getElem (by have := HB.out.nv; omega)⟩
      obtain ⟨MA, mk, mc, rfl, hmk, hma, hmb⟩ := (HA.out.after hR).mv k s v hs hv
      obtain ⟨MB, mk', md, rfl, hmk', hmb', _⟩ := (HB.out.after hR).mv k s u hs hu
      obtain rfl : mk = mk' := hmk.symm.trans hmk'
      obtain ⟨g, o, rfl, hg, ca⟩ := HA.out.row.row hlt (by omega)
      obtain ⟨g', o', rfl, hg', cb⟩ := HB.out.row.row hlt (by omega)
      have fa' : ∀ j x, (stoC s (.slice MA mk mc))[j]? = some x → j < 10 → wr.cell? ⟨g, o + k * 10 + j, none⟩ = some x := fun j x hx hj => (hR.oldCell hg).trans (ca j x (by rw [stosC_at hs hv hj]; exact hx))
      have fb' : ∀ j x, (stoC s (.slice MB mk md))[j]? = some x → j < 10 → wr.cell? ⟨g', o' + k * 10 + j, none⟩ = some x := fun j x hx hj => (hR.oldCell hg').trans (cb j x (by rw [stosC_at hs hu hj]; exact hx))
      have a0 := fa' 0 _ rfl (by omega)
      have a1 := fa' 1 _ rfl (by omega)
      have a2 := fa' 2 _ rfl (by omega)
      have a3 := fa' 3 _ rfl (by omega)
      have a4 := fa' 4 _ rfl (by omega)
      have a5 := fa' 5 _ rfl (by omega)
      have a6 := fa' 6 _ rfl (by omega)
      have a7 := fa' 7 _ rfl (by omega)
      have a8 := fa' 8 _ rfl (by omega)
      have a9 := fa' 9 _ rfl (by omega)
      have b0 := fb' 0 _ rfl (by omega)
      have b1 := fb' 1 _ rfl (by omega)
      have b2 := fb' 2 _ rfl (by omega)
      have b3 := fb' 3 _ rfl (by omega)
      have b4 := fb' 4 _ rfl (by omega)
      have b5 := fb' 5 _ rfl (by omega)
      have b6 := fb' 6 _ rfl (by omega)
      have b7 := fb' 7 _ rfl (by omega)
      have b8 := fb' 8 _ rfl (by omega)
      have b9 := fb' 9 _ rfl (by omega)
      simp only [Nat.add_zero] at a0 b0
      have SAME := Lib.hid (same_any s MA MB mk mc md wr.drew hma hmb' hmk (by omega))
      have hkz : (k : Int) < n := by omega
      have HR := Lib.hid hR
      clear fa' fb' ca cb hs hv hu hR hma hmb hmb' hmk hmk' hg hg'
      go_wp2_with fail
      go_still_tail 8, (by kernel_rfl)
      change wpList _ _ _ _ _ wr.drew
      go_wp2_with fail
      refine SAME.out.mono ?_
      rintro e' w5 ⟨rfl, hb5⟩
      have HR2 := Lib.hid (HR.out.drew.of_below hb5)
      clear SAME hb5
      go_wp2
      go_roundw
      case rel => exact ⟨k + 1, by omega, by go_num, HR2.out⟩
      case measure => simp [intOf]; omega
    · have hkn : k = n := by omega
      subst hkn
      have H2 := Lib.hid hR.below
      have hkz : ¬ (k : Int) < k := by omega
      clear hR
      go_wp2
      go_ret
      exact ⟨rfl, H2.out⟩
end Go.Proofs.Ytfekjbaojefhoaa
