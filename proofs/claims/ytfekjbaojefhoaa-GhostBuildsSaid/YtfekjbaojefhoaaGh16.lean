/- slices.Clone; the sort of at most one: lemmas for the laws of ghost. -/
import Derived.Test.YtfekjbaojefhoaaGh15
namespace Go.Proofs.Ytfekjbaojefhoaa
open Go.RowKit Go.Shelf
set_option linter.unusedVariables false

theorem Try.info2 : (Try.prog.info? 2).map (fun i => (i.zero, i.size, i.bytes)) = some (some (.int .i64 0), 1, 8) := by kernel_rfl
theorem intsC_len (zs : List Int) : (intsC zs).length = zs.length := by rw [intsC, List.length_map]
theorem intsC_one (zs : List Int) : ∀ u ∈ intsC zs, u.oneCell' = true := by
  intro u hu
  obtain ⟨z, _, rfl⟩ := List.mem_map.1 hu
  rfl
set_option maxRecDepth 100000 in
theorem clone_any (A : Option Addr) (n c : Nat) (zs : List Int) (w : World) (hS : Sl w A n 1 (intsC zs)) (hb : n * 8 ≤ 140737488355328) :
    Calls Try.prog 32 #[.slice A n c] w fun e w' => ∃ a c', e = .returned (.slice a n c') ∧ Star w w' [rowA 2 1 (.slice a n c') n (intsC zs), oldA w] := by
  obtain ⟨i0, hi, hz0, hz1, hz2⟩ := info_parts Try.info2
  cases A with
  | none =>
    have h0 : n = 0 := by
      rcases Nat.eq_zero_or_pos n with h | h
      · exact h
      · obtain ⟨g, o, e, _⟩ := hS.2 h; cases e
    subst h0
    have hz : intsC zs = [] := List.eq_nil_of_length_eq_zero (by have := hS.1; omega)
    have HZ := Lib.hid hz
    clear hS hz
    have hq := fun w => Lib.run_eql_slice_nil (P := Try.prog) w 46 2 none 0 c 0 0 Try.underlying46
    simp only [Option.isNone_none] at hq
    go_enter Try.func32, Try.ntmps32
    go_wp2
    go_ret
    refine ⟨none, 0, rfl, ?_⟩
    rw [HZ.out]
    exact (Star.begin w).rowNil 2 1
  | some p =>
    have hN := (Star.begin w).rowNew 2 1 #[] 0 (by simp [maxLen]) rfl
    have hlen := hS.1
    have hsrc : 0 < n → ∃ ad, some p = some ad ∧ ∀ j u, (intsC zs)[j]? = some u → (w.alloc (.cells #[] 2)).cell? (ad.add j) = some u := by
      intro h0
      obtain ⟨g, o, e, hg, hc⟩ := hS.row h0 (by omega)
      injection e with e
      refine ⟨p, rfl, fun j u hu => ?_⟩
      obtain ⟨g', o', e', hc'⟩ := hS.2 h0
      injection e' with e'
      subst e'
      injection e with e1 e2
      subst e1 e2
      rw [Addr.add_lit]
      exact (World.cell?_of_block (Below.heap_alloc w _ _ hg)).trans (hc' j u hu)
    have hq := fun w => Lib.run_eql_slice_nil (P := Try.prog) w 46 2 (some p) n c 0 0 Try.underlying46
    simp only [Option.isNone_some] at hq
    clear hS
    go_enter Try.func32, Try.ntmps32
    go_wp2_with (at_builtin; refine wpList_append_star_any rfl _ _ 46 rfl 2 i0 _ 1 8 Try.underlying46 hi hz0 hz1 hz2 rfl (by decide) _ _ _ rfl hN (some p) n c (intsC zs) rfl (by rw [hlen]) hsrc (intsC_one zs) (by simp only [maxLen]; omega) (by omega) ?_; intro a' c' w1 hS1; simp only [Nat.zero_add, List.nil_append] at hS1)
    go_ret
    exact ⟨a', c', rfl, hS1⟩
set_option maxRecDepth 100000 in
theorem ins_one (a : Option Addr) (c : Nat) (f : Value) (w : World) : Calls Try.prog 39 #[.slice a 1 c, .int .i64 0, .int .i64 1, f] w fun e w' => e = .returned (.tuple #[]) ∧ w' = w := by
  go_enter Try.func39, Try.ntmps39
  go_wp2
  go_loopw [8] (fun i wr => i = .int .i64 1 ∧ wr = w) (fun _ _ => 0)
  case atStart => exact ⟨by go_num, rfl⟩
  case round =>
    obtain ⟨rfl, rfl⟩ := hrel
    go_wp2
    go_end0
    exact ⟨rfl, rfl⟩
set_option maxRecDepth 100000 in
theorem stable_one (a : Option Addr) (c : Nat) (f : Value) (w : World) : Calls Try.prog 37 #[.slice a 1 c, .int .i64 1, f] w fun e w' => e = .returned (.tuple #[]) ∧ w' = w := by
  go_enter Try.func37, Try.ntmps37
  go_wp2
  go_loopw [7, 8] (fun i j wr => i = .int .i64 0 ∧ j = .int .i64 20 ∧ wr = w) (fun _ _ _ => 0)
  case atStart => exact ⟨by go_num, by go_num, rfl⟩
  case round =>
    obtain ⟨rfl, rfl, rfl⟩ := hrel
    go_wp2_with fail
    refine (ins_one a c f _).mono ?_
    rintro e w' ⟨rfl, rfl⟩
    go_wp2_with fail
    go_loopw [6] (fun i wz => i = .int .i64 20 ∧ wz = w') (fun _ _ => 0)
    case atStart => exact ⟨by go_num, rfl⟩
    case round =>
      obtain ⟨rfl, rfl⟩ := hrel
      go_wp2
      go_end0
      exact ⟨rfl, rfl⟩
theorem sort_one (a : Option Addr) (c : Nat) (f : Value) (w : World) : Calls Try.prog 33 #[.slice a 1 c, f] w fun e w' => e = .returned (.tuple #[]) ∧ w' = w := by
  go_enter Try.func33, Try.ntmps33
  go_wp2_with fail
  refine (stable_one a c f _).mono ?_
  rintro e w' ⟨rfl, rfl⟩
  go_wp2
  go_end0
  exact ⟨rfl, rfl⟩
end Go.Proofs.Ytfekjbaojefhoaa
