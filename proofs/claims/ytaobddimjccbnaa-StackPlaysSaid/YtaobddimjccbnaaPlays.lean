/- The law StackPlays holds for every input: two stacks, copies of one another, every call in every order. -/
import Derived.Test.YtaobddimjccbnaaRows
import Derived.Test.YtaobddimjccbnaaT5
import Derived.Test.YtaobddimjccbnaaOpen
namespace Go.Proofs.Ytaobddimjccbnaa.stackPlays
open Go.ChangeShapes Go.WideShapes Go.ChangeAt Go.RowKit
set_option linter.unusedVariables false

theorem own : ownKnob Try.prog.godebug = none := by kernel_rfl
theorem laidOut : laidOutB Try.prog = true := by kernel_rfl

theorem script_open {H : Type} {enc : TypeId × Value → H} {W : World} {A : Option Addr} {len cap : Nat} {d : DataW H} {ps : List MemPlace} (h : DataW.Trod enc Try.prog W 0 (fun _ => true) true 53 (.slice A len cap) d ps) (lt : ∀ x ∈ ps, x.block < W.heap.size) :
    len ≤ maxLen ∧ ScriptAt W A len := by
  obtain ⟨h1, h2, h3⟩ := open_structs Try.underlying53 Try.underlying58 (by kernel_rfl) (by kernel_rfl) (by decide) h
  refine ⟨by omega, fun k hk => ?_⟩
  obtain ⟨g, off, rfl, hi⟩ := h3 (by omega)
  obtain ⟨n, hf⟩ := hi k hk
  obtain ⟨u0, y0, c0, t0⟩ := hf 0 _ rfl
  obtain ⟨u1, y1, c1, t1⟩ := hf 1 _ rfl
  obtain ⟨u2, y2, c2, t2⟩ := hf 2 _ rfl
  obtain ⟨o, rfl⟩ := trod_bool1 Try.underlying4 t0
  obtain ⟨kd, rfl, _⟩ := trod_int1 Try.underlying3 t1
  obtain ⟨x, rfl, _⟩ := trod_int1 Try.underlying3 t2
  exact ⟨g, off, o, kd, x, rfl, World.block_lt_of_cell? W _ c0, c0, c1, c2⟩

theorem walk (one two : Int) (A : Option Addr) (len cap : Nat) (W : World) (hlen : len ≤ maxLen) (hsc : ScriptAt W A len) :
    Calls Try.prog 5 #[.int .i64 one, .int .i64 two, .slice A len cap] W fun e w' => e = .returned (.bool true) ∧ Below W.heap.size W w' := by
  by_cases h1 : one < 1 ∨ 256 < one
  · exact plays_bad1 one two _ W h1
  · by_cases h2 : two < 1 ∨ 256 < two
    · exact plays_bad2 one two _ W (by omega) (by omega) h2
    · exact plays_any one two A len cap W (by simpa [maxLen] using hlen) hsc (by omega) (by omega) (by omega) (by omega)

set_option maxRecDepth 100000 in
theorem lifted (os : Os) (started : os.Started) (H : Type) (enc : TypeId × Value → H) :
    ReturnsInHanded {} Try.checked os 5 .any (Rows.stackPlaysSpec.pre6 enc Try.prog Try.f5 Rows.stackPlaysRow.domain false) (Rows.stackPlaysSpec.post enc Try.prog Try.f5 false true false false) := by
  refine returnsInHanded_of_change (C := Try.checked) own started (by kernel_rfl) Try.func5
    (ChangeSpec.witness6 (enc := enc) (C := Try.checked) false ⟨#[], #[.int .i64 0, .int .i64 0, .slice none 0 0], []⟩ 8 (by kernel_rfl) (by kernel_rfl) (by kernel_rfl) (by kernel_rfl)) ?_
  intro W base args ds gs before hval0 hW hcnd _
  have hval : ∀ (j : Nat) t v, Try.f5.params[j]? = some t → args[j]? = some v → Value.okWide Try.prog W .any base t v := hval0
  have hW' := hW
  obtain ⟨p, q, hA0, hV, rfl, hfz, hnd⟩ := hW
  have hA : DataW.TrodAll enc Try.prog W 0 (fun _ => true) true Try.f5.params.toList args.toList ds p := hA0
  rw [Try.params5] at hA hval
  obtain ⟨v0, vs0, d0, ds0, p0, q0, hargs, rfl, rfl, h0, r0⟩ := trodAll_cons hA
  obtain ⟨v1, vs1, d1, ds1, p1, q1, rfl, rfl, rfl, h1, r1⟩ := trodAll_cons r0
  obtain ⟨v2, vs2, d2, ds2, p2, q2, rfl, rfl, rfl, h2, r2⟩ := trodAll_cons r1
  obtain ⟨rfl, rfl, rfl⟩ := trodAll_nil r2
  obtain rfl : args = #[v0, v1, v2] := by cases args; simp_all
  obtain ⟨rfl, rfl⟩ := trodVars_none hV
  have k0 := h0
  have k1 := h1
  have k2 := h2
  have lt0 : ∀ x ∈ p0, x.block < W.heap.size := by obtain ⟨m, hm⟩ := k0; exact DataW.trod_lt m _ _ _ hm
  have lt1 : ∀ x ∈ p1, x.block < W.heap.size := by obtain ⟨m, hm⟩ := k1; exact DataW.trod_lt m _ _ _ hm
  have lt2 : ∀ x ∈ p2, x.block < W.heap.size := by obtain ⟨m, hm⟩ := k2; exact DataW.trod_lt m _ _ _ hm
  obtain ⟨a0, rfl, _, _, _⟩ := open_int Try.underlying3 (hval 0 3 v0 rfl rfl) h0
  obtain ⟨a1, rfl, _, _, _⟩ := open_int Try.underlying3 (hval 1 3 v1 rfl rfl) h1
  obtain ⟨A, len, cap, rfl⟩ := okWide_slice Try.underlying53 (hval 2 53 v2 rfl rfl)
  obtain ⟨hl, hsc⟩ := script_open h2 lt2
  clear hA0 hval0
  refine (walk a0 a1 A len cap W hl hsc).mono fun e W' ⟨he, bel⟩ => ?_
  subst he
  exact ⟨_, rfl, _, _, _, [], _, [], hW', trodAll_mk1 (shut_bool Try.underlying4 _), (trodAll_cons_mk (Below.trod laidOut (by kernel_rfl) (of_decide_eq_true (by kernel_rfl)) k0 bel lt0) (trodAll_cons_mk (Below.trod laidOut (by kernel_rfl) (of_decide_eq_true (by kernel_rfl)) k1 bel lt1) (trodAll_cons_mk (Below.trod laidOut (by kernel_rfl) (of_decide_eq_true (by kernel_rfl)) k2 bel lt2) trodAll_mk0))), rfl, bel.frame _, fun h => by cases h⟩

theorem over : Rows.stackPlaysRow.holds Try.pinned (OpenSpec.ofChange Rows.stackPlaysSpec) :=
  OpenClaim.holds_of_wide 5 Try.f5 rfl rfl rfl rfl rfl rfl rfl ⟨rfl, rfl, rfl, rfl, rfl⟩ rfl rfl rfl rfl rfl (by kernel_rfl) Try.func5 (by kernel_rfl)
    (of_decide_eq_true (by kernel_rfl)) (by unfold Func.isWrapper; first | (rw [if_pos (by decide +kernel)]; kernel_rfl) | (rw [if_neg (by decide +kernel)]; exact ⟨rfl, rfl⟩))
    (fun os started H enc _ => lifted os started H enc)

theorem proved : Rows.StackPlaysSaid := over
end Go.Proofs.Ytaobddimjccbnaa.stackPlays
