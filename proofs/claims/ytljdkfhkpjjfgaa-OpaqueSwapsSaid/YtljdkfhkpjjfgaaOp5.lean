/- Memory as a map: lemmas for the laws of layer 22. -/
import Derived.Test.YtljdkfhkpjjfgaaOp4
import Derived.Test.YtljdkfhkpjjfgaaMaps
namespace Go.Proofs.Ytljdkfhkpjjfgaa
open Go.RowKit Go.Shelf
set_option linter.unusedVariables false

abbrev Cells := Int → Option Int
def RepM (M : List (Int × Value)) (f : Cells) : Prop := ∀ k, lookM M k = (f k).map fun x => Value.int .i64 x
def putF (f : Cells) (k v : Int) : Cells := fun x => if x = k then some v else f x
theorem repM_nil : RepM [] fun _ => none := fun k => rfl
theorem repM_put {M : List (Int × Value)} {f : Cells} (h : RepM M f) (k v : Int) : RepM (updM M k (.int .i64 v)) (putF f k v) := by
  intro x
  rw [lookM_updM, putF]
  by_cases hk : k = x
  · subst hk; simp
  · rw [if_neg hk, if_neg (fun e => hk e.symm)]; exact h x
def memA (b : Nat) (f : Cells) : HA := exA fun M : List (Int × Value) => Holds [factA (RepM M f), mapA encI b M]
section
variable {W w : World} {L : List HA} {b : Nat} {f : Cells}
theorem mem_open (h : Star W w (memA b f :: L)) : ∃ M, RepM M f ∧ Star W w (mapA encI b M :: L) := by
  obtain ⟨M, h1⟩ := h.ex
  obtain ⟨hM, h2⟩ := h1.flat.fact
  exact ⟨M, hM, h2⟩
theorem mem_shut {M : List (Int × Value)} (hM : RepM M f) (h : Star W w (mapA encI b M :: L)) : Star W w (memA b f :: L) :=
  Star.exI (f := fun M : List (Int × Value) => Holds [factA (RepM M f), mapA encI b M]) M (Star.fold (L := [_, _]) (Star.factI hM h))
theorem zero2 (w : World) : (zeroValue 2).run Try.prog w = .ok (.int .i64 0) w := by kernel_rfl
theorem mem_look {t : TypeId} (ht : Try.prog.underlying t = some (.map 3 2)) (h : Star W w (memA b f :: L)) (k : Int) :
    (Instr.lookup t (.map (some b)) (.int .i64 k) false).run Try.prog w = .ok (.int .i64 ((f k).getD 0)) w := by
  obtain ⟨M, hM, h1⟩ := mem_open h
  have := run_lookup_m ht Try.underlying3 encI_key encI_inj zero2 h1 k false
  rw [hM k] at this
  have e : ((f k).map fun x => Value.int .i64 x).getD (.int .i64 0) = .int .i64 ((f k).getD 0) := by cases f k <;> rfl
  rw [e] at this
  exact this
theorem mem_look2 {t : TypeId} (ht : Try.prog.underlying t = some (.map 3 2)) (h : Star W w (memA b f :: L)) (k : Int) :
    (Instr.lookup t (.map (some b)) (.int .i64 k) true).run Try.prog w = .ok (.tuple #[.int .i64 ((f k).getD 0), .bool (f k).isSome]) w := by
  obtain ⟨M, hM, h1⟩ := mem_open h
  have := run_lookup_m ht Try.underlying3 encI_key encI_inj zero2 h1 k true
  rw [hM k] at this
  have e : ((f k).map fun x => Value.int .i64 x).getD (.int .i64 0) = .int .i64 ((f k).getD 0) := by cases f k <;> rfl
  rw [e, Option.isSome_map] at this
  exact this
theorem wpList_mem_put {ops : Array Oper} {rest : List Oper} {o : Oper} {a : Act} {Q : Exit → Act → World → Prop} (hgd : o.guard = none) (mo k x : Operand) (t : TypeId)
    (ho : o.op = .mapUpdate t mo k x) (ht : Try.prog.underlying t = some (.map 3 2))
    (hm : a.eval mo = .map (some b)) (key : Int) (hk : a.eval k = .int .i64 key) (v : Int) (hx : a.eval x = .int .i64 v) (hS : Star W w (memA b f :: L))
    (h : ∀ w', Star W w' (memA b (putF f key v) :: L) → wpList Try.prog ops Q rest (a.put o.dst undef) w') : wpList Try.prog ops Q (o :: rest) a w := by
  obtain ⟨M, hM, h1⟩ := mem_open hS
  exact wpList_update_star hgd mo k x t ho ht Try.underlying3 encI_key encI_inj hm key hk _ hx h1 fun w' h2 => h w' (mem_shut (repM_put hM key v) h2)
end
/-- memory at first -/
def begF (zs : List Int) : Cells := fun k => if 0 ≤ k then zs[k.toNat]? else none
theorem begF_snoc (zs : List Int) (z : Int) : begF (zs ++ [z]) = putF (begF zs) zs.length z := by
  funext k
  unfold begF putF
  dsimp only
  by_cases h0 : 0 ≤ k
  · rw [if_pos h0, if_pos h0]
    by_cases hk : k = zs.length
    · subst hk; simp
    · rw [if_neg hk]
      rcases Nat.lt_or_ge k.toNat zs.length with h | h
      · rw [List.getElem?_append_left h]
      · rw [List.getElem?_append_right h, List.getElem?_eq_none h, List.getElem?_eq_none (by simp; omega)]
  · rw [if_neg h0, if_neg h0, if_neg (by omega)]
theorem begF_nil : begF [] = fun _ => none := by funext k; unfold begF; split <;> simp
set_option maxRecDepth 100000 in
set_option maxHeartbeats 6400000 in
theorem begun_any (A : Option Addr) (n c : Nat) (zs : List Int) (w : World) (hS : Sl w A n 1 (intsC zs)) (hb : n * 8 ≤ 140737488355328) :
    Calls Try.prog 29 #[.slice A n c] w fun e w' => ∃ b, e = .returned (.map (some b)) ∧ Star w w' [memA b (begF zs), oldA w] := by
  have hzl : zs.length = n := by have := hS.1; rw [intsC_len] at this; omega
  have hmm := @run_makeMap Try.prog
  have h0 : Star w (w.alloc (.map #[] 0)) [memA w.heap.size (begF []), oldA w] := by
    rw [begF_nil]
    exact mem_shut repM_nil ((Star.begin w).mapNew encI)
  have H0 := Lib.hid h0
  have HS := Lib.hid hS
  have HZ := Lib.hid hzl
  clear hS hzl h0
  go_enter Try.func29, Try.ntmps29
  go_wp2_with fail
  go_loopw [9] (fun i wr => ∃ j : Nat, j ≤ n ∧ i = .int .i64 j ∧ Star w wr [memA w.heap.size (begF (zs.take j)), oldA w]) (fun i _ => n - (intOf i).toNat)
  case atStart => exact ⟨0, Nat.zero_le _, rfl, H0.out⟩
  case round =>
    clear H0
    obtain ⟨j, hj, rfl, hR⟩ := hrel
    by_cases hlt : j < n
    · obtain ⟨z, hz⟩ : ∃ z, zs[j]? = some z := ⟨_, List.getElem?_eq_getElem (by have := HZ.out; omega)⟩
      obtain ⟨g, o, rfl, hg, ca⟩ := HS.out.row hlt (by omega)
      have a0 : wr.cell? ⟨g, o + j, none⟩ = some (.int .i64 z) := ((hR.pull 1).oldCell hg).trans (by have := ca 0 _ (by rw [Nat.mul_one, Nat.add_zero]; exact intsC_get hz); simpa using this)
      have hjz : (j : Int) < n := by omega
      have ht : begF (zs.take (j + 1)) = putF (begF (zs.take j)) j z := by
        have h1 : zs.take (j + 1) = zs.take j ++ [z] := take_succ hz
        have h2 : (zs.take j).length = j := by rw [List.length_take]; have := HZ.out; omega
        rw [h1, begF_snoc, h2]
      have HT := Lib.hid ht
      have HR := Lib.hid hR
      clear ca hz ht hR
      go_wp2_with (refine wpList_mem_put rfl _ _ _ 61 rfl Try.underlying61 rfl j rfl z rfl HR.out ?_; intro w3 h3)
      have H3 := Lib.hid h3
      clear h3
      go_wp2
      go_roundw
      case rel => exact ⟨j + 1, by omega, by go_num, by rw [HT.out]; exact H3.out⟩
      case measure => simp [intOf]; omega
    · have hkn : j = n := by omega
      subst hkn
      have e1 : zs.take j = zs := List.take_of_length_le (by have := HZ.out; omega)
      rw [e1] at hR
      have HR := Lib.hid hR
      have hjz : ¬ (j : Int) < j := by omega
      clear hR
      go_wp2
      go_ret
      exact ⟨_, rfl, HR.out⟩
end Go.Proofs.Ytljdkfhkpjjfgaa
