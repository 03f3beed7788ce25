/- Keys that are structs; slices.Index and slices.Delete at them: lemmas for the law RedoAny. -/
import Derived.Test.YtabpipdhoflgpaaRed9
import Derived.Test.YtabpipdhoflgpaaMaps2
namespace Go.Proofs.Ytabpipdhoflgpaa
open Go.RowKit Go.MapKept
set_option linter.unusedVariables false

theorem Star.of_below {W w w' : World} {L : List HA} (h : Star W w L) (hb : Below w.heap.size w w') : Star W w' L :=
  ⟨⟨hb.os.trans h.1.os, hb.tape.trans h.1.tape, hb.output.trans h.1.output⟩, h.2.up fun k o hk => by
    have hlt : k < w.heap.size := by
      rcases Nat.lt_or_ge k w.heap.size with hlt | hge
      · exact hlt
      · simp only [heapOf] at hk; rw [Array.getElem?_eq_none hge] at hk; cases hk
    simp only [heapOf] at hk ⊢
    rw [hb.block k hlt]; exact hk⟩

abbrev Key := ByteArray × Int
def encKey (k : Key) : Value := .agg #[.string k.1, .int .i64 k.2]
def k2 : List Key → List Value
  | [] => []
  | k :: r => .string k.1 :: .int .i64 k.2 :: k2 r
theorem k2_len : ∀ ks : List Key, (k2 ks).length = ks.length * 2
  | [] => rfl
  | k :: r => by simp [k2, k2_len r]; omega
theorem k2_app : ∀ a b : List Key, k2 (a ++ b) = k2 a ++ k2 b
  | [], b => rfl
  | k :: r, b => by simp [k2, k2_app r b]
theorem k2_at : ∀ {ks : List Key} {j : Nat} {k : Key}, ks[j]? = some k → (k2 ks)[j * 2]? = some (.string k.1) ∧ (k2 ks)[j * 2 + 1]? = some (.int .i64 k.2)
  | [], j, k, h => by simp at h
  | a :: r, 0, k, h => by simp at h; subst h; simp [k2]
  | a :: r, j + 1, k, h => by
    have := k2_at (ks := r) (j := j) (k := k) (by simpa using h)
    rw [show (j + 1) * 2 = j * 2 + 1 + 1 by omega]
    simp only [k2, List.getElem?_cons_succ]
    exact this
theorem k2_take : ∀ (ks : List Key) (m : Nat), (k2 ks).take (m * 2) = k2 (ks.take m)
  | [], m => by simp [k2]
  | a :: r, 0 => by simp [k2]
  | a :: r, m + 1 => by
    rw [show (m + 1) * 2 = m * 2 + 1 + 1 by omega]
    simp only [k2, List.take_succ_cons, k2_take r m]
theorem k2_drop : ∀ (ks : List Key) (m : Nat), (k2 ks).drop (m * 2) = k2 (ks.drop m)
  | [], m => by simp [k2]
  | a :: r, 0 => by simp [k2]
  | a :: r, m + 1 => by
    rw [show (m + 1) * 2 = m * 2 + 1 + 1 by omega]
    simp only [k2, List.drop_succ_cons, k2_drop r m]
theorem k2_one : ∀ ks : List Key, ∀ u ∈ k2 ks, u.oneCell' = true
  | [], u, h => by simp [k2] at h
  | a :: r, u, h => by
    simp only [k2, List.mem_cons] at h
    rcases h with rfl | rfl | h
    · rfl
    · rfl
    · exact k2_one r u h
theorem k2_erase (ks : List Key) (j : Nat) : k2 (ks.eraseIdx j) = (k2 ks).take (j * 2) ++ (k2 ks).drop ((j + 1) * 2) := by
  rw [List.eraseIdx_eq_take_drop_succ, k2_app, k2_take, k2_drop]
theorem encKey_inj (x y : Key) (h : encKey x = encKey y) : x = y := by
  obtain ⟨a, b⟩ := x
  obtain ⟨c, d⟩ := y
  simp only [encKey, Value.agg.injEq, Array.mk.injEq, List.cons.injEq, Value.string.injEq, Value.int.injEq, and_true, true_and] at h
  simp [h]

theorem und29 : Try.prog.underlying 29 = some (.struct (Try.prog.fieldsOf 29)) := by kernel_rfl
theorem fields29 : Try.prog.fieldsOf 29 = #[⟨"S", 9, 0, false, "", "", 0⟩, ⟨"N", 3, 1, false, "", "", 16⟩] := by kernel_rfl
theorem held29 : Try.prog.stoodInHeld 29 = false := by kernel_rfl
theorem bytes_toList_eq (s t : ByteArray) : (s.toList == t.toList) = decide (s = t) := by
  rw [← beq_toListBytes]
  by_cases h : s = t
  · subst h
    have := (bytes_beq s s).2 rfl
    simp [this]
  · have : (s == t) = false := by
      cases e : s == t with
      | false => rfl
      | true => exact absurd ((bytes_beq s t).1 e) h
    simp [this, h]
theorem key_equalIn (s t : ByteArray) (i j : Int) (w : World) : (Op.equalIn 10000 29 (.agg #[.string s, .int .i64 i]) (.agg #[.string t, .int .i64 j])).run Try.prog w = .ok (decide ((s, i) = (t, j))) w := by
  rw [run_equalIn_struct w 9999 29 _ _ und29 held29, fields29]
  simp [go_sem, Op.eqFields]
  have h0 := bytes_toList_eq s t
  by_cases h1 : s = t
  · subst h1
    by_cases h2 : i = j
    · simp [h2]
    · simp [h2]
  · have h3 : s.toList ≠ t.toList := by intro e; rw [e] at h0; simp [h1] at h0
    simp [h3, h1]
theorem key_eql (s t : ByteArray) (i j : Int) (w : World) : (binOp .eql 29 (.agg #[.string s, .int .i64 i]) (.agg #[.string t, .int .i64 j])).run Try.prog w = .ok (.bool (decide ((s, i) = (t, j)))) w := by
  rw [run_eql_struct, key_equalIn]; rfl
theorem key_neq (s t : ByteArray) (i j : Int) (w : World) : (binOp .neq 29 (.agg #[.string s, .int .i64 i]) (.agg #[.string t, .int .i64 j])).run Try.prog w = .ok (.bool (!decide ((s, i) = (t, j)))) w := by
  rw [run_neq_struct, key_equalIn]; rfl
theorem key_check (x : Key) (em : Bool) (n : Nat) (w : World) : (Instr.checkKey em (n + 2) 29 (encKey x)).run Try.prog w = .ok () w := by
  obtain ⟨s, i⟩ := x
  have h9 : ∀ w, (Instr.checkKey em (n + 1) 9 (.string s)).run Try.prog w = .ok () w := fun w => by
    unfold Instr.checkKey
    simp [run_underlying Try.underlying9]
  have h3 : ∀ w, (Instr.checkKey em (n + 1) 3 (.int .i64 i)).run Try.prog w = .ok () w := fun w => by
    unfold Instr.checkKey
    simp [run_underlying Try.underlying3]
  have p9 : ∀ w, (part 9 #[.string s, .int .i64 i] 0).run Try.prog w = .ok (.string s) w := fun w => by kernel_rfl
  have p3 : ∀ w, (part 3 #[.string s, .int .i64 i] 1).run Try.prog w = .ok (.int .i64 i) w := fun w => by kernel_rfl
  unfold Instr.checkKey encKey
  rw [Sem.run_bind, run_underlying und29, fields29]
  simp [h9, h3, p9, p3]
theorem keyOK : KeyOK Try.prog 29 encKey where
  check := fun x em w => key_check x em 9998 w
  eq := fun x y w => by
    obtain ⟨s, i⟩ := x
    obtain ⟨t, j⟩ := y
    simp only [Op.equal, encKey]
    exact key_equalIn s t i j w
  wide := by kernel_rfl
  bits := fun x => by
    obtain ⟨s, n⟩ := x
    simp [Instr.sameBits, encKey, (bytes_beq s s).2 rfl]
theorem Try.info29 : (Try.prog.info? 29).map (fun i => (i.zero, i.size, i.bytes)) = some (some (.agg #[.string ByteArray.empty, .int .i64 0]), 2, 24) := by kernel_rfl
theorem zero29 (w : World) : (zeroValue 29).run Try.prog w = .ok (.agg #[.string ⟨#[]⟩, .int .i64 0]) w := by kernel_rfl
theorem zero72 (w : World) : (zeroValue 72).run Try.prog w = .ok (.slice none 0 0) w := by kernel_rfl

/-- clear of one element of some cells -/
theorem run_clear_one {P : Program} (w : World) (t e ty : TypeId) (z : Value) (zs : List Value) (ht : P.underlying t = some (.slice e)) (hv : ∀ w, (zeroValue e).run P w = .ok z w) (hz : (Builtin.zeroCells z.cells 1).toList = zs) (h1 : ∀ v ∈ zs, v.oneCell' = true) (b o c : Nat)
    (hc : ∀ j, j < zs.length → (w.cell? ⟨b, o + j, none⟩).isSome = true) (hf : ∀ j, j < zs.length → w.frozen? ⟨b, o + j, none⟩ = false) :
    (Builtin.clear_ #[t] ty #[.slice (some ⟨b, o, none⟩) 1 c]).run P w = .ok (.tuple #[]) (w.setCells b o zs) := by
  have hst := run_storeCells_cells (P := P) b o zs 0 w (by simpa using hc) (by simpa using hf) h1
  simp only [Nat.add_zero] at hst
  simp [Builtin.clear_, run_underlying ht, hv, hz, hst]

set_option maxHeartbeats 1600000 in
theorem index_key (A : Option Addr) (n c : Nat) (ks : List Key) (k : Key) (w : World) (hA : Sl w A n 2 (k2 ks)) (hn : n ≤ 9223372036854775807) :
    Calls Try.prog 25 #[.slice A n c, .agg #[.string k.1, .int .i64 k.2]] w fun e w' => e = .returned (.int .i64 (placeZ ks k)) ∧ Below w.heap.size w w' := by
  have hkl : ks.length = n := by have := hA.1; rw [k2_len] at this; omega
  have h0 := (Star.begin w).new (.cells #[.string k.1, .int .i64 k.2] 29)
  obtain ⟨wO, hwO⟩ : ∃ wO, wO = w.alloc (.cells #[.string k.1, .int .i64 k.2] 29) := ⟨_, rfl⟩
  rw [← hwO] at h0
  have e0 : wO.cell? ⟨w.heap.size, 0, none⟩ = some (.string k.1) := h0.cell 0
  have e1 : wO.cell? ⟨w.heap.size, 1, none⟩ = some (.int .i64 k.2) := h0.cell 1
  have hSl : Sl wO A n 2 (k2 ks) := ⟨hA.1, fun h => by
    obtain ⟨g, o, e, hc⟩ := hA.2 h
    exact ⟨g, o, e, fun j u hu => by
      have := hc j u hu
      rw [← h0.swap.oldCell (World.block_lt_of_cell? w _ this)] at this
      exact this⟩⟩
  have HS := Lib.hid hSl
  have H0 := Lib.hid h0
  clear hSl hA h0
  go_enter Try.func25, Try.ntmps25
  go_wp2_with fail
  rw [← hwO]
  clear hwO
  go_loopw [8] (fun i wr => ∃ q : Nat, q ≤ n ∧ i = .int .i64 q ∧ Hid (k ∉ ks.take q) ∧ ∃ m, wr = wO.drewN m) (fun i _ => n - (intOf i).toNat)
  case atStart => exact ⟨0, Nat.zero_le _, rfl, by simp [Hid], 0, rfl⟩
  case round =>
    obtain ⟨q, hq, rfl, hnk, m, rfl⟩ := hrel
    by_cases hqn : q < n
    · obtain ⟨x, hx⟩ : ∃ x, ks[q]? = some x := ⟨_, List.getElem?_eq_getElem (by omega)⟩
      obtain ⟨g, o, rfl, hcl⟩ := HS.out.2 (by omega)
      obtain ⟨x1, x2⟩ := k2_at hx
      have f1 := hcl _ _ x1
      have f2 := hcl _ _ x2
      have ke := fun w => key_eql k.1 x.1 k.2 x.2 w
      have hqz : (q : Int) < n := by omega
      rw [← Nat.add_assoc] at f2
      clear hcl x1 x2
      by_cases hkx : k = x
      · have hd : decide ((k.1, k.2) = (x.1, x.2)) = true := by subst hkx; simp
        have hp : placeZ ks k = q := placeZ_hit (by rw [hx, hkx]) hnk.out
        go_wp2
        go_quiet (fail)
        go_wp2
        go_ret
        exact ⟨by rw [hp]; rfl, (((H0.out.drewN _).drewN _).pull 1).below⟩
      · have hd : decide ((k.1, k.2) = (x.1, x.2)) = false := by simp; intro h1 h2; exact hkx (Prod.ext h1 h2)
        have ht := Lib.hid (take_miss hx (fun e => hkx e.symm) hnk.out)
        go_wp2
        go_quiet (fail)
        go_wp2
        go_roundw
        case rel => exact ⟨q + 1, by omega, by go_num, ht, _, rfl⟩
        case measure => simp [intOf]; omega
    · have hp : placeZ ks k = -1 := placeZ_miss (by have := hnk.out; rwa [List.take_of_length_le (by omega)] at this)
      go_wp2
      go_ret
      exact ⟨by rw [hp]; rfl, ((H0.out.drewN _).pull 1).below⟩
end Go.Proofs.Ytabpipdhoflgpaa
