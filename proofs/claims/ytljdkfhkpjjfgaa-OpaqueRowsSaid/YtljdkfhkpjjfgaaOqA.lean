/- Memory, explained, leaves, every: lemmas for the laws of layer 22. -/
import Derived.Test.YtljdkfhkpjjfgaaOp4
import Derived.Test.YtljdkfhkpjjfgaaMaps
import Derived.Test.YtljdkfhkpjjfgaaMem2
namespace Go.Proofs.Ytljdkfhkpjjfgaa
open Go.RowKit Go.Shelf
set_option linter.unusedVariables false

abbrev Cells := Int → Option Int
def RepM (M : List (Int × Value)) (f : Cells) : Prop := ∀ k, lookM M k = (f k).map fun x => Value.int .i64 x
def putF (f : Cells) (k v : Int) : Cells := fun x => if x = k then some v else f x
theorem repM_nil : RepM [] fun _ => none := fun k => rfl
theorem repM_put {M : List (Int × Value)} {f : Cells} (h : RepM M f) (k v : Int) : RepM (updM M k (.int .i64 v)) (putF f k v) := by
  intro x
  rw [lookM_updM, putF]
  by_cases hk : k = x
  · subst hk; simp
  · rw [if_neg hk, if_neg (fun e => hk e.symm)]; exact h x
def memA (b : Nat) (f : Cells) : HA := exA fun M : List (Int × Value) => Holds [factA (RepM M f), mapA encI b M]
section
variable {W w : World} {L : List HA} {b : Nat} {f : Cells}
theorem mem_open (h : Star W w (memA b f :: L)) : ∃ M, RepM M f ∧ Star W w (mapA encI b M :: L) := by
  obtain ⟨M, h1⟩ := h.ex
  obtain ⟨hM, h2⟩ := h1.flat.fact
  exact ⟨M, hM, h2⟩
theorem mem_shut {M : List (Int × Value)} (hM : RepM M f) (h : Star W w (mapA encI b M :: L)) : Star W w (memA b f :: L) :=
  Star.exI (f := fun M : List (Int × Value) => Holds [factA (RepM M f), mapA encI b M]) M (Star.fold (L := [_, _]) (Star.factI hM h))
theorem zero2 (w : World) : (zeroValue 2).run Try.prog w = .ok (.int .i64 0) w := by kernel_rfl
theorem mem_look {t : TypeId} (ht : Try.prog.underlying t = some (.map 3 2)) (h : Star W w (memA b f :: L)) (k : Int) :
    (Instr.lookup t (.map (some b)) (.int .i64 k) false).run Try.prog w = .ok (.int .i64 ((f k).getD 0)) w := by
  obtain ⟨M, hM, h1⟩ := mem_open h
  have := run_lookup_m ht Try.underlying3 encI_key encI_inj zero2 h1 k false
  rw [hM k] at this
  have e : ((f k).map fun x => Value.int .i64 x).getD (.int .i64 0) = .int .i64 ((f k).getD 0) := by cases f k <;> rfl
  rw [e] at this
  exact this
theorem mem_look2 {t : TypeId} (ht : Try.prog.underlying t = some (.map 3 2)) (h : Star W w (memA b f :: L)) (k : Int) :
    (Instr.lookup t (.map (some b)) (.int .i64 k) true).run Try.prog w = .ok (.tuple #[.int .i64 ((f k).getD 0), .bool (f k).isSome]) w := by
  obtain ⟨M, hM, h1⟩ := mem_open h
  have := run_lookup_m ht Try.underlying3 encI_key encI_inj zero2 h1 k true
  rw [hM k] at this
  have e : ((f k).map fun x => Value.int .i64 x).getD (.int .i64 0) = .int .i64 ((f k).getD 0) := by cases f k <;> rfl
  rw [e, Option.isSome_map] at this
  exact this
theorem wpList_mem_put {ops : Array Oper} {rest : List Oper} {o : Oper} {a : Act} {Q : Exit → Act → World → Prop} (hgd : o.guard = none) (mo k x : Operand) (t : TypeId)
    (ho : o.op = .mapUpdate t mo k x) (ht : Try.prog.underlying t = some (.map 3 2))
    (hm : a.eval mo = .map (some b)) (key : Int) (hk : a.eval k = .int .i64 key) (v : Int) (hx : a.eval x = .int .i64 v) (hS : Star W w (memA b f :: L))
    (h : ∀ w', Star W w' (memA b (putF f key v) :: L) → wpList Try.prog ops Q rest (a.put o.dst undef) w') : wpList Try.prog ops Q (o :: rest) a w := by
  obtain ⟨M, hM, h1⟩ := mem_open hS
  exact wpList_update_star hgd mo k x t ho ht Try.underlying3 encI_key encI_inj hm key hk _ hx h1 fun w' h2 => h w' (mem_shut (repM_put hM key v) h2)
end
/-- memory at first -/
def begF (zs : List Int) : Cells := fun k => if 0 ≤ k then zs[k.toNat]? else none
theorem begF_snoc (zs : List Int) (z : Int) : begF (zs ++ [z]) = putF (begF zs) zs.length z := by
  funext k
  unfold begF putF
  dsimp only
  by_cases h0 : 0 ≤ k
  · rw [if_pos h0, if_pos h0]
    by_cases hk : k = zs.length
    · subst hk; simp
    · rw [if_neg hk]
      rcases Nat.lt_or_ge k.toNat zs.length with h | h
      · rw [List.getElem?_append_left h]
      · rw [List.getElem?_append_right h, List.getElem?_eq_none h, List.getElem?_eq_none (by simp; omega)]
  · rw [if_neg h0, if_neg h0, if_neg (by omega)]
theorem begF_nil : begF [] = fun _ => none := by funext k; unfold begF; split <;> simp
set_option maxRecDepth 100000 in
set_option maxHeartbeats 6400000 in
theorem begun_any (A : Option Addr) (n c : Nat) (zs : List Int) (w : World) (hS : Sl w A n 1 (intsC zs)) (hb : n * 8 ≤ 140737488355328) :
    Calls Try.prog 29 #[.slice A n c] w fun e w' => ∃ b, e = .returned (.map (some b)) ∧ Star w w' [memA b (begF zs), oldA w] := by
  have hzl : zs.length = n := by have := hS.1; rw [intsC_len] at this; omega
  have hmm := @run_makeMap Try.prog
  have h0 : Star w (w.alloc (.map #[] 0)) [memA w.heap.size (begF []), oldA w] := by
    rw [begF_nil]
    exact mem_shut repM_nil ((Star.begin w).mapNew encI)
  have H0 := Lib.hid h0
  have HS := Lib.hid hS
  have HZ := Lib.hid hzl
  clear hS hzl h0
  go_enter Try.func29, Try.ntmps29
  go_wp2_with fail
  go_loopw [9] (fun i wr => ∃ j : Nat, j ≤ n ∧ i = .int .i64 j ∧ Star w wr [memA w.heap.size (begF (zs.take j)), oldA w]) (fun i _ => n - (intOf i).toNat)
  case atStart => exact ⟨0, Nat.zero_le _, rfl, H0.out⟩
  case round =>
    clear H0
    obtain ⟨j, hj, rfl, hR⟩ := hrel
    by_cases hlt : j < n
    · obtain ⟨z, hz⟩ : ∃ z, zs[j]? = some z := ⟨_, List.getElem?_eq_getElem (by have := HZ.out; omega)⟩
      obtain ⟨g, o, rfl, hg, ca⟩ := HS.out.row hlt (by omega)
      have a0 : wr.cell? ⟨g, o + j, none⟩ = some (.int .i64 z) := ((hR.pull 1).oldCell hg).trans (by have := ca 0 _ (by rw [Nat.mul_one, Nat.add_zero]; exact intsC_get hz); simpa using this)
      have hjz : (j : Int) < n := by omega
      have ht : begF (zs.take (j + 1)) = putF (begF (zs.take j)) j z := by
        have h1 : zs.take (j + 1) = zs.take j ++ [z] := take_succ hz
        have h2 : (zs.take j).length = j := by rw [List.length_take]; have := HZ.out; omega
        rw [h1, begF_snoc, h2]
      have HT := Lib.hid ht
      have HR := Lib.hid hR
      clear ca hz ht hR
      go_wp2_with (refine wpList_mem_put rfl _ _ _ 61 rfl Try.underlying61 rfl j rfl z rfl HR.out ?_; intro w3 h3)
      have H3 := Lib.hid h3
      clear h3
      go_wp2
      go_roundw
      case rel => exact ⟨j + 1, by omega, by go_num, by rw [HT.out]; exact H3.out⟩
      case measure => simp [intOf]; omega
    · have hkn : j = n := by omega
      subst hkn
      have e1 : zs.take j = zs := List.take_of_length_le (by have := HZ.out; omega)
      rw [e1] at hR
      have HR := Lib.hid hR
      have hjz : ¬ (j : Int) < j := by omega
      clear hR
      go_wp2
      go_ret
      exact ⟨_, rfl, HR.out⟩
end Go.Proofs.Ytljdkfhkpjjfgaa
namespace Go.Proofs.Ytljdkfhkpjjfgaa
open Go.RowKit Go.Shelf
set_option linter.unusedVariables false

/-- what a read of a story should tell -/
def wantF (f own : Cells) (k : Int) : Int := match own k with | some v => v | none => (f k).getD 0
/-- do all reads tell what there is -/
def explS (f : Cells) : Cells → List Mv → Bool
  | _, [] => true
  | own, m :: ms => if m.write then explS f (putF own m.cell m.x) ms else if wantF f own m.cell = m.x then explS f own ms else false
def ownS (own : Cells) (m : Mv) : Cells := if m.write then putF own m.cell m.x else own
set_option maxRecDepth 100000 in
set_option maxHeartbeats 6400000 in
theorem explained_any (s : Sto) (A : Option Addr) (k c b : Nat) (f : Cells) (R : List HA) (W w : World) (hM : Star W w (memA b f :: R)) (hS : Sl w A k 6 (mvsC s.moves)) (hk : s.moves.length = k) (hbig : k * 48 ≤ 140737488355328) :
    Calls Try.prog 30 #[.map (some b), .agg (stoC s (.slice A k c)).toArray] w fun e w' => e = .returned (.bool (explS f (fun _ => none) s.moves)) ∧ Below w.heap.size w w' := by
  have hmm := @run_makeMap Try.prog
  obtain ⟨th, sp, bg, en, fa, er, by_, op, ga, ms⟩ := s
  dsimp only at hS hk
  dsimp only [stoC]
  have h0 := (Star.begin w).new (.cells #[.int .i64 th, .int .i64 sp, .int .i64 bg, .int .i64 en, .int .i64 fa, .int .i64 er, .int .i64 by_, .int .i64 op, .int .i64 ga, .slice A k c] 44)
  have h1 := (h0.mapNew encI)
  simp only [World.size_alloc] at h1
  have h2 := mem_shut repM_nil h1
  have HM := Lib.hid hM
  have HS := Lib.hid hS
  have HK := Lib.hid hk
  clear hM hS hk h0 h1
  go_enter Try.func30, Try.ntmps30
  go_wp2_with fail
  have H2 := Lib.hid h2
  clear h2
  go_loopw [14] (fun i wr => ∃ j : Nat, j ≤ k ∧ i = .int .i64 j ∧ ∃ own : Cells, Star w wr [memA (w.heap.size + 1) own, oldA w] ∧ Hid (explS f (fun _ => none) ms = explS f own (ms.drop j))) (fun i _ => k - (intOf i).toNat)
  case atStart => exact ⟨0, Nat.zero_le _, rfl, _, H2.out.pick 3 [0, 2], Lib.hid rfl⟩
  case round =>
    clear H2
    obtain ⟨j, hj, rfl, own, hR, hE⟩ := hrel
    by_cases hlt : j < k
    · obtain ⟨m, hm⟩ : ∃ m, ms[j]? = some m := ⟨_, List.getElem?_eq_getElem (by have := HK.out; omega)⟩
      obtain ⟨g, o, rfl, hg, ca⟩ := HS.out.row hlt (by omega)
      have fm : ∀ i u, (mvC m)[i]? = some u → i < 6 → wr.cell? ⟨g, o + j * 6 + i, none⟩ = some u := fun i u hu hi => ((hR.pull 1).oldCell hg).trans (ca i u (by rw [mvsC_at hm hi]; exact hu))
      have a0 := fm 0 _ rfl (by omega)
      have a1 := fm 1 _ rfl (by omega)
      have a2 := fm 2 _ rfl (by omega)
      have a3 := fm 3 _ rfl (by omega)
      have a4 := fm 4 _ rfl (by omega)
      have a5 := fm 5 _ rfl (by omega)
      simp only [Nat.add_zero] at a0
      have hjz : (j : Int) < k := by omega
      have hdr : ms.drop j = m :: ms.drop (j + 1) := (by have := List.drop_eq_getElem_cons (l := ms) (i := j) (List.getElem?_eq_some_iff.1 hm).1; rw [(List.getElem?_eq_some_iff.1 hm).2] at this; exact this)
      rw [hdr] at hE
      have hN := hR.new (.cells #[.int .i64 m.step, .bool m.write, .int .i64 m.cell, .int .i64 m.x, .bool m.own, .int .i64 m.gate] 46)
      have hF := hN.frame (L := [_, _]) HM.out
      have x1 : (wr.alloc (.cells #[.int .i64 m.step, .bool m.write, .int .i64 m.cell, .int .i64 m.x, .bool m.own, .int .i64 m.gate] 46)).cell? ⟨wr.heap.size, 1, none⟩ = some (.bool m.write) := hN.cell 1
      have x2 : (wr.alloc (.cells #[.int .i64 m.step, .bool m.write, .int .i64 m.cell, .int .i64 m.x, .bool m.own, .int .i64 m.gate] 46)).cell? ⟨wr.heap.size, 2, none⟩ = some (.int .i64 m.cell) := hN.cell 2
      have x3 : (wr.alloc (.cells #[.int .i64 m.step, .bool m.write, .int .i64 m.cell, .int .i64 m.x, .bool m.own, .int .i64 m.gate] 46)).cell? ⟨wr.heap.size, 3, none⟩ = some (.int .i64 m.x) := hN.cell 3
      have hl1 := mem_look2 Try.underlying60 (hN.pull 1) m.cell
      have hl2 := mem_look Try.underlying61 (hF.pull 2) m.cell
      obtain ⟨st, wt, ce, xx, ow, ga2⟩ := m
      dsimp only [mvC] at a0 a1 a2 a3 a4 a5 x1 x2 x3 hl1 hl2 hE
      have HN := Lib.hid hN
      clear fm ca hm hdr hR hN hF
      cases wt with
      | true =>
        have e1 : explS f (fun _ => none) ms = explS f (putF own ce xx) (ms.drop (j + 1)) := by rw [hE.out]; rfl
        have E1 := Lib.hid e1
        clear hE e1 hl1 hl2
        go_wp2_with (refine wpList_mem_put rfl _ _ _ 60 rfl Try.underlying60 rfl ce rfl xx rfl (HN.out.pull 1) ?_; intro w3 h3)
        have H3 := Lib.hid h3
        clear h3
        go_wp2
        go_roundw
        case rel => exact ⟨j + 1, by omega, by go_num, _, H3.out.pick 3 [0, 2], E1⟩
        case measure => simp [intOf]; omega
      | false =>
        have e1 : explS f (fun _ => none) ms = if wantF f own ce = xx then explS f own (ms.drop (j + 1)) else false := by rw [hE.out]; rfl
        cases ho : own ce with
        | some v =>
          have e2 : wantF f own ce = v := by rw [wantF, ho]
          rw [e2] at e1
          rw [ho] at hl1
          simp only [Option.getD_some, Option.isSome_some] at hl1
          by_cases hv : v = xx
          · rw [if_pos hv] at e1
            have E1 := Lib.hid e1
            have hvb : (v != xx) = false := by simpa using hv
            clear hE e1 e2 ho hl2 hv
            go_wp2
            go_roundw
            case rel => exact ⟨j + 1, by omega, by go_num, _, HN.out.pick 3 [1, 2], E1⟩
            case measure => simp [intOf]; omega
          · rw [if_neg hv] at e1
            have E1 := Lib.hid e1
            have hvb : (v != xx) = true := by simpa using hv
            clear hE e1 e2 ho hl2 hv
            go_wp2
            go_ret
            exact ⟨by rw [E1.out]; rfl, (HN.out.pull 2).below⟩
        | none =>
          have e2 : wantF f own ce = (f ce).getD 0 := by rw [wantF, ho]
          rw [e2] at e1
          rw [ho] at hl1
          simp only [Option.getD_none, Option.isSome_none] at hl1
          generalize (f ce).getD 0 = v at e1 hl2
          by_cases hv : v = xx
          · rw [if_pos hv] at e1
            have E1 := Lib.hid e1
            have hvb : (v != xx) = false := by simpa using hv
            clear hE e1 e2 ho hv
            go_wp2
            go_roundw
            case rel => exact ⟨j + 1, by omega, by go_num, _, HN.out.pick 3 [1, 2], E1⟩
            case measure => simp [intOf]; omega
          · rw [if_neg hv] at e1
            have E1 := Lib.hid e1
            have hvb : (v != xx) = true := by simpa using hv
            clear hE e1 e2 ho hv
            go_wp2
            go_ret
            exact ⟨by rw [E1.out]; rfl, (HN.out.pull 2).below⟩
    · have hkn : j = k := by omega
      subst hkn
      have e1 : ms.drop j = [] := List.drop_eq_nil_of_le (by have := HK.out; omega)
      rw [e1] at hE
      have e2 : explS f (fun _ => none) ms = true := by rw [hE.out]; rfl
      have E2 := Lib.hid e2
      have HR := Lib.hid hR
      have hjz : ¬ (j : Int) < j := by omega
      clear hR e1 e2 hE
      go_wp2
      go_ret
      exact ⟨by rw [E2.out]; rfl, (HR.out.pull 1).below⟩
end Go.Proofs.Ytljdkfhkpjjfgaa
namespace Go.Proofs.Ytljdkfhkpjjfgaa
open Go.RowKit Go.Shelf
set_option linter.unusedVariables false

/-- what cells held ahead of writes -/
def wasS : Cells → List (Int × Int) → List (Int × Int)
  | _, [] => []
  | f, (k, v) :: ps => (k, (f k).getD 0) :: wasS (putF f k v) ps
def putsF (f : Cells) (ps : List (Int × Int)) : Cells := ps.foldl (fun g p => putF g p.1 p.2) f
def leftOf (s : Sto) : List (Int × Int) := if s.fate = 1 then writesOf s.moves else []
theorem was_len : ∀ (ps : List (Int × Int)) (f : Cells), (wasS f ps).length = ps.length
  | [], f => rfl
  | (k, v) :: ps, f => by rw [wasS, List.length_cons, was_len ps, List.length_cons]
theorem was_snoc : ∀ (ps : List (Int × Int)) (f : Cells) (k v : Int), wasS f (ps ++ [(k, v)]) = wasS f ps ++ [(k, ((putsF f ps) k).getD 0)]
  | [], f, k, v => rfl
  | (k', v') :: ps, f, k, v => by
    rw [List.cons_append, wasS, was_snoc ps, wasS]; rfl
theorem puts_snoc (ps : List (Int × Int)) (f : Cells) (k v : Int) : putsF f (ps ++ [(k, v)]) = putF (putsF f ps) k v := by simp [putsF]
set_option maxRecDepth 100000 in
set_option maxHeartbeats 6400000 in
theorem leaves_any (s : Sto) (A : Option Addr) (k c b : Nat) (f : Cells) (R : List HA) (W w : World) (hM : Star W w (memA b f :: R)) (hS : Sl w A k 6 (mvsC s.moves)) (hk : s.moves.length = k) (hbig : k * 48 ≤ 140737488355328) :
    Calls Try.prog 31 #[.map (some b), .agg (stoC s (.slice A k c)).toArray] w fun e w' => ∃ a q, e = .returned (.slice a (leftOf s).length q) ∧ Star W w' (rowA 70 2 (.slice a (leftOf s).length q) (leftOf s).length (pairsC (wasS f (leftOf s))) :: memA b (putsF f (leftOf s)) :: R) := by
  obtain ⟨i0, hi, hz0, hz1, hz2⟩ := info_parts Try.info70
  have WA := Lib.hid fun W h => writes_any s A k c W h hk hbig
  have hwl : (writesOf s.moves).length ≤ s.moves.length := writes_len s.moves
  have hlf : leftOf s = if s.fate = 1 then writesOf s.moves else [] := rfl
  have HL := Lib.hid hlf
  generalize leftOf s = lf at HL ⊢
  obtain ⟨th, sp, bg, en, fa, er, by_, op, ga, ms⟩ := s
  dsimp only at hS hk hwl HL
  simp only [stoC] at WA ⊢
  have h0 := hM.new (.cells #[.int .i64 th, .int .i64 sp, .int .i64 bg, .int .i64 en, .int .i64 fa, .int .i64 er, .int .i64 by_, .int .i64 op, .int .i64 ga, .slice A k c] 44)
  have o0 := (Star.begin w).new (.cells #[.int .i64 th, .int .i64 sp, .int .i64 bg, .int .i64 en, .int .i64 fa, .int .i64 er, .int .i64 by_, .int .i64 op, .int .i64 ga, .slice A k c] 44)
  have s4 : (w.alloc (.cells #[.int .i64 th, .int .i64 sp, .int .i64 bg, .int .i64 en, .int .i64 fa, .int .i64 er, .int .i64 by_, .int .i64 op, .int .i64 ga, .slice A k c] 44)).cell? ⟨w.heap.size, 4, none⟩ = some (.int .i64 fa) := h0.cell 4
  have HS := Lib.hid (hS.after (by omega) o0.swap)
  have H0 := Lib.hid h0
  clear hM hS h0 o0 hlf
  go_enter Try.func31, Try.ntmps31
  by_cases hf : fa = 1
  · have hff : (fa == 1) = true := by simpa using hf
    have hl2 : lf = writesOf ms := by rw [HL.out, if_pos hf]
    clear HL hf
    go_wp2_with fail
    refine (WA.out _ HS.out).mono ?_
    rintro e' w1 ⟨ra, rc, rfl, h1⟩
    have h2 := h1.frame (L := [_]) H0.out
    rw [← hl2] at h2 ⊢
    have hll : lf.length ≤ k := by rw [hl2]; omega
    have H2 := Lib.hid (h2.swap.drop)
    clear h1 h2 WA HS H0 hwl hl2 s4
    go_wp2_with fail
    go_loopw [5, 14] (fun bb i wr => ∃ j : Nat, j ≤ lf.length ∧ i = .int .i64 j ∧ ∃ a q, bb = .slice a j q ∧ Star W wr (rowA 70 2 (.slice a j q) j (pairsC (wasS f (lf.take j))) :: rowA 70 2 (.slice ra lf.length rc) lf.length (pairsC lf) :: memA b (putsF f (lf.take j)) :: R)) (fun _ i _ => lf.length - (intOf i).toNat)
    case atStart => exact ⟨0, Nat.zero_le _, rfl, none, 0, rfl, H2.out.rowNil 70 2⟩
    case round =>
      clear H2
      obtain ⟨j, hj, rfl, a, q, rfl, hR⟩ := hrel
      by_cases hlt : j < lf.length
      · obtain ⟨p, hp⟩ : ∃ p, lf[j]? = some p := ⟨_, List.getElem?_eq_getElem hlt⟩
        obtain ⟨ce, v⟩ := p
        obtain ⟨g2, rfl, -, -, hc2, -⟩ := (hR.pull 1).rowAt (by omega)
        have r0 : wr.cell? ⟨g2, j * 2, none⟩ = some (.int .i64 ce) := by have := hc2 (j * 2 + 0) (by omega); rw [pairsC_at hp (by omega)] at this; exact this
        have r1 : wr.cell? ⟨g2, j * 2 + 1, none⟩ = some (.int .i64 v) := by have := hc2 (j * 2 + 1) (by omega); rw [pairsC_at hp (by omega)] at this; exact this
        have hjz : (j : Int) < lf.length := by omega
        have ht : lf.take (j + 1) = lf.take j ++ [(ce, v)] := take_succ hp
        have hN := hR.new (.cells #[.int .i64 ce, .int .i64 v] 70)
        have x0 : (wr.alloc (.cells #[.int .i64 ce, .int .i64 v] 70)).cell? ⟨wr.heap.size, 0, none⟩ = some (.int .i64 ce) := hN.cell 0
        have hl := mem_look Try.underlying61 (hN.pull 3) ce
        have e1 : wasS f (lf.take (j + 1)) = wasS f (lf.take j) ++ [(ce, ((putsF f (lf.take j)) ce).getD 0)] := by rw [ht, was_snoc]
        have e2 : putsF f (lf.take (j + 1)) = putF (putsF f (lf.take j)) ce v := by rw [ht, puts_snoc]
        generalize ((putsF f (lf.take j)) ce).getD 0 = z at hl e1
        have E1 := Lib.hid e1
        have E2 := Lib.hid e2
        have hP := (hN.new (.cells #[.int .i64 ce, .int .i64 z] 70)).pull 2
        simp only [World.size_alloc] at hP
        clear hc2 hp ht hN e1 e2 hR
        go_wp2_with first
          | (at_builtin; refine wpList_append_star rfl _ _ 63 rfl 70 i0 _ 2 16 Try.underlying63 hi hz0 hz1 hz2 rfl (by decide) _ j _ rfl hP ⟨wr.heap.size + 1, 0, none⟩ 1 1 [.int .i64 ce, .int .i64 z] rfl rfl (cell_list_new _ _ (by simp) _ _) (by simp [Value.oneCell']) (by simp only [maxLen]; omega) (by omega) ?_; intro a' c' w4 h5; have y0 : w4.cell? ⟨wr.heap.size, 0, none⟩ = some (.int .i64 ce) := (h5.pull 2).cell 0; have y1 : w4.cell? ⟨wr.heap.size, 1, none⟩ = some (.int .i64 v) := (h5.pull 2).cell 1)
          | (refine wpList_mem_put rfl _ _ _ 61 rfl Try.underlying61 rfl ce rfl v rfl (h5.pull 4) ?_; intro w5 h6)
        have H6 := Lib.hid h6
        clear h6 h5 y0 y1 hP hl r0 r1 x0
        go_wp2
        go_roundw
        case rel => exact ⟨j + 1, by omega, by go_num, a', c', rfl, by rw [E1.out, E2.out, pairsC_snoc]; exact H6.out.pick 5 [1, 4, 0]⟩
        case measure => simp [intOf]; omega
      · have hkn : j = lf.length := by omega
        have e1 : lf.take j = lf := List.take_of_length_le (by omega)
        rw [e1] at hR
        subst hkn
        have HR := Lib.hid hR
        have hjz : ¬ (lf.length : Int) < lf.length := by omega
        clear hR e1
        go_wp2
        go_ret
        exact ⟨a, q, rfl, HR.out.pick 2 [0]⟩
  · have hff : (fa == 1) = false := by simpa using hf
    have hl2 : lf = [] := by rw [HL.out, if_neg hf]
    clear HL hf
    subst hl2
    go_wp2
    go_ret
    exact ⟨none, 0, rfl, (H0.out.drop).rowNil 70 2⟩
end Go.Proofs.Ytljdkfhkpjjfgaa
namespace Go.Proofs.Ytljdkfhkpjjfgaa
open Go.RowKit Go.Shelf
set_option linter.unusedVariables false

theorem Try.info4 : (Try.prog.info? 4).map (fun i => (i.zero, i.size, i.bytes)) = some (some (.bool false), 1, 1) := by kernel_rfl
def boolsC (bs : List Bool) : List Value := bs.map .bool
theorem boolsC_len (bs : List Bool) : (boolsC bs).length = bs.length := by rw [boolsC, List.length_map]
theorem made_one (z : Value) (n : Nat) : madeCells #[z] n = Array.replicate n z := by
  apply Array.ext'
  rw [toList_madeCells_one z n, Array.toList_replicate]
theorem make_ints (t e : TypeId) (z : Value) (by_ n : Nat) (hc : z.cells = #[z]) (ht : Try.prog.underlying t = some (.slice e)) (h : (Try.prog.info? e).map (fun i => (i.zero, i.size, i.bytes)) = some (some z, 1, by_)) (hby : by_ ≤ 8) (hn : n * 8 ≤ 140737488355328) (w : World) :
    (Instr.makeSlice t (.int .i64 (n : Int)) (.int .i64 (n : Int))).run Try.prog w = .ok (.slice (some ⟨w.heap.size, 0, none⟩) n n) (w.alloc (.cells (Array.replicate n z) e)) := by
  obtain ⟨i, hi, hz0, hz1, hz2⟩ := info_parts h
  have hb : i.bytes * n ≤ 8 * n := Nat.mul_le_mul_right _ (by omega)
  have := run_make_star (P := Try.prog) w t e i z ht hi hz0 n (by omega) (by omega)
  rw [hz1, hc, Nat.mul_one, made_one] at this
  exact this
theorem row1_cell {W w : World} {L : List HA} {e : TypeId} {g n c i : Nat} {xs : List Value} {u : Value} (h : Star W w (rowA e 1 (.slice (some ⟨g, 0, none⟩) n c) n xs :: L)) (hu : xs[i]? = some u) : w.cell? ⟨g, i, none⟩ = some u ∧ w.frozen? ⟨g, i, none⟩ = false := by
  have hl := h.rowLen
  have hi := (List.getElem?_eq_some_iff.1 hu).1
  obtain ⟨g', e', _, _, hc, hf⟩ := h.rowAt (by omega)
  injection e' with e'
  injection e' with e'
  subst e'
  exact ⟨by rw [hc i (by omega), hu], hf i⟩
/-- has an order each of n places once: what went ahead, what is left -/
def evP (n : Nat) : List Int → List Int → Bool
  | pre, [] => pre.length == n
  | pre, i :: r => if 0 ≤ i ∧ i < n ∧ i ∉ pre then evP n (pre ++ [i]) r else false
/-- the marks -/
def markI (n : Nat) (pre : List Int) : List Int := (List.range n).map fun x : Nat => if (x : Int) ∈ pre then 1 else 0
theorem mark_len (n : Nat) (pre : List Int) : (markI n pre).length = n := by simp [markI]
theorem mark_nil (n : Nat) : markI n [] = List.replicate n 0 := by
  apply List.ext_getElem <;> simp [markI]
theorem mark_at (n : Nat) (pre : List Int) (i : Nat) (h : i < n) : (markI n pre)[i]? = some (if (i : Int) ∈ pre then 1 else 0) := by
  simp [markI, h]
theorem mark_set (n : Nat) (pre : List Int) (i : Nat) (h : i < n) : (markI n pre).set i 1 = markI n (pre ++ [(i : Int)]) := by
  apply List.ext_getElem
  · simp [markI]
  · intro j h1 h2
    simp only [markI, List.getElem_set, List.getElem_map, List.getElem_range, List.mem_append, List.mem_singleton]
    by_cases hj : i = j
    · subst hj; simp
    · rw [if_neg hj]
      have : ¬ (j : Int) = i := by omega
      simp [this]
set_option maxRecDepth 100000 in
set_option maxHeartbeats 6400000 in
theorem every_any (A : Option Addr) (k c n : Nat) (zs : List Int) (w : World) (hS : Sl w A k 1 (intsC zs)) (hb : k * 8 ≤ 140737488355328) (hn : n * 8 ≤ 140737488355328) :
    Calls Try.prog 28 #[.slice A k c, .int .i64 n] w fun e w' => e = .returned (.bool (evP n [] zs)) ∧ Below w.heap.size w w' := by
  have hzl : zs.length = k := by have := hS.1; rw [intsC_len] at this; omega
  have hm1 := make_ints 24 3 (.int .i64 0) 8 n rfl Try.underlying24 Try.info3 (by omega) (by omega)
  have h1 := (Star.begin w).rowNew 3 1 (Array.replicate n (.int .i64 0)) n (by simp only [maxLen]; omega) (by simp)
  have e0 : (Array.replicate n (Value.int .i64 0)).toList = intsC (markI n []) := by rw [mark_nil, Array.toList_replicate]; simp [intsC]
  rw [e0] at h1
  have HS := Lib.hid hS
  have HZ := Lib.hid hzl
  have H1 := Lib.hid h1
  clear hS hzl h1 e0
  go_enter Try.func28, Try.ntmps28
  go_wp2_with fail
  go_loopw [12] (fun i wr => ∃ j : Nat, j ≤ k ∧ i = .int .i64 j ∧ Star w wr [rowA 3 1 (.slice (some ⟨w.heap.size, 0, none⟩) n n) n (intsC (markI n (zs.take j))), oldA w] ∧ Hid (evP n [] zs = evP n (zs.take j) (zs.drop j))) (fun i _ => k - (intOf i).toNat)
  case atStart => exact ⟨0, Nat.zero_le _, rfl, H1.out, Lib.hid rfl⟩
  case round =>
    clear H1
    obtain ⟨j, hj, rfl, hR, hE⟩ := hrel
    by_cases hlt : j < k
    · obtain ⟨z, hz⟩ : ∃ z, zs[j]? = some z := ⟨_, List.getElem?_eq_getElem (by have := HZ.out; omega)⟩
      obtain ⟨g, o, rfl, hg, ca⟩ := HS.out.row hlt (by omega)
      have a0 : wr.cell? ⟨g, o + j, none⟩ = some (.int .i64 z) := ((hR.pull 1).oldCell hg).trans (by have := ca 0 _ (by rw [Nat.mul_one, Nat.add_zero]; exact intsC_get hz); simpa using this)
      have hjz : (j : Int) < k := by omega
      have hdr : zs.drop j = z :: zs.drop (j + 1) := by
        have := List.drop_eq_getElem_cons (l := zs) (i := j) (List.getElem?_eq_some_iff.1 hz).1
        rw [(List.getElem?_eq_some_iff.1 hz).2] at this
        exact this
      have htk : zs.take (j + 1) = zs.take j ++ [z] := take_succ hz
      have e1 := hE.out
      rw [hdr, evP] at e1
      have HB := Lib.hid (hR.pull 1).below
      clear hE ca hz hdr
      by_cases hz0 : z < 0
      · rw [if_neg (by omega)] at e1
        have E1 := Lib.hid e1
        clear e1 hR htk
        go_wp2
        go_ret
        exact ⟨by rw [E1.out]; rfl, HB.out⟩
      · by_cases hzn : (n : Int) ≤ z
        · rw [if_neg (by omega)] at e1
          have E1 := Lib.hid e1
          clear e1 hR htk
          go_wp2
          go_ret
          exact ⟨by rw [E1.out]; rfl, HB.out⟩
        · obtain ⟨i, rfl⟩ : ∃ i : Nat, z = i := ⟨z.toNat, by omega⟩
          have hin : i < n := by omega
          have hma := mark_at n (zs.take j) i hin
          have hcf := row1_cell hR (intsC_get hma)
          obtain ⟨b0, b1⟩ := hcf
          by_cases hmem : (i : Int) ∈ zs.take j
          · rw [if_neg (fun h => h.2.2 hmem)] at e1
            rw [if_pos hmem] at b0
            have E1 := Lib.hid e1
            clear e1 hR htk hma hmem
            go_wp2
            go_ret
            exact ⟨by rw [E1.out]; rfl, HB.out⟩
          · rw [if_pos ⟨by omega, by omega, hmem⟩] at e1
            rw [if_neg hmem] at b0
            have h2 := hR.rowSet i (.int .i64 1)
            have e2 : (intsC (markI n (zs.take j))).set i (.int .i64 1) = intsC (markI n (zs.take (j + 1))) := by
              rw [htk, ← mark_set n _ i hin, intsC, intsC, List.map_set]
            rw [e2] at h2
            rw [← htk] at e1
            have E1 := Lib.hid e1
            have H2 := Lib.hid h2
            clear e1 hR htk hma hmem h2 e2
            go_wp2
            go_roundw
            case rel => exact ⟨j + 1, by omega, by go_num, H2.out, E1⟩
            case measure => simp [intOf]; omega
    · have hkn : j = k := by omega
      subst hkn
      have e1 : zs.drop j = [] := List.drop_eq_nil_of_le (by have := HZ.out; omega)
      have e2 := hE.out
      rw [e1, List.take_of_length_le (by have := HZ.out; omega), evP, HZ.out] at e2
      have HR := Lib.hid (hR.pull 1).below
      have hjz : ¬ (j : Int) < j := by omega
      have e3 : ((j : Int) == (n : Int)) = (j == n) := by
        rw [Bool.eq_iff_iff, beq_iff_eq, beq_iff_eq]
        omega
      have E2 := Lib.hid e2
      clear hR e1 hE e2
      go_wp2
      go_ret
      refine ⟨?_, HR.out⟩
      rw [E2.out]
      first | rfl | (rw [← e3]; rfl) | skip
end Go.Proofs.Ytljdkfhkpjjfgaa
