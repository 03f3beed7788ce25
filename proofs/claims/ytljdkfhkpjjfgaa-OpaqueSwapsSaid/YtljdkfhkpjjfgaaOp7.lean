/- leaves: lemmas for the laws of layer 22. -/
import Derived.Test.YtljdkfhkpjjfgaaOp6
namespace Go.Proofs.Ytljdkfhkpjjfgaa
open Go.RowKit Go.Shelf
set_option linter.unusedVariables false

/-- what cells held ahead of writes -/
def wasS : Cells → List (Int × Int) → List (Int × Int)
  | _, [] => []
  | f, (k, v) :: ps => (k, (f k).getD 0) :: wasS (putF f k v) ps
def putsF (f : Cells) (ps : List (Int × Int)) : Cells := ps.foldl (fun g p => putF g p.1 p.2) f
def leftOf (s : Sto) : List (Int × Int) := if s.fate = 1 then writesOf s.moves else []
theorem was_len : ∀ (ps : List (Int × Int)) (f : Cells), (wasS f ps).length = ps.length
  | [], f => rfl
  | (k, v) :: ps, f => by rw [wasS, List.length_cons, was_len ps, List.length_cons]
theorem was_snoc : ∀ (ps : List (Int × Int)) (f : Cells) (k v : Int), wasS f (ps ++ [(k, v)]) = wasS f ps ++ [(k, ((putsF f ps) k).getD 0)]
  | [], f, k, v => rfl
  | (k', v') :: ps, f, k, v => by
    rw [List.cons_append, wasS, was_snoc ps, wasS]; rfl
theorem puts_snoc (ps : List (Int × Int)) (f : Cells) (k v : Int) : putsF f (ps ++ [(k, v)]) = putF (putsF f ps) k v := by simp [putsF]
set_option maxRecDepth 100000 in
set_option maxHeartbeats 6400000 in
theorem leaves_any (s : Sto) (A : Option Addr) (k c b : Nat) (f : Cells) (R : List HA) (W w : World) (hM : Star W w (memA b f :: R)) (hS : Sl w A k 6 (mvsC s.moves)) (hk : s.moves.length = k) (hbig : k * 48 ≤ 140737488355328) :
    Calls Try.prog 31 #[.map (some b), .agg (stoC s (.slice A k c)).toArray] w fun e w' => ∃ a q, e = .returned (.slice a (leftOf s).length q) ∧ Star W w' (rowA 70 2 (.slice a (leftOf s).length q) (leftOf s).length (pairsC (wasS f (leftOf s))) :: memA b (putsF f (leftOf s)) :: R) := by
  obtain ⟨i0, hi, hz0, hz1, hz2⟩ := info_parts Try.info70
  have WA := Lib.hid fun W h => writes_any s A k c W h hk hbig
  have hwl : (writesOf s.moves).length ≤ s.moves.length := writes_len s.moves
  have hlf : leftOf s = if s.fate = 1 then writesOf s.moves else [] := rfl
  have HL := Lib.hid hlf
  generalize leftOf s = lf at HL ⊢
  obtain ⟨th, sp, bg, en, fa, er, by_, op, ga, ms⟩ := s
  dsimp only at hS hk hwl HL
  simp only [stoC] at WA ⊢
  have h0 := hM.new (.cells #[.int .i64 th, .int .i64 sp, .int .i64 bg, .int .i64 en, .int .i64 fa, .int .i64 er, .int .i64 by_, .int .i64 op, .int .i64 ga, .slice A k c] 44)
  have o0 := (Star.begin w).new (.cells #[.int .i64 th, .int .i64 sp, .int .i64 bg, .int .i64 en, .int .i64 fa, .int .i64 er, .int .i64 by_, .int .i64 op, .int .i64 ga, .slice A k c] 44)
  have s4 : (w.alloc (.cells #[.int .i64 th, .int .i64 sp, .int .i64 bg, .int .i64 en, .int .i64 fa, .int .i64 er, .int .i64 by_, .int .i64 op, .int .i64 ga, .slice A k c] 44)).cell? ⟨w.heap.size, 4, none⟩ = some (.int .i64 fa) := h0.cell 4
  have HS := Lib.hid (hS.after (by omega) o0.swap)
  have H0 := Lib.hid h0
  clear hM hS h0 o0 hlf
  go_enter Try.func31, Try.ntmps31
  by_cases hf : fa = 1
  · have hff : (fa == 1) = true := by simpa using hf
    have hl2 : lf = writesOf ms := by rw [HL.out, if_pos hf]
    clear HL hf
    go_wp2_with fail
    refine (WA.out _ HS.out).mono ?_
    rintro e' w1 ⟨ra, rc, rfl, h1⟩
    have h2 := h1.frame (L := [_]) H0.out
    rw [← hl2] at h2 ⊢
    have hll : lf.length ≤ k := by rw [hl2]; omega
    have H2 := Lib.hid (h2.swap.drop)
    clear h1 h2 WA HS H0 hwl hl2 s4
    go_wp2_with fail
    go_loopw [5, 14] (fun bb i wr => ∃ j : Nat, j ≤ lf.length ∧ i = .int .i64 j ∧ ∃ a q, bb = .slice a j q ∧ Star W wr (rowA 70 2 (.slice a j q) j (pairsC (wasS f (lf.take j))) :: rowA 70 2 (.slice ra lf.length rc) lf.length (pairsC lf) :: memA b (putsF f (lf.take j)) :: R)) (fun _ i _ => lf.length - (intOf i).toNat)
    case atStart => exact ⟨0, Nat.zero_le _, rfl, none, 0, rfl, H2.out.rowNil 70 2⟩
    case round =>
      clear H2
      obtain ⟨j, hj, rfl, a, q, rfl, hR⟩ := hrel
      by_cases hlt : j < lf.length
      · obtain ⟨p, hp⟩ : ∃ p, lf[j]? = some p := ⟨_, List.getElem?_eq_getElem hlt⟩
        obtain ⟨ce, v⟩ := p
        obtain ⟨g2, rfl, -, -, hc2, -⟩ := (hR.pull 1).rowAt (by omega)
        have r0 : wr.cell? ⟨g2, j * 2, none⟩ = some (.int .i64 ce) := by have := hc2 (j * 2 + 0) (by omega); rw [pairsC_at hp (by omega)] at this; exact this
        have r1 : wr.cell? ⟨g2, j * 2 + 1, none⟩ = some (.int .i64 v) := by have := hc2 (j * 2 + 1) (by omega); rw [pairsC_at hp (by omega)] at this; exact this
        have hjz : (j : Int) < lf.length := by omega
        have ht : lf.take (j + 1) = lf.take j ++ [(ce, v)] := take_succ hp
        have hN := hR.new (.cells #[.int .i64 ce, .int .i64 v] 70)
        have x0 : (wr.alloc (.cells #[.int .i64 ce, .int .i64 v] 70)).cell? ⟨wr.heap.size, 0, none⟩ = some (.int .i64 ce) := hN.cell 0
        have hl := mem_look Try.underlying61 (hN.pull 3) ce
        have e1 : wasS f (lf.take (j + 1)) = wasS f (lf.take j) ++ [(ce, ((putsF f (lf.take j)) ce).getD 0)] := by rw [ht, was_snoc]
        have e2 : putsF f (lf.take (j + 1)) = putF (putsF f (lf.take j)) ce v := by rw [ht, puts_snoc]
        generalize ((putsF f (lf.take j)) ce).getD 0 = z at hl e1
        have E1 := Lib.hid e1
        have E2 := Lib.hid e2
        have hP := (hN.new (.cells #[.int .i64 ce, .int .i64 z] 70)).pull 2
        simp only [World.size_alloc] at hP
        clear hc2 hp ht hN e1 e2 hR
        go_wp2_with first
          | (at_builtin; refine wpList_append_star rfl _ _ 63 rfl 70 i0 _ 2 16 Try.underlying63 hi hz0 hz1 hz2 rfl (by decide) _ j _ rfl hP ⟨wr.heap.size + 1, 0, none⟩ 1 1 [.int .i64 ce, .int .i64 z] rfl rfl (cell_list_new _ _ (by simp) _ _) (by simp [Value.oneCell']) (by simp only [maxLen]; omega) (by omega) ?_; intro a' c' w4 h5; have y0 : w4.cell? ⟨wr.heap.size, 0, none⟩ = some (.int .i64 ce) := (h5.pull 2).cell 0; have y1 : w4.cell? ⟨wr.heap.size, 1, none⟩ = some (.int .i64 v) := (h5.pull 2).cell 1)
          | (refine wpList_mem_put rfl _ _ _ 61 rfl Try.underlying61 rfl ce rfl v rfl (h5.pull 4) ?_; intro w5 h6)
        have H6 := Lib.hid h6
        clear h6 h5 y0 y1 hP hl r0 r1 x0
        go_wp2
        go_roundw
        case rel => exact ⟨j + 1, by omega, by go_num, a', c', rfl, by rw [E1.out, E2.out, pairsC_snoc]; exact H6.out.pick 5 [1, 4, 0]⟩
        case measure => simp [intOf]; omega
      · have hkn : j = lf.length := by omega
        have e1 : lf.take j = lf := List.take_of_length_le (by omega)
        rw [e1] at hR
        subst hkn
        have HR := Lib.hid hR
        have hjz : ¬ (lf.length : Int) < lf.length := by omega
        clear hR e1
        go_wp2
        go_ret
        exact ⟨a, q, rfl, HR.out.pick 2 [0]⟩
  · have hff : (fa == 1) = false := by simpa using hf
    have hl2 : lf = [] := by rw [HL.out, if_neg hf]
    clear HL hf
    subst hl2
    go_wp2
    go_ret
    exact ⟨none, 0, rfl, (H0.out.drop).rowNil 70 2⟩
end Go.Proofs.Ytljdkfhkpjjfgaa
