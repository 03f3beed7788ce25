/- The document's Memory, Put: lemmas for the laws of layer 22. -/
import Derived.Test.YtljdkfhkpjjfgaaOp29
namespace Go.Proofs.Ytljdkfhkpjjfgaa
open Go.RowKit Go.Shelf
set_option linter.unusedVariables false

/-- the document's memory: an object of a start and pairs -/
def docA (b : Nat) (S : Value) (ps : List (Int × Int)) : HA := exA fun aq : Option Addr × Nat => Holds [cellsA b #[S, .slice aq.1 ps.length aq.2] 67, rowA 70 2 (.slice aq.1 ps.length aq.2) ps.length (pairsC ps)]
section
variable {W w : World} {L : List HA} {b : Nat} {S : Value} {ps : List (Int × Int)}
theorem doc_open (h : Star W w (docA b S ps :: L)) : ∃ a q, Star W w (cellsA b #[S, .slice a ps.length q] 67 :: rowA 70 2 (.slice a ps.length q) ps.length (pairsC ps) :: L) := by
  obtain ⟨⟨a, q⟩, h1⟩ := h.ex
  exact ⟨a, q, h1.flat⟩
theorem doc_shut {a : Option Addr} {q n : Nat} (hn : ps.length = n) (h : Star W w (cellsA b #[S, .slice a n q] 67 :: rowA 70 2 (.slice a n q) n (pairsC ps) :: L)) : Star W w (docA b S ps :: L) := by
  subst hn
  exact Star.exI (f := fun aq : Option Addr × Nat => Holds [cellsA b #[S, .slice aq.1 ps.length aq.2] 67, rowA 70 2 (.slice aq.1 ps.length aq.2) ps.length (pairsC ps)]) (a, q) (Star.fold (L := [_, _]) h)
end
def putL (ps : List (Int × Int)) (k v : Int) : List (Int × Int) := match ixOf ps k with | some i => ps.set i (k, v) | none => ps ++ [(k, v)]
theorem putL_len (ps : List (Int × Int)) (k v : Int) : (putL ps k v).length ≤ ps.length + 1 := by
  unfold putL
  split <;> simp
theorem ixOf_at' {ps : List (Int × Int)} {k : Int} {j : Nat} {x : Int} (hj : ps[j]? = some (k, x)) (hn : ∀ p ∈ ps.take j, p.1 ≠ k) : ixOf ps k = some j := by
  unfold ixOf
  have hl := (List.getElem?_eq_some_iff.1 hj).1
  rw [List.findIdx?_eq_some_iff_getElem]
  refine ⟨by simpa using hl, ?_, fun i hi => ?_⟩
  · have := (List.getElem?_eq_some_iff.1 hj).2
    simp [this]
  · have h1 : ps[i]'(by omega) ∈ ps.take j := by
      rw [List.mem_take_iff_getElem]
      exact ⟨i, by omega, rfl⟩
    simpa using hn _ h1
theorem ixOf_no {ps : List (Int × Int)} {k : Int} (hn : ∀ p ∈ ps, p.1 ≠ k) : ixOf ps k = none := by
  unfold ixOf
  rw [List.findIdx?_eq_none_iff]
  intro x hx
  obtain ⟨p, hp, rfl⟩ := List.mem_map.1 hx
  simpa using hn p hp
set_option maxRecDepth 100000 in
set_option maxHeartbeats 6400000 in
theorem put_any (b : Nat) (S : Value) (ps : List (Int × Int)) (k v : Int) (R : List HA) (W w : World) (h : Star W w (docA b S ps :: R)) (hb : (ps.length + 1) * 16 ≤ 140737488355328) :
    Calls Try.prog 37 #[.pointer (some ⟨b, 0, none⟩), .int .i64 k, .int .i64 v] w fun e w' => e = .returned (.tuple #[]) ∧ Star W w' (docA b S (putL ps k v) :: R) := by
  obtain ⟨i0, hi, hz0, hz1, hz2⟩ := info_parts Try.info70
  obtain ⟨a, q, h⟩ := doc_open h
  obtain ⟨n, hn⟩ : ∃ n, ps.length = n := ⟨_, rfl⟩
  rw [hn] at h hb
  have l1 : w.cell? ⟨b, 1, none⟩ = some (.slice a n q) := h.cell 1
  have H := Lib.hid h
  have HN := Lib.hid hn
  clear h hn
  go_enter Try.func37, Try.ntmps37
  go_wp2_with fail
  go_loop [6] (fun i => ∃ j : Nat, j ≤ n ∧ i = .int .i64 j ∧ Hid (∀ p ∈ ps.take j, p.1 ≠ k)) (fun i => n - (intOf i).toNat)
  case atStart => exact ⟨0, Nat.zero_le _, rfl, Lib.hid (by simp)⟩
  case round =>
    obtain ⟨j, hj, rfl, hE⟩ := hrel
    by_cases hlt : j < n
    · obtain ⟨p, hp⟩ : ∃ p, ps[j]? = some p := ⟨_, List.getElem?_eq_getElem (by have := HN.out; omega)⟩
      obtain ⟨c, x⟩ := p
      obtain ⟨g, rfl, -, -, cw, fw⟩ := (H.out.pull 1).rowAt (by omega)
      have c0 : w.cell? ⟨g, j * 2, none⟩ = some (.int .i64 c) := (cw _ (by omega)).trans ((pairsC_at (j := 0) hp (by omega)).trans rfl)
      have c1 : w.cell? ⟨g, j * 2 + 1, none⟩ = some (.int .i64 x) := (cw _ (by omega)).trans ((pairsC_at (j := 1) hp (by omega)).trans rfl)
      have f1 : w.frozen? ⟨g, j * 2 + 1, none⟩ = false := fw _
      have hjz : (j : Int) < n := by omega
      by_cases hck : c = k
      · subst hck
        have hcb : (c == c) = true := by simp
        have hix := ixOf_at' hp hE.out
        have hs := (H.out.pull 1).rowSet (j * 2 + 1) (.int .i64 v)
        rw [pairsC_set hix] at hs
        have hpl : putL ps c v = ps.set j (c, v) := by rw [putL, hix]
        have HS := Lib.hid (doc_shut (ps := ps.set j (c, v)) (by rw [List.length_set]; exact HN.out) hs.swap)
        have HP := Lib.hid hpl
        clear hp cw fw hix hs hpl hE
        go_wp2
        refine bodyPost_ret (results_none rfl _ _ _) rfl ?_
        exact ⟨rfl, by rw [HP.out]; exact HS.out⟩
      · have hcb : (c == k) = false := by simpa using hck
        have E1 := Lib.hid (show ∀ p ∈ ps.take (j + 1), p.1 ≠ k from fun p hm => by
          rw [take_succ hp] at hm
          rcases List.mem_append.1 hm with hm | hm
          · exact hE.out p hm
          · rw [List.mem_singleton.1 hm]; exact hck)
        clear hp cw fw hE hck
        go_wp2
        go_round
        case rel => exact ⟨j + 1, by omega, by go_num, E1⟩
        case measure => simp [intOf]; omega
    · have hjz : ¬ (j : Int) < n := by omega
      have hix : ixOf ps k = none := ixOf_no (by have := hE.out; rwa [List.take_of_length_le (by have := HN.out; omega)] at this)
      have hpl : putL ps k v = ps ++ [(k, v)] := by rw [putL, hix]
      have HP := Lib.hid hpl
      have hN := (H.out.new (.cells #[.int .i64 k, .int .i64 v] 70)).pull 2
      clear hE hix hpl
      go_wp2_with (at_builtin; refine wpList_append_star rfl (.tmp 38) (.tmp 42) 63 rfl 70 i0 _ 2 16 Try.underlying63 hi hz0 hz1 hz2 rfl (by decide) _ n _ rfl hN ⟨w.heap.size, 0, none⟩ 1 1 (pairC (k, v)) rfl rfl (cell_list_new _ _ rfl _ _) (by simp [pairC, Value.oneCell']) (by simp only [maxLen]; omega) (by omega) ?_; intro a' q' w4 h5; have l4 : w4.cell? ⟨b, 1, none⟩ = some (.slice a n q) := (h5.pull 2).cell 1; have f4 : w4.frozen? ⟨b, 1, none⟩ = false := (h5.pull 2).frozen 1; have H6 := Lib.hid ((h5.pull 2).set 1 (.slice a' (n + 1) q')); clear h5 hN)
      refine bodyPost_end (results_none rfl _ _ _) rfl ?_
      refine ⟨rfl, ?_⟩
      rw [HP.out]
      exact doc_shut (by rw [List.length_append, HN.out, List.length_singleton]) (by rw [pairsC_snoc]; exact H6.out.pick 3 [0, 1])
end Go.Proofs.Ytljdkfhkpjjfgaa
