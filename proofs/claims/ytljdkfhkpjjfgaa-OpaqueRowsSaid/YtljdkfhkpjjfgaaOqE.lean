/- Neighbours, writer: lemmas for the laws of layer 22. -/
import Derived.Test.YtljdkfhkpjjfgaaOqD
namespace Go.Proofs.Ytljdkfhkpjjfgaa
set_option linter.unusedVariables false

def AgS (a b : Sto) : Prop := b.end_ ≠ 0 ∧ b.end_ < a.begin_
def readS : Cells → List Sto → Bool
  | _, [] => true
  | f, s :: r => explS f (fun _ => none) s.moves && readS (putsF f (leftOf s)) r
def putsS (f : Cells) (l : List Sto) : Cells := l.foldl (fun g s => putsF g (leftOf s)) f
theorem readN_S (sts : List Sto) : ∀ (zs : List Int) (f : Cells), readN sts f zs = readS f (zs.map (stAt sts))
  | [], f => by rw [readN, List.map_nil, readS]
  | z :: zs, f => by rw [readN, List.map_cons, readS, readN_S sts zs]
theorem readS_append : ∀ (a b : List Sto) (f : Cells), readS f (a ++ b) = (readS f a && readS (putsS f a) b)
  | [], b, f => by simp [readS, putsS]
  | s :: a, b, f => by
    rw [List.cons_append, readS, readS, readS_append a b, Bool.and_assoc]
    rfl
theorem check_S (st : List Int) (sts : List Sto) (zs : List Int) : checkP st sts zs = (0, 0) ↔ evP sts.length [] zs = true ∧ readS (begF st) (zs.map (stAt sts)) = true ∧ (zs.map (stAt sts)).Pairwise fun a b => ¬ AgS a b := by
  rw [check_ok, readN_S, List.pairwise_map]
  exact Iff.rfl
theorem evP_iff {n : Nat} : ∀ (zs pre : List Int), evP n pre zs = true ↔ (∀ z ∈ zs, 0 ≤ z ∧ z < n) ∧ zs.Nodup ∧ (∀ z ∈ zs, z ∉ pre) ∧ pre.length + zs.length = n
  | [], pre => by rw [evP]; simp
  | z :: zs, pre => by
    rw [evP]
    by_cases hc : 0 ≤ z ∧ z < n ∧ z ∉ pre
    · rw [if_pos hc, evP_iff zs (pre ++ [z])]
      constructor
      · rintro ⟨h1, h2, h3, h4⟩
        refine ⟨fun x hx => ?_, List.nodup_cons.2 ⟨fun hm => h3 z hm (by simp), h2⟩, fun x hx => ?_, by simp at h4 ⊢; omega⟩
        · rcases List.mem_cons.1 hx with rfl | hx
          · exact ⟨hc.1, hc.2.1⟩
          · exact h1 x hx
        · rcases List.mem_cons.1 hx with rfl | hx
          · exact hc.2.2
          · exact fun hp => h3 x hx (by simp [hp])
      · rintro ⟨h1, h2, h3, h4⟩
        have hd := List.nodup_cons.1 h2
        refine ⟨fun x hx => h1 x (by simp [hx]), hd.2, fun x hx hm => ?_, by simp at h4 ⊢; omega⟩
        rcases List.mem_append.1 hm with hm | hm
        · exact h3 x (by simp [hx]) hm
        · rw [List.mem_singleton.1 hm] at hx; exact hd.1 hx
    · rw [if_neg hc]
      constructor
      · intro h; cases h
      · rintro ⟨h1, h2, h3, h4⟩
        exact absurd ⟨(h1 z (by simp)).1, (h1 z (by simp)).2, h3 z (by simp)⟩ hc
/-- does a story commit, and write -/
def writerB (s : Sto) : Bool := s.moves.any (·.write) && decide (s.fate = 1)
theorem left_nil {s : Sto} (h : writerB s = false) : leftOf s = [] := by
  rw [leftOf]
  by_cases hf : s.fate = 1
  · rw [if_pos hf]
    have hno : sel true s.moves = [] := by
      rw [writerB, Bool.and_eq_false_iff] at h
      rcases h with h | h
      · rw [List.any_eq_false] at h
        rw [sel, List.filter_eq_nil_iff]
        intro m hm
        have hw : m.write = false := by simpa using h m hm
        simp [hw]
      · simp [hf] at h
    rw [writesOf, hno]
    rfl
  · rw [if_neg hf]
theorem swap_ok (st : List Int) (sts : List Sto) (a b : List Int) (x y : Int) (h : checkP st sts (a ++ x :: y :: b) = (0, 0)) (hx : writerB (stAt sts x) = false) (hy : writerB (stAt sts y) = false)
    (ha : ¬ AgS (stAt sts y) (stAt sts x)) : checkP st sts (a ++ y :: x :: b) = (0, 0) := by
  rw [check_S] at h ⊢
  obtain ⟨h1, h2, h3⟩ := h
  have hp : (a ++ y :: x :: b).Perm (a ++ x :: y :: b) := List.Perm.append_left a (List.Perm.swap x y b)
  refine ⟨?_, ?_, ?_⟩
  · rw [evP_iff] at h1 ⊢
    exact ⟨fun z hz => h1.1 z (hp.mem_iff.1 hz), hp.nodup_iff.2 h1.2.1, fun z hz => h1.2.2.1 z (hp.mem_iff.1 hz), by rw [hp.length_eq]; exact h1.2.2.2⟩
  · simp only [List.map_append, List.map_cons, readS_append, readS, Bool.and_eq_true, left_nil hx, left_nil hy] at h2 ⊢
    exact ⟨h2.1, h2.2.2.1, h2.2.1, h2.2.2.2⟩
  · simp only [List.map_append, List.map_cons, List.pairwise_append, List.pairwise_cons] at h3 ⊢
    obtain ⟨p1, ⟨p2, p3, p4⟩, p5⟩ := h3
    refine ⟨p1, ⟨fun z hz => ?_, fun z hz => p2 z (by simp [hz]), p4⟩, fun u hu v hv => p5 u hu v ?_⟩
    · rcases List.mem_cons.1 hz with rfl | hz
      · exact ha
      · exact p3 z hz
    · simp only [List.mem_cons] at hv ⊢
      rcases hv with h | h | h
      · exact .inr (.inl h)
      · exact .inl h
      · exact .inr (.inr h)
theorem stAt_range (l : List Sto) : (intsOf (List.range l.length)).map (stAt l) = l := by
  apply List.ext_getElem?
  intro i
  rw [intsOf, List.map_map, List.getElem?_map]
  rcases Nat.lt_or_ge i l.length with h | h
  · rw [List.getElem?_range h, Option.map_some, List.getElem?_eq_getElem h]
    simp [stAt, h]
  · rw [List.getElem?_eq_none (by simpa using h), List.getElem?_eq_none h]
    rfl
theorem check_range (st : List Int) (l : List Sto) (h1 : readS (begF st) l = true) (h2 : l.Pairwise fun a b => ¬ AgS a b) : checkP st l (intsOf (List.range l.length)) = (0, 0) := by
  rw [check_S, stAt_range]
  refine ⟨?_, h1, h2⟩
  exact evP_of (List.range l.length) [] (fun i hi => List.mem_range.1 hi) (by simpa using List.nodup_range) (by simp)
theorem begin_ok (st : List Int) (sts : List Sto) (zs : List Int) (k : Nat) (h : checkP st sts zs = (0, 0)) : checkP st ((zs.take k).map (stAt sts)) (intsOf (List.range ((zs.take k).map (stAt sts)).length)) = (0, 0) := by
  rw [check_S] at h
  obtain ⟨h1, h2, h3⟩ := h
  rw [← List.take_append_drop k zs, List.map_append] at h2 h3
  rw [readS_append, Bool.and_eq_true] at h2
  exact check_range st _ h2.1 (List.pairwise_append.1 h3).1
end Go.Proofs.Ytljdkfhkpjjfgaa
namespace Go.Proofs.Ytljdkfhkpjjfgaa
open Go.RowKit Go.Shelf
set_option linter.unusedVariables false

set_option maxRecDepth 100000 in
set_option maxHeartbeats 6400000 in
theorem writer_any (s : Sto) (A : Option Addr) (k c : Nat) (w : World) (hS : Sl w A k 6 (mvsC s.moves)) (hk : s.moves.length = k) (hbig : k * 48 ≤ 140737488355328) :
    Calls Try.prog 20 #[.agg (stoC s (.slice A k c)).toArray] w fun e w' => e = .returned (.bool (writerB s)) ∧ Below w.heap.size w w' := by
  have hd : writerB s = if s.moves.any (·.write) then decide (s.fate = 1) else false := by
    rw [writerB]
    cases s.moves.any (·.write) <;> rfl
  obtain ⟨th, sp, bg, en, fa, er, by_, op, ga, ms⟩ := s
  dsimp only at hS hk hd
  dsimp only [stoC]
  have h0 := (Star.begin w).new (.cells #[.int .i64 th, .int .i64 sp, .int .i64 bg, .int .i64 en, .int .i64 fa, .int .i64 er, .int .i64 by_, .int .i64 op, .int .i64 ga, .slice A k c] 44)
  have x9 : (w.alloc (.cells #[.int .i64 th, .int .i64 sp, .int .i64 bg, .int .i64 en, .int .i64 fa, .int .i64 er, .int .i64 by_, .int .i64 op, .int .i64 ga, .slice A k c] 44)).cell? ⟨w.heap.size, 9, none⟩ = some (.slice A k c) := h0.cell 9
  have x4 : (w.alloc (.cells #[.int .i64 th, .int .i64 sp, .int .i64 bg, .int .i64 en, .int .i64 fa, .int .i64 er, .int .i64 by_, .int .i64 op, .int .i64 ga, .slice A k c] 44)).cell? ⟨w.heap.size, 4, none⟩ = some (.int .i64 fa) := h0.cell 4
  have HS := Lib.hid (hS.after (by omega) (h0.pull 1))
  have HB := Lib.hid (h0.pull 1).below
  have HK := Lib.hid hk
  have HD := Lib.hid hd
  clear h0 hS hk hd
  go_enter Try.func20, Try.ntmps20
  go_wp2
  go_loop [3] (fun i => ∃ j : Nat, j ≤ k ∧ i = .int .i64 j ∧ Hid ((ms.take j).any (·.write) = false)) (fun i => k - (intOf i).toNat)
  case atStart => exact ⟨0, Nat.zero_le _, rfl, Lib.hid rfl⟩
  case round =>
    obtain ⟨j, hj, rfl, hE⟩ := hrel
    by_cases hlt : j < k
    · obtain ⟨m, hm⟩ : ∃ m, ms[j]? = some m := ⟨_, List.getElem?_eq_getElem (by have := HK.out; omega)⟩
      obtain ⟨g, o, rfl, hg, ca⟩ := HS.out.row hlt (by omega)
      have a1 : (w.alloc (.cells #[.int .i64 th, .int .i64 sp, .int .i64 bg, .int .i64 en, .int .i64 fa, .int .i64 er, .int .i64 by_, .int .i64 op, .int .i64 ga, .slice (some ⟨g, o, none⟩) k c] 44)).cell? ⟨g, o + j * 6 + 1, none⟩ = some (.bool m.write) := ca 1 _ (by rw [mvsC_at hm (by omega)]; rfl)
      have hjz : (j : Int) < k := by omega
      have ht : (ms.take (j + 1)).any (·.write) = m.write := by rw [take_succ hm, List.any_append, hE.out]; simp
      cases hw : m.write with
      | true =>
        rw [hw] at a1
        have hany : ms.any (·.write) = true := by rw [List.any_eq_true]; exact ⟨m, List.mem_of_getElem? hm, hw⟩
        have e1 : writerB ⟨th, sp, bg, en, fa, er, by_, op, ga, ms⟩ = decide (fa = 1) := by rw [HD.out, if_pos hany]
        have E1 := Lib.hid e1
        clear ca hm ht hw hany e1 hE
        by_cases hf : fa = 1
        · have hfb : (fa == 1) = true := by simpa using hf
          have E2 := Lib.hid hf
          clear hf
          go_wp2
          go_ret
          exact ⟨by rw [E1.out, decide_eq_true E2.out]; rfl, HB.out⟩
        · have hfb : (fa == 1) = false := by simpa using hf
          have E2 := Lib.hid hf
          clear hf
          go_wp2
          go_ret
          exact ⟨by rw [E1.out, decide_eq_false E2.out]; rfl, HB.out⟩
      | false =>
        rw [hw] at a1 ht
        have HT := Lib.hid ht
        clear ca hm ht hw hE
        go_wp2
        go_round
        case rel => exact ⟨j + 1, by omega, by go_num, HT⟩
        case measure => simp [intOf]; omega
    · have hkn : j = k := by omega
      have e1 : writerB ⟨th, sp, bg, en, fa, er, by_, op, ga, ms⟩ = false := by
        have := hE.out
        rw [List.take_of_length_le (by have := HK.out; omega)] at this
        rw [HD.out, this]; rfl
      have E1 := Lib.hid e1
      have hjz : ¬ (j : Int) < k := by omega
      clear e1 hE
      go_wp2
      go_ret
      exact ⟨by rw [E1.out]; rfl, HB.out⟩
end Go.Proofs.Ytljdkfhkpjjfgaa
