/- Search's closure, one more place: lemmas for the laws of layer 22. -/
import Derived.Test.YtljdkfhkpjjfgaaOqB
namespace Go.Proofs.Ytljdkfhkpjjfgaa
open Go.RowKit Go.Shelf
set_option linter.unusedVariables false

theorem mem_intsOf {l : List Nat} {i : Nat} : (i : Int) ∈ intsOf l ↔ i ∈ l := by
  rw [intsOf, List.mem_map]
  exact ⟨fun ⟨a, ha, e⟩ => by have : a = i := by omega
                              exact this ▸ ha, fun h => ⟨i, h, rfl⟩⟩
theorem mark_unset {n : Nat} {ord : List Nat} {j : Nat} (h : j < n) (hj : j ∉ ord) : (markI n (intsOf (ord ++ [j]))).set j 0 = markI n (intsOf ord) := by
  rw [show intsOf (ord ++ [j]) = intsOf ord ++ [(j : Int)] from by simp [intsOf], ← mark_set n (intsOf ord) j h, List.set_set]
  apply List.ext_getElem?
  intro i
  by_cases hi : i = j
  · subst hi
    rw [List.getElem?_set_self (by rw [mark_len]; exact h), mark_at n _ i h, if_neg (fun e => hj (mem_intsOf.1 e))]
  · rw [List.getElem?_set_ne (fun e => hi e.symm)]
/-- one that is not used and ended ahead of another's begin -/
def blk1 (sts : List Sto) (ord : List Nat) (i k : Nat) : Bool := !decide (k ∈ ord) && k != i && (stAt sts k).end_ != 0 && decide ((stAt sts k).end_ < (stAt sts i).begin_)
theorem range_drop {n j : Nat} (h : j < n) : (List.range n).drop j = j :: (List.range n).drop (j + 1) := by
  have := List.drop_eq_getElem_cons (l := List.range n) (i := j) (by simpa using h)
  simpa using this
theorem trySt_snoc (bO bL bU bM bT bm : Nat) (B : Option Addr) (n d : Nat) (ord : List Nat) (j : Nat) (f : Cells) (a ua : Option Addr) (q uq : Nat) : trySt bO bL bU bM bT bm B n d (ord ++ [j]) f a ua q uq =
    [cellsA bO #[.slice a (ord.length + 1) q] 24, rowA 3 1 (.slice a (ord.length + 1) q) (ord.length + 1) (natsC ord ++ [.int .i64 j]), cellsA bU #[.slice ua n uq] 24, rowA 3 1 (.slice ua n uq) n (intsC (markI n (intsOf (ord ++ [j])))), cellsA bM #[.map (some bm)] 61, memA bm f, cellsA bL #[.slice B n d] 23, cellsA bT #[.func (.func 35) #[] #[.pointer (some ⟨bO, 0, none⟩), .pointer (some ⟨bL, 0, none⟩), .pointer (some ⟨bU, 0, none⟩), .pointer (some ⟨bM, 0, none⟩), .pointer (some ⟨bT, 0, none⟩)]] 22] := by
  simp [trySt, natsC]
set_option maxRecDepth 100000 in
set_option maxHeartbeats 6400000 in
theorem try_succ (bO bL bU bM bT bm : Nat) (B : Option Addr) (n d : Nat) (sts : List Sto) (vs : List Value) (W : World) (r : Nat) (hT : Stories W B n sts vs) (hn7 : n ≤ 7) (IH : TryC bO bL bU bM bT bm B n d sts W r) : TryC bO bL bU bM bT bm B n d sts W (r + 1) := by
  obtain ⟨i0, hi0, hz0, hz1, hz2⟩ := info_parts Try.info3
  intro R ord f a ua q uq w hn hi h
  have hl : ord.length < n := by omega
  have l0 : w.cell? ⟨bO, 0, none⟩ = some (.slice a ord.length q) := h.cell 0
  have l1 : w.cell? ⟨bL, 0, none⟩ = some (.slice B n d) := (h.pull 6).cell 0
  have hne : ((ord.length : Int) == (n : Int)) = false := by
    rw [Bool.eq_false_iff]; intro e; have := eq_of_beq e; omega
  have HT := Lib.hid hT
  have HI := Lib.hid hi
  have IH2 := Lib.hid IH
  have H := Lib.hid h
  clear h hi hT IH
  go_enter Try.func35, Try.ntmps35
  go_wp2
  apply wp_scope_straight
  go_wp2_with fail
  apply wp_label
  go_wp2_with fail
  go_loopw [19] (fun i wr => ∃ j : Nat, j ≤ n ∧ i = .int .i64 j ∧ ∃ (a : Option Addr) (q : Nat) (g : Cells), SameF g f ∧ Star W wr (trySt bO bL bU bM bT bm B n d ord g a ua q uq ++ oldA W :: R) ∧ Hid (tryP sts n (r + 1) f ord = firstP sts n r f ord ((List.range n).drop j))) (fun i _ => n - (intOf i).toNat)
  case atStart => exact ⟨0, Nat.zero_le _, rfl, a, q, f, SameF.refl f, H.out, Lib.hid (by rw [tryP, List.drop_zero])⟩
  case round =>
    clear H l0 l1
    obtain ⟨j, hj, rfl, a, q, g, hg, hR, hE⟩ := hrel
    obtain ⟨w2, rfl⟩ : ∃ w2, w2 = wr := ⟨_, rfl⟩
    by_cases hlt : j < n
    · obtain ⟨s, hs⟩ : ∃ s, sts[j]? = some s := ⟨_, List.getElem?_eq_getElem (by have := HT.out.ns; omega)⟩
      obtain ⟨v, hv⟩ : ∃ v, vs[j]? = some v := ⟨_, List.getElem?_eq_getElem (by have := HT.out.nv; omega)⟩
      obtain ⟨MA, mk, mc, rfl, hmk, hms, hmb⟩ := HT.out.mv j s v hs hv
      obtain ⟨gB, oB, rfl, hgB, ca⟩ := HT.out.row.row hlt (by omega)
      have fm : ∀ i' u, (stoC s (.slice MA mk mc))[i']? = some u → i' < 10 → w2.cell? ⟨gB, oB + j * 10 + i', none⟩ = some u := fun i' u hu hi => ((hR.pull 8).oldCell hgB).trans (ca i' u (by rw [stosC_at hs hv hi]; exact hu))
      have a0 := fm 0 _ rfl (by omega)
      have a1 := fm 1 _ rfl (by omega)
      have a2 := fm 2 _ rfl (by omega)
      have a3 := fm 3 _ rfl (by omega)
      have a4 := fm 4 _ rfl (by omega)
      have a5 := fm 5 _ rfl (by omega)
      have a6 := fm 6 _ rfl (by omega)
      have a7 := fm 7 _ rfl (by omega)
      have a8 := fm 8 _ rfl (by omega)
      have a9 := fm 9 _ rfl (by omega)
      simp only [Nat.add_zero] at a0
      have hjz : (j : Int) < n := by omega
      have hst : stAt sts j = s := by rw [stAt, Int.toNat_natCast, hs]; rfl
      have e1 := hE.out
      rw [range_drop hlt, firstP] at e1
      obtain ⟨gu, rfl, -⟩ := (hR.pull 3).rowAt (by omega)
      have hN := hR.new (.cells #[.int .i64 s.thread, .int .i64 s.stamp, .int .i64 s.begin_, .int .i64 s.end_, .int .i64 s.fate, .int .i64 s.e, .int .i64 s.by_, .int .i64 s.opens, .int .i64 s.gate, .slice MA mk mc] 44)
      obtain ⟨b0, b1⟩ := row1_cell (hN.pull 4) (intsC_get (mark_at n (intsOf ord) j hlt))
      have lU : (w2.alloc (.cells #[.int .i64 s.thread, .int .i64 s.stamp, .int .i64 s.begin_, .int .i64 s.end_, .int .i64 s.fate, .int .i64 s.e, .int .i64 s.by_, .int .i64 s.opens, .int .i64 s.gate, .slice MA mk mc] 44)).cell? ⟨bU, 0, none⟩ = some (.slice (some ⟨gu, 0, none⟩) n uq) := (hN.pull 3).cell 0
      have HN := Lib.hid hN
      by_cases hmem : j ∈ ord
      · have hmay : mayP sts n f ord j = false := by rw [mayP]; simp [hmem]
        rw [hmay, if_neg (by decide)] at e1
        rw [if_pos (mem_intsOf.2 hmem)] at b0
        have E1 := Lib.hid e1
        have HG := Lib.hid hg
        clear fm ca hs hv hR hN hE hst hms hmk hmb e1 hmay hmem b1 hg
        go_wp2
        go_roundw
        case rel => exact ⟨j + 1, by omega, by go_num, a, q, g, HG.out, HN.out.drop, E1⟩
        case measure => simp [intOf]; omega
      · rw [if_neg (fun h => hmem (mem_intsOf.1 h))] at b0
        have c := fun i' u (hu : (stoC s (.slice MA mk mc))[i']? = some u) => (hN.cell i').trans (show (#[.int .i64 s.thread, .int .i64 s.stamp, .int .i64 s.begin_, .int .i64 s.end_, .int .i64 s.fate, .int .i64 s.e, .int .i64 s.by_, .int .i64 s.opens, .int .i64 s.gate, .slice MA mk mc] : Array Value)[i']? = some u from by simpa [stoC] using hu)
        have c0 := c 0 _ rfl
        have c1 := c 1 _ rfl
        have c2 := c 2 _ rfl
        have c3 := c 3 _ rfl
        have c4 := c 4 _ rfl
        have c5 := c 5 _ rfl
        have c6 := c 6 _ rfl
        have c7 := c 7 _ rfl
        have c8 := c 8 _ rfl
        have c9 := c 9 _ rfl
        have lM : (w2.alloc (.cells #[.int .i64 s.thread, .int .i64 s.stamp, .int .i64 s.begin_, .int .i64 s.end_, .int .i64 s.fate, .int .i64 s.e, .int .i64 s.by_, .int .i64 s.opens, .int .i64 s.gate, .slice MA mk mc] 44)).cell? ⟨bM, 0, none⟩ = some (.map (some bm)) := (hN.pull 5).cell 0
        have EX : Calls Try.prog 30 #[.map (some bm), .agg #[.int .i64 s.thread, .int .i64 s.stamp, .int .i64 s.begin_, .int .i64 s.end_, .int .i64 s.fate, .int .i64 s.e, .int .i64 s.by_, .int .i64 s.opens, .int .i64 s.gate, .slice MA mk mc]] (w2.alloc (.cells #[.int .i64 s.thread, .int .i64 s.stamp, .int .i64 s.begin_, .int .i64 s.end_, .int .i64 s.fate, .int .i64 s.e, .int .i64 s.by_, .int .i64 s.opens, .int .i64 s.gate, .slice MA mk mc] 44)) fun e w' => e = .returned (.bool (explS g (fun _ => none) s.moves)) ∧ Below (w2.alloc (.cells #[.int .i64 s.thread, .int .i64 s.stamp, .int .i64 s.begin_, .int .i64 s.end_, .int .i64 s.fate, .int .i64 s.e, .int .i64 s.by_, .int .i64 s.opens, .int .i64 s.gate, .slice MA mk mc] 44)).heap.size (w2.alloc (.cells #[.int .i64 s.thread, .int .i64 s.stamp, .int .i64 s.begin_, .int .i64 s.end_, .int .i64 s.fate, .int .i64 s.e, .int .i64 s.by_, .int .i64 s.opens, .int .i64 s.gate, .slice MA mk mc] 44)) w' := explained_any s MA mk mc bm g _ W (w2.alloc (.cells #[.int .i64 s.thread, .int .i64 s.stamp, .int .i64 s.begin_, .int .i64 s.end_, .int .i64 s.fate, .int .i64 s.e, .int .i64 s.by_, .int .i64 s.opens, .int .i64 s.gate, .slice MA mk mc] 44)) (hN.pull 6) (hms.after (by omega) (hN.pull 9)) hmk hmb
        have EX2 := Lib.hid EX
        have FA := Lib.hid (⟨hst, hmk, hmb, hms, ca⟩ : _ ∧ _ ∧ _ ∧ _ ∧ _)
        have HG := Lib.hid hg
        clear c fm ca hs hv hR hN hE hms hmk hmb EX hg
        go_wp2_with fail
        refine EX2.out.mono ?_
        rintro e' w3 ⟨rfl, hb3⟩
        have hN3 := HN.out.of_below hb3
        clear EX2 hb3 HN a0 a1 a2 a3 a4 a5 a6 a7 a8 a9 b0 b1 lU c0 c1 c2 c3 c4 c5 c6 c7 c8 c9 lM
        cases hex : explS g (fun _ => none) s.moves with
        | false =>
          have hmay : mayP sts n f ord j = false := by rw [may_same HG.out.symm, mayP, hst, hex]; simp
          rw [hmay, if_neg (by decide)] at e1
          have E1 := Lib.hid e1
          have HN3 := Lib.hid hN3
          clear e1 hmay hmem hN3 hex hst FA
          go_wp2
          go_roundw
          case rel => exact ⟨j + 1, by omega, by go_num, a, q, g, HG.out, HN3.out.drop, E1⟩
          case measure => simp [intOf]; omega
        | true =>
          have x2 : w3.cell? ⟨w2.heap.size, 2, none⟩ = some (.int .i64 s.begin_) := (hN3.cell 2).trans rfl
          have lL : w3.cell? ⟨bL, 0, none⟩ = some (.slice (some ⟨gB, oB, none⟩) n d) := (hN3.pull 7).cell 0
          have HN3 := Lib.hid hN3
          have E1 := Lib.hid e1
          have HM := Lib.hid hmem
          have HX := Lib.hid (⟨hex, hst⟩ : _ ∧ _)
          clear e1 hmem hN3 hex hst x2
          go_wp2_with fail
          go_loopw [37] (fun i wz => ∃ k : Nat, k ≤ n ∧ i = .int .i64 k ∧ Star W wz (cellsA w2.heap.size #[.int .i64 s.thread, .int .i64 s.stamp, .int .i64 s.begin_, .int .i64 s.end_, .int .i64 s.fate, .int .i64 s.e, .int .i64 s.by_, .int .i64 s.opens, .int .i64 s.gate, .slice MA mk mc] 44 :: trySt bO bL bU bM bT bm (some ⟨gB, oB, none⟩) n d ord g a (some ⟨gu, 0, none⟩) q uq ++ oldA W :: R) ∧ Hid (blockP sts n ord j = ((List.range n).drop k).any (blk1 sts ord j))) (fun i _ => n - (intOf i).toNat)
          case atStart => exact ⟨0, Nat.zero_le _, rfl, HN3.out, Lib.hid rfl⟩
          case round =>
            clear HN3 lL
            obtain ⟨k, hk, rfl, hR, hE⟩ := hrel
            by_cases hlt2 : k < n
            · obtain ⟨t, ht⟩ : ∃ t, sts[k]? = some t := ⟨_, List.getElem?_eq_getElem (by have := HT.out.ns; omega)⟩
              obtain ⟨v2, hv2⟩ : ∃ v, vs[k]? = some v := ⟨_, List.getElem?_eq_getElem (by have := HT.out.nv; omega)⟩
              obtain ⟨NA, nk, nc, rfl, hnk, hns, hnb⟩ := HT.out.mv k t v2 ht hv2
              obtain ⟨gB2, oB2, eB, hgB2, cb⟩ := HT.out.row.row hlt2 (by omega)
              injection eB with eB
              injection eB with e1 e2 e3
              subst e1 e2
              have fm : ∀ i' u, (stoC t (.slice NA nk nc))[i']? = some u → i' < 10 → wr.cell? ⟨gB, oB + k * 10 + i', none⟩ = some u := fun i' u hu hi => ((hR.pull 9).oldCell hgB).trans (cb i' u (by rw [stosC_at ht hv2 hi]; exact hu))
              have t0 := fm 0 _ rfl (by omega)
              have t1 := fm 1 _ rfl (by omega)
              have t2 := fm 2 _ rfl (by omega)
              have t3 := fm 3 _ rfl (by omega)
              have t4 := fm 4 _ rfl (by omega)
              have t5 := fm 5 _ rfl (by omega)
              have t6 := fm 6 _ rfl (by omega)
              have t7 := fm 7 _ rfl (by omega)
              have t8 := fm 8 _ rfl (by omega)
              have t9 := fm 9 _ rfl (by omega)
              simp only [Nat.add_zero] at t0
              have hkz : (k : Int) < n := by omega
              have hst2 : stAt sts k = t := by rw [stAt, Int.toNat_natCast, ht]; rfl
              have e1 := hE.out
              rw [range_drop hlt2, List.any_cons] at e1
              have hN := hR.new (.cells #[.int .i64 t.thread, .int .i64 t.stamp, .int .i64 t.begin_, .int .i64 t.end_, .int .i64 t.fate, .int .i64 t.e, .int .i64 t.by_, .int .i64 t.opens, .int .i64 t.gate, .slice NA nk nc] 44)
              obtain ⟨u0, u1⟩ := row1_cell (hN.pull 5) (intsC_get (mark_at n (intsOf ord) k hlt2))
              have lU : (wr.alloc (.cells #[.int .i64 t.thread, .int .i64 t.stamp, .int .i64 t.begin_, .int .i64 t.end_, .int .i64 t.fate, .int .i64 t.e, .int .i64 t.by_, .int .i64 t.opens, .int .i64 t.gate, .slice NA nk nc] 44)).cell? ⟨bU, 0, none⟩ = some (.slice (some ⟨gu, 0, none⟩) n uq) := (hN.pull 4).cell 0
              have y3 : (wr.alloc (.cells #[.int .i64 t.thread, .int .i64 t.stamp, .int .i64 t.begin_, .int .i64 t.end_, .int .i64 t.fate, .int .i64 t.e, .int .i64 t.by_, .int .i64 t.opens, .int .i64 t.gate, .slice NA nk nc] 44)).cell? ⟨wr.heap.size, 3, none⟩ = some (.int .i64 t.end_) := (hN.cell 3).trans rfl
              have x2 : (wr.alloc (.cells #[.int .i64 t.thread, .int .i64 t.stamp, .int .i64 t.begin_, .int .i64 t.end_, .int .i64 t.fate, .int .i64 t.e, .int .i64 t.by_, .int .i64 t.opens, .int .i64 t.gate, .slice NA nk nc] 44)).cell? ⟨w2.heap.size, 2, none⟩ = some (.int .i64 s.begin_) := ((hN.pull 1).cell 2).trans rfl
              have HN := Lib.hid hN
              by_cases hm2 : k ∈ ord
              · have hb : blk1 sts ord j k = false := by rw [blk1]; simp [hm2]
                rw [hb, Bool.false_or] at e1
                rw [if_pos (mem_intsOf.2 hm2)] at u0
                have E2 := Lib.hid e1
                clear fm cb ht hv2 hR hN hE hst2 hns hnk hnb e1 hb hm2 u1
                go_wp2
                go_roundw
                case rel => exact ⟨k + 1, by omega, by go_num, HN.out.drop, E2⟩
                case measure => simp [intOf]; omega
              · rw [if_neg (fun h => hm2 (mem_intsOf.1 h))] at u0
                by_cases hkj : k = j
                · have hb : blk1 sts ord j k = false := by rw [blk1]; simp [hkj]
                  rw [hb, Bool.false_or] at e1
                  have E2 := Lib.hid e1
                  have hkjb : ((k : Int) != (j : Int)) = false := by simp [hkj]
                  clear fm cb ht hv2 hR hN hE hst2 hns hnk hnb e1 hb hm2 u1 hkj
                  go_wp2
                  go_roundw
                  case rel => exact ⟨k + 1, by omega, by go_num, HN.out.drop, E2⟩
                  case measure => simp [intOf]; omega
                · have hkjb : ((k : Int) != (j : Int)) = true := by simp only [bne_iff_ne, ne_eq]; omega
                  by_cases hen : t.end_ = 0
                  · have hb : blk1 sts ord j k = false := by rw [blk1, hst2, hen]; simp
                    rw [hb, Bool.false_or] at e1
                    have E2 := Lib.hid e1
                    have henb : (t.end_ != 0) = false := by simpa using hen
                    clear fm cb ht hv2 hR hN hE hst2 hns hnk hnb e1 hb hm2 u1 hkj hen
                    go_wp2
                    go_roundw
                    case rel => exact ⟨k + 1, by omega, by go_num, HN.out.drop, E2⟩
                    case measure => simp [intOf]; omega
                  · have henb : (t.end_ != 0) = true := by simpa using hen
                    by_cases hel : t.end_ < s.begin_
                    · have hb : blk1 sts ord j k = true := by rw [blk1, hst2, HX.out.2]; simp [hm2, hkj, hen, hel]
                      rw [hb, Bool.true_or] at e1
                      have hmay : mayP sts n f ord j = false := by rw [mayP, e1]; simp
                      have ee := E1.out
                      rw [hmay, if_neg (by decide)] at ee
                      have E2 := Lib.hid ee
                      clear fm cb ht hv2 hR hN hE hst2 hns hnk hnb e1 hb hm2 u1 hkj hen hmay ee E1
                      go_wp2
                      go_roundw
                      case rel => exact ⟨j + 1, by omega, by go_num, a, q, g, HG.out, HN.out.drop.drop, E2⟩
                      case measure => simp [intOf]; omega
                    · have hb : blk1 sts ord j k = false := by rw [blk1, hst2, HX.out.2]; simp [hel]
                      rw [hb, Bool.false_or] at e1
                      have E2 := Lib.hid e1
                      clear fm cb ht hv2 hR hN hE hst2 hns hnk hnb e1 hb hm2 u1 hkj hen
                      go_wp2
                      go_roundw
                      case rel => exact ⟨k + 1, by omega, by go_num, HN.out.drop, E2⟩
                      case measure => simp [intOf]; omega
            · have e1 := hE.out
              rw [List.drop_eq_nil_of_le (by simp; omega), List.any_nil] at e1
              have hmay : mayP sts n f ord j = true := by rw [may_same HG.out.symm, mayP, e1, HX.out.2, HX.out.1]; simp [HM.out]
              have ee := E1.out
              rw [hmay, if_pos rfl, HX.out.2] at ee
              have hkz : ¬ (k : Int) < n := by omega
              obtain ⟨u0, u1⟩ := row1_cell (hR.pull 4) (intsC_get (mark_at n (intsOf ord) j hlt))
              rw [if_neg (fun h => HM.out (mem_intsOf.1 h))] at u0
              have lU : wr.cell? ⟨bU, 0, none⟩ = some (.slice (some ⟨gu, 0, none⟩) n uq) := (hR.pull 3).cell 0
              have hS := (hR.pull 4).rowSet j (.int .i64 1)
              have hms : (intsC (markI n (intsOf ord))).set j (.int .i64 1) = intsC (markI n (intsOf (ord ++ [j]))) := by
                rw [show intsOf (ord ++ [j]) = intsOf ord ++ [(j : Int)] from by simp [intsOf], ← mark_set n (intsOf ord) j hlt, intsC, intsC, List.map_set]
              rw [hms] at hS
              have hP := (hS.new (.cells #[.int .i64 j] 3)).pull 4
              have lO : (wr.setCell ⟨gu, j, none⟩ (.int .i64 1)).cell? ⟨bO, 0, none⟩ = some (.slice a ord.length q) := (hS.pull 2).cell 0
              have E2 := Lib.hid ee
              clear hR hE e1 hmay ee E1 hms hS
              go_wp2_with (at_builtin; refine wpList_append_star rfl _ _ 24 rfl 3 i0 _ 1 8 Try.underlying24 hi0 hz0 hz1 hz2 rfl (by decide) _ ord.length _ rfl hP ⟨wr.heap.size, 0, none⟩ 1 1 [.int .i64 j] rfl rfl (cell_list_new _ _ (by simp) _ _) (by simp [Value.oneCell']) (by simp only [maxLen]; omega) (by omega) ?_; intro a' q' w4 h5; have lO4 : w4.cell? ⟨bO, 0, none⟩ = some (.slice a ord.length q) := (h5.pull 4).cell 0; have fO4 : w4.frozen? ⟨bO, 0, none⟩ = false := (h5.pull 4).frozen 0; have h6 := (h5.pull 4).set 0 (.slice a' (ord.length + 1) q'); have lM : (w4.setCell ⟨bO, 0, none⟩ (.slice a' (ord.length + 1) q')).cell? ⟨bM, 0, none⟩ = some (.map (some bm)) := (h6.pull 6).cell 0; have n0 : (w4.setCell ⟨bO, 0, none⟩ (.slice a' (ord.length + 1) q')).cell? ⟨w2.heap.size, 0, none⟩ = some (.int .i64 s.thread) := ((h6.pull 4).cell 0).trans rfl; have n1 : (w4.setCell ⟨bO, 0, none⟩ (.slice a' (ord.length + 1) q')).cell? ⟨w2.heap.size, 1, none⟩ = some (.int .i64 s.stamp) := ((h6.pull 4).cell 1).trans rfl; have n2 : (w4.setCell ⟨bO, 0, none⟩ (.slice a' (ord.length + 1) q')).cell? ⟨w2.heap.size, 2, none⟩ = some (.int .i64 s.begin_) := ((h6.pull 4).cell 2).trans rfl; have n3 : (w4.setCell ⟨bO, 0, none⟩ (.slice a' (ord.length + 1) q')).cell? ⟨w2.heap.size, 3, none⟩ = some (.int .i64 s.end_) := ((h6.pull 4).cell 3).trans rfl; have n4 : (w4.setCell ⟨bO, 0, none⟩ (.slice a' (ord.length + 1) q')).cell? ⟨w2.heap.size, 4, none⟩ = some (.int .i64 s.fate) := ((h6.pull 4).cell 4).trans rfl; have n5 : (w4.setCell ⟨bO, 0, none⟩ (.slice a' (ord.length + 1) q')).cell? ⟨w2.heap.size, 5, none⟩ = some (.int .i64 s.e) := ((h6.pull 4).cell 5).trans rfl; have n6 : (w4.setCell ⟨bO, 0, none⟩ (.slice a' (ord.length + 1) q')).cell? ⟨w2.heap.size, 6, none⟩ = some (.int .i64 s.by_) := ((h6.pull 4).cell 6).trans rfl; have n7 : (w4.setCell ⟨bO, 0, none⟩ (.slice a' (ord.length + 1) q')).cell? ⟨w2.heap.size, 7, none⟩ = some (.int .i64 s.opens) := ((h6.pull 4).cell 7).trans rfl; have n8 : (w4.setCell ⟨bO, 0, none⟩ (.slice a' (ord.length + 1) q')).cell? ⟨w2.heap.size, 8, none⟩ = some (.int .i64 s.gate) := ((h6.pull 4).cell 8).trans rfl; have n9 : (w4.setCell ⟨bO, 0, none⟩ (.slice a' (ord.length + 1) q')).cell? ⟨w2.heap.size, 9, none⟩ = some (.slice MA mk mc) := ((h6.pull 4).cell 9).trans rfl; have H6 := Lib.hid h6; clear h5 h6 hP)
              obtain ⟨-, hmk, hmb, hms, -⟩ := FA.out
              have LV : Calls Try.prog 31 #[.map (some bm), .agg #[.int .i64 s.thread, .int .i64 s.stamp, .int .i64 s.begin_, .int .i64 s.end_, .int .i64 s.fate, .int .i64 s.e, .int .i64 s.by_, .int .i64 s.opens, .int .i64 s.gate, .slice MA mk mc]] (w4.setCell ⟨bO, 0, none⟩ (.slice a' (ord.length + 1) q')) _ := leaves_any s MA mk mc bm g _ W (w4.setCell ⟨bO, 0, none⟩ (.slice a' (ord.length + 1) q')) (H6.out.pull 7) (hms.after (by omega) (H6.out.pull 10)) hmk hmb
              refine LV.mono ?_
              rintro e' w6 ⟨la, lq, rfl, h7⟩
              have hIH := IH2.out (rowA 70 2 (.slice la (leftOf s).length lq) (leftOf s).length (pairsC (wasS g (leftOf s))) :: R) (ord ++ [j]) (putsF g (leftOf s)) a' (some ⟨gu, 0, none⟩) q' uq w6 (by simp; omega) (by intro i hi; rcases List.mem_append.1 hi with h | h; exact HI.out i h; rw [List.mem_singleton.1 h]; exact hlt) (by rw [trySt_snoc]; exact h7.pick 12 [2, 3, 7, 5, 8, 1, 9, 10, 11, 0])
              have lT : w6.cell? ⟨bT, 0, none⟩ = some (.func (.func 35) #[] #[.pointer (some ⟨bO, 0, none⟩), .pointer (some ⟨bL, 0, none⟩), .pointer (some ⟨bU, 0, none⟩), .pointer (some ⟨bM, 0, none⟩), .pointer (some ⟨bT, 0, none⟩)]) := (h7.pull 10).cell 0
              rw [try_same sts n r _ _ _ (SameF.puts (leftOf s) HG.out)] at hIH
              have HIH := Lib.hid hIH
              clear h7 hIH LV H6 lM n0 n1 n2 n3 n4 n5 n6 n7 n8 n9 lO4 fO4 lO
              go_wp2_with fail
              refine HIH.out.mono ?_
              rintro e' w7 ⟨rfl, a2, q2, f2, hf2, h8⟩
              obtain ⟨T, hT⟩ : ∃ T, tryP sts n r (putsF f (leftOf s)) (ord ++ [j]) = T := ⟨_, rfl⟩
              rw [hT] at hf2 h8
              have e5 := E2.out
              rw [hT] at e5 ⊢
              have HTT := Lib.hid hT
              clear hT HIH lT
              cases T with
              | some o =>
                have E5 := Lib.hid (show tryP sts n (r + 1) f ord = some o from e5)
                have H8 := Lib.hid h8
                clear hf2 h8 e5
                go_wp2_with fail
                rw [Exit.noGoto_ret]
                go_ret
                exact ⟨by rw [E5.out]; rfl, a2, q2, f2, (by rw [E5.out]; exact (fun h => nomatch h)), by rw [E5.out]; exact H8.out.pick 10 [0, 1, 2, 3, 4, 5, 6, 7, 8]⟩
              | none =>
                have E5 := Lib.hid (show tryP sts n (r + 1) f ord = firstP sts n r f ord ((List.range n).drop (j + 1)) from e5)
                have HF2 := Lib.hid (hf2 rfl)
                rw [Option.getD_none, trySt_snoc] at h8
                have hwl : (wasS g (leftOf s)).length = (leftOf s).length := was_len _ _
                have hlq := ((h8.pull 9).rowCap).1
                have hlm := ((h8.pull 9).rowCap).2
                simp only [maxLen] at hlm
                have hl0 : ((leftOf s).length : Int) - 1 = ((leftOf s).length : Int) - 1 := rfl
                have H8 := Lib.hid h8
                have HWL := Lib.hid hwl
                clear hf2 h8 e5 hwl hl0
                go_wp2_with fail
                go_loopw [11] (fun i wz => ∃ t : Nat, t ≤ (leftOf s).length ∧ i = .int .i64 ((t : Int) - 1) ∧ ∃ h : Cells, Star W wz ([cellsA bO #[.slice a2 (ord.length + 1) q2] 24, rowA 3 1 (.slice a2 (ord.length + 1) q2) (ord.length + 1) (natsC ord ++ [.int .i64 j]), cellsA bU #[.slice (some ⟨gu, 0, none⟩) n uq] 24, rowA 3 1 (.slice (some ⟨gu, 0, none⟩) n uq) n (intsC (markI n (intsOf (ord ++ [j])))), cellsA bM #[.map (some bm)] 61, memA bm h, cellsA bL #[.slice (some ⟨gB, oB, none⟩) n d] 23, cellsA bT #[.func (.func 35) #[] #[.pointer (some ⟨bO, 0, none⟩), .pointer (some ⟨bL, 0, none⟩), .pointer (some ⟨bU, 0, none⟩), .pointer (some ⟨bM, 0, none⟩), .pointer (some ⟨bT, 0, none⟩)]] 22] ++ oldA W :: rowA 70 2 (.slice la (leftOf s).length lq) (leftOf s).length (pairsC (wasS g (leftOf s))) :: R) ∧ Hid (h = putsF f2 ((wasS g (leftOf s)).drop t).reverse)) (fun i _ => (intOf i + 1).toNat)
                case atStart => exact ⟨(leftOf s).length, Nat.le_refl _, rfl, f2, H8.out, Lib.hid (by rw [List.drop_eq_nil_of_le (by have := HWL.out; omega)]; rfl)⟩
                case round =>
                  clear H8
                  obtain ⟨t, ht, rfl, h, hR, hE⟩ := hrel
                  rcases t with _ | t
                  · have ez : ((0 : Nat) : Int) - 1 = -1 := rfl
                    rw [ez]
                    have hf : SameF h f := by
                      rw [hE.out, List.drop_zero]
                      exact ((HF2.out.puts (wasS g (leftOf s)).reverse).trans (back_same _ _)).trans HG.out
                    have hcap := ((hR.pull 1).rowCap).1
                    have lO : wr.cell? ⟨bO, 0, none⟩ = some (.slice a2 (ord.length + 1) q2) := hR.cell 0
                    have fO : wr.frozen? ⟨bO, 0, none⟩ = false := hR.frozen 0
                    have S1 := hR.set 0 (.slice a2 ord.length q2)
                    have lU : (wr.setCell ⟨bO, 0, none⟩ (.slice a2 ord.length q2)).cell? ⟨bU, 0, none⟩ = some (.slice (some ⟨gu, 0, none⟩) n uq) := (S1.pull 2).cell 0
                    obtain ⟨u0, u1⟩ := row1_cell (S1.pull 3) (intsC_get (mark_at n (intsOf (ord ++ [j])) j hlt))
                    rw [if_pos (mem_intsOf.2 (by simp))] at u0
                    have S2 := (S1.pull 3).rowSet j (.int .i64 0)
                    have hms : (intsC (markI n (intsOf (ord ++ [j])))).set j (.int .i64 0) = intsC (markI n (intsOf ord)) := by
                      rw [← mark_unset hlt HM.out, intsC, intsC, List.map_set]
                    rw [hms] at S2
                    have S3 := (S2.pull 2).rowCut ord.length (by omega)
                    have hcut : (natsC ord ++ [Value.int .i64 j]).take (ord.length * 1) = natsC ord := by
                      rw [Nat.mul_one, List.take_append_of_le_length (by simp [natsC]), List.take_of_length_le (by simp [natsC])]
                    rw [hcut] at S3
                    have HS := Lib.hid S3
                    have HF := Lib.hid hf
                    clear hR hE ez hf S1 S2 S3 hms hcut
                    go_wp2
                    go_roundw
                    case rel => exact ⟨j + 1, by omega, by go_num, a2, q2, h, HF.out, HS.out.pick 10 [2, 0, 3, 1, 4, 5, 6, 7, 8], E5⟩
                    case measure => simp [intOf]; omega
                  · obtain ⟨p, hp⟩ : ∃ p, (wasS g (leftOf s))[t]? = some p := ⟨_, List.getElem?_eq_getElem (by have := HWL.out; omega)⟩
                    have hd : (wasS g (leftOf s)).drop t = p :: (wasS g (leftOf s)).drop (t + 1) := by
                      have := List.drop_eq_getElem_cons (l := wasS g (leftOf s)) (i := t) (List.getElem?_eq_some_iff.1 hp).1
                      rwa [(List.getElem?_eq_some_iff.1 hp).2] at this
                    have e1 : putF h p.1 p.2 = putsF f2 ((wasS g (leftOf s)).drop t).reverse := by
                      rw [hd, List.reverse_cons, puts_append, ← hE.out]; rfl
                    obtain ⟨k0, v0⟩ := p
                    obtain ⟨gw, rfl, -, -, cw, -⟩ := (hR.pull 9).rowAt (by omega)
                    have c0 : wr.cell? ⟨gw, t * 2, none⟩ = some (.int .i64 k0) := (cw _ (by omega)).trans ((pairsC_at (j := 0) hp (by omega)).trans rfl)
                    have c1 : wr.cell? ⟨gw, t * 2 + 1, none⟩ = some (.int .i64 v0) := (cw _ (by omega)).trans ((pairsC_at (j := 1) hp (by omega)).trans rfl)
                    have lM : wr.cell? ⟨bM, 0, none⟩ = some (.map (some bm)) := (hR.pull 4).cell 0
                    have ez : ((t + 1 : Nat) : Int) - 1 = (t : Int) := by omega
                    rw [ez]
                    have htz : (0 : Int) ≤ t := by omega
                    have htl : (t : Int) < ((leftOf s).length : Int) := by omega
                    have htn : t < (leftOf s).length := by omega
                    have hR1 := hR.drew.pull 5
                    have HR := Lib.hid hR1
                    have EE := Lib.hid e1
                    clear hR hE hd hp cw e1 ez hR1
                    go_upto_region 20 with fail
                    go_still_tail 11, (by kernel_rfl)
                    change wpList _ _ _ _ _ wr.drew
                    refine wpList_mem_put rfl _ _ _ 61 rfl Try.underlying61 rfl k0 rfl v0 rfl HR.out ?_
                    intro w9 h9
                    have H9 := Lib.hid (h9.pick 10 [1, 2, 3, 4, 5, 0, 6, 7, 8, 9])
                    clear h9 HR
                    go_wp2
                    go_roundw
                    case rel => exact ⟨t, by omega, by go_num, putF h k0 v0, H9.out, EE⟩
                    case measure => simp [intOf]
    · have hjn : j = n := by omega
      have e1 := hE.out
      rw [List.drop_eq_nil_of_le (by simp; omega), firstP] at e1
      have E1 := Lib.hid e1
      have HR := Lib.hid hR
      have HG := Lib.hid hg
      have hjz : ¬ (j : Int) < n := by omega
      clear hE e1 hR hg
      go_wp2
      go_ret
      exact ⟨by rw [E1.out]; rfl, a, q, g, fun _ => HG.out, by rw [E1.out]; exact HR.out⟩
end Go.Proofs.Ytljdkfhkpjjfgaa
