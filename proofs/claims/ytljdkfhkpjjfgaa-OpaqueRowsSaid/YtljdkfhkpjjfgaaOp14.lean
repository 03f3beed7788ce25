/- Search: lemmas for the laws of layer 22. -/
import Derived.Test.YtljdkfhkpjjfgaaOp13
namespace Go.Proofs.Ytljdkfhkpjjfgaa
open Go.RowKit Go.Shelf
set_option linter.unusedVariables false

theorem try_any (bO bL bU bM bT bm : Nat) (B : Option Addr) (n d : Nat) (sts : List Sto) (vs : List Value) (W : World) (hT : Stories W B n sts vs) (hn7 : n ≤ 7) : ∀ r, TryC bO bL bU bM bT bm B n d sts W r
  | 0 => try_zero bO bL bU bM bT bm B n d sts W
  | r + 1 => try_succ bO bL bU bM bT bm B n d sts vs W r hT hn7 (try_any bO bL bU bM bT bm B n d sts vs W hT hn7 r)
/-- what Search finds -/
def srchP (st : List Int) (sts : List Sto) : Option (List Nat) := if sts.length ≤ 7 then tryP sts sts.length sts.length (begF st) [] else none
def srchE (sts : List Sto) : Int := if sts.length ≤ 7 then 0 else 223
def SrchR (w : World) (T : Option (List Nat)) (E : Int) (e : Ending) (w' : World) : Prop :=
  ∃ a q, e = .returned (.tuple #[.slice a (T.getD []).length q, .bool T.isSome, .int .i64 E]) ∧ Star w w' [rowA 3 1 (.slice a (T.getD []).length q) (T.getD []).length (natsC (T.getD [])), oldA w]
set_option maxRecDepth 100000 in
set_option maxHeartbeats 6400000 in
theorem search_any (SA : Option Addr) (sn sc : Nat) (st : List Int) (B : Option Addr) (m d : Nat) (sts : List Sto) (vs : List Value) (w : World)
    (hST : Sl w SA sn 1 (intsC st)) (hsb : sn * 8 ≤ 140737488355328) (hT : Stories w B m sts vs) (hbm : m * 96 ≤ 140737488355328) :
    Calls Try.prog 17 #[.slice SA sn sc, .slice B m d] w (SrchR w (srchP st sts) (srchE sts)) := by
  have hml : sts.length = m := hT.ns
  have h0 := (Star.begin w).new (.cells #[.slice B m d] 23)
  have l0 : (w.alloc (.cells #[.slice B m d] 23)).cell? ⟨w.heap.size, 0, none⟩ = some (.slice B m d) := h0.cell 0
  by_cases h7 : m ≤ 7
  · have h7z : ¬ (7 : Int) < m := by omega
    have e0 : srchE sts = 0 := by rw [srchE, hml, if_pos h7]
    have e1 : srchP st sts = tryP sts m m (begF st) [] := by rw [srchP, hml, if_pos h7]
    rw [e0, e1]
    have BG := begun_any SA sn sc st _ (hST.after (by omega) (h0.pull 1)) hsb
    have hm1 := make_ints 24 3 (.int .i64 0) 8 m rfl Try.underlying24 Try.info3 (by omega) (by omega)
    have HT := Lib.hid hT
    have H0 := Lib.hid h0
    have B2 := Lib.hid BG
    have HML := Lib.hid hml
    clear hT h0 BG e0 e1 hml hST
    go_enter Try.func17, Try.ntmps17
    go_wp2_with fail
    refine B2.out.mono ?_
    rintro e' w2 ⟨b, rfl, h2⟩
    have h3 := (h2.frame (L := [_]) H0.out).new (.cells #[.map (some b)] 61)
    have lL2 : (w2.alloc (.cells #[.map (some b)] 61)).cell? ⟨w.heap.size, 0, none⟩ = some (.slice B m d) := (h3.pull 2).cell 0
    have H3 := Lib.hid h3
    clear h2 h3 H0 B2 l0
    go_wp2_with fail
    have h4 := H3.out.rowNew 3 1 (Array.replicate m (.int .i64 0)) m (by simp only [maxLen]; omega) (by simp)
    have e0 : (Array.replicate m (Value.int .i64 0)).toList = intsC (markI m (intsOf [])) := by rw [show intsOf [] = [] from rfl, mark_nil, Array.toList_replicate]; simp [intsC]
    rw [e0] at h4
    have h5 := ((h4.new (.cells #[.slice (some ⟨w2.heap.size + 1, 0, none⟩) m m] 24)).new (.cells #[.slice none 0 0] 24)).new (.cells #[.func (.func 35) #[] #[.pointer (some ⟨w2.heap.size + 1 + 1 + 1, 0, none⟩), .pointer (some ⟨w.heap.size, 0, none⟩), .pointer (some ⟨w2.heap.size + 1 + 1, 0, none⟩), .pointer (some ⟨w2.heap.size, 0, none⟩), .pointer (some ⟨w2.heap.size + 1 + 1 + 1 + 1, 0, none⟩)]] 22)
    simp only [World.size_alloc] at h5
    have h6 := h5.rowNil 3 1
    have TA := (try_any (w2.heap.size + 1 + 1 + 1) w.heap.size (w2.heap.size + 1 + 1) w2.heap.size (w2.heap.size + 1 + 1 + 1 + 1) b B m d sts vs w HT.out h7 m) [] [] (begF st) none (some ⟨w2.heap.size + 1, 0, none⟩) 0 m _ (by simp) (by simp) (h6.pick 9 [2, 0, 3, 4, 5, 6, 7, 1, 8])
    refine TA.mono ?_
    rintro e' w3 ⟨rfl, a, q, f', -, h7⟩
    obtain ⟨T, hT⟩ : ∃ T, tryP sts m m (begF st) [] = T := ⟨_, rfl⟩
    rw [hT] at h7 ⊢
    have HTT := Lib.hid hT
    clear H3 h4 e0 h5 h6 TA hT lL2 hm1
    cases T with
    | some o =>
      have lO : w3.cell? ⟨w2.heap.size + 1 + 1 + 1, 0, none⟩ = some (.slice a o.length q) := h7.cell 0
      have H7 := Lib.hid h7
      clear h7
      go_wp2
      exact bodyPost_ret (v := .tuple #[.slice a o.length q, .bool true, .int .i64 0]) (by simp [results, Try.results17, go_sem]) rfl (by rw [HTT.out]; exact ⟨a, q, rfl, H7.out.pick 9 [1, 8]⟩)
    | none =>
      have H7 := Lib.hid ((h7.pull 8).rowNil 3 1)
      clear h7
      go_wp2
      exact bodyPost_ret (v := .tuple #[.slice none 0 0, .bool false, .int .i64 0]) (by simp [results, Try.results17, go_sem]) rfl (by rw [HTT.out]; have hh : Star w w3 [rowA 3 1 (.slice none 0 0) 0 [], oldA w] := H7.out.pick 10 [0, 1]; exact ⟨none, 0, rfl, hh⟩)
  · have hml7 : srchP st sts = none := by rw [srchP, hml, if_neg h7]
    have e0 : srchE sts = 223 := by rw [srchE, hml, if_neg h7]
    rw [hml7, e0]
    have h7z : (7 : Int) < m := by omega
    have HB := Lib.hid ((h0.pull 1).rowNil 3 1)
    clear hT h0 hST hml7 e0
    go_enter Try.func17, Try.ntmps17
    go_wp2
    exact bodyPost_ret (v := .tuple #[.slice none 0 0, .bool false, .int .i64 223]) (by simp [results, Try.results17, go_sem]) rfl (by have hh : Star w (w.alloc (.cells #[.slice B m d] 23)) [rowA 3 1 (.slice none 0 0) 0 [], oldA w] := HB.out.pick 3 [0, 1]; exact ⟨none, 0, rfl, hh⟩)
end Go.Proofs.Ytljdkfhkpjjfgaa
