/- Equality of the structs; the content of the stack of structs: lemmas for the law StackAny. -/
import Derived.Test.YtaobddimjccbnaaG2
namespace Go.Proofs.Ytaobddimjccbnaa
open Go.RowKit
set_option linter.unusedVariables false

theorem und45 : Try.prog.underlying 45 = some (.struct (Try.prog.fieldsOf 45)) := by kernel_rfl
theorem fields45 : Try.prog.fieldsOf 45 = #[⟨"S", 9, 0, false, "", "", 0⟩, ⟨"N", 43, 1, false, "", "", 16⟩] := by kernel_rfl
theorem held45 : Try.prog.stoodInHeld 45 = false := by kernel_rfl
theorem arr43 (w : World) (d : Nat) (i j k l : Int) : (Op.equalIn (d + 2) 43 (.agg #[.int .i64 i, .int .i64 k]) (.agg #[.int .i64 j, .int .i64 l])).run Try.prog w = .ok (i == j && k == l) w := by
  rw [Op.equalIn]
  simp [go_sem, List.range'_succ, List.forIn_cons]
  by_cases h1 : i = j
  · by_cases h2 : k = l
    · simp [h1, h2]
    · simp [h1, h2]
  · simp [h1]
theorem thing_eql (s t : ByteArray) (i j k l : Int) (w : World) : (binOp .eql 45 (.agg #[.string s, .int .i64 i, .int .i64 k]) (.agg #[.string t, .int .i64 j, .int .i64 l])).run Try.prog w = .ok (.bool (s.toList == t.toList && (i == j && k == l))) w := by
  have h := fun d => arr43 w d i j k l
  simp only [binOp]
  simp [Op.equal, Op.maxDepth]
  rw [run_equalIn_struct w 9999 45 _ _ und45 held45, fields45]
  simp [go_sem, Op.eqFields]
  rw [h 9997]
  by_cases h0 : s.toList = t.toList
  · by_cases h1 : i = j
    · by_cases h2 : k = l
      · simp [h0, h1, h2]
      · simp [h0, h1, h2]
    · simp [h0, h1]
  · simp [h0]
theorem thing_neq (s t : ByteArray) (i j k l : Int) (w : World) : (binOp .neq 45 (.agg #[.string s, .int .i64 i, .int .i64 k]) (.agg #[.string t, .int .i64 j, .int .i64 l])).run Try.prog w = .ok (.bool (!(s.toList == t.toList && (i == j && k == l)))) w := by
  have h := fun d => arr43 w d i j k l
  simp only [binOp]
  simp [Op.equal, Op.maxDepth]
  rw [run_equalIn_struct w 9999 45 _ _ und45 held45, fields45]
  simp [go_sem, Op.eqFields]
  rw [h 9997]
  by_cases h0 : s.toList = t.toList
  · by_cases h1 : i = j
    · by_cases h2 : k = l
      · simp [h0, h1, h2]
      · simp [h0, h1, h2]
    · simp [h0, h1]
  · simp [h0]

/-- what the stack of structs holds -/
def thingsFrom : Nat → List ByteArray → List Value
  | _, [] => []
  | i, s :: r => .string s :: .int .i64 i :: .int .i64 7 :: thingsFrom (i + 1) r
theorem things_at : ∀ (ss : List ByteArray) (i j : Nat) (s : ByteArray), ss[j]? = some s → (thingsFrom i ss)[j * 3]? = some (.string s) ∧ (thingsFrom i ss)[j * 3 + 1]? = some (.int .i64 ((i + j : Nat) : Int)) ∧ (thingsFrom i ss)[j * 3 + 2]? = some (.int .i64 7)
  | [], _, j, s, h => by simp at h
  | t :: r, i, 0, s, h => by simp at h; subst h; simp [thingsFrom]
  | t :: r, i, j + 1, s, h => by
    have := things_at r (i + 1) j s (by simpa using h)
    rw [show (j + 1) * 3 = j * 3 + 1 + 1 + 1 by omega]
    simp only [thingsFrom, List.getElem?_cons_succ]
    rw [show i + (j + 1) = i + 1 + j by omega]
    exact this
theorem things_snoc : ∀ (ss : List ByteArray) (i : Nat) (s : ByteArray), thingsFrom i (ss ++ [s]) = thingsFrom i ss ++ [.string s, .int .i64 ((i + ss.length : Nat) : Int), .int .i64 7]
  | [], i, s => by simp [thingsFrom]
  | t :: r, i, s => by
    have := things_snoc r (i + 1) s
    simp only [List.cons_append, thingsFrom, this, List.length_cons]
    rw [show i + (r.length + 1) = i + 1 + r.length by omega]
theorem things_take : ∀ (ss : List ByteArray) (i m : Nat), (thingsFrom i ss).take (m * 3) = thingsFrom i (ss.take m)
  | [], i, m => by simp [thingsFrom]
  | t :: r, i, 0 => by simp [thingsFrom]
  | t :: r, i, m + 1 => by
    rw [show (m + 1) * 3 = m * 3 + 1 + 1 + 1 by omega]
    simp only [thingsFrom, List.take_succ_cons, things_take r (i + 1) m]
def strs (ss : List ByteArray) : List Value := ss.map Value.string
theorem strs_get {xs : List ByteArray} {k : Nat} {u : Value} (h : (strs xs)[k]? = some u) : ∃ x, u = .string x ∧ xs[k]? = some x := by
  simp only [strs, List.getElem?_map, Option.map_eq_some_iff] at h
  obtain ⟨x, hx, rfl⟩ := h
  exact ⟨x, rfl, hx⟩
end Go.Proofs.Ytaobddimjccbnaa
