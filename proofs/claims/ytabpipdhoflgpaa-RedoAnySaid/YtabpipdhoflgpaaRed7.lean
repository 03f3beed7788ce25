/- The two logs by numbers, call by call, each contract whole: lemmas for the laws of redo. -/
import Derived.Test.YtabpipdhoflgpaaRed6
namespace Go.Proofs.Ytabpipdhoflgpaa
open Go.RowKit
set_option linter.unusedVariables false

def putE (most : Int) (kvs : List (Int × Int)) (k : Int) : Int := if placeZ (kvs.map (·.1)) k = -1 then (if most ≤ kvs.length then 11 else 0) else 0
def putK (most : Int) (kvs : List (Int × Int)) (k v : Int) : List (Int × Int) := if placeZ (kvs.map (·.1)) k = -1 then (if most ≤ kvs.length then kvs else kvs ++ [(k, v)]) else kvs.set (placeZ (kvs.map (·.1)) k).toNat (k, v)
def getV (kvs : List (Int × Int)) (k : Int) : Int := if placeZ (kvs.map (·.1)) k = -1 then 0 else ((kvs.map (·.2))[(placeZ (kvs.map (·.1)) k).toNat]?).getD 0
def getB (kvs : List (Int × Int)) (k : Int) : Bool := !decide (placeZ (kvs.map (·.1)) k = -1)
def atR (kvs : List (Int × Int)) (i : Int) : (Int × Int) × Int := if i < 0 then ((0, 0), 2) else match kvs[i.toNat]? with | none => ((0, 0), 2) | some x => (x, 0)
def dropK (kvs : List (Int × Int)) (k : Int) : List (Int × Int) := if placeZ (kvs.map (·.1)) k = -1 then kvs else kvs.eraseIdx (placeZ (kvs.map (·.1)) k).toNat
theorem putK_len {most : Int} {kvs : List (Int × Int)} {k v : Int} (h : kvs.length ≤ most) : ((putK most kvs k v).length : Int) ≤ most := by
  unfold putK
  split
  · split
    · exact h
    · simp; omega
  · simpa using h
theorem dropK_len {most : Int} {kvs : List (Int × Int)} {k : Int} (h : kvs.length ≤ most) : ((dropK kvs k).length : Int) ≤ most := by
  unfold dropK
  split
  · exact h
  · have := List.length_eraseIdx_le kvs (placeZ (kvs.map (·.1)) k).toNat
    omega
theorem miss_iff {kvs : List (Int × Int)} {k : Int} (h : placeZ (kvs.map (·.1)) k = -1) : k ∉ kvs.map (·.1) := miss_of h
theorem hit_of {kvs : List (Int × Int)} {k : Int} (h : placeZ (kvs.map (·.1)) k ≠ -1) : ∃ (j : Nat) (v0 : Int), placeZ (kvs.map (·.1)) k = j ∧ kvs[j]? = some (k, v0) ∧ (kvs.map (·.2))[j]? = some v0 := by
  rcases placeZ_cases (kvs.map (·.1)) k with h1 | ⟨j, h1, h2⟩
  · exact absurd h1 h
  · have h3 := placeZ_at h1
    rw [List.getElem?_map] at h3
    obtain ⟨⟨a, v0⟩, h4, h5⟩ := Option.map_eq_some_iff.1 h3
    dsimp at h5
    subst h5
    exact ⟨j, v0, h1, h4, by rw [List.getElem?_map, h4]; rfl⟩

section
variable (b : Nat) (most : Int) (kvs : List (Int × Int)) (R : List HA) (W w : World)
theorem iput_any (k v : Int) (hS : Star W w (LI.A b most kvs :: R)) (hn : kvs.length ≤ 1000000) :
    Calls Try.prog 27 #[.pointer (some ⟨b, 0, none⟩), .int .i64 k, .int .i64 v] w fun e w' => e = .returned (.int .i64 (putE most kvs k)) ∧ Star W w' (LI.A b most (putK most kvs k v) :: R) := by
  unfold putE putK
  by_cases h : placeZ (kvs.map (·.1)) k = -1
  · simp only [h, if_true]
    by_cases hf : most ≤ kvs.length
    · simp only [hf, if_true]
      exact (iput_full b most kvs R W w k v hS (miss_of h) hf).mono fun e w' ⟨h1, m, h2⟩ => ⟨h1, h2 ▸ hS.drewN m⟩
    · simp only [hf, if_false]
      exact iput_room b most kvs R W w k v hS hn (miss_of h) (by omega)
  · simp only [h, if_false]
    obtain ⟨j, v0, h1, h2, _⟩ := hit_of h
    rw [h1]
    exact iput_hit b most kvs R W w k v v0 j hS h2
theorem rput_any (k v : Int) (hS : Star W w (rlogA b most kvs :: R)) (hn : kvs.length ≤ 1000000) :
    Calls Try.prog 28 #[.pointer (some ⟨b, 0, none⟩), .int .i64 k, .int .i64 v] w fun e w' => e = .returned (.int .i64 (putE most kvs k)) ∧ Star W w' (rlogA b most (putK most kvs k v) :: R) := by
  unfold putE putK
  by_cases h : placeZ (kvs.map (·.1)) k = -1
  · simp only [h, if_true]
    by_cases hf : most ≤ kvs.length
    · simp only [hf, if_true]
      exact rput_full b most kvs R W w k v hS hn h hf
    · simp only [hf, if_false]
      exact rput_room b most kvs R W w k v hS hn h (by omega)
  · simp only [h, if_false]
    obtain ⟨j, v0, h1, h2, _⟩ := hit_of h
    rw [h1]
    exact rput_hit b most kvs R W w k v j hS hn h1
theorem iget_any (k : Int) (hS : Star W w (LI.A b most kvs :: R)) (hn : kvs.length ≤ 1000000) :
    Calls Try.prog 29 #[.pointer (some ⟨b, 0, none⟩), .int .i64 k] w fun e w' => e = .returned (.tuple #[.int .i64 (getV kvs k), .bool (getB kvs k)]) ∧ w = w' := by
  unfold getV getB
  by_cases h : placeZ (kvs.map (·.1)) k = -1
  · simp only [h, if_true, decide_true, Bool.not_true]
    exact iget_miss b most kvs R W w k hS (miss_of h)
  · simp only [h, if_false, decide_false, Bool.not_false]
    obtain ⟨j, v0, h1, h2, h3⟩ := hit_of h
    rw [h1, Int.toNat_natCast, h3]
    exact iget_hit b most kvs R W w k v0 hS (List.mem_of_getElem? h2)
theorem rget_any (k : Int) (hS : Star W w (rlogA b most kvs :: R)) (hn : kvs.length ≤ 1000000) :
    Calls Try.prog 30 #[.pointer (some ⟨b, 0, none⟩), .int .i64 k] w fun e w' => e = .returned (.tuple #[.int .i64 (getV kvs k), .bool (getB kvs k)]) ∧ w = w' := by
  unfold getV getB
  by_cases h : placeZ (kvs.map (·.1)) k = -1
  · simp only [h, if_true, decide_true, Bool.not_true]
    exact rget_miss b most kvs R W w k hS hn h
  · simp only [h, if_false, decide_false, Bool.not_false]
    obtain ⟨j, v0, h1, h2, h3⟩ := hit_of h
    rw [h1, Int.toNat_natCast, h3]
    exact rget_hit b most kvs R W w k v0 j hS hn h1 h3
theorem iat_any (i : Int) (hS : Star W w (LI.A b most kvs :: R)) (hn : kvs.length ≤ 1000000) :
    Calls Try.prog 17 #[.pointer (some ⟨b, 0, none⟩), .int .i64 i] w fun e w' => e = .returned (.tuple #[.int .i64 (atR kvs i).1.1, .int .i64 (atR kvs i).1.2, .int .i64 (atR kvs i).2]) ∧ w = w' := by
  unfold atR
  by_cases hi : i < 0
  · simp only [hi, if_true]
    exact iat_bad b most kvs R W w i hS (.inl hi)
  · simp only [hi, if_false]
    cases h : kvs[i.toNat]? with
    | none =>
      have := List.getElem?_eq_none_iff.1 h
      exact iat_bad b most kvs R W w i hS (.inr (by omega))
    | some x =>
      have := iat_ok b most kvs R W w i.toNat x.1 x.2 hS hn h
      rw [Int.toNat_of_nonneg (by omega)] at this
      exact this
theorem rat_any (i : Int) (hS : Star W w (rlogA b most kvs :: R)) (hn : kvs.length ≤ 1000000) :
    Calls Try.prog 31 #[.pointer (some ⟨b, 0, none⟩), .int .i64 i] w fun e w' => e = .returned (.tuple #[.int .i64 (atR kvs i).1.1, .int .i64 (atR kvs i).1.2, .int .i64 (atR kvs i).2]) ∧ ∃ m, w' = w.drewN m := by
  unfold atR
  by_cases hi : i < 0
  · simp only [hi, if_true]
    exact rat_bad b most kvs R W w i hS (.inl hi)
  · simp only [hi, if_false]
    cases h : kvs[i.toNat]? with
    | none =>
      have := List.getElem?_eq_none_iff.1 h
      exact rat_bad b most kvs R W w i hS (.inr (by omega))
    | some x =>
      have := rat_ok b most kvs R W w i.toNat x.1 x.2 hS hn h
      rw [Int.toNat_of_nonneg (by omega)] at this
      exact this
theorem idrop_any (k : Int) (hS : Star W w (LI.A b most kvs :: R)) (hn : kvs.length ≤ 1000000) :
    Calls Try.prog 32 #[.pointer (some ⟨b, 0, none⟩), .int .i64 k] w fun e w' => e = .returned (.bool (getB kvs k)) ∧ Star W w' (LI.A b most (dropK kvs k) :: R) := by
  unfold dropK getB
  by_cases h : placeZ (kvs.map (·.1)) k = -1
  · simp only [h, if_true, decide_true, Bool.not_true]
    exact (idrop_miss b most kvs R W w k hS hn (miss_of h)).mono fun e w' ⟨h1, h2⟩ => ⟨h1, h2 ▸ hS⟩
  · simp only [h, if_false, decide_false, Bool.not_false]
    obtain ⟨j, v0, h1, h2, h3⟩ := hit_of h
    have := idrop_hit b most kvs R W w k j hS hn h1
    rw [h1]
    exact this
theorem rdrop_any (k : Int) (hS : Star W w (rlogA b most kvs :: R)) (hn : kvs.length ≤ 1000000) :
    Calls Try.prog 33 #[.pointer (some ⟨b, 0, none⟩), .int .i64 k] w fun e w' => e = .returned (.bool (getB kvs k)) ∧ Star W w' (rlogA b most (dropK kvs k) :: R) := by
  unfold dropK getB
  by_cases h : placeZ (kvs.map (·.1)) k = -1
  · simp only [h, if_true, decide_true, Bool.not_true]
    exact (rdrop_miss b most kvs R W w k hS hn h).mono fun e w' ⟨h1, h2⟩ => ⟨h1, h2 ▸ hS⟩
  · simp only [h, if_false, decide_false, Bool.not_false]
    obtain ⟨j, v0, h1, h2, h3⟩ := hit_of h
    have := rdrop_hit b most kvs R W w k j hS hn h1
    rw [h1]
    exact this
end
end Go.Proofs.Ytabpipdhoflgpaa
