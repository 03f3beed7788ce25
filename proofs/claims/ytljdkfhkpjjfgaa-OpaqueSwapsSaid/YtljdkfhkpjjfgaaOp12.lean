/- Search's closure: lemmas for the laws of layer 22. -/
import Derived.Test.YtljdkfhkpjjfgaaOp11
import Derived.WalkMore
namespace Go.Proofs.Ytljdkfhkpjjfgaa
open Go.RowKit Go.Shelf
set_option linter.unusedVariables false

def intsOf (l : List Nat) : List Int := l.map fun i : Nat => (i : Int)
/-- what the closure's boxes hold -/
def trySt (bO bL bU bM bT bm : Nat) (B : Option Addr) (n d : Nat) (ord : List Nat) (f : Cells) (a ua : Option Addr) (q uq : Nat) : List HA :=
  [cellsA bO #[.slice a ord.length q] 24, rowA 3 1 (.slice a ord.length q) ord.length (natsC ord), cellsA bU #[.slice ua n uq] 24, rowA 3 1 (.slice ua n uq) n (intsC (markI n (intsOf ord))), cellsA bM #[.map (some bm)] 61, memA bm f, cellsA bL #[.slice B n d] 23, cellsA bT #[.func (.func 35) #[] #[.pointer (some ⟨bO, 0, none⟩), .pointer (some ⟨bL, 0, none⟩), .pointer (some ⟨bU, 0, none⟩), .pointer (some ⟨bM, 0, none⟩), .pointer (some ⟨bT, 0, none⟩)]] 22]
/-- what the closure does where r places are left -/
def TryC (bO bL bU bM bT bm : Nat) (B : Option Addr) (n d : Nat) (sts : List Sto) (W : World) (r : Nat) : Prop :=
  ∀ (R : List HA) (ord : List Nat) (f : Cells) (a ua : Option Addr) (q uq : Nat) (w : World), ord.length + r = n → (∀ i ∈ ord, i < n) → Star W w (trySt bO bL bU bM bT bm B n d ord f a ua q uq ++ oldA W :: R) →
    Calls Try.prog 35 #[.pointer (some ⟨bO, 0, none⟩), .pointer (some ⟨bL, 0, none⟩), .pointer (some ⟨bU, 0, none⟩), .pointer (some ⟨bM, 0, none⟩), .pointer (some ⟨bT, 0, none⟩)] w fun e w' =>
      e = .returned (.bool (tryP sts n r f ord).isSome) ∧ ∃ a' q' f', (tryP sts n r f ord = none → SameF f' f) ∧ Star W w' (trySt bO bL bU bM bT bm B n d ((tryP sts n r f ord).getD ord) f' a' ua q' uq ++ oldA W :: R)
set_option maxRecDepth 100000 in
set_option maxHeartbeats 12800000 in
theorem try_zero (bO bL bU bM bT bm : Nat) (B : Option Addr) (n d : Nat) (sts : List Sto) (W : World) : TryC bO bL bU bM bT bm B n d sts W 0 := by
  intro R ord f a ua q uq w hn hi h
  have hl : ord.length = n := by omega
  have l0 : w.cell? ⟨bO, 0, none⟩ = some (.slice a ord.length q) := h.cell 0
  have l1 : w.cell? ⟨bL, 0, none⟩ = some (.slice B n d) := (h.pull 6).cell 0
  rw [hl] at l0
  have H := Lib.hid h
  clear h hi hn
  have HL := Lib.hid hl
  clear hl
  go_enter Try.func35, Try.ntmps35
  go_wp2
  apply wp_scope_straight
  go_wp2_with fail
  rw [Exit.noGoto_ret]
  go_ret
  exact ⟨by rw [tryP]; rfl, a, q, f, fun _ => SameF.refl f, by rw [tryP]; exact H.out⟩
end Go.Proofs.Ytljdkfhkpjjfgaa
