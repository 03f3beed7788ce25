/- Search, plain, and its closure: lemmas for the laws of layer 22. -/
import Derived.Test.YtljdkfhkpjjfgaaOp10
import Derived.WalkMore
namespace Go.Proofs.Ytljdkfhkpjjfgaa
set_option linter.unusedVariables false

/-- what memory tells -/
def SameF (f g : Cells) : Prop := ∀ k, (f k).getD 0 = (g k).getD 0
theorem SameF.refl (f : Cells) : SameF f f := fun _ => rfl
theorem SameF.symm {f g : Cells} (h : SameF f g) : SameF g f := fun k => (h k).symm
theorem SameF.trans {f g h : Cells} (a : SameF f g) (b : SameF g h) : SameF f h := fun k => (a k).trans (b k)
theorem SameF.put {f g : Cells} (h : SameF f g) (k v : Int) : SameF (putF f k v) (putF g k v) := fun x => by
  unfold putF
  by_cases hx : x = k
  · rw [if_pos hx, if_pos hx]
  · rw [if_neg hx, if_neg hx]; exact h x
theorem SameF.puts : ∀ (ps : List (Int × Int)) {f g : Cells}, SameF f g → SameF (putsF f ps) (putsF g ps)
  | [], _, _, h => h
  | (k, v) :: ps, f, g, h => SameF.puts ps (h.put k v)
theorem want_same {f g : Cells} (h : SameF f g) (own : Cells) (k : Int) : wantF f own k = wantF g own k := by
  unfold wantF
  cases own k with
  | some v => rfl
  | none => exact h k
theorem expl_same {f g : Cells} (h : SameF f g) : ∀ (ms : List Mv) (own : Cells), explS f own ms = explS g own ms
  | [], _ => rfl
  | m :: ms, own => by
    rw [explS, explS, want_same h, expl_same h ms, expl_same h ms]
/-- memory put back: what was there, the last write first -/
def backF (f : Cells) (was : List (Int × Int)) : Cells := putsF f was.reverse
theorem puts_append (f : Cells) (a b : List (Int × Int)) : putsF f (a ++ b) = putsF (putsF f a) b := by rw [putsF, List.foldl_append]; rfl
theorem back_same : ∀ (ps : List (Int × Int)) (f : Cells), SameF (backF (putsF f ps) (wasS f ps)) f
  | [], f => SameF.refl f
  | (k, v) :: ps, f => by
    have ih := back_same ps (putF f k v)
    rw [wasS, backF, List.reverse_cons, puts_append]
    have e : putsF f ((k, v) :: ps) = putsF (putF f k v) ps := rfl
    rw [e]
    have h1 := SameF.put ih k ((f k).getD 0)
    refine SameF.trans h1 fun x => ?_
    unfold putF
    by_cases hx : x = k
    · rw [if_pos hx, hx]; rfl
    · rw [if_neg hx, if_neg hx]
/-- is one that is not used ended ahead of another's begin -/
def blockP (sts : List Sto) (n : Nat) (ord : List Nat) (i : Nat) : Bool :=
  (List.range n).any fun k => !decide (k ∈ ord) && k != i && (stAt sts k).end_ != 0 && decide ((stAt sts k).end_ < (stAt sts i).begin_)
/-- may one come next -/
def mayP (sts : List Sto) (n : Nat) (f : Cells) (ord : List Nat) (i : Nat) : Bool :=
  !decide (i ∈ ord) && explS f (fun _ => none) (stAt sts i).moves && !blockP sts n ord i
mutual
/-- an order that goes on from one -/
def tryP (sts : List Sto) (n : Nat) : Nat → Cells → List Nat → Option (List Nat)
  | 0, f, ord => some ord
  | r + 1, f, ord => firstP sts n r f ord (List.range n)
/-- the first one of those left that leads to an order -/
def firstP (sts : List Sto) (n r : Nat) (f : Cells) (ord : List Nat) : List Nat → Option (List Nat)
  | [] => none
  | i :: is => if mayP sts n f ord i then
      match tryP sts n r (putsF f (leftOf (stAt sts i))) (ord ++ [i]) with
      | some o => some o
      | none => firstP sts n r f ord is
    else firstP sts n r f ord is
end
theorem may_same {f g : Cells} (h : SameF f g) (sts : List Sto) (n : Nat) (ord : List Nat) (i : Nat) : mayP sts n f ord i = mayP sts n g ord i := by
  rw [mayP, mayP, expl_same h]
theorem first_same (sts : List Sto) (n r : Nat) (ih : ∀ (f g : Cells) (ord : List Nat), SameF f g → tryP sts n r f ord = tryP sts n r g ord) {f g : Cells} (h : SameF f g) (ord : List Nat) : ∀ is, firstP sts n r f ord is = firstP sts n r g ord is
  | [] => by rw [firstP, firstP]
  | i :: is => by
    rw [firstP, firstP, may_same h, ih _ _ _ (SameF.puts _ h), first_same sts n r ih h ord is]
theorem try_same (sts : List Sto) (n : Nat) : ∀ (r : Nat) (f g : Cells) (ord : List Nat), SameF f g → tryP sts n r f ord = tryP sts n r g ord
  | 0, f, g, ord, h => by rw [tryP, tryP]
  | r + 1, f, g, ord, h => by
    rw [tryP, tryP]
    exact first_same sts n r (try_same sts n r) h ord _
end Go.Proofs.Ytljdkfhkpjjfgaa
namespace Go.Proofs.Ytljdkfhkpjjfgaa
open Go.RowKit Go.Shelf
set_option linter.unusedVariables false

def intsOf (l : List Nat) : List Int := l.map fun i : Nat => (i : Int)
/-- what the closure's boxes hold -/
def trySt (bO bL bU bM bT bm : Nat) (B : Option Addr) (n d : Nat) (ord : List Nat) (f : Cells) (a ua : Option Addr) (q uq : Nat) : List HA :=
  [cellsA bO #[.slice a ord.length q] 24, rowA 3 1 (.slice a ord.length q) ord.length (natsC ord), cellsA bU #[.slice ua n uq] 24, rowA 3 1 (.slice ua n uq) n (intsC (markI n (intsOf ord))), cellsA bM #[.map (some bm)] 61, memA bm f, cellsA bL #[.slice B n d] 23, cellsA bT #[.func (.func 35) #[] #[.pointer (some ⟨bO, 0, none⟩), .pointer (some ⟨bL, 0, none⟩), .pointer (some ⟨bU, 0, none⟩), .pointer (some ⟨bM, 0, none⟩), .pointer (some ⟨bT, 0, none⟩)]] 22]
/-- what the closure does where r places are left -/
def TryC (bO bL bU bM bT bm : Nat) (B : Option Addr) (n d : Nat) (sts : List Sto) (W : World) (r : Nat) : Prop :=
  ∀ (R : List HA) (ord : List Nat) (f : Cells) (a ua : Option Addr) (q uq : Nat) (w : World), ord.length + r = n → (∀ i ∈ ord, i < n) → Star W w (trySt bO bL bU bM bT bm B n d ord f a ua q uq ++ oldA W :: R) →
    Calls Try.prog 35 #[.pointer (some ⟨bO, 0, none⟩), .pointer (some ⟨bL, 0, none⟩), .pointer (some ⟨bU, 0, none⟩), .pointer (some ⟨bM, 0, none⟩), .pointer (some ⟨bT, 0, none⟩)] w fun e w' =>
      e = .returned (.bool (tryP sts n r f ord).isSome) ∧ ∃ a' q' f', (tryP sts n r f ord = none → SameF f' f) ∧ Star W w' (trySt bO bL bU bM bT bm B n d ((tryP sts n r f ord).getD ord) f' a' ua q' uq ++ oldA W :: R)
set_option maxRecDepth 100000 in
set_option maxHeartbeats 12800000 in
theorem try_zero (bO bL bU bM bT bm : Nat) (B : Option Addr) (n d : Nat) (sts : List Sto) (W : World) : TryC bO bL bU bM bT bm B n d sts W 0 := by
  intro R ord f a ua q uq w hn hi h
  have hl : ord.length = n := by omega
  have l0 : w.cell? ⟨bO, 0, none⟩ = some (.slice a ord.length q) := h.cell 0
  have l1 : w.cell? ⟨bL, 0, none⟩ = some (.slice B n d) := (h.pull 6).cell 0
  rw [hl] at l0
  have H := Lib.hid h
  clear h hi hn
  have HL := Lib.hid hl
  clear hl
  go_enter Try.func35, Try.ntmps35
  go_wp2
  apply wp_scope_straight
  go_wp2_with fail
  rw [Exit.noGoto_ret]
  go_ret
  exact ⟨by rw [tryP]; rfl, a, q, f, fun _ => SameF.refl f, by rw [tryP]; exact H.out⟩
end Go.Proofs.Ytljdkfhkpjjfgaa
