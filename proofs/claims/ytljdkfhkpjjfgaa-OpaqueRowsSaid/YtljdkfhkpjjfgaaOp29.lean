/- OpaqueOrders' walk: lemmas for the laws of layer 22. -/
import Derived.Test.YtljdkfhkpjjfgaaOqF
namespace Go.Proofs.Ytljdkfhkpjjfgaa
open Go.RowKit Go.Shelf
set_option linter.unusedVariables false

set_option maxRecDepth 100000 in
set_option maxHeartbeats 6400000 in
theorem orders_walk (B : Option Addr) (m d : Nat) (sts : List Sto) (vs : List Value) (w : World) (hT : Stories w B m sts vs) (hbm : m * 96 ≤ 140737488355328) :
    Calls Try.prog 4 #[.slice B m d] w fun e w' => e = .returned (.bool true) ∧ Below w.heap.size w w' := by
  have HT := Lib.hid hT
  clear hT
  go_enter Try.func4, Try.ntmps4
  go_wp2_with fail
  refine (awake_any _).mono ?_
  rintro e' w1 ⟨rfl, hb1⟩
  have HB1 := Lib.hid hb1
  clear hb1
  go_wp2_with fail
  refine (order_any B m d sts vs w1 (HT.out.below HB1.out) hbm).mono ?_
  rintro e' w2 ⟨a, q, rfl, h2⟩
  have H2 := Lib.hid h2
  clear h2
  go_wp2_with fail
  refine (order_ref B m d sts vs w2 (HT.out.below (below_next HB1.out (H2.out.pull 1).below)) hbm).mono ?_
  rintro e' w3 ⟨a', q', rfl, h3⟩
  have h4 := h3.frame (L := [_]) H2.out
  have hx : Sl w3 a m 1 (intsC (intsOf (orderOf sts))) := by have := (h4.pull 1).rowSl; rwa [natsC_ints] at this
  have hy : Sl w3 a' m 1 (intsC (intsOf (orderOf sts))) := by have := h4.rowSl; rwa [natsC_ints] at this
  have SI := Lib.hid (sameInts_any _ _ a a' m m q q' w3 hx hy (by omega))
  have HB3 := Lib.hid (below_next HB1.out (h4.pull 2).below)
  clear h3 h4 hx hy H2 HB1
  go_wp2_with fail
  refine SI.out.mono ?_
  rintro e' w4 ⟨rfl, n, rfl⟩
  have HB4 := Lib.hid (below_next HB3.out (below_drew w3 n))
  clear HB3 SI
  go_wp2
  go_ret
  exact ⟨rfl, HB4.out⟩
end Go.Proofs.Ytljdkfhkpjjfgaa
