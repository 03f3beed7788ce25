/- The comparer of Order: lemmas for the laws of layer 22. -/
import Derived.Test.YtljdkfhkpjjfgaaOp2
import Derived.Test.YtljdkfhkpjjfgaaGh23
import Derived.StillTailTactics
namespace Go.Proofs.Ytljdkfhkpjjfgaa
open Go.RowKit Go.Shelf
set_option linter.unusedVariables false

def ptsC (ps : List Pt) : List Value := (ps.map ptC).flatten
theorem pt_len {ps : List Pt} : ∀ c ∈ ps.map ptC, c.length = 3 := by intro c hc; obtain ⟨e, _, rfl⟩ := List.mem_map.1 hc; rfl
theorem ptsC_len (ps : List Pt) : (ptsC ps).length = ps.length * 3 := by rw [ptsC, flat_len pt_len, List.length_map]
theorem ptsC_at {ps : List Pt} {i j : Nat} {p : Pt} (h : ps[i]? = some p) (hj : j < 3) : (ptsC ps)[i * 3 + j]? = (ptC p)[j]? :=
  flat_at pt_len (by rw [List.getElem?_map, h]; rfl) hj
theorem ptsC_snoc (ps : List Pt) (p : Pt) : ptsC (ps ++ [p]) = ptsC ps ++ ptC p := by simp [ptsC]
def ptAt (pts : List Pt) (i : Nat) : Pt := (pts[i]?).getD ⟨0, 0, 0⟩
def cvP (pts : List Pt) (x y : Nat) : Int := orI (cmpI (ptAt pts x).num (ptAt pts y).num) (cmpI (ptAt pts x).late (ptAt pts y).late) (cmpI (ptAt pts x).step (ptAt pts y).step)
/-- one point ahead of another -/
def ptLt (p q : Pt) : Prop := p.num < q.num ∨ (p.num = q.num ∧ (p.late < q.late ∨ (p.late = q.late ∧ p.step < q.step)))
theorem cvP_less (pts : List Pt) (x y : Nat) : lessOf (cvP pts) x y = true ↔ ptLt (ptAt pts x) (ptAt pts y) := by
  unfold lessOf cvP ptLt orI cmpI
  rw [decide_eq_true_eq]
  generalize ptAt pts x = p
  generalize ptAt pts y = q
  (repeat' split) <;> omega
theorem weak_pts (pts : List Pt) : Weak (lessOf (cvP pts)) := by
  refine ⟨fun x y h => ?_, fun x y z h => ?_⟩
  · cases hy : lessOf (cvP pts) y x with
    | false => rfl
    | true =>
      rw [cvP_less] at h hy
      unfold ptLt at h hy
      omega
  · rw [cvP_less] at h ⊢
    rw [cvP_less]
    unfold ptLt at h ⊢
    omega
set_option maxRecDepth 100000 in
set_option maxHeartbeats 6400000 in
theorem clP_any (b gp m q : Nat) (pts : List Pt) (x y : Nat) (w : World) (hx : x < m) (hy : y < m) (hn : pts.length = m) (hb : w.cell? ⟨b, 0, none⟩ = some (.slice (some ⟨gp, 0, none⟩) m q)) (hp : ∀ j u, (ptsC pts)[j]? = some u → w.cell? ⟨gp, j, none⟩ = some u) (hm : m ≤ 17592186044416) (hbl : b < w.heap.size) (hgl : gp < w.heap.size) :
    Calls Try.prog 24 #[.int .i64 x, .int .i64 y, .pointer (some ⟨b, 0, none⟩)] w fun e w' => e = .returned (.int .i64 (cvP pts x y)) ∧ Below w.heap.size w w' := by
  obtain ⟨p, hpx⟩ : ∃ p, pts[x]? = some p := ⟨_, List.getElem?_eq_getElem (by omega)⟩
  obtain ⟨r, hry⟩ : ∃ p, pts[y]? = some p := ⟨_, List.getElem?_eq_getElem (by omega)⟩
  have e1 : cvP pts x y = orI (cmpI p.num r.num) (cmpI p.late r.late) (cmpI p.step r.step) := by simp [cvP, ptAt, hpx, hry]
  have a0 : w.cell? ⟨gp, x * 3, none⟩ = some (.int .i64 p.num) := hp _ _ (by have := ptsC_at hpx (j := 0) (by omega); rw [Nat.add_zero] at this; rw [this]; rfl)
  have a1 : w.cell? ⟨gp, x * 3 + 1, none⟩ = some (.int .i64 p.late) := hp _ _ (by rw [ptsC_at hpx (by omega)]; rfl)
  have a2 : w.cell? ⟨gp, x * 3 + 2, none⟩ = some (.int .i64 p.step) := hp _ _ (by rw [ptsC_at hpx (by omega)]; rfl)
  have b0 : w.cell? ⟨gp, y * 3, none⟩ = some (.int .i64 r.num) := hp _ _ (by have := ptsC_at hry (j := 0) (by omega); rw [Nat.add_zero] at this; rw [this]; rfl)
  have b1 : w.cell? ⟨gp, y * 3 + 1, none⟩ = some (.int .i64 r.late) := hp _ _ (by rw [ptsC_at hry (by omega)]; rfl)
  have b2 : w.cell? ⟨gp, y * 3 + 2, none⟩ = some (.int .i64 r.step) := hp _ _ (by rw [ptsC_at hry (by omega)]; rfl)
  have E1 := Lib.hid e1
  have hxz : (x : Int) < m := by omega
  have hyz : (y : Int) < m := by omega
  clear hp hpx hry e1 hn
  go_enter Try.func24, Try.ntmps24
  go_upto_region 1 with fail
  go_cut [6, 7] (fun s6 s7 wx => ∃ g h : Nat, s6 = .pointer (some ⟨g, 0, none⟩) ∧ s7 = .pointer (some ⟨h, 0, none⟩) ∧ Star w wx [cellsA g #[.int .i64 p.num, .int .i64 p.late, .int .i64 p.step] 53, cellsA h #[.int .i64 r.num, .int .i64 r.late, .int .i64 r.step] 53, oldA w])
  case first =>
    go_region_held3 (fun w' => w'.cell? ⟨b, 0, none⟩ = some (.slice (some ⟨gp, 0, none⟩) m q) ∧ w'.cell? ⟨gp, x * 3, none⟩ = some (.int .i64 p.num) ∧ w'.cell? ⟨gp, x * 3 + 1, none⟩ = some (.int .i64 p.late) ∧ w'.cell? ⟨gp, x * 3 + 2, none⟩ = some (.int .i64 p.step) ∧ w'.cell? ⟨gp, y * 3, none⟩ = some (.int .i64 r.num) ∧ w'.cell? ⟨gp, y * 3 + 1, none⟩ = some (.int .i64 r.late) ∧ w'.cell? ⟨gp, y * 3 + 2, none⟩ = some (.int .i64 r.step)) (go_keep) (fail)
    · go_wp2_with fail
      go_meet
      have h := (((Star.begin w).new (.cells #[.int .i64 p.num, .int .i64 p.late, .int .i64 p.step] 53)).new (.cells #[.int .i64 r.num, .int .i64 r.late, .int .i64 r.step] 53)).drew.swap
      simp only [World.size_alloc] at h
      exact ⟨w.heap.size, w.heap.size + 1, rfl, rfl, h⟩
    · go_wp2_with fail
      go_meet
      have h := (((Star.begin w).new (.cells #[.int .i64 r.num, .int .i64 r.late, .int .i64 r.step] 53)).new (.cells #[.int .i64 p.num, .int .i64 p.late, .int .i64 p.step] 53)).drew
      simp only [World.size_alloc] at h
      exact ⟨w.heap.size + 1, w.heap.size, rfl, rfl, h⟩
  case rest =>
    as_aux_lemma =>
    obtain ⟨g, h, rfl, rfl, h1⟩ := hcut
    have g0 : wc.cell? ⟨g, 0, none⟩ = some (.int .i64 p.num) := h1.cell 0
    have g1 : wc.cell? ⟨g, 1, none⟩ = some (.int .i64 p.late) := h1.cell 1
    have g2 : wc.cell? ⟨g, 2, none⟩ = some (.int .i64 p.step) := h1.cell 2
    have k0 : wc.cell? ⟨h, 0, none⟩ = some (.int .i64 r.num) := (h1.pull 1).cell 0
    have k1 : wc.cell? ⟨h, 1, none⟩ = some (.int .i64 r.late) := (h1.pull 1).cell 1
    have k2 : wc.cell? ⟨h, 2, none⟩ = some (.int .i64 r.step) := (h1.pull 1).cell 2
    have H1 := Lib.hid h1
    clear a0 a1 a2 b0 b1 b2 h1
    go_upto_region 2 with fail
    go_still_tail 15, (by kernel_rfl)
    still_call (cmp_any _ _ _)
    repeat still_step
    still_call (cmp_any _ _ _)
    repeat still_step
    still_call (cmp_any _ _ _)
    repeat still_step
    refine wpStill_nil ?_
    change wpList _ _ _ _ _ wc.drew
    have H2 := Lib.hid H1.out
    clear g0 g1 g2 k0 k1 k2 H1
    go_wp2_with fail
    have h3 := H2.out.new (.cells #[.int .i64 (cmpI p.num r.num), .int .i64 (cmpI p.late r.late), .int .i64 (cmpI p.step r.step)] 3)
    refine (or_any _ _ _ _ _ (h3.drew.cell 0) (h3.drew.cell 1) (h3.drew.cell 2)).mono ?_
    rintro e' w5 ⟨rfl, rfl⟩
    have H4 := Lib.hid ((h3.drew.pull 3).below)
    clear h3 H2
    go_wp2
    go_ret
    exact ⟨by rw [E1.out]; rfl, H4.out⟩
end Go.Proofs.Ytljdkfhkpjjfgaa
