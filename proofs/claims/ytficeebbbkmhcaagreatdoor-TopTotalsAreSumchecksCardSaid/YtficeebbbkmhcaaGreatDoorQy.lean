/-
  The functions of package ext and of its reference that the statements reach, each by its contract: what they return for elements of the extension field, and that nothing that was there has turned.
  More of package ext, its reference and the functions above it that only compute with elements.
  Slices that read as lists: of cells, of elements of the extension field, of raw pairs of words.
  The reference of package mle: equality of points, vertices.
  The reference of package mle, further: vertices, the equality of a vertex and a point; the polynomial of a gate.
  Gates: slices of them, as they come in and as they are made; slice literals and new blocks in a region.
  The gates that the reference makes.
  The coefficients of the wiring polynomials: what they are, and the reference that reckons them.
  The reference's coefficients: the walk.
  The reference's Point: the polynomial with the coefficients.
  The iterator over the weights of a point's coordinates.
  Slices of the arguments as their reading gives them; a query of a statement of chapter 17; the variable that holds one.
-/
import Derived.Test.YtficeebbbkmhcaaGreatDoorEn
import Derived.Test.YtficeebbbkmhcaaGreatDoorRg
import Derived.BigQuiet
import Derived.Maps.AppendAt
import Derived.Deep.AppendLies
import Derived.OwnWalk
import Derived.Laws.MakeOwn
import Derived.Great.BuildSlice
import Derived.Deep.MidRow
import Derived.RangeFuncNested
import Derived.RangeFuncBound
import Derived.RangeFuncCalls
import Derived.RangeFuncLeaves
import Derived.Shelf.Abstract
import Derived.Shelf.RegionOpen
import Derived.WalkKit
import Derived.OwnWalkIn
import Derived.TacticsInMore
import Derived.LoopNIn
import Derived.LoopIn
import Derived.Deep.Slices
namespace Go.Proofs.YtficeebbbkmhcaaGreatDoor
open Go.RowKit
def ev (x : E) : Value := .agg #[.int .u64 (fv x.a), .int .u64 (fv x.b)]

set_option maxRecDepth 100000 in
set_option maxHeartbeats 400000 in
theorem comp_add (x y : E) (b : Nat) (w : World) (hc : w.cell? ⟨b, 0, none⟩ = some (.func (.func 70) #[] #[])) (hb : b < w.heap.size) :
    Calls Tryz.prog 107 #[ev x, ev y, .pointer (some ⟨b, 0, none⟩)] w (Ret (ev (x + y)) w) := by
  unfold ev
  rw [add_a, add_b]
  go_enter Tryz.func107, Tryz.ntmps107
  go_wp2
  refine wp_stk3 fun W hB hz b1 b2 b3 => ?_
  have c0 := gw_cell (W := W) (Nat.lt_of_lt_of_le hb hB.size) ((hB.cell (p := ⟨b, 0, none⟩) hb).trans hc)
  have c1 := gw_blk b1
  have c2 := gw_blk b2
  refine wp_region_rg 13 [(5, Spec.val (.int .u64 (fv (x.a + y.a)))), (11, Spec.val (.int .u64 (fv (x.b + y.b))))] (by kernel_rfl) (by kernel_rfl) (by kernel_rfl) trivial ?_
  iterate 5 (refine rg_det rfl rfl rfl (fun K hK => ?_); go_big_quiet_op; refine hK _ ?_; clear hK K)
  refine rg_val rfl rfl (fun W1 hW1 hF => step_callvs (first := []) (cap := []) en_attestor_field_Add (ret_of_same (fAdd x.a y.a W1)) rfl rfl rfl rfl) ?_
  intro a' ha
  simp only [Act.put, List.setIfInBounds_toArray, List.set_cons_succ, List.set_cons_zero] at ha
  subst ha
  iterate 5 (refine rg_det rfl rfl rfl (fun K hK => ?_); go_big_quiet_op; refine hK _ ?_; clear hK K)
  refine rg_val rfl rfl (fun W1 hW1 hF => step_callvs (first := []) (cap := []) en_attestor_field_Add (ret_of_same (fAdd x.b y.b W1)) rfl rfl rfl rfl) ?_
  intro a' ha
  simp only [Act.put, List.setIfInBounds_toArray, List.set_cons_succ, List.set_cons_zero] at ha
  subst ha
  refine rg_det rfl rfl rfl (fun K hK => ?_)
  go_big_quiet_op
  refine hK _ ?_; clear hK K
  refine rg_nil (fun w' hw' hF => ?_)
  obtain ⟨z, rfl⟩ := hw'
  simp only [List.drop_succ_cons, List.drop_zero]
  have e1 := (b3.gw z).cell
  have e2 := (b3.gw z).frozen
  go_wp2
  refine bodyPost_ret (v := .agg #[.int .u64 (fv (x.a + y.a)), .int .u64 (fv (x.b + y.b))]) (by simp [results, Tryz.results107, go_sem, e1]) rfl ⟨rfl, ?_⟩
  exact ((hB.trans (z.h.mono hB.size)).setCell (by show w.heap.size ≤ w.heap.size + 1 + 1; omega) _).setCell (by show w.heap.size ≤ w.heap.size + 1 + 1; omega) _
set_option maxRecDepth 100000 in
set_option maxHeartbeats 400000 in
theorem comp_sub (x y : E) (b : Nat) (w : World) (hc : w.cell? ⟨b, 0, none⟩ = some (.func (.func 111) #[] #[])) (hb : b < w.heap.size) :
    Calls Tryz.prog 107 #[ev x, ev y, .pointer (some ⟨b, 0, none⟩)] w (Ret (ev (x - y)) w) := by
  unfold ev
  rw [sub_a, sub_b]
  go_enter Tryz.func107, Tryz.ntmps107
  go_wp2
  refine wp_stk3 fun W hB hz b1 b2 b3 => ?_
  have c0 := gw_cell (W := W) (Nat.lt_of_lt_of_le hb hB.size) ((hB.cell (p := ⟨b, 0, none⟩) hb).trans hc)
  have c1 := gw_blk b1
  have c2 := gw_blk b2
  refine wp_region_rg 13 [(5, Spec.val (.int .u64 (fv (x.a - y.a)))), (11, Spec.val (.int .u64 (fv (x.b - y.b))))] (by kernel_rfl) (by kernel_rfl) (by kernel_rfl) trivial ?_
  iterate 5 (refine rg_det rfl rfl rfl (fun K hK => ?_); go_big_quiet_op; refine hK _ ?_; clear hK K)
  refine rg_val rfl rfl (fun W1 hW1 hF => step_callvs (first := []) (cap := []) en_attestor_field_Sub (ret_of_same (fSub x.a y.a W1)) rfl rfl rfl rfl) ?_
  intro a' ha
  simp only [Act.put, List.setIfInBounds_toArray, List.set_cons_succ, List.set_cons_zero] at ha
  subst ha
  iterate 5 (refine rg_det rfl rfl rfl (fun K hK => ?_); go_big_quiet_op; refine hK _ ?_; clear hK K)
  refine rg_val rfl rfl (fun W1 hW1 hF => step_callvs (first := []) (cap := []) en_attestor_field_Sub (ret_of_same (fSub x.b y.b W1)) rfl rfl rfl rfl) ?_
  intro a' ha
  simp only [Act.put, List.setIfInBounds_toArray, List.set_cons_succ, List.set_cons_zero] at ha
  subst ha
  refine rg_det rfl rfl rfl (fun K hK => ?_)
  go_big_quiet_op
  refine hK _ ?_; clear hK K
  refine rg_nil (fun w' hw' hF => ?_)
  obtain ⟨z, rfl⟩ := hw'
  simp only [List.drop_succ_cons, List.drop_zero]
  have e1 := (b3.gw z).cell
  have e2 := (b3.gw z).frozen
  go_wp2
  refine bodyPost_ret (v := .agg #[.int .u64 (fv (x.a - y.a)), .int .u64 (fv (x.b - y.b))]) (by simp [results, Tryz.results107, go_sem, e1]) rfl ⟨rfl, ?_⟩
  exact ((hB.trans (z.h.mono hB.size)).setCell (by show w.heap.size ≤ w.heap.size + 1 + 1; omega) _).setCell (by show w.heap.size ≤ w.heap.size + 1 + 1; omega) _

def Held (g : FuncId) (n m : Nat) (v : Value) (w : World) : Prop := v = .func (.func 107) #[] #[.pointer (some ⟨n, 0, none⟩)] ∧ w.cell? ⟨n, 0, none⟩ = some (.func (.func g) #[] #[]) ∧ n < m
theorem held_stable (g : FuncId) : Stable (Held g) := fun n _ _ _ _ h hb => ⟨h.1, (hb.cell (p := ⟨n, 0, none⟩) h.2.2).trans h.2.1, h.2.2⟩
set_option maxRecDepth 100000 in
set_option maxHeartbeats 400000 in
theorem componentwise_any (g : FuncId) (w : World) : Calls Tryz.prog 69 #[.func (.func g) #[] #[]] w (RetR (Held g) w) := by
  go_enter Tryz.func69, Tryz.ntmps69
  go_wp2
  go_ret
  exact ⟨_, rfl, ⟨rfl, by simp, by simp⟩, (Below.refl _ _).alloc (Nat.le_refl _) _⟩

set_option maxRecDepth 100000 in
set_option maxHeartbeats 400000 in
theorem eAdd (x y : E) (w : World) : Calls Tryz.prog 34 #[ev x, ev y] w (Ret (ev (x + y)) w) := by
  unfold ev
  go_enter Tryz.func34, Tryz.ntmps34
  go_wp2
  refine wp_stk3 fun W hB hz b1 b2 b3 => ?_
  have c1 := gw_blk b1
  have c2 := gw_blk b2
  refine wp_region_rg 4 [(0, Spec.rel (Held 70) AnyV), (3, Spec.val (.agg #[.int .u64 (fv (x + y).a), .int .u64 (fv (x + y).b)]))] (by kernel_rfl) (by kernel_rfl) (by kernel_rfl) ⟨fit_of (held_stable 70), trivial⟩ ?_
  refine rg_rel rfl rfl (fun W1 hW1 hF => step_callr en_attestor_ext_componentwise (componentwise_any 70 W1) rfl rfl) ?_
  intro n0 m0 v0 hn0 hm0 hd0 hf0 a' ha
  simp only [Act.put, List.setIfInBounds_toArray, List.set_cons_succ, List.set_cons_zero] at ha
  subst ha
  iterate 2 (refine rg_det rfl rfl rfl (fun K hK => ?_); go_big_quiet_op; refine hK _ ?_; clear hK K)
  refine rg_val rfl rfl (fun W1 hW1 hF => (by obtain ⟨_, q1, q2, q3⟩ := pick_last hF (by kernel_rfl); exact step_callvs (first := []) (cap := [.pointer (some ⟨n0, 0, none⟩)]) en_attestor_ext_componentwise_1 (comp_add x y n0 W1 q2 (by omega)) rfl q1 rfl rfl)) ?_
  intro a' ha
  simp only [Act.put, List.setIfInBounds_toArray, List.set_cons_succ, List.set_cons_zero] at ha
  subst ha
  refine rg_nil (fun w' hw' hF => ?_)
  obtain ⟨z, rfl⟩ := hw'
  simp only [List.drop_succ_cons, List.drop_zero]
  have e1 := (b3.gw z).cell
  have e2 := (b3.gw z).frozen
  go_wp2
  refine bodyPost_ret (v := .agg #[.int .u64 (fv (x + y).a), .int .u64 (fv (x + y).b)]) (by simp [results, Tryz.results34, go_sem, e1]) rfl ⟨rfl, ?_⟩
  exact ((hB.trans (z.h.mono hB.size)).setCell (by show w.heap.size ≤ w.heap.size + 1 + 1; omega) _).setCell (by show w.heap.size ≤ w.heap.size + 1 + 1; omega) _
set_option maxRecDepth 100000 in
set_option maxHeartbeats 400000 in
theorem eSub (x y : E) (w : World) : Calls Tryz.prog 74 #[ev x, ev y] w (Ret (ev (x - y)) w) := by
  unfold ev
  go_enter Tryz.func74, Tryz.ntmps74
  go_wp2
  refine wp_stk3 fun W hB hz b1 b2 b3 => ?_
  have c1 := gw_blk b1
  have c2 := gw_blk b2
  refine wp_region_rg 4 [(0, Spec.rel (Held 111) AnyV), (3, Spec.val (.agg #[.int .u64 (fv (x - y).a), .int .u64 (fv (x - y).b)]))] (by kernel_rfl) (by kernel_rfl) (by kernel_rfl) ⟨fit_of (held_stable 111), trivial⟩ ?_
  refine rg_rel rfl rfl (fun W1 hW1 hF => step_callr en_attestor_ext_componentwise (componentwise_any 111 W1) rfl rfl) ?_
  intro n0 m0 v0 hn0 hm0 hd0 hf0 a' ha
  simp only [Act.put, List.setIfInBounds_toArray, List.set_cons_succ, List.set_cons_zero] at ha
  subst ha
  iterate 2 (refine rg_det rfl rfl rfl (fun K hK => ?_); go_big_quiet_op; refine hK _ ?_; clear hK K)
  refine rg_val rfl rfl (fun W1 hW1 hF => (by obtain ⟨_, q1, q2, q3⟩ := pick_last hF (by kernel_rfl); exact step_callvs (first := []) (cap := [.pointer (some ⟨n0, 0, none⟩)]) en_attestor_ext_componentwise_1 (comp_sub x y n0 W1 q2 (by omega)) rfl q1 rfl rfl)) ?_
  intro a' ha
  simp only [Act.put, List.setIfInBounds_toArray, List.set_cons_succ, List.set_cons_zero] at ha
  subst ha
  refine rg_nil (fun w' hw' hF => ?_)
  obtain ⟨z, rfl⟩ := hw'
  simp only [List.drop_succ_cons, List.drop_zero]
  have e1 := (b3.gw z).cell
  have e2 := (b3.gw z).frozen
  go_wp2
  refine bodyPost_ret (v := .agg #[.int .u64 (fv (x - y).a), .int .u64 (fv (x - y).b)]) (by simp [results, Tryz.results74, go_sem, e1]) rfl ⟨rfl, ?_⟩
  exact ((hB.trans (z.h.mono hB.size)).setCell (by show w.heap.size ≤ w.heap.size + 1 + 1; omega) _).setCell (by show w.heap.size ≤ w.heap.size + 1 + 1; omega) _

/-! ### The product -/
theorem mul_b' (x y : E) : (x * y).b = (x.a + x.b) * (y.a + y.b) - x.a * y.a - x.b * y.b := by rw [mul_b]; grind
theorem seven : (7 : Int) = fv 7 := rfl
set_option maxRecDepth 100000 in
set_option maxHeartbeats 400000 in
theorem eTimes (x y : E) (w : World) : Calls Tryz.prog 109 #[ev x, ev y] w (Ret (ev (x * y)) w) := by
  unfold ev
  rw [mul_a, mul_b']
  go_enter Tryz.func109, Tryz.ntmps109
  go_wp2
  refine wp_stk3 fun W hB hz b1 b2 b3 => ?_
  have c1 := gw_blk b1
  have c2 := gw_blk b2
  refine wp_region_rg 10 [(4, Spec.val (.int .u64 (fv (x.a * y.a)))), (9, Spec.val (.int .u64 (fv (x.b * y.b))))] (by kernel_rfl) (by kernel_rfl) (by kernel_rfl) trivial ?_
  iterate 4 (refine rg_det rfl rfl rfl (fun K hK => ?_); go_big_quiet_op; refine hK _ ?_; clear hK K)
  refine rg_val rfl rfl (fun W1 hW1 hF => step_callv en_attestor_field_Mul (ret_of_same (fMul x.a y.a W1)) rfl rfl) ?_
  intro a' ha
  simp only [Act.put, List.setIfInBounds_toArray, List.set_cons_succ, List.set_cons_zero] at ha
  subst ha
  iterate 4 (refine rg_det rfl rfl rfl (fun K hK => ?_); go_big_quiet_op; refine hK _ ?_; clear hK K)
  refine rg_val rfl rfl (fun W1 hW1 hF => step_callv en_attestor_field_Mul (ret_of_same (fMul x.b y.b W1)) rfl rfl) ?_
  intro a' ha
  simp only [Act.put, List.setIfInBounds_toArray, List.set_cons_succ, List.set_cons_zero] at ha
  subst ha
  refine rg_nil (fun w' hw' hF => ?_)
  obtain ⟨z, rfl⟩ := hw'
  simp only [List.drop_succ_cons, List.drop_zero]
  go_wp2
  have c3 := gw_blk (b1.gw z)
  have c4 := gw_blk (b2.gw z)
  clear c1 c2 hF
  refine wp_region_rg 11 [(4, Spec.val (.int .u64 (fv (x.a + x.b)))), (9, Spec.val (.int .u64 (fv (y.a + y.b)))), (10, Spec.val (.int .u64 (fv ((x.a + x.b) * (y.a + y.b)))))] (by kernel_rfl) (by kernel_rfl) (by kernel_rfl) trivial ?_
  iterate 4 (refine rg_det rfl rfl rfl (fun K hK => ?_); go_big_quiet_op; refine hK _ ?_; clear hK K)
  refine rg_val rfl rfl (fun W1 hW1 hF => step_callv en_attestor_field_Add (ret_of_same (fAdd x.a x.b W1)) rfl rfl) ?_
  intro a' ha
  simp only [Act.put, List.setIfInBounds_toArray, List.set_cons_succ, List.set_cons_zero] at ha
  subst ha
  iterate 4 (refine rg_det rfl rfl rfl (fun K hK => ?_); go_big_quiet_op; refine hK _ ?_; clear hK K)
  refine rg_val rfl rfl (fun W1 hW1 hF => step_callv en_attestor_field_Add (ret_of_same (fAdd y.a y.b W1)) rfl rfl) ?_
  intro a' ha
  simp only [Act.put, List.setIfInBounds_toArray, List.set_cons_succ, List.set_cons_zero] at ha
  subst ha
  refine rg_val rfl rfl (fun W1 hW1 hF => step_callv en_attestor_field_Mul (ret_of_same (fMul (x.a + x.b) (y.a + y.b) W1)) rfl rfl) ?_
  intro a' ha
  simp only [Act.put, List.setIfInBounds_toArray, List.set_cons_succ, List.set_cons_zero] at ha
  subst ha
  refine rg_nil (fun w' hw' hF => ?_)
  obtain ⟨z2, rfl⟩ := hw'
  simp only [List.drop_succ_cons, List.drop_zero]
  go_wp2_with fail
  rw [seven]
  refine (fMul 7 (x.b * y.b) _).mono ?_
  rintro e w' ⟨rfl, rfl⟩
  go_wp2_with fail
  refine (fAdd (x.a * y.a) (7 * (x.b * y.b)) _).mono ?_
  rintro e w' ⟨rfl, rfl⟩
  go_wp2_with fail
  refine (fSub ((x.a + x.b) * (y.a + y.b)) (x.a * y.a) _).mono ?_
  rintro e w' ⟨rfl, rfl⟩
  go_wp2_with fail
  refine (fSub ((x.a + x.b) * (y.a + y.b) - x.a * y.a) (x.b * y.b) _).mono ?_
  rintro e w' ⟨rfl, rfl⟩
  have e1 := ((b3.gw z).gw z2).cell
  have e2 := ((b3.gw z).gw z2).frozen
  go_wp2
  refine bodyPost_ret (v := .agg #[.int .u64 (fv (x.a * y.a + 7 * (x.b * y.b))), .int .u64 (fv ((x.a + x.b) * (y.a + y.b) - x.a * y.a - x.b * y.b))]) (by simp [results, Tryz.results109, go_sem, e1]) rfl ⟨rfl, ?_⟩
  have hB2 := hB.trans (z.h.mono hB.size)
  exact ((hB2.trans (z2.h.mono hB2.size)).setCell (by show w.heap.size ≤ w.heap.size + 1 + 1; omega) _).setCell (by show w.heap.size ≤ w.heap.size + 1 + 1; omega) _
set_option maxRecDepth 100000 in
set_option maxHeartbeats 400000 in
theorem eMul (x y : E) (w : World) : Calls Tryz.prog 71 #[ev x, ev y] w (Ret (ev (x * y)) w) := by
  unfold ev
  go_enter Tryz.func71, Tryz.ntmps71
  go_wp2_with fail
  refine calls_stk3 fun W hB hz b1 b2 b3 => ?_
  refine (eTimes x y _).mono ?_
  rintro e w' ⟨he, hb⟩
  unfold ev at he
  subst he
  have e1 := (b3.below hb b3.lt).cell
  have e2 := (b3.below hb b3.lt).frozen
  go_wp2
  refine bodyPost_ret (v := .agg #[.int .u64 (fv (x * y).a), .int .u64 (fv (x * y).b)]) (by simp [results, Tryz.results71, go_sem, e1]) rfl ⟨rfl, ?_⟩
  exact ((hB.trans (hb.mono hB.size)).setCell (by show w.heap.size ≤ w.heap.size + 1 + 1; omega) _).setCell (by show w.heap.size ≤ w.heap.size + 1 + 1; omega) _

set_option maxRecDepth 100000 in
set_option maxHeartbeats 400000 in
theorem eMulBase (x : E) (c : Fp) (w : World) : Calls Tryz.prog 142 #[ev x, .int .u64 (fv c)] w (Ret (ev (x * eb c)) w) := by
  rw [mul_eb]
  unfold ev
  go_enter Tryz.func142, Tryz.ntmps142
  go_wp2
  refine wp_stk2 fun W hB hz b1 b2 => ?_
  have c1 := gw_blk b1
  refine wp_region_rg 9 [(3, Spec.val (.int .u64 (fv (x.a * c)))), (7, Spec.val (.int .u64 (fv (x.b * c))))] (by kernel_rfl) (by kernel_rfl) (by kernel_rfl) trivial ?_
  iterate 3 (refine rg_det rfl rfl rfl (fun K hK => ?_); go_big_quiet_op; refine hK _ ?_; clear hK K)
  refine rg_val rfl rfl (fun W1 hW1 hF => step_callv en_attestor_field_Mul (ret_of_same (fMul x.a c W1)) rfl rfl) ?_
  intro a' ha
  simp only [Act.put, List.setIfInBounds_toArray, List.set_cons_succ, List.set_cons_zero] at ha
  subst ha
  iterate 3 (refine rg_det rfl rfl rfl (fun K hK => ?_); go_big_quiet_op; refine hK _ ?_; clear hK K)
  refine rg_val rfl rfl (fun W1 hW1 hF => step_callv en_attestor_field_Mul (ret_of_same (fMul x.b c W1)) rfl rfl) ?_
  intro a' ha
  simp only [Act.put, List.setIfInBounds_toArray, List.set_cons_succ, List.set_cons_zero] at ha
  subst ha
  refine rg_det rfl rfl rfl (fun K hK => ?_)
  go_big_quiet_op
  refine hK _ ?_; clear hK K
  refine rg_nil (fun w' hw' hF => ?_)
  obtain ⟨z, rfl⟩ := hw'
  simp only [List.drop_succ_cons, List.drop_zero]
  have e1 := (b2.gw z).cell
  have e2 := (b2.gw z).frozen
  go_wp2
  refine bodyPost_ret (v := .agg #[.int .u64 (fv (x.a * c)), .int .u64 (fv (x.b * c))]) (by simp [results, Tryz.results142, go_sem, e1]) rfl ⟨rfl, ?_⟩
  exact ((hB.trans (z.h.mono hB.size)).setCell (by show w.heap.size ≤ w.heap.size + 1; omega) _).setCell (by show w.heap.size ≤ w.heap.size + 1; omega) _
/-! ### The reference -/
set_option maxRecDepth 100000 in
set_option maxHeartbeats 1000000 in
theorem xMul (x y : E) (w : World) : Calls Tryz.prog 15 #[ev x, ev y] w (Ret (ev (x * y)) w) := by
  unfold ev
  rw [mul_a, mul_b]
  go_enter Tryz.func15, Tryz.ntmps15
  go_wp2
  refine wp_stk3 fun W hB hz b1 b2 b3 => ?_
  have c1 := gw_blk b1
  have c2 := gw_blk b2
  refine wp_region_rg 24 [(4, Spec.val (.int .u64 (fv (x.a * y.a)))), (9, Spec.val (.int .u64 (fv (x.b * y.b)))), (10, Spec.val (.int .u64 (fv (7 * (x.b * y.b))))), (11, Spec.val (.int .u64 (fv (x.a * y.a + 7 * (x.b * y.b))))), (16, Spec.val (.int .u64 (fv (x.a * y.b)))), (21, Spec.val (.int .u64 (fv (x.b * y.a)))), (22, Spec.val (.int .u64 (fv (x.a * y.b + x.b * y.a))))] (by kernel_rfl) (by kernel_rfl) (by kernel_rfl) trivial ?_
  iterate 4 (refine rg_det rfl rfl rfl (fun K hK => ?_); go_big_quiet_op; refine hK _ ?_; clear hK K)
  refine rg_val rfl rfl (fun W1 hW1 hF => step_callv en_attestor_attestorref01_Mul (ret_of_same (rMul x.a y.a W1)) rfl rfl) ?_
  intro a' ha
  simp only [Act.put, List.setIfInBounds_toArray, List.set_cons_succ, List.set_cons_zero] at ha
  subst ha
  iterate 4 (refine rg_det rfl rfl rfl (fun K hK => ?_); go_big_quiet_op; refine hK _ ?_; clear hK K)
  refine rg_val rfl rfl (fun W1 hW1 hF => step_callv en_attestor_attestorref01_Mul (ret_of_same (rMul x.b y.b W1)) rfl rfl) ?_
  intro a' ha
  simp only [Act.put, List.setIfInBounds_toArray, List.set_cons_succ, List.set_cons_zero] at ha
  subst ha
  refine rg_val rfl rfl (fun W1 hW1 hF => step_callv en_attestor_attestorref01_Mul (ret_of_same (rMul 7 (x.b * y.b) W1)) rfl rfl) ?_
  intro a' ha
  simp only [Act.put, List.setIfInBounds_toArray, List.set_cons_succ, List.set_cons_zero] at ha
  subst ha
  refine rg_val rfl rfl (fun W1 hW1 hF => step_callv en_attestor_attestorref01_Add (ret_of_same (rAdd (x.a * y.a) (7 * (x.b * y.b)) W1)) rfl rfl) ?_
  intro a' ha
  simp only [Act.put, List.setIfInBounds_toArray, List.set_cons_succ, List.set_cons_zero] at ha
  subst ha
  iterate 4 (refine rg_det rfl rfl rfl (fun K hK => ?_); go_big_quiet_op; refine hK _ ?_; clear hK K)
  refine rg_val rfl rfl (fun W1 hW1 hF => step_callv en_attestor_attestorref01_Mul (ret_of_same (rMul x.a y.b W1)) rfl rfl) ?_
  intro a' ha
  simp only [Act.put, List.setIfInBounds_toArray, List.set_cons_succ, List.set_cons_zero] at ha
  subst ha
  iterate 4 (refine rg_det rfl rfl rfl (fun K hK => ?_); go_big_quiet_op; refine hK _ ?_; clear hK K)
  refine rg_val rfl rfl (fun W1 hW1 hF => step_callv en_attestor_attestorref01_Mul (ret_of_same (rMul x.b y.a W1)) rfl rfl) ?_
  intro a' ha
  simp only [Act.put, List.setIfInBounds_toArray, List.set_cons_succ, List.set_cons_zero] at ha
  subst ha
  refine rg_val rfl rfl (fun W1 hW1 hF => step_callv en_attestor_attestorref01_Add (ret_of_same (rAdd (x.a * y.b) (x.b * y.a) W1)) rfl rfl) ?_
  intro a' ha
  simp only [Act.put, List.setIfInBounds_toArray, List.set_cons_succ, List.set_cons_zero] at ha
  subst ha
  refine rg_det rfl rfl rfl (fun K hK => ?_)
  go_big_quiet_op
  refine hK _ ?_; clear hK K
  refine rg_nil (fun w' hw' hF => ?_)
  obtain ⟨z, rfl⟩ := hw'
  simp only [List.drop_succ_cons, List.drop_zero]
  have e1 := (b3.gw z).cell
  have e2 := (b3.gw z).frozen
  go_wp2
  refine bodyPost_ret (v := .agg #[.int .u64 (fv (x.a * y.a + 7 * (x.b * y.b))), .int .u64 (fv (x.a * y.b + x.b * y.a))]) (by simp [results, Tryz.results15, go_sem, e1]) rfl ⟨rfl, ?_⟩
  exact ((hB.trans (z.h.mono hB.size)).setCell (by show w.heap.size ≤ w.heap.size + 1 + 1; omega) _).setCell (by show w.heap.size ≤ w.heap.size + 1 + 1; omega) _
end Go.Proofs.YtficeebbbkmhcaaGreatDoor
namespace Go.Proofs.YtficeebbbkmhcaaGreatDoor
open Go.RowKit

theorem fv0 : fv 0 = 0 := rfl
theorem fv1 : fv 1 = 1 := rfl
set_option maxRecDepth 100000 in
set_option maxHeartbeats 400000 in
theorem xFromInt (z : Int) (hz1 : -9223372036854775808 ≤ z) (hz2 : z ≤ 9223372036854775807) (w : World) : Calls Tryz.prog 11 #[.int .i64 z] w (Ret (ev (eb (fz z))) w) := by
  unfold ev eb
  go_enter Tryz.func11, Tryz.ntmps11
  go_wp2_with fail
  refine (rFromInt z hz1 hz2 _).mono ?_
  rintro e w' ⟨rfl, rfl⟩
  go_wp2
  refine bodyPost_ret (v := .agg #[.int .u64 (fv (fz z)), .int .u64 (fv 0)]) (by simp [results, Tryz.results11, go_sem, fv0]) rfl ⟨rfl, ?_⟩
  exact (Below.refl _ _).alloc (Nat.le_refl _) _
set_option maxRecDepth 100000 in
set_option maxHeartbeats 400000 in
theorem xOne (w : World) : Calls Tryz.prog 8 #[] w (Ret (ev 1) w) := by
  unfold ev
  rw [one_a, one_b]
  go_enter Tryz.func8, Tryz.ntmps8
  go_wp2
  refine bodyPost_ret (v := .agg #[.int .u64 (fv 1), .int .u64 (fv 0)]) (by simp [results, Tryz.results8, go_sem, fv0, fv1]) rfl ⟨rfl, ?_⟩
  exact (Below.refl _ _).alloc (Nat.le_refl _) _
def em (a b : Int) : E := ⟨fz a, fz b⟩
set_option maxRecDepth 100000 in
set_option maxHeartbeats 400000 in
theorem xMade (a b : Int) (a0 : 0 ≤ a) (a1 : a < 18446744073709551616) (d0 : 0 ≤ b) (d1 : b < 18446744073709551616) (w : World) : Calls Tryz.prog 72 #[.agg #[.int .u64 a, .int .u64 b]] w (Ret (ev (em a b)) w) := by
  have hr : ∀ x w, 0 ≤ x → x < 18446744073709551616 → Calls Tryz.prog 110 #[.int .u64 x] w fun e w' => e = .returned (.int .u64 (fv (fz x))) ∧ w = w' := fun x w h1 h2 => by rw [fv_fz]; exact rRed x h1 h2 w
  have HR := Lib.hid hr
  clear hr
  unfold ev em
  go_enter Tryz.func72, Tryz.ntmps72
  go_wp2
  refine wp_stk2 fun W hB hz b1 b2 => ?_
  have c1 := gw_blk b1
  refine wp_region_rg 7 [(2, Spec.val (.int .u64 (fv (fz a)))), (5, Spec.val (.int .u64 (fv (fz b))))] (by kernel_rfl) (by kernel_rfl) (by kernel_rfl) trivial ?_
  iterate 2 (refine rg_det rfl rfl rfl (fun K hK => ?_); go_big_quiet_op; refine hK _ ?_; clear hK K)
  refine rg_val rfl rfl (fun W1 hW1 hF => step_callv en_attestor_attestorref01_Reduce (ret_of_same (HR.out a W1 a0 a1)) rfl rfl) ?_
  intro a' ha
  simp only [Act.put, List.setIfInBounds_toArray, List.set_cons_succ, List.set_cons_zero] at ha
  subst ha
  iterate 2 (refine rg_det rfl rfl rfl (fun K hK => ?_); go_big_quiet_op; refine hK _ ?_; clear hK K)
  refine rg_val rfl rfl (fun W1 hW1 hF => step_callv en_attestor_attestorref01_Reduce (ret_of_same (HR.out b W1 d0 d1)) rfl rfl) ?_
  intro a' ha
  simp only [Act.put, List.setIfInBounds_toArray, List.set_cons_succ, List.set_cons_zero] at ha
  subst ha
  refine rg_det rfl rfl rfl (fun K hK => ?_)
  go_big_quiet_op
  refine hK _ ?_; clear hK K
  refine rg_nil (fun w' hw' hF => ?_)
  obtain ⟨z, rfl⟩ := hw'
  simp only [List.drop_succ_cons, List.drop_zero]
  have e1 := (b2.gw z).cell
  have e2 := (b2.gw z).frozen
  go_wp2
  refine bodyPost_ret (v := .agg #[.int .u64 (fv (fz a)), .int .u64 (fv (fz b))]) (by simp [results, Tryz.results72, go_sem, e1]) rfl ⟨rfl, ?_⟩
  exact ((hB.trans (z.h.mono hB.size)).setCell (by show w.heap.size ≤ w.heap.size + 1; omega) _).setCell (by show w.heap.size ≤ w.heap.size + 1; omega) _
set_option maxRecDepth 100000 in
set_option maxHeartbeats 400000 in
theorem mBlend (x y r : E) (w : World) : Calls Tryz.prog 81 #[ev x, ev y, ev r] w (Ret (ev (x + r * (y - x))) w) := by
  unfold ev
  go_enter Tryz.func81, Tryz.ntmps81
  go_wp2
  refine wp_stk4 fun W hB hz b1 b2 b3 b4 => ?_
  have c1 := gw_blk b1
  have c2 := gw_blk b2
  have c3 := gw_blk b3
  refine wp_region_rg 7 [(4, Spec.val (.agg #[.int .u64 (fv (y - x).a), .int .u64 (fv (y - x).b)])), (5, Spec.val (.agg #[.int .u64 (fv (r * (y - x)).a), .int .u64 (fv (r * (y - x)).b)])), (6, Spec.val (.agg #[.int .u64 (fv (x + r * (y - x)).a), .int .u64 (fv (x + r * (y - x)).b)]))] (by kernel_rfl) (by kernel_rfl) (by kernel_rfl) trivial ?_
  iterate 4 (refine rg_det rfl rfl rfl (fun K hK => ?_); go_big_quiet_op; refine hK _ ?_; clear hK K)
  refine rg_val rfl rfl (fun W1 hW1 hF => step_callv en_attestor_ext_Sub (eSub y x W1) rfl rfl) ?_
  intro a' ha
  simp only [Act.put, List.setIfInBounds_toArray, List.set_cons_succ, List.set_cons_zero] at ha
  subst ha
  refine rg_val rfl rfl (fun W1 hW1 hF => step_callv en_attestor_ext_Mul (eMul r (y - x) W1) rfl rfl) ?_
  intro a' ha
  simp only [Act.put, List.setIfInBounds_toArray, List.set_cons_succ, List.set_cons_zero] at ha
  subst ha
  refine rg_val rfl rfl (fun W1 hW1 hF => step_callv en_attestor_ext_Add (eAdd x (r * (y - x)) W1) rfl rfl) ?_
  intro a' ha
  simp only [Act.put, List.setIfInBounds_toArray, List.set_cons_succ, List.set_cons_zero] at ha
  subst ha
  refine rg_nil (fun w' hw' hF => ?_)
  obtain ⟨z, rfl⟩ := hw'
  simp only [List.drop_succ_cons, List.drop_zero]
  have e1 := (b4.gw z).cell
  have e2 := (b4.gw z).frozen
  go_wp2
  refine bodyPost_ret (v := .agg #[.int .u64 (fv (x + r * (y - x)).a), .int .u64 (fv (x + r * (y - x)).b)]) (by simp [results, Tryz.results81, go_sem, e1]) rfl ⟨rfl, ?_⟩
  exact ((hB.trans (z.h.mono hB.size)).setCell (by show w.heap.size ≤ w.heap.size + 1 + 1 + 1; omega) _).setCell (by show w.heap.size ≤ w.heap.size + 1 + 1 + 1; omega) _
end Go.Proofs.YtficeebbbkmhcaaGreatDoor
namespace Go.Proofs.YtficeebbbkmhcaaGreatDoor
open Go.RowKit

theorem Blk.keep {w w' : World} {g : Nat} {t : TypeId} {cs : Array Value} (h : Blk w g t cs) (hb : Below w.heap.size w w') : Blk w' g t cs := h.below hb h.lt
theorem blk_set2 {w : World} {g : Nat} {t : TypeId} {a b c d : Value} (h : Blk w g t #[a, b]) : Blk ((w.setCell ⟨g, 0, none⟩ c).setCell ⟨g, 1, none⟩ d) g t #[c, d] := (h.set_ 0 c).set_ 1 d
theorem blk_far2 {w : World} {g g' : Nat} {t : TypeId} {cs : Array Value} {c d : Value} (h : Blk w g t cs) (hne : g ≠ g') : Blk ((w.setCell ⟨g', 0, none⟩ c).setCell ⟨g', 1, none⟩ d) g t cs := (h.far (p := ⟨g', 0, none⟩) hne c).far (p := ⟨g', 1, none⟩) hne d
theorem below_set2 {N : Nat} {a w : World} {g : Nat} {c d : Value} (h : Below N a w) (hN : N ≤ g) : Below N a ((w.setCell ⟨g, 0, none⟩ c).setCell ⟨g, 1, none⟩ d) := (h.setCell (p := ⟨g, 0, none⟩) hN c).setCell (p := ⟨g, 1, none⟩) hN d
theorem get_of {l : List E} {k : Nat} (h : k < l.length) : ∃ x, l[k]? = some x ∧ l.getD k 0 = x := ⟨l[k], List.getElem?_eq_getElem h, by simp [List.getD, h]⟩
def Rd (lo hi size : Nat) (w : World) (v : Value) (n : Nat) (cs : List Value) : Prop :=
  cs.length = n * size ∧ n ≤ 140737488355327 ∧ ∃ A cap, v = .slice A n cap ∧ n ≤ cap ∧ (0 < n → ∃ g off, A = some ⟨g, off, none⟩ ∧ lo ≤ g ∧ g < hi ∧ g < w.heap.size ∧ ∀ j u, cs[j]? = some u → w.cell? ⟨g, off + j, none⟩ = some u)
theorem Rd.below {lo hi size n N : Nat} {w w' : World} {v : Value} {cs : List Value} (h : Rd lo hi size w v n cs) (hb : Below N w w') (hN : hi ≤ N) : Rd lo hi size w' v n cs := by
  obtain ⟨h1, h2, A, cap, h3, h4, h5⟩ := h
  refine ⟨h1, h2, A, cap, h3, h4, fun h0 => ?_⟩
  obtain ⟨g, off, q1, q2, q3, q4, q5⟩ := h5 h0
  exact ⟨g, off, q1, q2, q3, Nat.lt_of_lt_of_le q4 hb.size, fun j u hu => (hb.cell (p := ⟨g, off + j, none⟩) (Nat.lt_of_lt_of_le q3 hN)).trans (q5 j u hu)⟩
theorem Rd.wide {lo hi lo' hi' size n : Nat} {w : World} {v : Value} {cs : List Value} (h : Rd lo hi size w v n cs) (h1 : lo' ≤ lo) (h2 : hi ≤ hi') : Rd lo' hi' size w v n cs := by
  obtain ⟨q1, q2, A, cap, q3, q4, q5⟩ := h
  refine ⟨q1, q2, A, cap, q3, q4, fun h0 => ?_⟩
  obtain ⟨g, off, r1, r2, r3, r4, r5⟩ := q5 h0
  exact ⟨g, off, r1, by omega, by omega, r4, r5⟩
theorem Rd.keep {lo hi size n : Nat} {w w' : World} {v : Value} {cs : List Value} (h : Rd lo hi size w v n cs) (hb : Below w.heap.size w w') : Rd lo hi size w' v n cs := by
  obtain ⟨h1, h2, A, cap, h3, h4, h5⟩ := h
  refine ⟨h1, h2, A, cap, h3, h4, fun h0 => ?_⟩
  obtain ⟨g, off, q1, q2, q3, q4, q5⟩ := h5 h0
  exact ⟨g, off, q1, q2, q3, Nat.lt_of_lt_of_le q4 hb.size, fun j u hu => (hb.cell (p := ⟨g, off + j, none⟩) q4).trans (q5 j u hu)⟩
theorem Rd.other {lo hi size n : Nat} {w w' : World} {v : Value} {cs : List Value} (h : Rd lo hi size w v n cs) (hs : w.heap.size ≤ w'.heap.size) (hb : ∀ g, lo ≤ g → g < hi → g < w.heap.size → w'.heap[g]? = w.heap[g]?) : Rd lo hi size w' v n cs := by
  obtain ⟨h1, h2, A, cap, h3, h4, h5⟩ := h
  refine ⟨h1, h2, A, cap, h3, h4, fun h0 => ?_⟩
  obtain ⟨g, off, q1, q2, q3, q4, q5⟩ := h5 h0
  exact ⟨g, off, q1, q2, q3, by omega, fun j u hu => (World.cell?_of_block (w := w) (a := ⟨g, off + j, none⟩) (hb g q2 q3 q4)).trans (q5 j u hu)⟩
theorem Rd.form {lo hi size n : Nat} {w : World} {v : Value} {cs : List Value} (h : Rd lo hi size w v n cs) (h0 : 0 < n) : ∃ g off cap, v = .slice (some ⟨g, off, none⟩) n cap ∧ n ≤ cap ∧ lo ≤ g ∧ g < hi ∧ g < w.heap.size ∧ ∀ j u, cs[j]? = some u → w.cell? ⟨g, off + j, none⟩ = some u := by
  obtain ⟨_, _, A, cap, h3, h4, h5⟩ := h
  obtain ⟨g, off, rfl, q⟩ := h5 h0
  exact ⟨g, off, cap, h3, h4, q⟩
theorem Rd.len {lo hi size n : Nat} {w : World} {v : Value} {cs : List Value} (h : Rd lo hi size w v n cs) : ∃ A cap, v = .slice A n cap := by
  obtain ⟨_, _, A, cap, h3, _⟩ := h
  exact ⟨A, cap, h3⟩
theorem rd_nil (lo hi size : Nat) (w : World) (A : Option Addr) (cap : Nat) : Rd lo hi size w (.slice A 0 cap) 0 [] :=
  ⟨by simp, by omega, A, cap, rfl, Nat.zero_le _, fun h => absurd h (by omega)⟩
theorem Rd.of_own {base hi size n : Nat} {e : TypeId} {w : World} {v : Value} {cs : List Value} (h : w.ownsRow base e size v n cs) (hn : n ≤ 140737488355327) (hh : w.heap.size ≤ hi) : Rd base hi size w v n cs := by
  obtain ⟨h1, h2⟩ := h
  rcases h2 with ⟨rfl, rfl⟩ | ⟨g, cap, cur, rfl, hb, hc, hnc, _, hcur, rfl⟩
  · exact ⟨h1, by omega, none, 0, rfl, Nat.le_refl _, fun h => absurd h (by omega)⟩
  · have hg : g < w.heap.size := (Array.getElem?_eq_some_iff.1 hc).1
    refine ⟨h1, hn, some ⟨g, 0, none⟩, cap, rfl, hnc, fun _ => ⟨g, 0, rfl, hb, by omega, hg, fun j u hu => ?_⟩⟩
    rw [Nat.zero_add, cell_of_row w g j cur e (0, 0) hc]
    rw [List.getElem?_take] at hu
    split at hu
    · simpa using hu
    · cases hu

/-! ### Elements, each of some cells -/
theorem flat_length {α : Type} {f : α → List Value} {size : Nat} (hf : ∀ x, (f x).length = size) : ∀ xs : List α, (xs.flatMap f).length = xs.length * size
  | [] => by simp
  | x :: xs => by rw [List.flatMap_cons, List.length_append, hf, flat_length hf xs, List.length_cons, Nat.succ_mul]; omega
theorem flat_get {α : Type} {f : α → List Value} {size : Nat} (hf : ∀ x, (f x).length = size) : ∀ (xs : List α) (k j : Nat) (x : α) (u : Value), xs[k]? = some x → (f x)[j]? = some u → (xs.flatMap f)[k * size + j]? = some u
  | [], k, j, x, u, h, _ => by simp at h
  | y :: xs, 0, j, x, u, h, hu => by
    simp only [List.getElem?_cons_zero, Option.some.injEq] at h
    subst h
    have hj : j < (f y).length := (List.getElem?_eq_some_iff.1 hu).1
    rw [List.flatMap_cons, Nat.zero_mul, Nat.zero_add, List.getElem?_append_left hj]
    exact hu
  | y :: xs, k + 1, j, x, u, h, hu => by
    rw [List.flatMap_cons, List.getElem?_append_right (by rw [hf, Nat.succ_mul]; omega), hf]
    have : (k + 1) * size + j - size = k * size + j := by rw [Nat.succ_mul]; omega
    rw [this]
    exact flat_get hf xs k j x u (by simpa using h) hu

def ec (x : E) : List Value := [.int .u64 (fv x.a), .int .u64 (fv x.b)]
theorem ec_len (x : E) : (ec x).length = 2 := rfl
def ExtS (lo hi : Nat) (w : World) (v : Value) (xs : List E) : Prop := Rd lo hi 2 w v xs.length (xs.flatMap ec)
theorem exts_cells {lo hi : Nat} {w : World} {v : Value} {xs : List E} (h : ExtS lo hi w v xs) (h0 : 0 < xs.length) : ∃ g off cap, v = .slice (some ⟨g, off, none⟩) xs.length cap ∧ xs.length ≤ cap ∧ lo ≤ g ∧ g < hi ∧ g < w.heap.size ∧
    ∀ k x, xs[k]? = some x → w.cell? ⟨g, off + k * 2, none⟩ = some (.int .u64 (fv x.a)) ∧ w.cell? ⟨g, off + k * 2 + 1, none⟩ = some (.int .u64 (fv x.b)) := by
  obtain ⟨g, off, cap, q1, q2, q3, q4, q5, q6⟩ := Rd.form h h0
  refine ⟨g, off, cap, q1, q2, q3, q4, q5, fun k x hx => ⟨?_, ?_⟩⟩
  · exact q6 (k * 2) _ (by simpa using flat_get ec_len xs k 0 x _ hx rfl)
  · have := q6 (k * 2 + 1) _ (flat_get ec_len xs k 1 x _ hx rfl)
    rwa [← Nat.add_assoc] at this
abbrev Raw := Int × Int
def rc (p : Raw) : List Value := [.int .u64 p.1, .int .u64 p.2]
theorem rc_len (x : Raw) : (rc x).length = 2 := rfl
def Word (a : Int) : Prop := 0 ≤ a ∧ a < 18446744073709551616
def RawS (lo hi : Nat) (w : World) (v : Value) (xs : List Raw) : Prop := Rd lo hi 2 w v xs.length (xs.flatMap rc) ∧ ∀ p ∈ xs, Word p.1 ∧ Word p.2
theorem raws_cells {lo hi : Nat} {w : World} {v : Value} {xs : List Raw} (h : RawS lo hi w v xs) (h0 : 0 < xs.length) : ∃ g off cap, v = .slice (some ⟨g, off, none⟩) xs.length cap ∧ xs.length ≤ cap ∧ lo ≤ g ∧ g < hi ∧ g < w.heap.size ∧
    ∀ k x, xs[k]? = some x → w.cell? ⟨g, off + k * 2, none⟩ = some (.int .u64 x.1) ∧ w.cell? ⟨g, off + k * 2 + 1, none⟩ = some (.int .u64 x.2) := by
  obtain ⟨g, off, cap, q1, q2, q3, q4, q5, q6⟩ := Rd.form h.1 h0
  refine ⟨g, off, cap, q1, q2, q3, q4, q5, fun k x hx => ⟨?_, ?_⟩⟩
  · exact q6 (k * 2) _ (by simpa using flat_get rc_len xs k 0 x _ hx rfl)
  · have := q6 (k * 2 + 1) _ (flat_get rc_len xs k 1 x _ hx rfl)
    rwa [← Nat.add_assoc] at this

def madeAt (l : List Raw) (i : Nat) : E := match l[i]? with | some p => em p.1 p.2 | none => 0
def madeAll (l : List Raw) (n : Nat) : List E := (List.range n).map (madeAt l)
theorem madeAll_length (l : List Raw) (n : Nat) : (madeAll l n).length = n := by simp [madeAll]
theorem ext_info : (Tryz.prog.info? 39).map (fun i => (i.zero, i.size, i.bytes)) = some (some (.agg #[.int .u64 0, .int .u64 0]), 2, 16) := by kernel_rfl

theorem own_below {w w' : World} {base n size N : Nat} {e : TypeId} {v : Value} {xs : List Value} (h : w.ownsRow base e size v n xs) (hN : w.heap.size ≤ N) (hb : Below N w w') : w'.ownsRow base e size v n xs := by
  obtain ⟨h1, h2⟩ := h
  refine ⟨h1, h2.imp id ?_⟩
  rintro ⟨g, cap, cur, q1, q2, q3, q4⟩
  have hg : g < w.heap.size := (Array.getElem?_eq_some_iff.1 q3).1
  exact ⟨g, cap, cur, q1, q2, (hb.block g (by omega)).trans q3, q4⟩
theorem own_block {w : World} {base n size g : Nat} {e : TypeId} {v : Value} {xs : List Value} (h : w.ownsRow base e size v n xs) (hg : v.ownBlock = some g) : base ≤ g ∧ g < w.heap.size := by
  rcases h.2 with ⟨rfl, _⟩ | ⟨g', cap, cur, rfl, q1, q3, _⟩
  · cases hg
  · simp only [Value.ownBlock, Option.some.injEq] at hg
    subst hg
    exact ⟨q1, (Array.getElem?_eq_some_iff.1 q3).1⟩
theorem blk_news {X : World} {n : Nat} {e : TypeId} {cl : List Value} (h : Blk X n e cl.toArray) : ∀ j u, cl[j]? = some u → X.cell? (Addr.add ⟨n, 0, none⟩ j) = some u := fun j u hu => by
  have : Addr.add ⟨n, 0, none⟩ j = ⟨n, j, none⟩ := by
    unfold Addr.add
    by_cases hj : j = 0
    · subst hj; simp
    · simp [hj]
  rw [this, h.cell]
  simpa using hu
theorem wpList_app1 {P : Program} {ops : Array Oper} {rest : List Oper} {o : Oper} {a : Act} {Q : Exit → Act → World → Prop} {X : World} {n base k size bytes : Nat} {t e : TypeId} {i : TypeInfo} {z : Value} {cl cs : List Value} {u : Value} (hgd : o.guard = none) (s x : Operand)
    (ho : o.op = .call { callee := .builtin .append, args := #[s, x], argTypes := #[t, t] }) (ht : P.underlying t = some (.slice e)) (hi : P.info? e = some i) (hz : i.zero = some z) (hsize : i.size = size) (hby : i.bytes = bytes) (hzs : z.cells.size = size) (hsz : 0 < size)
    (hcl : cl.length = 1 * size) (h1 : ∀ u ∈ cl, u.oneCell' = true) (hs : a.eval s = u) (hx : a.eval x = .slice (some ⟨n, 0, none⟩) 1 1) (hown : X.ownsRow base e size u k cs) (hsrc : Blk X n e cl.toArray) (hk : k + 1 ≤ maxLen) (hk2 : (k + 1) * bytes ≤ 140737488355328) (hbase : base ≤ X.heap.size)
    (h : ∀ v' w', w'.ownsRow base e size v' (k + 1) (cs ++ cl) → X.grownBy w' u.ownBlock → Below base X w' → wpList P ops Q rest (a.put o.dst v') w') : wpList P ops Q (o :: rest) a X := by
  refine wpList_append_own _ hgd s x t ho base e i z size bytes ht hi hz hsize hby hzs hsz u k cs hs hown ⟨n, 0, none⟩ 1 1 cl hx hcl (blk_news hsrc) h1 hk hk2 hbase ?_
  intro v' w' hown' hgrow _
  exact h v' w' hown' hgrow ((Below.refl _ _).grown hgrow hbase (fun g hg => (own_block hown hg).1))
theorem ec_one (x : E) : ∀ u ∈ ec x, u.oneCell' = true := by
  intro u hu
  simp only [ec, List.mem_cons, List.not_mem_nil, or_false] at hu
  rcases hu with rfl | rfl <;> rfl

theorem exts_of_own {base hi n : Nat} {e : TypeId} {w : World} {v : Value} {xs : List E} (h : w.ownsRow base e 2 v n (xs.flatMap ec)) (hl : xs.length = n) (hn : n ≤ 140737488355327) (hh : w.heap.size ≤ hi) : ExtS base hi w v xs := by
  have := Rd.of_own h hn hh
  unfold ExtS
  rw [hl]
  exact this
def CloneA (t : List E) (lo hi : Nat) (v : Value) (w : World) : Prop := ∃ g cap rest, v = .slice (some ⟨g, 0, none⟩) t.length cap ∧ t.length ≤ cap ∧ lo ≤ g ∧ g < hi ∧ Blk w g 39 (t.flatMap ec ++ rest).toArray
theorem stable_clone (t : List E) : Stable (CloneA t) := fun _ _ _ _ _ h hb => by
  obtain ⟨g, cap, rest, h1, h2, h3, h4, h5⟩ := h
  exact ⟨g, cap, rest, h1, h2, h3, h4, h5.below hb h4⟩
end Go.Proofs.YtficeebbbkmhcaaGreatDoor
namespace Go.Proofs.YtficeebbbkmhcaaGreatDoor
open Go.RowKit

end Go.Proofs.YtficeebbbkmhcaaGreatDoor
namespace Go.Proofs.YtficeebbbkmhcaaGreatDoor
open Go.RowKit

end Go.Proofs.YtficeebbbkmhcaaGreatDoor
namespace Go.Proofs.YtficeebbbkmhcaaGreatDoor
open Go.RowKit

/-! ### New blocks in a region -/
def Lit (e : TypeId) (len : Nat) (cs : Array Value) (n m : Nat) (v : Value) (w : World) : Prop := v = .slice (some ⟨n, 0, none⟩) len len ∧ n < m ∧ Blk w n e cs
theorem stable_lit {e : TypeId} {len : Nat} {cs : Array Value} : Stable (Lit e len cs) := fun _ _ _ _ _ ⟨h1, h2, h3⟩ hb => ⟨h1, h2, h3.below hb h2⟩
def New (e : TypeId) (cs : Array Value) (n m : Nat) (v : Value) (w : World) : Prop := v = .pointer (some ⟨n, 0, none⟩) ∧ n < m ∧ Blk w n e cs
theorem stable_new {e : TypeId} {cs : Array Value} : Stable (New e cs) := fun _ _ _ _ _ ⟨h1, h2, h3⟩ hb => ⟨h1, h2, h3.below hb h2⟩
def LitF (len n : Nat) (v : Value) : Prop := v = .slice (some ⟨n, 0, none⟩) len len
def NewF (n : Nat) (v : Value) : Prop := v = .pointer (some ⟨n, 0, none⟩)
theorem fit_lit {e : TypeId} {len : Nat} {cs : Array Value} : Fit (Lit e len cs) (LitF len) := ⟨stable_lit, fun _ => ⟨_, rfl⟩, fun _ _ _ _ h => h.1⟩
theorem fit_new {e : TypeId} {cs : Array Value} : Fit (New e cs) NewF := ⟨stable_new, fun _ => ⟨_, rfl⟩, fun _ _ _ _ h => h.1⟩
def SlF (len : Nat) (_ : Nat) (v : Value) : Prop := ∃ A cap, v = .slice A len cap
def ExtA (xs : List E) (lo hi : Nat) (v : Value) (w : World) : Prop := ExtS lo hi w v xs
theorem fit_ext {xs : List E} : Fit (ExtA xs) (SlF xs.length) := ⟨fun _ _ _ _ _ h hb => h.below hb (Nat.le_refl _), fun _ => ⟨.slice none xs.length 0, none, 0, rfl⟩, fun _ _ _ _ h => h.len⟩
theorem step_loadR {P : Program} {o : Oper} {a : Act} {w : World} {t : TypeId} {x : Operand} {g i : Nat} {cs : List Value} {d : TypeDesc} (hu : P.underlying t = some d) (hd : d.isRow = true) (hi : (P.info? t).map (·.size) = some cs.length) (ho : o.op = .load t x) (hx : a.eval x = .pointer (some ⟨g, i, none⟩)) (hc : w.rangeAt g i cs) :
    stepAt P o a w (fun v' w' => v' = .agg cs.toArray ∧ Below w.heap.size w w') := by
  have h2 := run_loadAt_mid (P := P) w g i t cs d hc hu hd hi
  unfold stepAt execOp
  simp only [ho, hx, Sem.run_bind, h2, Result.andThen_ok]
  exact ⟨rfl, Below.refl _ _⟩
theorem step_lit {P : Program} {o : Oper} {a : Act} {w : World} {t e : TypeId} {len : Nat} {parts : Array (Nat × Operand)} {cells : Array Value} {ie : TypeInfo} {z : Value} (hu : P.underlying t = some (.slice e)) (hie : P.info? e = some ie) (hz : ie.zero = some z) (hsmall : ¬ len * ie.size > 2 ^ 24) (hpos : ¬ len * ie.size = 0)
    (ho : o.op = .buildSlice t len parts)
    (hf : Instr.fill (fun i => some (i * ie.size, ie.size)) ((Array.range (len * ie.size)).map (z.cells[· % z.cells.size]!)) (parts.map fun (i, x) => (i, a.eval x)).toList = some cells) :
    stepAt P o a w (fun v w' => Lit e len cells w.heap.size w'.heap.size v w' ∧ Below w.heap.size w w') := by
  unfold stepAt execOp
  simp only [ho, Sem.run_bind, run_buildSlice w t e len _ cells ie z hu hie hz hsmall hpos hf, Result.andThen_ok]
  exact ⟨⟨rfl, by simp only [World.size_alloc]; omega, Blk.new _ _ _⟩, (Below.refl _ _).alloc (Nat.le_refl _) _⟩
theorem fill_one {z v : Value} {size : Nat} {cs : Array Value} (hs : 0 < size) (hv : v.cells = cs) (hc : cs.size = size) :
    Instr.fill (fun i => some (i * size, size)) ((Array.range (1 * size)).map (z.cells[· % z.cells.size]!)) [(0, v)] = some cs := by
  obtain ⟨r, h1, h2, h3⟩ := Great.fill_dense hs [v] 0 ((Array.range (1 * size)).map (z.cells[· % z.cells.size]!)) (fun u hu => by rw [List.mem_singleton.1 hu, hv, hc]) (by simp)
  have h1' : Instr.fill (fun i => some (i * size, size)) ((Array.range (1 * size)).map (z.cells[· % z.cells.size]!)) [(0, v)] = some r := h1
  rw [h1']
  congr 1
  apply Array.ext_getElem?
  intro k
  rw [h3 k]
  by_cases hk : k < size
  · rw [if_pos (by simp; omega)]
    simp [Nat.div_eq_of_lt hk, Nat.mod_eq_of_lt hk, hv]
  · rw [if_neg (by simp; omega), Array.getElem?_eq_none (by simp; omega), Array.getElem?_eq_none (by omega)]
theorem step_lit1 {P : Program} {o : Oper} {a : Act} {w : World} {t e : TypeId} {x : Operand} {cs : Array Value} {ie : TypeInfo} {z : Value} {size : Nat} (hu : P.underlying t = some (.slice e)) (hie : P.info? e = some ie) (hz : ie.zero = some z) (hi : ie.size = size) (hp : 0 < size) (hsmall : size ≤ 16777216)
    (ho : o.op = .buildSlice t 1 #[(0, x)]) (hv : (a.eval x).cells = cs) (hc : cs.size = size) :
    stepAt P o a w (fun v w' => Lit e 1 cs w.heap.size w'.heap.size v w' ∧ Below w.heap.size w w') := by
  subst hi
  refine step_lit hu hie hz (by omega) (by omega) ho ?_
  simpa using fill_one hp hv hc
theorem step_new {P : Program} {o : Oper} {a : Act} {w : World} {e : TypeId} {ie : TypeInfo} {z : Value} (hie : P.info? e = some ie) (hz : ie.zero = some z) (ho : o.op = .alloc e) :
    stepAt P o a w (fun v w' => New e z.cells w.heap.size w'.heap.size v w' ∧ Below w.heap.size w w') := by
  unfold stepAt execOp
  simp [ho, Instr.alloc, zeroValue, typeInfo, hie, hz, newVar, newRow, newObj]
  exact ⟨⟨rfl, by simp, Blk.new _ _ _⟩, (Below.refl _ _).alloc (Nat.le_refl _) _⟩

/-! ### Gates -/
structure Gt where
  L : Nat
  R : Nat
  c : Fp
  a : Fp
  b : Fp
  d : Fp
def gc (g : Gt) : List Value := [.int .i64 g.L, .int .i64 g.R, .int .u64 (fv g.c), .int .u64 (fv g.a), .int .u64 (fv g.b), .int .u64 (fv g.d)]
structure Rg where
  L : Int
  R : Int
  c : Int
  a : Int
  b : Int
  d : Int
def gm (k : Nat) (r : Rg) : Gt := ⟨(r.L % 2 ^ k).toNat, (r.R % 2 ^ k).toNat, fz r.c, fz r.a, fz r.b, fz r.d⟩
end Go.Proofs.YtficeebbbkmhcaaGreatDoor
namespace Go.Proofs.YtficeebbbkmhcaaGreatDoor
open Go.RowKit

end Go.Proofs.YtficeebbbkmhcaaGreatDoor
namespace Go.Proofs.YtficeebbbkmhcaaGreatDoor
open Go.RowKit

/-! ### Sums -/
def esum : List E → E
  | [] => 0
  | x :: l => x + esum l
theorem esum_append : ∀ l l' : List E, esum (l ++ l') = esum l + esum l'
  | [], l' => (E.zero_add _).symm
  | x :: l, l' => by rw [List.cons_append, esum, esum, esum_append l l', E.add_assoc]
/-! ### Lists that are turned one by one -/
def mixL (n : Nat) (new old : Nat → E) (k : Nat) : List E := (List.range n).map fun i => if i < k then new i else old i
theorem mixL_len (n : Nat) (new old : Nat → E) (k : Nat) : (mixL n new old k).length = n := by simp [mixL]
theorem mixL_get (n : Nat) (new old : Nat → E) (k : Nat) (h : k < n) : (mixL n new old k)[k]? = some (old k) := by simp [mixL, h]
theorem mixL_set (n : Nat) (new old : Nat → E) (k : Nat) : (mixL n new old k).set k (new k) = mixL n new old (k + 1) := by
  apply List.ext_getElem?
  intro i
  rw [List.getElem?_set]
  unfold mixL
  by_cases h : k = i
  · subst h
    by_cases hn : k < n <;> simp [hn]
  · rw [if_neg h]
    by_cases hn : i < n
    · simp only [List.getElem?_map, List.getElem?_range hn, Option.map_some]
      by_cases h2 : i < k
      · rw [if_pos h2, if_pos (by omega)]
      · rw [if_neg h2, if_neg (by omega)]
    · simp [hn]
theorem mixL_zero (n : Nat) (new old : Nat → E) : mixL n new old 0 = (List.range n).map old := by simp [mixL]
theorem mixL_all (n : Nat) (new old : Nat → E) : mixL n new old n = (List.range n).map new := by
  unfold mixL
  refine List.map_congr_left fun i hi => ?_
  rw [if_pos (List.mem_range.1 hi)]
theorem set_flat (x : E) : ∀ (cs : List E) (k : Nat), k < cs.length → ((cs.flatMap ec).set (k * 2) (.int .u64 (fv x.a))).set (k * 2 + 1) (.int .u64 (fv x.b)) = (cs.set k x).flatMap ec
  | [], k, h => absurd h (by simp)
  | y :: cs, 0, _ => rfl
  | y :: cs, k + 1, h => by
    have e1 : (k + 1) * 2 = k * 2 + 1 + 1 := by omega
    have ih := set_flat x cs k (by simpa using h)
    rw [List.flatMap_cons, List.set_cons_succ, List.flatMap_cons, ← ih, e1]
    rfl
section
variable {w : World} {g : Nat} {t : TypeId} {cs : List E}
theorem blk_setE (h : Blk w g t (cs.flatMap ec).toArray) (k : Nat) (x : E) (hk : k < cs.length) : Blk ((w.setCell ⟨g, k * 2, none⟩ (.int .u64 (fv x.a))).setCell ⟨g, k * 2 + 1, none⟩ (.int .u64 (fv x.b))) g t ((cs.set k x).flatMap ec).toArray := by
  have := (h.set_ (k * 2) (.int .u64 (fv x.a))).set_ (k * 2 + 1) (.int .u64 (fv x.b))
  rw [← set_flat x cs k hk]
  simpa using this
theorem blk_cellE (h : Blk w g t (cs.flatMap ec).toArray) {k : Nat} {x : E} (hk : cs[k]? = some x) : w.cell? ⟨g, k * 2, none⟩ = some (.int .u64 (fv x.a)) ∧ w.cell? ⟨g, k * 2 + 1, none⟩ = some (.int .u64 (fv x.b)) := by
  have e0 := flat_get ec_len cs k 0 x _ hk rfl
  have e1 := flat_get ec_len cs k 1 x _ hk rfl
  refine ⟨?_, ?_⟩
  · rw [h.cell]; simpa using e0
  · rw [h.cell]; simpa using e1
theorem exts_of_blk (h : Blk w g t (cs.flatMap ec).toArray) {lo hi n : Nat} (hn : cs.length = n) (hb : n ≤ 1000000) (hlo : lo ≤ g) (hhi : g < hi) : ExtS lo hi w (.slice (some ⟨g, 0, none⟩) n n) cs := by
  subst hn
  refine ⟨flat_length ec_len cs, by omega, some ⟨g, 0, none⟩, cs.length, rfl, Nat.le_refl _, fun _ => ⟨g, 0, rfl, hlo, hhi, h.lt, fun j u hu => ?_⟩⟩
  rw [Nat.zero_add, h.cell]
  simpa using hu
end

theorem blk_farE {w : World} {g g' i j : Nat} {t : TypeId} {cs : Array Value} {c d : Value} (h : Blk w g t cs) (hne : g ≠ g') : Blk ((w.setCell ⟨g', i, none⟩ c).setCell ⟨g', j, none⟩ d) g t cs := (h.far (p := ⟨g', i, none⟩) hne c).far (p := ⟨g', j, none⟩) hne d
theorem below_setE {N : Nat} {a w : World} {g i j : Nat} {c d : Value} (h : Below N a w) (hN : N ≤ g) : Below N a ((w.setCell ⟨g, i, none⟩ c).setCell ⟨g, j, none⟩ d) := (h.setCell (p := ⟨g, i, none⟩) hN c).setCell (p := ⟨g, j, none⟩) hN d

/-! ### make -/
set_option maxRecDepth 100000 in
theorem ec_getD (n k : Nat) (h : k < n * 2) : ((List.replicate n (0 : E)).flatMap ec)[k]? = some (.int .u64 0) := by
  have hk : k / 2 < n := by omega
  have h1 : (List.replicate n (0 : E))[k / 2]? = some 0 := by simp [hk]
  have e : k = k / 2 * 2 + k % 2 := by omega
  rw [e]
  have : k % 2 = 0 ∨ k % 2 = 1 := by omega
  rcases this with h2 | h2 <;> rw [h2] <;> exact flat_get ec_len _ _ _ _ _ h1 rfl
set_option maxRecDepth 100000 in
theorem mk_ext (n : Nat) (hn : n ≤ 1000000) (w : World) : (Instr.makeSlice 23 (.int .i64 (n : Int)) (.int .i64 (n : Int))).run Tryz.prog w = .ok (.slice (some ⟨w.heap.size, 0, none⟩) n n) (w.alloc (.cells ((List.replicate n (0 : E)).flatMap ec).toArray 39)) := by
  obtain ⟨i0, hi0, hz0, hz1, hz2⟩ := info_parts ext_info
  have h := run_make (P := Tryz.prog) w _ _ i0 _ Tryz.underlying23 hi0 hz0 .i64 .i64 (n : Int) (n : Int) (by omega) (Int.le_refl _) (by rw [hz2]; omega) (by omega)
  rw [h, Int.toNat_natCast, hz1]
  congr 4
  apply Array.ext_getElem?
  intro k
  unfold madeCells
  by_cases hk : k < n * 2
  · have : k % 2 = 0 ∨ k % 2 = 1 := by omega
    simp only [List.getElem?_toArray, ec_getD n k hk, Array.getElem?_map, Value.cells]
    rw [Array.getElem?_range]
    simp only [hk, if_true, Option.map_some]
    rcases this with h2 | h2 <;> simp [h2]
  · rw [Array.getElem?_eq_none (by simp; omega), Array.getElem?_eq_none (by have := flat_length ec_len (List.replicate n (0 : E)); simp only [List.length_replicate] at this; simp only [List.size_toArray, this]; omega)]

/-! ### The reference -/
def gv (g : Gt) : Value := .agg #[.int .i64 g.L, .int .i64 g.R, .int .u64 (fv g.c), .int .u64 (fv g.a), .int .u64 (fv g.b), .int .u64 (fv g.d)]
end Go.Proofs.YtficeebbbkmhcaaGreatDoor
namespace Go.Proofs.YtficeebbbkmhcaaGreatDoor
open Go.RowKit

end Go.Proofs.YtficeebbbkmhcaaGreatDoor
namespace Go.Proofs.YtficeebbbkmhcaaGreatDoor
open Go.RowKit

end Go.Proofs.YtficeebbbkmhcaaGreatDoor
namespace Go.Proofs.YtficeebbbkmhcaaGreatDoor
open Go.RowKit
attribute [local go_sem] Oper.semAt_some

structure Keeps (S : Nat → Prop) (W W' : World) : Prop where
  size : W.heap.size ≤ W'.heap.size
  same : ∀ g, S g → g < W.heap.size → W'.heap[g]? = W.heap[g]?
theorem Keeps.refl {S : Nat → Prop} (W : World) : Keeps S W W := ⟨Nat.le_refl _, fun _ _ _ => rfl⟩
theorem Keeps.trans {S : Nat → Prop} {A B C : World} (h : Keeps S A B) (k : Keeps S B C) : Keeps S A C := ⟨Nat.le_trans h.size k.size, fun g hg hl => (k.same g hg (Nat.lt_of_lt_of_le hl h.size)).trans (h.same g hg hl)⟩
theorem Keeps.of_below {S : Nat → Prop} {A B : World} (h : Below A.heap.size A B) : Keeps S A B := ⟨h.size, fun g _ hl => h.block g hl⟩
theorem Keeps.cell {S : Nat → Prop} {A B : World} (h : Keeps S A B) {g i : Nat} {v : Value} (hg : S g) (hc : A.cell? ⟨g, i, none⟩ = some v) : B.cell? ⟨g, i, none⟩ = some v := by
  rcases Nat.lt_or_ge g A.heap.size with hl | hl
  · exact (World.cell?_of_block (w := A) (a := ⟨g, i, none⟩) (h.same g hg hl)).trans hc
  · simp only [World.cell?] at hc; rw [Array.getElem?_eq_none hl] at hc; cases hc
theorem Keeps.rd {S : Nat → Prop} {lo hi size n : Nat} {w w' : World} {v : Value} {cs : List Value} (h : Rd lo hi size w v n cs) (hk : Keeps S w w') (hS : ∀ g, lo ≤ g → g < hi → S g) : Rd lo hi size w' v n cs :=
  h.other hk.size fun g h1 h2 h3 => hk.same g (hS g h1 h2) h3
theorem grown_of_below {w w' : World} (h : Below w.heap.size w w') : w.grownBy w' none := ⟨h.os, h.tape, h.output, h.size, fun k hk _ => h.block k hk⟩
theorem below_of_grown {w w' : World} (h : w.grownBy w' none) : Below w.heap.size w w' := ⟨h.os, h.tape, h.output, h.size, fun k hk => h.block k hk (by simp)⟩
theorem abides {β : Type} {B : Nat} {J : β → World → Prop} (h : AbidesFrom B J) {s : β} {w w' : World} (hJ : J s w) (hb : Below w.heap.size w w') : J s w' := h s w w' none hJ (grown_of_below hb) (fun r e => by cases e)

end Go.Proofs.YtficeebbbkmhcaaGreatDoor
namespace Go.Proofs.YtficeebbbkmhcaaGreatDoor
open Go.ChangeShapes Go.WideShapes Go.RowKit

theorem wf_u64 {z : Int} (h : (Lit.int .u64 z).wf = true) : Word z := by
  simp only [Lit.wf, Bool.and_eq_true, decide_eq_true_eq] at h
  have e1 : IntKind.u64.min = 0 := rfl
  have e2 : IntKind.u64.max = 18446744073709551615 := rfl
  rw [e1, e2] at h
  exact ⟨h.1, by omega⟩
theorem wf_u8 {z : Int} (h : (Lit.int .u8 z).wf = true) : 0 ≤ z ∧ z < 256 := by
  simp only [Lit.wf, Bool.and_eq_true, decide_eq_true_eq] at h
  have e1 : IntKind.u8.min = 0 := rfl
  have e2 : IntKind.u8.max = 255 := rfl
  rw [e1, e2] at h
  exact ⟨h.1, by omega⟩

theorem okd_int {P : Program} {W : World} {n : Nat} {t : TypeId} {k : IntKind} {cs : List Value} (ht : P.underlying t = some (.int k)) (h : Okd P W n t cs) : ∃ z, cs = [.int k z] ∧ (Lit.int k z).wf = true := by
  cases n with
  | zero => exact h.elim
  | succ n => unfold Okd at h; rw [ht] at h; exact h
def FParts (P : Program) (W : World) (m : Nat) (cs : List Value) : List Field → Prop
  | [] => True
  | f :: fs => Okd P W m f.type ((cs.drop f.offset).take (P.cellsOf f.type)) ∧ FParts P W m cs fs
theorem fparts_of {P : Program} {W : World} {m : Nat} {cs : List Value} : ∀ {fs : List Field}, (∀ (i : Nat) (f : Field), fs[i]? = some f → Okd P W m f.type ((cs.drop f.offset).take (P.cellsOf f.type))) → FParts P W m cs fs
  | [], _ => trivial
  | f :: _, h => ⟨h 0 f rfl, fparts_of fun i g hg => h (i + 1) g (by simpa using hg)⟩
theorem okd_struct {P : Program} {W : World} {n : Nat} {t : TypeId} {fs : List Field} {cs : List Value} (ht : P.underlying t = some (.struct fs.toArray)) (h : Okd P W n t cs) :
    cs.length = P.cellsOf t ∧ ∃ m, FParts P W m cs fs := by
  cases n with
  | zero => exact h.elim
  | succ n => unfold Okd at h; rw [ht] at h; exact ⟨h.1, n, fparts_of fun i f hf => h.2 i f (by simpa using hf)⟩
theorem okd_array {P : Program} {W : World} {n : Nat} {t e : TypeId} {m : Nat} {cs : List Value} (ht : P.underlying t = some (.array m e)) (h : Okd P W n t cs) :
    cs.length = P.cellsOf t ∧ ∃ q, ∀ i, i < m → Okd P W q e ((cs.drop (i * P.cellsOf e)).take (P.cellsOf e)) := by
  cases n with
  | zero => exact h.elim
  | succ n => unfold Okd at h; rw [ht] at h; exact ⟨h.1, n, h.2⟩
theorem okd_slice {P : Program} {W : World} {α : Type} (f : α → List Value) (Pp : α → Prop) {size : Nat} (h0 : 0 < size) (hf : ∀ x, (f x).length = size) {n : Nat} {t e : TypeId} {cs : List Value} (ht : P.underlying t = some (.slice e)) (hc : P.cellsOf e = size)
    (hb : 1 ≤ P.bytesOf e) (he : ∀ n cs, Okd P W n e cs → ∃ x, Pp x ∧ cs = f x) (h : Okd P W n t cs) : ∃ v, cs = [v] ∧ ∃ xs : List α, Rd 0 W.heap.size size W v xs.length (xs.flatMap f) ∧ ∀ x ∈ xs, Pp x := by
  cases n with
  | zero => exact h.elim
  | succ n =>
    unfold Okd at h
    rw [ht] at h
    rcases h with rfl | ⟨a, len, cap, rfl, hl, hcap, hel⟩
    · exact ⟨_, rfl, ([] : List α), by simpa using rd_nil 0 W.heap.size size W none 0, fun x hx => absurd hx (by simp)⟩
    · have key : ∀ k, k ≤ len → ∃ xs : List α, xs.length = k ∧ (∀ x ∈ xs, Pp x) ∧ ∀ i x, xs[i]? = some x → W.cells? 0 (a.add (i * size)) size = some (f x) := by
        intro k
        induction k with
        | zero => exact fun _ => ⟨[], rfl, fun x hx => absurd hx (by simp), fun i x hx => absurd hx (by simp)⟩
        | succ k ih =>
          intro hk
          obtain ⟨xs, q1, q2, q3⟩ := ih (by omega)
          obtain ⟨cs', r1, r2⟩ := hel k (by omega)
          obtain ⟨x, r3, rfl⟩ := he _ _ r2
          rw [hc] at r1
          refine ⟨xs ++ [x], by simp [q1], fun y hy => ?_, fun i y hy => ?_⟩
          · rcases List.mem_append.1 hy with h | h
            · exact q2 y h
            · rw [List.mem_singleton.1 h]; exact r3
          · rcases Nat.lt_or_ge i xs.length with hi | hi
            · rw [List.getElem?_append_left hi] at hy; exact q3 i y hy
            · rw [List.getElem?_append_right hi] at hy
              have : i - xs.length = 0 := by
                rcases Nat.eq_zero_or_pos (i - xs.length) with h | h
                · exact h
                · rw [List.getElem?_eq_none (by simp; omega)] at hy; cases hy
              rw [this] at hy
              simp only [List.getElem?_cons_zero, Option.some.injEq] at hy
              subst hy
              rw [show i = k by omega]
              exact r1
      obtain ⟨xs, q1, q2, q3⟩ := key len (Nat.le_refl _)
      refine ⟨_, rfl, xs, ⟨flat_length hf xs, ?_, some a, cap, by rw [q1], by omega, fun hp => ?_⟩, q2⟩
      · have h1 : cap * 1 ≤ cap * P.bytesOf e := Nat.mul_le_mul_left _ hb
        have : reachBytes = 140737488351232 := rfl
        omega
      · obtain ⟨g, off, spot⟩ := a
        have cell : ∀ i x, xs[i]? = some x → ∀ r, r < size → W.cell? (Addr.add ⟨g, off, spot⟩ (i * size + r)) = (f x)[r]? := by
          intro i x hx r hr
          have := (World.cells?_some (q3 i x hx)).2.2 r hr
          rwa [Go.Deep.add_add] at this
        obtain ⟨x0, hx0⟩ : ∃ x, xs[0]? = some x := ⟨xs[0], List.getElem?_eq_getElem hp⟩
        have c0 := cell 0 x0 hx0 0 h0
        rw [List.getElem?_eq_getElem (by rw [hf]; exact h0)] at c0
        simp only [Nat.zero_mul, Nat.add_zero, Addr.add, if_true] at c0
        have hs : spot = none := by
          cases spot with
          | none => rfl
          | some s => simp only [World.cell?] at c0; split at c0 <;> simp at c0
        subst hs
        have hg : g < W.heap.size := by
          rcases Nat.lt_or_ge g W.heap.size with h | h
          · exact h
          · simp only [World.cell?] at c0; rw [Array.getElem?_eq_none h] at c0; cases c0
        refine ⟨g, off, rfl, Nat.zero_le _, hg, hg, fun j u hu => ?_⟩
        have hj : j < xs.length * size := by rw [← flat_length hf xs]; exact (List.getElem?_eq_some_iff.1 hu).1
        have hi : j / size < xs.length := by rw [Nat.div_lt_iff_lt_mul h0]; exact hj
        obtain ⟨x, hx⟩ : ∃ x, xs[j / size]? = some x := ⟨xs[j / size], List.getElem?_eq_getElem hi⟩
        have hr := Nat.mod_lt j h0
        have c1 := cell _ x hx (j % size) hr
        have hjj : j / size * size + j % size = j := Nat.div_add_mod' j size
        rw [hjj] at c1
        have hu2 := flat_get hf xs (j / size) (j % size) x _ hx (List.getElem?_eq_getElem (by rw [hf]; exact hr))
        rw [hjj, hu] at hu2
        rw [List.getElem?_eq_getElem (by rw [hf]; exact hr), ← hu2] at c1
        rw [← c1]
        unfold Addr.add
        by_cases hj0 : j = 0
        · subst hj0; simp
        · simp [hj0]

set_option maxRecDepth 100000 in
theorem okd_raw {W : World} {n : Nat} {cs : List Value} (h : Okd Tryz.prog W n 39 cs) : ∃ x : Raw, (Word x.1 ∧ Word x.2) ∧ cs = rc x := by
  obtain ⟨h1, m, h2⟩ := okd_struct Tryz.underlying39 h
  have c1 : Tryz.prog.cellsOf 39 = 2 := by kernel_rfl
  have c2 : Tryz.prog.cellsOf 37 = 1 := by kernel_rfl
  rw [c1] at h1
  obtain ⟨a, b, rfl⟩ : ∃ a b, cs = [a, b] := by
    match cs, h1 with
    | [a, b], _ => exact ⟨a, b, rfl⟩
  obtain ⟨k0, k1, -⟩ := h2
  simp only [c2, List.drop_zero, List.take_succ_cons, List.take_zero, List.drop_succ_cons] at k0 k1
  obtain ⟨x, e1, e2⟩ := okd_int Tryz.underlying37 k0
  obtain ⟨y, e3, e4⟩ := okd_int Tryz.underlying37 k1
  simp only [List.cons.injEq, and_true] at e1 e3
  subst e1; subst e3
  exact ⟨(x, y), ⟨wf_u64 e2, wf_u64 e4⟩, rfl⟩
theorem okd_raws {W : World} {n : Nat} {cs : List Value} (h : Okd Tryz.prog W n 23 cs) : ∃ v, cs = [v] ∧ ∃ xs : List Raw, RawS 0 W.heap.size W v xs :=
  okd_slice rc _ (by decide) rc_len Tryz.underlying23 (by kernel_rfl) (Nat.le_of_ble_eq_true (by kernel_rfl)) (fun n cs h => okd_raw h) h
end Go.Proofs.YtficeebbbkmhcaaGreatDoor
