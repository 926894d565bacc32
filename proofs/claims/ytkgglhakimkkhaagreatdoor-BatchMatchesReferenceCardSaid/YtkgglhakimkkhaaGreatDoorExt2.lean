/-
  The functions of package ext and of its reference that the statements reach, each by its contract: what they return for elements of the extension field, and that nothing that was there has turned.
  More of package ext, its reference and the functions above it that only compute with elements.
-/
import Derived.Test.YtkgglhakimkkhaaGreatDoorEn
import Derived.Test.YtkgglhakimkkhaaGreatDoorRg
import Derived.BigQuiet
namespace Go.Proofs.YtkgglhakimkkhaaGreatDoor
open Go.RowKit
def ev (x : E) : Value := .agg #[.int .u64 (fv x.a), .int .u64 (fv x.b)]

set_option maxRecDepth 100000 in
set_option maxHeartbeats 400000 in
theorem comp_add (x y : E) (b : Nat) (w : World) (hc : w.cell? ⟨b, 0, none⟩ = some (.func (.func 69) #[] #[])) (hb : b < w.heap.size) :
    Calls Tryz.prog 103 #[ev x, ev y, .pointer (some ⟨b, 0, none⟩)] w (Ret (ev (x + y)) w) := by
  unfold ev
  rw [add_a, add_b]
  go_enter Tryz.func103, Tryz.ntmps103
  go_wp2
  refine wp_stk3 fun W hB hz b1 b2 b3 => ?_
  have c0 := gw_cell (W := W) (Nat.lt_of_lt_of_le hb hB.size) ((hB.cell (p := ⟨b, 0, none⟩) hb).trans hc)
  have c1 := gw_blk b1
  have c2 := gw_blk b2
  refine wp_region_rg 13 [(5, Spec.val (.int .u64 (fv (x.a + y.a)))), (11, Spec.val (.int .u64 (fv (x.b + y.b))))] (by kernel_rfl) (by kernel_rfl) (by kernel_rfl) trivial ?_
  iterate 5 (refine rg_det rfl rfl rfl (fun K hK => ?_); go_big_quiet_op; refine hK _ ?_; clear hK K)
  refine rg_val rfl rfl (fun W1 hW1 hF => step_callvs (first := []) (cap := []) en_attestor_field_Add (ret_of_same (fAdd x.a y.a W1)) rfl rfl rfl rfl) ?_
  intro a' ha
  simp only [Act.put, List.setIfInBounds_toArray, List.set_cons_succ, List.set_cons_zero] at ha
  subst ha
  iterate 5 (refine rg_det rfl rfl rfl (fun K hK => ?_); go_big_quiet_op; refine hK _ ?_; clear hK K)
  refine rg_val rfl rfl (fun W1 hW1 hF => step_callvs (first := []) (cap := []) en_attestor_field_Add (ret_of_same (fAdd x.b y.b W1)) rfl rfl rfl rfl) ?_
  intro a' ha
  simp only [Act.put, List.setIfInBounds_toArray, List.set_cons_succ, List.set_cons_zero] at ha
  subst ha
  refine rg_det rfl rfl rfl (fun K hK => ?_)
  go_big_quiet_op
  refine hK _ ?_; clear hK K
  refine rg_nil (fun w' hw' hF => ?_)
  obtain ⟨z, rfl⟩ := hw'
  simp only [List.drop_succ_cons, List.drop_zero]
  have e1 := (b3.gw z).cell
  have e2 := (b3.gw z).frozen
  go_wp2
  refine bodyPost_ret (v := .agg #[.int .u64 (fv (x.a + y.a)), .int .u64 (fv (x.b + y.b))]) (by simp [results, Tryz.results103, go_sem, e1]) rfl ⟨rfl, ?_⟩
  exact ((hB.trans (z.h.mono hB.size)).setCell (by show w.heap.size ≤ w.heap.size + 1 + 1; omega) _).setCell (by show w.heap.size ≤ w.heap.size + 1 + 1; omega) _
set_option maxRecDepth 100000 in
set_option maxHeartbeats 400000 in
theorem comp_sub (x y : E) (b : Nat) (w : World) (hc : w.cell? ⟨b, 0, none⟩ = some (.func (.func 102) #[] #[])) (hb : b < w.heap.size) :
    Calls Tryz.prog 103 #[ev x, ev y, .pointer (some ⟨b, 0, none⟩)] w (Ret (ev (x - y)) w) := by
  unfold ev
  rw [sub_a, sub_b]
  go_enter Tryz.func103, Tryz.ntmps103
  go_wp2
  refine wp_stk3 fun W hB hz b1 b2 b3 => ?_
  have c0 := gw_cell (W := W) (Nat.lt_of_lt_of_le hb hB.size) ((hB.cell (p := ⟨b, 0, none⟩) hb).trans hc)
  have c1 := gw_blk b1
  have c2 := gw_blk b2
  refine wp_region_rg 13 [(5, Spec.val (.int .u64 (fv (x.a - y.a)))), (11, Spec.val (.int .u64 (fv (x.b - y.b))))] (by kernel_rfl) (by kernel_rfl) (by kernel_rfl) trivial ?_
  iterate 5 (refine rg_det rfl rfl rfl (fun K hK => ?_); go_big_quiet_op; refine hK _ ?_; clear hK K)
  refine rg_val rfl rfl (fun W1 hW1 hF => step_callvs (first := []) (cap := []) en_attestor_field_Sub (ret_of_same (fSub x.a y.a W1)) rfl rfl rfl rfl) ?_
  intro a' ha
  simp only [Act.put, List.setIfInBounds_toArray, List.set_cons_succ, List.set_cons_zero] at ha
  subst ha
  iterate 5 (refine rg_det rfl rfl rfl (fun K hK => ?_); go_big_quiet_op; refine hK _ ?_; clear hK K)
  refine rg_val rfl rfl (fun W1 hW1 hF => step_callvs (first := []) (cap := []) en_attestor_field_Sub (ret_of_same (fSub x.b y.b W1)) rfl rfl rfl rfl) ?_
  intro a' ha
  simp only [Act.put, List.setIfInBounds_toArray, List.set_cons_succ, List.set_cons_zero] at ha
  subst ha
  refine rg_det rfl rfl rfl (fun K hK => ?_)
  go_big_quiet_op
  refine hK _ ?_; clear hK K
  refine rg_nil (fun w' hw' hF => ?_)
  obtain ⟨z, rfl⟩ := hw'
  simp only [List.drop_succ_cons, List.drop_zero]
  have e1 := (b3.gw z).cell
  have e2 := (b3.gw z).frozen
  go_wp2
  refine bodyPost_ret (v := .agg #[.int .u64 (fv (x.a - y.a)), .int .u64 (fv (x.b - y.b))]) (by simp [results, Tryz.results103, go_sem, e1]) rfl ⟨rfl, ?_⟩
  exact ((hB.trans (z.h.mono hB.size)).setCell (by show w.heap.size ≤ w.heap.size + 1 + 1; omega) _).setCell (by show w.heap.size ≤ w.heap.size + 1 + 1; omega) _

def Held (g : FuncId) (n m : Nat) (v : Value) (w : World) : Prop := v = .func (.func 103) #[] #[.pointer (some ⟨n, 0, none⟩)] ∧ w.cell? ⟨n, 0, none⟩ = some (.func (.func g) #[] #[]) ∧ n < m
theorem held_stable (g : FuncId) : Stable (Held g) := fun n _ _ _ _ h hb => ⟨h.1, (hb.cell (p := ⟨n, 0, none⟩) h.2.2).trans h.2.1, h.2.2⟩
set_option maxRecDepth 100000 in
set_option maxHeartbeats 400000 in
theorem componentwise_any (g : FuncId) (w : World) : Calls Tryz.prog 68 #[.func (.func g) #[] #[]] w (RetR (Held g) w) := by
  go_enter Tryz.func68, Tryz.ntmps68
  go_wp2
  go_ret
  exact ⟨_, rfl, ⟨rfl, by simp, by simp⟩, (Below.refl _ _).alloc (Nat.le_refl _) _⟩

set_option maxRecDepth 100000 in
set_option maxHeartbeats 400000 in
theorem eAdd (x y : E) (w : World) : Calls Tryz.prog 31 #[ev x, ev y] w (Ret (ev (x + y)) w) := by
  unfold ev
  go_enter Tryz.func31, Tryz.ntmps31
  go_wp2
  refine wp_stk3 fun W hB hz b1 b2 b3 => ?_
  have c1 := gw_blk b1
  have c2 := gw_blk b2
  refine wp_region_rg 4 [(0, Spec.rel (Held 69) AnyV), (3, Spec.val (.agg #[.int .u64 (fv (x + y).a), .int .u64 (fv (x + y).b)]))] (by kernel_rfl) (by kernel_rfl) (by kernel_rfl) ⟨fit_of (held_stable 69), trivial⟩ ?_
  refine rg_rel rfl rfl (fun W1 hW1 hF => step_callr en_attestor_ext_componentwise (componentwise_any 69 W1) rfl rfl) ?_
  intro n0 m0 v0 hn0 hm0 hd0 hf0 a' ha
  simp only [Act.put, List.setIfInBounds_toArray, List.set_cons_succ, List.set_cons_zero] at ha
  subst ha
  iterate 2 (refine rg_det rfl rfl rfl (fun K hK => ?_); go_big_quiet_op; refine hK _ ?_; clear hK K)
  refine rg_val rfl rfl (fun W1 hW1 hF => (by obtain ⟨_, q1, q2, q3⟩ := pick_last hF (by kernel_rfl); exact step_callvs (first := []) (cap := [.pointer (some ⟨n0, 0, none⟩)]) en_attestor_ext_componentwise_1 (comp_add x y n0 W1 q2 (by omega)) rfl q1 rfl rfl)) ?_
  intro a' ha
  simp only [Act.put, List.setIfInBounds_toArray, List.set_cons_succ, List.set_cons_zero] at ha
  subst ha
  refine rg_nil (fun w' hw' hF => ?_)
  obtain ⟨z, rfl⟩ := hw'
  simp only [List.drop_succ_cons, List.drop_zero]
  have e1 := (b3.gw z).cell
  have e2 := (b3.gw z).frozen
  go_wp2
  refine bodyPost_ret (v := .agg #[.int .u64 (fv (x + y).a), .int .u64 (fv (x + y).b)]) (by simp [results, Tryz.results31, go_sem, e1]) rfl ⟨rfl, ?_⟩
  exact ((hB.trans (z.h.mono hB.size)).setCell (by show w.heap.size ≤ w.heap.size + 1 + 1; omega) _).setCell (by show w.heap.size ≤ w.heap.size + 1 + 1; omega) _
set_option maxRecDepth 100000 in
set_option maxHeartbeats 400000 in
theorem eSub (x y : E) (w : World) : Calls Tryz.prog 67 #[ev x, ev y] w (Ret (ev (x - y)) w) := by
  unfold ev
  go_enter Tryz.func67, Tryz.ntmps67
  go_wp2
  refine wp_stk3 fun W hB hz b1 b2 b3 => ?_
  have c1 := gw_blk b1
  have c2 := gw_blk b2
  refine wp_region_rg 4 [(0, Spec.rel (Held 102) AnyV), (3, Spec.val (.agg #[.int .u64 (fv (x - y).a), .int .u64 (fv (x - y).b)]))] (by kernel_rfl) (by kernel_rfl) (by kernel_rfl) ⟨fit_of (held_stable 102), trivial⟩ ?_
  refine rg_rel rfl rfl (fun W1 hW1 hF => step_callr en_attestor_ext_componentwise (componentwise_any 102 W1) rfl rfl) ?_
  intro n0 m0 v0 hn0 hm0 hd0 hf0 a' ha
  simp only [Act.put, List.setIfInBounds_toArray, List.set_cons_succ, List.set_cons_zero] at ha
  subst ha
  iterate 2 (refine rg_det rfl rfl rfl (fun K hK => ?_); go_big_quiet_op; refine hK _ ?_; clear hK K)
  refine rg_val rfl rfl (fun W1 hW1 hF => (by obtain ⟨_, q1, q2, q3⟩ := pick_last hF (by kernel_rfl); exact step_callvs (first := []) (cap := [.pointer (some ⟨n0, 0, none⟩)]) en_attestor_ext_componentwise_1 (comp_sub x y n0 W1 q2 (by omega)) rfl q1 rfl rfl)) ?_
  intro a' ha
  simp only [Act.put, List.setIfInBounds_toArray, List.set_cons_succ, List.set_cons_zero] at ha
  subst ha
  refine rg_nil (fun w' hw' hF => ?_)
  obtain ⟨z, rfl⟩ := hw'
  simp only [List.drop_succ_cons, List.drop_zero]
  have e1 := (b3.gw z).cell
  have e2 := (b3.gw z).frozen
  go_wp2
  refine bodyPost_ret (v := .agg #[.int .u64 (fv (x - y).a), .int .u64 (fv (x - y).b)]) (by simp [results, Tryz.results67, go_sem, e1]) rfl ⟨rfl, ?_⟩
  exact ((hB.trans (z.h.mono hB.size)).setCell (by show w.heap.size ≤ w.heap.size + 1 + 1; omega) _).setCell (by show w.heap.size ≤ w.heap.size + 1 + 1; omega) _

/-! ### The product -/
theorem mul_b' (x y : E) : (x * y).b = (x.a + x.b) * (y.a + y.b) - x.a * y.a - x.b * y.b := by rw [mul_b]; grind
theorem seven : (7 : Int) = fv 7 := rfl
set_option maxRecDepth 100000 in
set_option maxHeartbeats 400000 in
theorem eTimes (x y : E) (w : World) : Calls Tryz.prog 70 #[ev x, ev y] w (Ret (ev (x * y)) w) := by
  unfold ev
  rw [mul_a, mul_b']
  go_enter Tryz.func70, Tryz.ntmps70
  go_wp2
  refine wp_stk3 fun W hB hz b1 b2 b3 => ?_
  have c1 := gw_blk b1
  have c2 := gw_blk b2
  refine wp_region_rg 10 [(4, Spec.val (.int .u64 (fv (x.a * y.a)))), (9, Spec.val (.int .u64 (fv (x.b * y.b))))] (by kernel_rfl) (by kernel_rfl) (by kernel_rfl) trivial ?_
  iterate 4 (refine rg_det rfl rfl rfl (fun K hK => ?_); go_big_quiet_op; refine hK _ ?_; clear hK K)
  refine rg_val rfl rfl (fun W1 hW1 hF => step_callv en_attestor_field_Mul (ret_of_same (fMul x.a y.a W1)) rfl rfl) ?_
  intro a' ha
  simp only [Act.put, List.setIfInBounds_toArray, List.set_cons_succ, List.set_cons_zero] at ha
  subst ha
  iterate 4 (refine rg_det rfl rfl rfl (fun K hK => ?_); go_big_quiet_op; refine hK _ ?_; clear hK K)
  refine rg_val rfl rfl (fun W1 hW1 hF => step_callv en_attestor_field_Mul (ret_of_same (fMul x.b y.b W1)) rfl rfl) ?_
  intro a' ha
  simp only [Act.put, List.setIfInBounds_toArray, List.set_cons_succ, List.set_cons_zero] at ha
  subst ha
  refine rg_nil (fun w' hw' hF => ?_)
  obtain ⟨z, rfl⟩ := hw'
  simp only [List.drop_succ_cons, List.drop_zero]
  go_wp2
  have c3 := gw_blk (b1.gw z)
  have c4 := gw_blk (b2.gw z)
  clear c1 c2 hF
  refine wp_region_rg 11 [(4, Spec.val (.int .u64 (fv (x.a + x.b)))), (9, Spec.val (.int .u64 (fv (y.a + y.b)))), (10, Spec.val (.int .u64 (fv ((x.a + x.b) * (y.a + y.b)))))] (by kernel_rfl) (by kernel_rfl) (by kernel_rfl) trivial ?_
  iterate 4 (refine rg_det rfl rfl rfl (fun K hK => ?_); go_big_quiet_op; refine hK _ ?_; clear hK K)
  refine rg_val rfl rfl (fun W1 hW1 hF => step_callv en_attestor_field_Add (ret_of_same (fAdd x.a x.b W1)) rfl rfl) ?_
  intro a' ha
  simp only [Act.put, List.setIfInBounds_toArray, List.set_cons_succ, List.set_cons_zero] at ha
  subst ha
  iterate 4 (refine rg_det rfl rfl rfl (fun K hK => ?_); go_big_quiet_op; refine hK _ ?_; clear hK K)
  refine rg_val rfl rfl (fun W1 hW1 hF => step_callv en_attestor_field_Add (ret_of_same (fAdd y.a y.b W1)) rfl rfl) ?_
  intro a' ha
  simp only [Act.put, List.setIfInBounds_toArray, List.set_cons_succ, List.set_cons_zero] at ha
  subst ha
  refine rg_val rfl rfl (fun W1 hW1 hF => step_callv en_attestor_field_Mul (ret_of_same (fMul (x.a + x.b) (y.a + y.b) W1)) rfl rfl) ?_
  intro a' ha
  simp only [Act.put, List.setIfInBounds_toArray, List.set_cons_succ, List.set_cons_zero] at ha
  subst ha
  refine rg_nil (fun w' hw' hF => ?_)
  obtain ⟨z2, rfl⟩ := hw'
  simp only [List.drop_succ_cons, List.drop_zero]
  go_wp2_with fail
  rw [seven]
  refine (fMul 7 (x.b * y.b) _).mono ?_
  rintro e w' ⟨rfl, rfl⟩
  go_wp2_with fail
  refine (fAdd (x.a * y.a) (7 * (x.b * y.b)) _).mono ?_
  rintro e w' ⟨rfl, rfl⟩
  go_wp2_with fail
  refine (fSub ((x.a + x.b) * (y.a + y.b)) (x.a * y.a) _).mono ?_
  rintro e w' ⟨rfl, rfl⟩
  go_wp2_with fail
  refine (fSub ((x.a + x.b) * (y.a + y.b) - x.a * y.a) (x.b * y.b) _).mono ?_
  rintro e w' ⟨rfl, rfl⟩
  have e1 := ((b3.gw z).gw z2).cell
  have e2 := ((b3.gw z).gw z2).frozen
  go_wp2
  refine bodyPost_ret (v := .agg #[.int .u64 (fv (x.a * y.a + 7 * (x.b * y.b))), .int .u64 (fv ((x.a + x.b) * (y.a + y.b) - x.a * y.a - x.b * y.b))]) (by simp [results, Tryz.results70, go_sem, e1]) rfl ⟨rfl, ?_⟩
  have hB2 := hB.trans (z.h.mono hB.size)
  exact ((hB2.trans (z2.h.mono hB2.size)).setCell (by show w.heap.size ≤ w.heap.size + 1 + 1; omega) _).setCell (by show w.heap.size ≤ w.heap.size + 1 + 1; omega) _
set_option maxRecDepth 100000 in
set_option maxHeartbeats 400000 in
theorem eMul (x y : E) (w : World) : Calls Tryz.prog 32 #[ev x, ev y] w (Ret (ev (x * y)) w) := by
  unfold ev
  go_enter Tryz.func32, Tryz.ntmps32
  go_wp2_with fail
  refine calls_stk3 fun W hB hz b1 b2 b3 => ?_
  refine (eTimes x y _).mono ?_
  rintro e w' ⟨he, hb⟩
  unfold ev at he
  subst he
  have e1 := (b3.below hb b3.lt).cell
  have e2 := (b3.below hb b3.lt).frozen
  go_wp2
  refine bodyPost_ret (v := .agg #[.int .u64 (fv (x * y).a), .int .u64 (fv (x * y).b)]) (by simp [results, Tryz.results32, go_sem, e1]) rfl ⟨rfl, ?_⟩
  exact ((hB.trans (hb.mono hB.size)).setCell (by show w.heap.size ≤ w.heap.size + 1 + 1; omega) _).setCell (by show w.heap.size ≤ w.heap.size + 1 + 1; omega) _

set_option maxRecDepth 100000 in
set_option maxHeartbeats 400000 in
theorem eMulBase (x : E) (c : Fp) (w : World) : Calls Tryz.prog 150 #[ev x, .int .u64 (fv c)] w (Ret (ev (x * eb c)) w) := by
  rw [mul_eb]
  unfold ev
  go_enter Tryz.func150, Tryz.ntmps150
  go_wp2
  refine wp_stk2 fun W hB hz b1 b2 => ?_
  have c1 := gw_blk b1
  refine wp_region_rg 9 [(3, Spec.val (.int .u64 (fv (x.a * c)))), (7, Spec.val (.int .u64 (fv (x.b * c))))] (by kernel_rfl) (by kernel_rfl) (by kernel_rfl) trivial ?_
  iterate 3 (refine rg_det rfl rfl rfl (fun K hK => ?_); go_big_quiet_op; refine hK _ ?_; clear hK K)
  refine rg_val rfl rfl (fun W1 hW1 hF => step_callv en_attestor_field_Mul (ret_of_same (fMul x.a c W1)) rfl rfl) ?_
  intro a' ha
  simp only [Act.put, List.setIfInBounds_toArray, List.set_cons_succ, List.set_cons_zero] at ha
  subst ha
  iterate 3 (refine rg_det rfl rfl rfl (fun K hK => ?_); go_big_quiet_op; refine hK _ ?_; clear hK K)
  refine rg_val rfl rfl (fun W1 hW1 hF => step_callv en_attestor_field_Mul (ret_of_same (fMul x.b c W1)) rfl rfl) ?_
  intro a' ha
  simp only [Act.put, List.setIfInBounds_toArray, List.set_cons_succ, List.set_cons_zero] at ha
  subst ha
  refine rg_det rfl rfl rfl (fun K hK => ?_)
  go_big_quiet_op
  refine hK _ ?_; clear hK K
  refine rg_nil (fun w' hw' hF => ?_)
  obtain ⟨z, rfl⟩ := hw'
  simp only [List.drop_succ_cons, List.drop_zero]
  have e1 := (b2.gw z).cell
  have e2 := (b2.gw z).frozen
  go_wp2
  refine bodyPost_ret (v := .agg #[.int .u64 (fv (x.a * c)), .int .u64 (fv (x.b * c))]) (by simp [results, Tryz.results150, go_sem, e1]) rfl ⟨rfl, ?_⟩
  exact ((hB.trans (z.h.mono hB.size)).setCell (by show w.heap.size ≤ w.heap.size + 1; omega) _).setCell (by show w.heap.size ≤ w.heap.size + 1; omega) _
/-! ### The reference -/
set_option maxRecDepth 100000 in
set_option maxHeartbeats 400000 in
theorem xAdd (x y : E) (w : World) : Calls Tryz.prog 46 #[ev x, ev y] w (Ret (ev (x + y)) w) := by
  unfold ev
  rw [add_a, add_b]
  go_enter Tryz.func46, Tryz.ntmps46
  go_wp2
  refine wp_stk3 fun W hB hz b1 b2 b3 => ?_
  have c1 := gw_blk b1
  have c2 := gw_blk b2
  refine wp_region_rg 11 [(4, Spec.val (.int .u64 (fv (x.a + y.a)))), (9, Spec.val (.int .u64 (fv (x.b + y.b))))] (by kernel_rfl) (by kernel_rfl) (by kernel_rfl) trivial ?_
  iterate 4 (refine rg_det rfl rfl rfl (fun K hK => ?_); go_big_quiet_op; refine hK _ ?_; clear hK K)
  refine rg_val rfl rfl (fun W1 hW1 hF => step_callv en_attestor_attestorref01_Add (ret_of_same (rAdd x.a y.a W1)) rfl rfl) ?_
  intro a' ha
  simp only [Act.put, List.setIfInBounds_toArray, List.set_cons_succ, List.set_cons_zero] at ha
  subst ha
  iterate 4 (refine rg_det rfl rfl rfl (fun K hK => ?_); go_big_quiet_op; refine hK _ ?_; clear hK K)
  refine rg_val rfl rfl (fun W1 hW1 hF => step_callv en_attestor_attestorref01_Add (ret_of_same (rAdd x.b y.b W1)) rfl rfl) ?_
  intro a' ha
  simp only [Act.put, List.setIfInBounds_toArray, List.set_cons_succ, List.set_cons_zero] at ha
  subst ha
  refine rg_det rfl rfl rfl (fun K hK => ?_)
  go_big_quiet_op
  refine hK _ ?_; clear hK K
  refine rg_nil (fun w' hw' hF => ?_)
  obtain ⟨z, rfl⟩ := hw'
  simp only [List.drop_succ_cons, List.drop_zero]
  have e1 := (b3.gw z).cell
  have e2 := (b3.gw z).frozen
  go_wp2
  refine bodyPost_ret (v := .agg #[.int .u64 (fv (x.a + y.a)), .int .u64 (fv (x.b + y.b))]) (by simp [results, Tryz.results46, go_sem, e1]) rfl ⟨rfl, ?_⟩
  exact ((hB.trans (z.h.mono hB.size)).setCell (by show w.heap.size ≤ w.heap.size + 1 + 1; omega) _).setCell (by show w.heap.size ≤ w.heap.size + 1 + 1; omega) _
theorem neg_a (x : E) : (-x).a = -x.a := rfl
theorem neg_b (x : E) : (-x).b = -x.b := rfl
set_option maxRecDepth 100000 in
set_option maxHeartbeats 400000 in
theorem xNeg (x : E) (w : World) : Calls Tryz.prog 50 #[ev x] w (Ret (ev (-x)) w) := by
  unfold ev
  rw [neg_a, neg_b]
  go_enter Tryz.func50, Tryz.ntmps50
  go_wp2
  refine wp_stk2 fun W hB hz b1 b2 => ?_
  have c1 := gw_blk b1
  refine wp_region_rg 7 [(2, Spec.val (.int .u64 (fv (-x.a)))), (5, Spec.val (.int .u64 (fv (-x.b))))] (by kernel_rfl) (by kernel_rfl) (by kernel_rfl) trivial ?_
  iterate 2 (refine rg_det rfl rfl rfl (fun K hK => ?_); go_big_quiet_op; refine hK _ ?_; clear hK K)
  refine rg_val rfl rfl (fun W1 hW1 hF => step_callv en_attestor_attestorref01_Neg (ret_of_same (rNeg x.a W1)) rfl rfl) ?_
  intro a' ha
  simp only [Act.put, List.setIfInBounds_toArray, List.set_cons_succ, List.set_cons_zero] at ha
  subst ha
  iterate 2 (refine rg_det rfl rfl rfl (fun K hK => ?_); go_big_quiet_op; refine hK _ ?_; clear hK K)
  refine rg_val rfl rfl (fun W1 hW1 hF => step_callv en_attestor_attestorref01_Neg (ret_of_same (rNeg x.b W1)) rfl rfl) ?_
  intro a' ha
  simp only [Act.put, List.setIfInBounds_toArray, List.set_cons_succ, List.set_cons_zero] at ha
  subst ha
  refine rg_det rfl rfl rfl (fun K hK => ?_)
  go_big_quiet_op
  refine hK _ ?_; clear hK K
  refine rg_nil (fun w' hw' hF => ?_)
  obtain ⟨z, rfl⟩ := hw'
  simp only [List.drop_succ_cons, List.drop_zero]
  have e1 := (b2.gw z).cell
  have e2 := (b2.gw z).frozen
  go_wp2
  refine bodyPost_ret (v := .agg #[.int .u64 (fv (-x.a)), .int .u64 (fv (-x.b))]) (by simp [results, Tryz.results50, go_sem, e1]) rfl ⟨rfl, ?_⟩
  exact ((hB.trans (z.h.mono hB.size)).setCell (by show w.heap.size ≤ w.heap.size + 1; omega) _).setCell (by show w.heap.size ≤ w.heap.size + 1; omega) _
theorem sub_eq (x y : E) : x - y = x + -y := by apply E.ext_ <;> simp only [sub_a, sub_b, add_a, add_b, neg_a, neg_b] <;> grind
set_option maxRecDepth 100000 in
set_option maxHeartbeats 400000 in
theorem xSub (x y : E) (w : World) : Calls Tryz.prog 16 #[ev x, ev y] w (Ret (ev (x - y)) w) := by
  rw [sub_eq]
  unfold ev
  go_enter Tryz.func16, Tryz.ntmps16
  go_wp2
  refine wp_stk3 fun W hB hz b1 b2 b3 => ?_
  have c1 := gw_blk b1
  have c2 := gw_blk b2
  refine wp_region_rg 4 [(2, Spec.val (.agg #[.int .u64 (fv (-y).a), .int .u64 (fv (-y).b)])), (3, Spec.val (.agg #[.int .u64 (fv (x + -y).a), .int .u64 (fv (x + -y).b)]))] (by kernel_rfl) (by kernel_rfl) (by kernel_rfl) trivial ?_
  iterate 2 (refine rg_det rfl rfl rfl (fun K hK => ?_); go_big_quiet_op; refine hK _ ?_; clear hK K)
  refine rg_val rfl rfl (fun W1 hW1 hF => step_callv en_attestor_attestorref02_Neg (xNeg y W1) rfl rfl) ?_
  intro a' ha
  simp only [Act.put, List.setIfInBounds_toArray, List.set_cons_succ, List.set_cons_zero] at ha
  subst ha
  refine rg_val rfl rfl (fun W1 hW1 hF => step_callv en_attestor_attestorref02_Add (xAdd x (-y) W1) rfl rfl) ?_
  intro a' ha
  simp only [Act.put, List.setIfInBounds_toArray, List.set_cons_succ, List.set_cons_zero] at ha
  subst ha
  refine rg_nil (fun w' hw' hF => ?_)
  obtain ⟨z, rfl⟩ := hw'
  simp only [List.drop_succ_cons, List.drop_zero]
  have e1 := (b3.gw z).cell
  have e2 := (b3.gw z).frozen
  go_wp2
  refine bodyPost_ret (v := .agg #[.int .u64 (fv (x + -y).a), .int .u64 (fv (x + -y).b)]) (by simp [results, Tryz.results16, go_sem, e1]) rfl ⟨rfl, ?_⟩
  exact ((hB.trans (z.h.mono hB.size)).setCell (by show w.heap.size ≤ w.heap.size + 1 + 1; omega) _).setCell (by show w.heap.size ≤ w.heap.size + 1 + 1; omega) _
set_option maxRecDepth 100000 in
set_option maxHeartbeats 1000000 in
theorem xMul (x y : E) (w : World) : Calls Tryz.prog 47 #[ev x, ev y] w (Ret (ev (x * y)) w) := by
  unfold ev
  rw [mul_a, mul_b]
  go_enter Tryz.func47, Tryz.ntmps47
  go_wp2
  refine wp_stk3 fun W hB hz b1 b2 b3 => ?_
  have c1 := gw_blk b1
  have c2 := gw_blk b2
  refine wp_region_rg 24 [(4, Spec.val (.int .u64 (fv (x.a * y.a)))), (9, Spec.val (.int .u64 (fv (x.b * y.b)))), (10, Spec.val (.int .u64 (fv (7 * (x.b * y.b))))), (11, Spec.val (.int .u64 (fv (x.a * y.a + 7 * (x.b * y.b))))), (16, Spec.val (.int .u64 (fv (x.a * y.b)))), (21, Spec.val (.int .u64 (fv (x.b * y.a)))), (22, Spec.val (.int .u64 (fv (x.a * y.b + x.b * y.a))))] (by kernel_rfl) (by kernel_rfl) (by kernel_rfl) trivial ?_
  iterate 4 (refine rg_det rfl rfl rfl (fun K hK => ?_); go_big_quiet_op; refine hK _ ?_; clear hK K)
  refine rg_val rfl rfl (fun W1 hW1 hF => step_callv en_attestor_attestorref01_Mul (ret_of_same (rMul x.a y.a W1)) rfl rfl) ?_
  intro a' ha
  simp only [Act.put, List.setIfInBounds_toArray, List.set_cons_succ, List.set_cons_zero] at ha
  subst ha
  iterate 4 (refine rg_det rfl rfl rfl (fun K hK => ?_); go_big_quiet_op; refine hK _ ?_; clear hK K)
  refine rg_val rfl rfl (fun W1 hW1 hF => step_callv en_attestor_attestorref01_Mul (ret_of_same (rMul x.b y.b W1)) rfl rfl) ?_
  intro a' ha
  simp only [Act.put, List.setIfInBounds_toArray, List.set_cons_succ, List.set_cons_zero] at ha
  subst ha
  refine rg_val rfl rfl (fun W1 hW1 hF => step_callv en_attestor_attestorref01_Mul (ret_of_same (rMul 7 (x.b * y.b) W1)) rfl rfl) ?_
  intro a' ha
  simp only [Act.put, List.setIfInBounds_toArray, List.set_cons_succ, List.set_cons_zero] at ha
  subst ha
  refine rg_val rfl rfl (fun W1 hW1 hF => step_callv en_attestor_attestorref01_Add (ret_of_same (rAdd (x.a * y.a) (7 * (x.b * y.b)) W1)) rfl rfl) ?_
  intro a' ha
  simp only [Act.put, List.setIfInBounds_toArray, List.set_cons_succ, List.set_cons_zero] at ha
  subst ha
  iterate 4 (refine rg_det rfl rfl rfl (fun K hK => ?_); go_big_quiet_op; refine hK _ ?_; clear hK K)
  refine rg_val rfl rfl (fun W1 hW1 hF => step_callv en_attestor_attestorref01_Mul (ret_of_same (rMul x.a y.b W1)) rfl rfl) ?_
  intro a' ha
  simp only [Act.put, List.setIfInBounds_toArray, List.set_cons_succ, List.set_cons_zero] at ha
  subst ha
  iterate 4 (refine rg_det rfl rfl rfl (fun K hK => ?_); go_big_quiet_op; refine hK _ ?_; clear hK K)
  refine rg_val rfl rfl (fun W1 hW1 hF => step_callv en_attestor_attestorref01_Mul (ret_of_same (rMul x.b y.a W1)) rfl rfl) ?_
  intro a' ha
  simp only [Act.put, List.setIfInBounds_toArray, List.set_cons_succ, List.set_cons_zero] at ha
  subst ha
  refine rg_val rfl rfl (fun W1 hW1 hF => step_callv en_attestor_attestorref01_Add (ret_of_same (rAdd (x.a * y.b) (x.b * y.a) W1)) rfl rfl) ?_
  intro a' ha
  simp only [Act.put, List.setIfInBounds_toArray, List.set_cons_succ, List.set_cons_zero] at ha
  subst ha
  refine rg_det rfl rfl rfl (fun K hK => ?_)
  go_big_quiet_op
  refine hK _ ?_; clear hK K
  refine rg_nil (fun w' hw' hF => ?_)
  obtain ⟨z, rfl⟩ := hw'
  simp only [List.drop_succ_cons, List.drop_zero]
  have e1 := (b3.gw z).cell
  have e2 := (b3.gw z).frozen
  go_wp2
  refine bodyPost_ret (v := .agg #[.int .u64 (fv (x.a * y.a + 7 * (x.b * y.b))), .int .u64 (fv (x.a * y.b + x.b * y.a))]) (by simp [results, Tryz.results47, go_sem, e1]) rfl ⟨rfl, ?_⟩
  exact ((hB.trans (z.h.mono hB.size)).setCell (by show w.heap.size ≤ w.heap.size + 1 + 1; omega) _).setCell (by show w.heap.size ≤ w.heap.size + 1 + 1; omega) _
end Go.Proofs.YtkgglhakimkkhaaGreatDoor
namespace Go.Proofs.YtkgglhakimkkhaaGreatDoor
open Go.RowKit

theorem fv0 : fv 0 = 0 := rfl
theorem fv1 : fv 1 = 1 := rfl
set_option maxRecDepth 100000 in
set_option maxHeartbeats 400000 in
theorem xFromBase (c : Fp) (w : World) : Calls Tryz.prog 153 #[.int .u64 (fv c)] w (Ret (ev (eb c)) w) := by
  unfold ev eb
  go_enter Tryz.func153, Tryz.ntmps153
  go_wp2
  refine bodyPost_ret (v := .agg #[.int .u64 (fv c), .int .u64 (fv 0)]) (by simp [results, Tryz.results153, go_sem, fv0]) rfl ⟨rfl, ?_⟩
  exact (Below.refl _ _).alloc (Nat.le_refl _) _
set_option maxRecDepth 100000 in
set_option maxHeartbeats 400000 in
theorem xMulBase (x : E) (c : Fp) (w : World) : Calls Tryz.prog 143 #[ev x, .int .u64 (fv c)] w (Ret (ev (x * eb c)) w) := by
  unfold ev
  go_enter Tryz.func143, Tryz.ntmps143
  go_wp2
  refine wp_stk2 fun W hB hz b1 b2 => ?_
  have c1 := gw_blk b1
  refine wp_region_rg 4 [(2, Spec.val (.agg #[.int .u64 (fv (eb c).a), .int .u64 (fv (eb c).b)])), (3, Spec.val (.agg #[.int .u64 (fv (x * eb c).a), .int .u64 (fv (x * eb c).b)]))] (by kernel_rfl) (by kernel_rfl) (by kernel_rfl) trivial ?_
  iterate 2 (refine rg_det rfl rfl rfl (fun K hK => ?_); go_big_quiet_op; refine hK _ ?_; clear hK K)
  refine rg_val rfl rfl (fun W1 hW1 hF => step_callv en_attestor_attestorref02_FromBase (xFromBase c W1) rfl rfl) ?_
  intro a' ha
  simp only [Act.put, List.setIfInBounds_toArray, List.set_cons_succ, List.set_cons_zero] at ha
  subst ha
  refine rg_val rfl rfl (fun W1 hW1 hF => step_callv en_attestor_attestorref02_Mul (xMul x (eb c) W1) rfl rfl) ?_
  intro a' ha
  simp only [Act.put, List.setIfInBounds_toArray, List.set_cons_succ, List.set_cons_zero] at ha
  subst ha
  refine rg_nil (fun w' hw' hF => ?_)
  obtain ⟨z, rfl⟩ := hw'
  simp only [List.drop_succ_cons, List.drop_zero]
  have e1 := (b2.gw z).cell
  have e2 := (b2.gw z).frozen
  go_wp2
  refine bodyPost_ret (v := .agg #[.int .u64 (fv (x * eb c).a), .int .u64 (fv (x * eb c).b)]) (by simp [results, Tryz.results143, go_sem, e1]) rfl ⟨rfl, ?_⟩
  exact ((hB.trans (z.h.mono hB.size)).setCell (by show w.heap.size ≤ w.heap.size + 1; omega) _).setCell (by show w.heap.size ≤ w.heap.size + 1; omega) _
set_option maxRecDepth 100000 in
set_option maxHeartbeats 400000 in
theorem xFromInt (z : Int) (hz1 : -9223372036854775808 ≤ z) (hz2 : z ≤ 9223372036854775807) (w : World) : Calls Tryz.prog 25 #[.int .i64 z] w (Ret (ev (eb (fz z))) w) := by
  unfold ev eb
  go_enter Tryz.func25, Tryz.ntmps25
  go_wp2_with fail
  refine (rFromInt z hz1 hz2 _).mono ?_
  rintro e w' ⟨rfl, rfl⟩
  go_wp2
  refine bodyPost_ret (v := .agg #[.int .u64 (fv (fz z)), .int .u64 (fv 0)]) (by simp [results, Tryz.results25, go_sem, fv0]) rfl ⟨rfl, ?_⟩
  exact (Below.refl _ _).alloc (Nat.le_refl _) _
set_option maxRecDepth 100000 in
set_option maxHeartbeats 400000 in
theorem xOne (w : World) : Calls Tryz.prog 37 #[] w (Ret (ev 1) w) := by
  unfold ev
  rw [one_a, one_b]
  go_enter Tryz.func37, Tryz.ntmps37
  go_wp2
  refine bodyPost_ret (v := .agg #[.int .u64 (fv 1), .int .u64 (fv 0)]) (by simp [results, Tryz.results37, go_sem, fv0, fv1]) rfl ⟨rfl, ?_⟩
  exact (Below.refl _ _).alloc (Nat.le_refl _) _
def em (a b : Int) : E := ⟨fz a, fz b⟩
set_option maxRecDepth 100000 in
set_option maxHeartbeats 400000 in
theorem xMade (a b : Int) (a0 : 0 ≤ a) (a1 : a < 18446744073709551616) (d0 : 0 ≤ b) (d1 : b < 18446744073709551616) (w : World) : Calls Tryz.prog 18 #[.agg #[.int .u64 a, .int .u64 b]] w (Ret (ev (em a b)) w) := by
  have hr : ∀ x w, 0 ≤ x → x < 18446744073709551616 → Calls Tryz.prog 52 #[.int .u64 x] w fun e w' => e = .returned (.int .u64 (fv (fz x))) ∧ w = w' := fun x w h1 h2 => by rw [fv_fz]; exact rRed x h1 h2 w
  have HR := Lib.hid hr
  clear hr
  unfold ev em
  go_enter Tryz.func18, Tryz.ntmps18
  go_wp2
  refine wp_stk2 fun W hB hz b1 b2 => ?_
  have c1 := gw_blk b1
  refine wp_region_rg 7 [(2, Spec.val (.int .u64 (fv (fz a)))), (5, Spec.val (.int .u64 (fv (fz b))))] (by kernel_rfl) (by kernel_rfl) (by kernel_rfl) trivial ?_
  iterate 2 (refine rg_det rfl rfl rfl (fun K hK => ?_); go_big_quiet_op; refine hK _ ?_; clear hK K)
  refine rg_val rfl rfl (fun W1 hW1 hF => step_callv en_attestor_attestorref01_Reduce (ret_of_same (HR.out a W1 a0 a1)) rfl rfl) ?_
  intro a' ha
  simp only [Act.put, List.setIfInBounds_toArray, List.set_cons_succ, List.set_cons_zero] at ha
  subst ha
  iterate 2 (refine rg_det rfl rfl rfl (fun K hK => ?_); go_big_quiet_op; refine hK _ ?_; clear hK K)
  refine rg_val rfl rfl (fun W1 hW1 hF => step_callv en_attestor_attestorref01_Reduce (ret_of_same (HR.out b W1 d0 d1)) rfl rfl) ?_
  intro a' ha
  simp only [Act.put, List.setIfInBounds_toArray, List.set_cons_succ, List.set_cons_zero] at ha
  subst ha
  refine rg_det rfl rfl rfl (fun K hK => ?_)
  go_big_quiet_op
  refine hK _ ?_; clear hK K
  refine rg_nil (fun w' hw' hF => ?_)
  obtain ⟨z, rfl⟩ := hw'
  simp only [List.drop_succ_cons, List.drop_zero]
  have e1 := (b2.gw z).cell
  have e2 := (b2.gw z).frozen
  go_wp2
  refine bodyPost_ret (v := .agg #[.int .u64 (fv (fz a)), .int .u64 (fv (fz b))]) (by simp [results, Tryz.results18, go_sem, e1]) rfl ⟨rfl, ?_⟩
  exact ((hB.trans (z.h.mono hB.size)).setCell (by show w.heap.size ≤ w.heap.size + 1; omega) _).setCell (by show w.heap.size ≤ w.heap.size + 1; omega) _
set_option maxRecDepth 100000 in
set_option maxHeartbeats 400000 in
theorem mBlend (x y r : E) (w : World) : Calls Tryz.prog 138 #[ev x, ev y, ev r] w (Ret (ev (x + r * (y - x))) w) := by
  unfold ev
  go_enter Tryz.func138, Tryz.ntmps138
  go_wp2
  refine wp_stk4 fun W hB hz b1 b2 b3 b4 => ?_
  have c1 := gw_blk b1
  have c2 := gw_blk b2
  have c3 := gw_blk b3
  refine wp_region_rg 7 [(4, Spec.val (.agg #[.int .u64 (fv (y - x).a), .int .u64 (fv (y - x).b)])), (5, Spec.val (.agg #[.int .u64 (fv (r * (y - x)).a), .int .u64 (fv (r * (y - x)).b)])), (6, Spec.val (.agg #[.int .u64 (fv (x + r * (y - x)).a), .int .u64 (fv (x + r * (y - x)).b)]))] (by kernel_rfl) (by kernel_rfl) (by kernel_rfl) trivial ?_
  iterate 4 (refine rg_det rfl rfl rfl (fun K hK => ?_); go_big_quiet_op; refine hK _ ?_; clear hK K)
  refine rg_val rfl rfl (fun W1 hW1 hF => step_callv en_attestor_ext_Sub (eSub y x W1) rfl rfl) ?_
  intro a' ha
  simp only [Act.put, List.setIfInBounds_toArray, List.set_cons_succ, List.set_cons_zero] at ha
  subst ha
  refine rg_val rfl rfl (fun W1 hW1 hF => step_callv en_attestor_ext_Mul (eMul r (y - x) W1) rfl rfl) ?_
  intro a' ha
  simp only [Act.put, List.setIfInBounds_toArray, List.set_cons_succ, List.set_cons_zero] at ha
  subst ha
  refine rg_val rfl rfl (fun W1 hW1 hF => step_callv en_attestor_ext_Add (eAdd x (r * (y - x)) W1) rfl rfl) ?_
  intro a' ha
  simp only [Act.put, List.setIfInBounds_toArray, List.set_cons_succ, List.set_cons_zero] at ha
  subst ha
  refine rg_nil (fun w' hw' hF => ?_)
  obtain ⟨z, rfl⟩ := hw'
  simp only [List.drop_succ_cons, List.drop_zero]
  have e1 := (b4.gw z).cell
  have e2 := (b4.gw z).frozen
  go_wp2
  refine bodyPost_ret (v := .agg #[.int .u64 (fv (x + r * (y - x)).a), .int .u64 (fv (x + r * (y - x)).b)]) (by simp [results, Tryz.results138, go_sem, e1]) rfl ⟨rfl, ?_⟩
  exact ((hB.trans (z.h.mono hB.size)).setCell (by show w.heap.size ≤ w.heap.size + 1 + 1 + 1; omega) _).setCell (by show w.heap.size ≤ w.heap.size + 1 + 1 + 1; omega) _
end Go.Proofs.YtkgglhakimkkhaaGreatDoor
