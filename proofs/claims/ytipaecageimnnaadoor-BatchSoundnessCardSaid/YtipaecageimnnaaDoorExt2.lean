/-
  The functions of package ext and of its reference that the statements reach, each by its contract: what they return for elements of the extension field, and that nothing that was there has turned.
  More of package ext, its reference and the functions above it that only compute with elements.
-/
import Derived.Test.YtipaecageimnnaaDoorMath
import Derived.Test.YtipaecageimnnaaDoorEn
import Derived.Test.YtipaecageimnnaaDoorRg
import Derived.BigQuiet
namespace Go.Proofs.YtipaecageimnnaaDoor
open Go.RowKit
def ev (x : E) : Value := .agg #[.int .u64 (fv x.a), .int .u64 (fv x.b)]

set_option maxRecDepth 100000 in
set_option maxHeartbeats 400000 in
theorem comp_add (x y : E) (b : Nat) (w : World) (hc : w.cell? ⟨b, 0, none⟩ = some (.func (.func 72) #[] #[])) (hb : b < w.heap.size) :
    Calls Tryd.prog 88 #[ev x, ev y, .pointer (some ⟨b, 0, none⟩)] w (Ret (ev (x + y)) w) := by
  unfold ev
  rw [add_a, add_b]
  go_enter Tryd.func88, Tryd.ntmps88
  go_wp2
  refine wp_stk3 fun W hB hz b1 b2 b3 => ?_
  have c0 := gw_cell (W := W) (Nat.lt_of_lt_of_le hb hB.size) ((hB.cell (p := ⟨b, 0, none⟩) hb).trans hc)
  have c1 := gw_blk b1
  have c2 := gw_blk b2
  refine wp_region_rg 13 [(5, Spec.val (.int .u64 (fv (x.a + y.a)))), (11, Spec.val (.int .u64 (fv (x.b + y.b))))] (by kernel_rfl) (by kernel_rfl) (by kernel_rfl) trivial ?_
  refine rg_det rfl rfl rfl (fun K hK => ?_)
  go_big_quiet_op
  refine hK _ ?_; clear hK K
  refine rg_det rfl rfl rfl (fun K hK => ?_)
  go_big_quiet_op
  refine hK _ ?_; clear hK K
  refine rg_det rfl rfl rfl (fun K hK => ?_)
  go_big_quiet_op
  refine hK _ ?_; clear hK K
  refine rg_det rfl rfl rfl (fun K hK => ?_)
  go_big_quiet_op
  refine hK _ ?_; clear hK K
  refine rg_det rfl rfl rfl (fun K hK => ?_)
  go_big_quiet_op
  refine hK _ ?_; clear hK K
  refine rg_val rfl rfl (fun W1 hW1 hF => step_callvs (first := []) (cap := []) en_attestor_field_Add (ret_of_same (fAdd x.a y.a W1)) rfl rfl rfl rfl) ?_
  intro a' ha
  simp only [Act.put, List.setIfInBounds_toArray, List.set_cons_succ, List.set_cons_zero] at ha
  subst ha
  refine rg_det rfl rfl rfl (fun K hK => ?_)
  go_big_quiet_op
  refine hK _ ?_; clear hK K
  refine rg_det rfl rfl rfl (fun K hK => ?_)
  go_big_quiet_op
  refine hK _ ?_; clear hK K
  refine rg_det rfl rfl rfl (fun K hK => ?_)
  go_big_quiet_op
  refine hK _ ?_; clear hK K
  refine rg_det rfl rfl rfl (fun K hK => ?_)
  go_big_quiet_op
  refine hK _ ?_; clear hK K
  refine rg_det rfl rfl rfl (fun K hK => ?_)
  go_big_quiet_op
  refine hK _ ?_; clear hK K
  refine rg_val rfl rfl (fun W1 hW1 hF => step_callvs (first := []) (cap := []) en_attestor_field_Add (ret_of_same (fAdd x.b y.b W1)) rfl rfl rfl rfl) ?_
  intro a' ha
  simp only [Act.put, List.setIfInBounds_toArray, List.set_cons_succ, List.set_cons_zero] at ha
  subst ha
  refine rg_det rfl rfl rfl (fun K hK => ?_)
  go_big_quiet_op
  refine hK _ ?_; clear hK K
  refine rg_nil (fun w' hw' hF => ?_)
  obtain ⟨z, rfl⟩ := hw'
  simp only [List.drop_succ_cons, List.drop_zero]
  have e1 := (b3.gw z).cell
  have e2 := (b3.gw z).frozen
  go_wp2
  refine bodyPost_ret (v := .agg #[.int .u64 (fv (x.a + y.a)), .int .u64 (fv (x.b + y.b))]) (by simp [results, Tryd.results88, go_sem, e1]) rfl ⟨rfl, ?_⟩
  exact ((hB.trans (z.h.mono hB.size)).setCell (by show w.heap.size ≤ w.heap.size + 1 + 1; omega) _).setCell (by show w.heap.size ≤ w.heap.size + 1 + 1; omega) _
set_option maxRecDepth 100000 in
set_option maxHeartbeats 400000 in
theorem comp_sub (x y : E) (b : Nat) (w : World) (hc : w.cell? ⟨b, 0, none⟩ = some (.func (.func 81) #[] #[])) (hb : b < w.heap.size) :
    Calls Tryd.prog 88 #[ev x, ev y, .pointer (some ⟨b, 0, none⟩)] w (Ret (ev (x - y)) w) := by
  unfold ev
  rw [sub_a, sub_b]
  go_enter Tryd.func88, Tryd.ntmps88
  go_wp2
  refine wp_stk3 fun W hB hz b1 b2 b3 => ?_
  have c0 := gw_cell (W := W) (Nat.lt_of_lt_of_le hb hB.size) ((hB.cell (p := ⟨b, 0, none⟩) hb).trans hc)
  have c1 := gw_blk b1
  have c2 := gw_blk b2
  refine wp_region_rg 13 [(5, Spec.val (.int .u64 (fv (x.a - y.a)))), (11, Spec.val (.int .u64 (fv (x.b - y.b))))] (by kernel_rfl) (by kernel_rfl) (by kernel_rfl) trivial ?_
  refine rg_det rfl rfl rfl (fun K hK => ?_)
  go_big_quiet_op
  refine hK _ ?_; clear hK K
  refine rg_det rfl rfl rfl (fun K hK => ?_)
  go_big_quiet_op
  refine hK _ ?_; clear hK K
  refine rg_det rfl rfl rfl (fun K hK => ?_)
  go_big_quiet_op
  refine hK _ ?_; clear hK K
  refine rg_det rfl rfl rfl (fun K hK => ?_)
  go_big_quiet_op
  refine hK _ ?_; clear hK K
  refine rg_det rfl rfl rfl (fun K hK => ?_)
  go_big_quiet_op
  refine hK _ ?_; clear hK K
  refine rg_val rfl rfl (fun W1 hW1 hF => step_callvs (first := []) (cap := []) en_attestor_field_Sub (ret_of_same (fSub x.a y.a W1)) rfl rfl rfl rfl) ?_
  intro a' ha
  simp only [Act.put, List.setIfInBounds_toArray, List.set_cons_succ, List.set_cons_zero] at ha
  subst ha
  refine rg_det rfl rfl rfl (fun K hK => ?_)
  go_big_quiet_op
  refine hK _ ?_; clear hK K
  refine rg_det rfl rfl rfl (fun K hK => ?_)
  go_big_quiet_op
  refine hK _ ?_; clear hK K
  refine rg_det rfl rfl rfl (fun K hK => ?_)
  go_big_quiet_op
  refine hK _ ?_; clear hK K
  refine rg_det rfl rfl rfl (fun K hK => ?_)
  go_big_quiet_op
  refine hK _ ?_; clear hK K
  refine rg_det rfl rfl rfl (fun K hK => ?_)
  go_big_quiet_op
  refine hK _ ?_; clear hK K
  refine rg_val rfl rfl (fun W1 hW1 hF => step_callvs (first := []) (cap := []) en_attestor_field_Sub (ret_of_same (fSub x.b y.b W1)) rfl rfl rfl rfl) ?_
  intro a' ha
  simp only [Act.put, List.setIfInBounds_toArray, List.set_cons_succ, List.set_cons_zero] at ha
  subst ha
  refine rg_det rfl rfl rfl (fun K hK => ?_)
  go_big_quiet_op
  refine hK _ ?_; clear hK K
  refine rg_nil (fun w' hw' hF => ?_)
  obtain ⟨z, rfl⟩ := hw'
  simp only [List.drop_succ_cons, List.drop_zero]
  have e1 := (b3.gw z).cell
  have e2 := (b3.gw z).frozen
  go_wp2
  refine bodyPost_ret (v := .agg #[.int .u64 (fv (x.a - y.a)), .int .u64 (fv (x.b - y.b))]) (by simp [results, Tryd.results88, go_sem, e1]) rfl ⟨rfl, ?_⟩
  exact ((hB.trans (z.h.mono hB.size)).setCell (by show w.heap.size ≤ w.heap.size + 1 + 1; omega) _).setCell (by show w.heap.size ≤ w.heap.size + 1 + 1; omega) _

/-- The function value that componentwise hands back: it holds the box in which the function of components lies. -/
def Held (g : FuncId) (n m : Nat) (v : Value) (w : World) : Prop := v = .func (.func 88) #[] #[.pointer (some ⟨n, 0, none⟩)] ∧ w.cell? ⟨n, 0, none⟩ = some (.func (.func g) #[] #[]) ∧ n < m
theorem held_stable (g : FuncId) : Stable (Held g) := fun n _ _ _ _ h hb => ⟨h.1, (hb.cell (p := ⟨n, 0, none⟩) h.2.2).trans h.2.1, h.2.2⟩
set_option maxRecDepth 100000 in
set_option maxHeartbeats 400000 in
theorem componentwise_any (g : FuncId) (w : World) : Calls Tryd.prog 71 #[.func (.func g) #[] #[]] w (RetR (Held g) w) := by
  go_enter Tryd.func71, Tryd.ntmps71
  go_wp2
  go_ret
  exact ⟨_, rfl, ⟨rfl, by simp, by simp⟩, (Below.refl _ _).alloc (Nat.le_refl _) _⟩

set_option maxRecDepth 100000 in
set_option maxHeartbeats 400000 in
theorem eAdd (x y : E) (w : World) : Calls Tryd.prog 49 #[ev x, ev y] w (Ret (ev (x + y)) w) := by
  unfold ev
  go_enter Tryd.func49, Tryd.ntmps49
  go_wp2
  refine wp_stk3 fun W hB hz b1 b2 b3 => ?_
  have c1 := gw_blk b1
  have c2 := gw_blk b2
  refine wp_region_rg 4 [(0, Spec.rel (Held 72) AnyV), (3, Spec.val (.agg #[.int .u64 (fv (x + y).a), .int .u64 (fv (x + y).b)]))] (by kernel_rfl) (by kernel_rfl) (by kernel_rfl) ⟨fit_of (held_stable 72), trivial⟩ ?_
  refine rg_rel rfl rfl (fun W1 hW1 hF => step_callr en_attestor_ext_componentwise (componentwise_any 72 W1) rfl rfl) ?_
  intro n0 m0 v0 hn0 hm0 hd0 hf0 a' ha
  simp only [Act.put, List.setIfInBounds_toArray, List.set_cons_succ, List.set_cons_zero] at ha
  subst ha
  refine rg_det rfl rfl rfl (fun K hK => ?_)
  go_big_quiet_op
  refine hK _ ?_; clear hK K
  refine rg_det rfl rfl rfl (fun K hK => ?_)
  go_big_quiet_op
  refine hK _ ?_; clear hK K
  refine rg_val rfl rfl (fun W1 hW1 hF => (by obtain ⟨_, q1, q2, q3⟩ := pick_last hF (by kernel_rfl); exact step_callvs (first := []) (cap := [.pointer (some ⟨n0, 0, none⟩)]) en_attestor_ext_componentwise_1 (comp_add x y n0 W1 q2 (by omega)) rfl q1 rfl rfl)) ?_
  intro a' ha
  simp only [Act.put, List.setIfInBounds_toArray, List.set_cons_succ, List.set_cons_zero] at ha
  subst ha
  refine rg_nil (fun w' hw' hF => ?_)
  obtain ⟨z, rfl⟩ := hw'
  simp only [List.drop_succ_cons, List.drop_zero]
  have e1 := (b3.gw z).cell
  have e2 := (b3.gw z).frozen
  go_wp2
  refine bodyPost_ret (v := .agg #[.int .u64 (fv (x + y).a), .int .u64 (fv (x + y).b)]) (by simp [results, Tryd.results49, go_sem, e1]) rfl ⟨rfl, ?_⟩
  exact ((hB.trans (z.h.mono hB.size)).setCell (by show w.heap.size ≤ w.heap.size + 1 + 1; omega) _).setCell (by show w.heap.size ≤ w.heap.size + 1 + 1; omega) _
set_option maxRecDepth 100000 in
set_option maxHeartbeats 400000 in
theorem eSub (x y : E) (w : World) : Calls Tryd.prog 70 #[ev x, ev y] w (Ret (ev (x - y)) w) := by
  unfold ev
  go_enter Tryd.func70, Tryd.ntmps70
  go_wp2
  refine wp_stk3 fun W hB hz b1 b2 b3 => ?_
  have c1 := gw_blk b1
  have c2 := gw_blk b2
  refine wp_region_rg 4 [(0, Spec.rel (Held 81) AnyV), (3, Spec.val (.agg #[.int .u64 (fv (x - y).a), .int .u64 (fv (x - y).b)]))] (by kernel_rfl) (by kernel_rfl) (by kernel_rfl) ⟨fit_of (held_stable 81), trivial⟩ ?_
  refine rg_rel rfl rfl (fun W1 hW1 hF => step_callr en_attestor_ext_componentwise (componentwise_any 81 W1) rfl rfl) ?_
  intro n0 m0 v0 hn0 hm0 hd0 hf0 a' ha
  simp only [Act.put, List.setIfInBounds_toArray, List.set_cons_succ, List.set_cons_zero] at ha
  subst ha
  refine rg_det rfl rfl rfl (fun K hK => ?_)
  go_big_quiet_op
  refine hK _ ?_; clear hK K
  refine rg_det rfl rfl rfl (fun K hK => ?_)
  go_big_quiet_op
  refine hK _ ?_; clear hK K
  refine rg_val rfl rfl (fun W1 hW1 hF => (by obtain ⟨_, q1, q2, q3⟩ := pick_last hF (by kernel_rfl); exact step_callvs (first := []) (cap := [.pointer (some ⟨n0, 0, none⟩)]) en_attestor_ext_componentwise_1 (comp_sub x y n0 W1 q2 (by omega)) rfl q1 rfl rfl)) ?_
  intro a' ha
  simp only [Act.put, List.setIfInBounds_toArray, List.set_cons_succ, List.set_cons_zero] at ha
  subst ha
  refine rg_nil (fun w' hw' hF => ?_)
  obtain ⟨z, rfl⟩ := hw'
  simp only [List.drop_succ_cons, List.drop_zero]
  have e1 := (b3.gw z).cell
  have e2 := (b3.gw z).frozen
  go_wp2
  refine bodyPost_ret (v := .agg #[.int .u64 (fv (x - y).a), .int .u64 (fv (x - y).b)]) (by simp [results, Tryd.results70, go_sem, e1]) rfl ⟨rfl, ?_⟩
  exact ((hB.trans (z.h.mono hB.size)).setCell (by show w.heap.size ≤ w.heap.size + 1 + 1; omega) _).setCell (by show w.heap.size ≤ w.heap.size + 1 + 1; omega) _

/-! ### The product -/
theorem mul_b' (x y : E) : (x * y).b = (x.a + x.b) * (y.a + y.b) - x.a * y.a - x.b * y.b := by rw [mul_b]; grind
theorem seven : (7 : Int) = fv 7 := rfl
set_option maxRecDepth 100000 in
set_option maxHeartbeats 400000 in
theorem eTimes (x y : E) (w : World) : Calls Tryd.prog 57 #[ev x, ev y] w (Ret (ev (x * y)) w) := by
  unfold ev
  rw [mul_a, mul_b']
  go_enter Tryd.func57, Tryd.ntmps57
  go_wp2
  refine wp_stk3 fun W hB hz b1 b2 b3 => ?_
  have c1 := gw_blk b1
  have c2 := gw_blk b2
  refine wp_region_rg 10 [(4, Spec.val (.int .u64 (fv (x.a * y.a)))), (9, Spec.val (.int .u64 (fv (x.b * y.b))))] (by kernel_rfl) (by kernel_rfl) (by kernel_rfl) trivial ?_
  refine rg_det rfl rfl rfl (fun K hK => ?_)
  go_big_quiet_op
  refine hK _ ?_; clear hK K
  refine rg_det rfl rfl rfl (fun K hK => ?_)
  go_big_quiet_op
  refine hK _ ?_; clear hK K
  refine rg_det rfl rfl rfl (fun K hK => ?_)
  go_big_quiet_op
  refine hK _ ?_; clear hK K
  refine rg_det rfl rfl rfl (fun K hK => ?_)
  go_big_quiet_op
  refine hK _ ?_; clear hK K
  refine rg_val rfl rfl (fun W1 hW1 hF => step_callv en_attestor_field_Mul (ret_of_same (fMul x.a y.a W1)) rfl rfl) ?_
  intro a' ha
  simp only [Act.put, List.setIfInBounds_toArray, List.set_cons_succ, List.set_cons_zero] at ha
  subst ha
  refine rg_det rfl rfl rfl (fun K hK => ?_)
  go_big_quiet_op
  refine hK _ ?_; clear hK K
  refine rg_det rfl rfl rfl (fun K hK => ?_)
  go_big_quiet_op
  refine hK _ ?_; clear hK K
  refine rg_det rfl rfl rfl (fun K hK => ?_)
  go_big_quiet_op
  refine hK _ ?_; clear hK K
  refine rg_det rfl rfl rfl (fun K hK => ?_)
  go_big_quiet_op
  refine hK _ ?_; clear hK K
  refine rg_val rfl rfl (fun W1 hW1 hF => step_callv en_attestor_field_Mul (ret_of_same (fMul x.b y.b W1)) rfl rfl) ?_
  intro a' ha
  simp only [Act.put, List.setIfInBounds_toArray, List.set_cons_succ, List.set_cons_zero] at ha
  subst ha
  refine rg_nil (fun w' hw' hF => ?_)
  obtain ⟨z, rfl⟩ := hw'
  simp only [List.drop_succ_cons, List.drop_zero]
  go_wp2
  have c3 := gw_blk (b1.gw z)
  have c4 := gw_blk (b2.gw z)
  clear c1 c2 hF
  refine wp_region_rg 11 [(4, Spec.val (.int .u64 (fv (x.a + x.b)))), (9, Spec.val (.int .u64 (fv (y.a + y.b)))), (10, Spec.val (.int .u64 (fv ((x.a + x.b) * (y.a + y.b)))))] (by kernel_rfl) (by kernel_rfl) (by kernel_rfl) trivial ?_
  refine rg_det rfl rfl rfl (fun K hK => ?_)
  go_big_quiet_op
  refine hK _ ?_; clear hK K
  refine rg_det rfl rfl rfl (fun K hK => ?_)
  go_big_quiet_op
  refine hK _ ?_; clear hK K
  refine rg_det rfl rfl rfl (fun K hK => ?_)
  go_big_quiet_op
  refine hK _ ?_; clear hK K
  refine rg_det rfl rfl rfl (fun K hK => ?_)
  go_big_quiet_op
  refine hK _ ?_; clear hK K
  refine rg_val rfl rfl (fun W1 hW1 hF => step_callv en_attestor_field_Add (ret_of_same (fAdd x.a x.b W1)) rfl rfl) ?_
  intro a' ha
  simp only [Act.put, List.setIfInBounds_toArray, List.set_cons_succ, List.set_cons_zero] at ha
  subst ha
  refine rg_det rfl rfl rfl (fun K hK => ?_)
  go_big_quiet_op
  refine hK _ ?_; clear hK K
  refine rg_det rfl rfl rfl (fun K hK => ?_)
  go_big_quiet_op
  refine hK _ ?_; clear hK K
  refine rg_det rfl rfl rfl (fun K hK => ?_)
  go_big_quiet_op
  refine hK _ ?_; clear hK K
  refine rg_det rfl rfl rfl (fun K hK => ?_)
  go_big_quiet_op
  refine hK _ ?_; clear hK K
  refine rg_val rfl rfl (fun W1 hW1 hF => step_callv en_attestor_field_Add (ret_of_same (fAdd y.a y.b W1)) rfl rfl) ?_
  intro a' ha
  simp only [Act.put, List.setIfInBounds_toArray, List.set_cons_succ, List.set_cons_zero] at ha
  subst ha
  refine rg_val rfl rfl (fun W1 hW1 hF => step_callv en_attestor_field_Mul (ret_of_same (fMul (x.a + x.b) (y.a + y.b) W1)) rfl rfl) ?_
  intro a' ha
  simp only [Act.put, List.setIfInBounds_toArray, List.set_cons_succ, List.set_cons_zero] at ha
  subst ha
  refine rg_nil (fun w' hw' hF => ?_)
  obtain ⟨z2, rfl⟩ := hw'
  simp only [List.drop_succ_cons, List.drop_zero]
  go_wp2_with fail
  rw [seven]
  refine (fMul 7 (x.b * y.b) _).mono ?_
  rintro e w' ⟨rfl, rfl⟩
  go_wp2_with fail
  refine (fAdd (x.a * y.a) (7 * (x.b * y.b)) _).mono ?_
  rintro e w' ⟨rfl, rfl⟩
  go_wp2_with fail
  refine (fSub ((x.a + x.b) * (y.a + y.b)) (x.a * y.a) _).mono ?_
  rintro e w' ⟨rfl, rfl⟩
  go_wp2_with fail
  refine (fSub ((x.a + x.b) * (y.a + y.b) - x.a * y.a) (x.b * y.b) _).mono ?_
  rintro e w' ⟨rfl, rfl⟩
  have e1 := ((b3.gw z).gw z2).cell
  have e2 := ((b3.gw z).gw z2).frozen
  go_wp2
  refine bodyPost_ret (v := .agg #[.int .u64 (fv (x.a * y.a + 7 * (x.b * y.b))), .int .u64 (fv ((x.a + x.b) * (y.a + y.b) - x.a * y.a - x.b * y.b))]) (by simp [results, Tryd.results57, go_sem, e1]) rfl ⟨rfl, ?_⟩
  have hB2 := hB.trans (z.h.mono hB.size)
  exact ((hB2.trans (z2.h.mono hB2.size)).setCell (by show w.heap.size ≤ w.heap.size + 1 + 1; omega) _).setCell (by show w.heap.size ≤ w.heap.size + 1 + 1; omega) _
set_option maxRecDepth 100000 in
set_option maxHeartbeats 400000 in
theorem eMul (x y : E) (w : World) : Calls Tryd.prog 34 #[ev x, ev y] w (Ret (ev (x * y)) w) := by
  unfold ev
  go_enter Tryd.func34, Tryd.ntmps34
  go_wp2_with fail
  refine calls_stk3 fun W hB hz b1 b2 b3 => ?_
  refine (eTimes x y _).mono ?_
  rintro e w' ⟨he, hb⟩
  unfold ev at he
  subst he
  have e1 := (b3.below hb b3.lt).cell
  have e2 := (b3.below hb b3.lt).frozen
  go_wp2
  refine bodyPost_ret (v := .agg #[.int .u64 (fv (x * y).a), .int .u64 (fv (x * y).b)]) (by simp [results, Tryd.results34, go_sem, e1]) rfl ⟨rfl, ?_⟩
  exact ((hB.trans (hb.mono hB.size)).setCell (by show w.heap.size ≤ w.heap.size + 1 + 1; omega) _).setCell (by show w.heap.size ≤ w.heap.size + 1 + 1; omega) _

set_option maxRecDepth 100000 in
set_option maxHeartbeats 400000 in
theorem eMulBase (x : E) (c : Fp) (w : World) : Calls Tryd.prog 106 #[ev x, .int .u64 (fv c)] w (Ret (ev (x * eb c)) w) := by
  rw [mul_eb]
  unfold ev
  go_enter Tryd.func106, Tryd.ntmps106
  go_wp2
  refine wp_stk2 fun W hB hz b1 b2 => ?_
  have c1 := gw_blk b1
  refine wp_region_rg 9 [(3, Spec.val (.int .u64 (fv (x.a * c)))), (7, Spec.val (.int .u64 (fv (x.b * c))))] (by kernel_rfl) (by kernel_rfl) (by kernel_rfl) trivial ?_
  refine rg_det rfl rfl rfl (fun K hK => ?_)
  go_big_quiet_op
  refine hK _ ?_; clear hK K
  refine rg_det rfl rfl rfl (fun K hK => ?_)
  go_big_quiet_op
  refine hK _ ?_; clear hK K
  refine rg_det rfl rfl rfl (fun K hK => ?_)
  go_big_quiet_op
  refine hK _ ?_; clear hK K
  refine rg_val rfl rfl (fun W1 hW1 hF => step_callv en_attestor_field_Mul (ret_of_same (fMul x.a c W1)) rfl rfl) ?_
  intro a' ha
  simp only [Act.put, List.setIfInBounds_toArray, List.set_cons_succ, List.set_cons_zero] at ha
  subst ha
  refine rg_det rfl rfl rfl (fun K hK => ?_)
  go_big_quiet_op
  refine hK _ ?_; clear hK K
  refine rg_det rfl rfl rfl (fun K hK => ?_)
  go_big_quiet_op
  refine hK _ ?_; clear hK K
  refine rg_det rfl rfl rfl (fun K hK => ?_)
  go_big_quiet_op
  refine hK _ ?_; clear hK K
  refine rg_val rfl rfl (fun W1 hW1 hF => step_callv en_attestor_field_Mul (ret_of_same (fMul x.b c W1)) rfl rfl) ?_
  intro a' ha
  simp only [Act.put, List.setIfInBounds_toArray, List.set_cons_succ, List.set_cons_zero] at ha
  subst ha
  refine rg_det rfl rfl rfl (fun K hK => ?_)
  go_big_quiet_op
  refine hK _ ?_; clear hK K
  refine rg_nil (fun w' hw' hF => ?_)
  obtain ⟨z, rfl⟩ := hw'
  simp only [List.drop_succ_cons, List.drop_zero]
  have e1 := (b2.gw z).cell
  have e2 := (b2.gw z).frozen
  go_wp2
  refine bodyPost_ret (v := .agg #[.int .u64 (fv (x.a * c)), .int .u64 (fv (x.b * c))]) (by simp [results, Tryd.results106, go_sem, e1]) rfl ⟨rfl, ?_⟩
  exact ((hB.trans (z.h.mono hB.size)).setCell (by show w.heap.size ≤ w.heap.size + 1; omega) _).setCell (by show w.heap.size ≤ w.heap.size + 1; omega) _
/-! ### The reference -/
set_option maxRecDepth 100000 in
set_option maxHeartbeats 400000 in
theorem xAdd (x y : E) (w : World) : Calls Tryd.prog 22 #[ev x, ev y] w (Ret (ev (x + y)) w) := by
  unfold ev
  rw [add_a, add_b]
  go_enter Tryd.func22, Tryd.ntmps22
  go_wp2
  refine wp_stk3 fun W hB hz b1 b2 b3 => ?_
  have c1 := gw_blk b1
  have c2 := gw_blk b2
  refine wp_region_rg 11 [(4, Spec.val (.int .u64 (fv (x.a + y.a)))), (9, Spec.val (.int .u64 (fv (x.b + y.b))))] (by kernel_rfl) (by kernel_rfl) (by kernel_rfl) trivial ?_
  refine rg_det rfl rfl rfl (fun K hK => ?_)
  go_big_quiet_op
  refine hK _ ?_; clear hK K
  refine rg_det rfl rfl rfl (fun K hK => ?_)
  go_big_quiet_op
  refine hK _ ?_; clear hK K
  refine rg_det rfl rfl rfl (fun K hK => ?_)
  go_big_quiet_op
  refine hK _ ?_; clear hK K
  refine rg_det rfl rfl rfl (fun K hK => ?_)
  go_big_quiet_op
  refine hK _ ?_; clear hK K
  refine rg_val rfl rfl (fun W1 hW1 hF => step_callv en_attestor_attestorref01_Add (ret_of_same (rAdd x.a y.a W1)) rfl rfl) ?_
  intro a' ha
  simp only [Act.put, List.setIfInBounds_toArray, List.set_cons_succ, List.set_cons_zero] at ha
  subst ha
  refine rg_det rfl rfl rfl (fun K hK => ?_)
  go_big_quiet_op
  refine hK _ ?_; clear hK K
  refine rg_det rfl rfl rfl (fun K hK => ?_)
  go_big_quiet_op
  refine hK _ ?_; clear hK K
  refine rg_det rfl rfl rfl (fun K hK => ?_)
  go_big_quiet_op
  refine hK _ ?_; clear hK K
  refine rg_det rfl rfl rfl (fun K hK => ?_)
  go_big_quiet_op
  refine hK _ ?_; clear hK K
  refine rg_val rfl rfl (fun W1 hW1 hF => step_callv en_attestor_attestorref01_Add (ret_of_same (rAdd x.b y.b W1)) rfl rfl) ?_
  intro a' ha
  simp only [Act.put, List.setIfInBounds_toArray, List.set_cons_succ, List.set_cons_zero] at ha
  subst ha
  refine rg_det rfl rfl rfl (fun K hK => ?_)
  go_big_quiet_op
  refine hK _ ?_; clear hK K
  refine rg_nil (fun w' hw' hF => ?_)
  obtain ⟨z, rfl⟩ := hw'
  simp only [List.drop_succ_cons, List.drop_zero]
  have e1 := (b3.gw z).cell
  have e2 := (b3.gw z).frozen
  go_wp2
  refine bodyPost_ret (v := .agg #[.int .u64 (fv (x.a + y.a)), .int .u64 (fv (x.b + y.b))]) (by simp [results, Tryd.results22, go_sem, e1]) rfl ⟨rfl, ?_⟩
  exact ((hB.trans (z.h.mono hB.size)).setCell (by show w.heap.size ≤ w.heap.size + 1 + 1; omega) _).setCell (by show w.heap.size ≤ w.heap.size + 1 + 1; omega) _
theorem neg_a (x : E) : (-x).a = -x.a := rfl
theorem neg_b (x : E) : (-x).b = -x.b := rfl
set_option maxRecDepth 100000 in
set_option maxHeartbeats 400000 in
theorem xNeg (x : E) (w : World) : Calls Tryd.prog 38 #[ev x] w (Ret (ev (-x)) w) := by
  unfold ev
  rw [neg_a, neg_b]
  go_enter Tryd.func38, Tryd.ntmps38
  go_wp2
  refine wp_stk2 fun W hB hz b1 b2 => ?_
  have c1 := gw_blk b1
  refine wp_region_rg 7 [(2, Spec.val (.int .u64 (fv (-x.a)))), (5, Spec.val (.int .u64 (fv (-x.b))))] (by kernel_rfl) (by kernel_rfl) (by kernel_rfl) trivial ?_
  refine rg_det rfl rfl rfl (fun K hK => ?_)
  go_big_quiet_op
  refine hK _ ?_; clear hK K
  refine rg_det rfl rfl rfl (fun K hK => ?_)
  go_big_quiet_op
  refine hK _ ?_; clear hK K
  refine rg_val rfl rfl (fun W1 hW1 hF => step_callv en_attestor_attestorref01_Neg (ret_of_same (rNeg x.a W1)) rfl rfl) ?_
  intro a' ha
  simp only [Act.put, List.setIfInBounds_toArray, List.set_cons_succ, List.set_cons_zero] at ha
  subst ha
  refine rg_det rfl rfl rfl (fun K hK => ?_)
  go_big_quiet_op
  refine hK _ ?_; clear hK K
  refine rg_det rfl rfl rfl (fun K hK => ?_)
  go_big_quiet_op
  refine hK _ ?_; clear hK K
  refine rg_val rfl rfl (fun W1 hW1 hF => step_callv en_attestor_attestorref01_Neg (ret_of_same (rNeg x.b W1)) rfl rfl) ?_
  intro a' ha
  simp only [Act.put, List.setIfInBounds_toArray, List.set_cons_succ, List.set_cons_zero] at ha
  subst ha
  refine rg_det rfl rfl rfl (fun K hK => ?_)
  go_big_quiet_op
  refine hK _ ?_; clear hK K
  refine rg_nil (fun w' hw' hF => ?_)
  obtain ⟨z, rfl⟩ := hw'
  simp only [List.drop_succ_cons, List.drop_zero]
  have e1 := (b2.gw z).cell
  have e2 := (b2.gw z).frozen
  go_wp2
  refine bodyPost_ret (v := .agg #[.int .u64 (fv (-x.a)), .int .u64 (fv (-x.b))]) (by simp [results, Tryd.results38, go_sem, e1]) rfl ⟨rfl, ?_⟩
  exact ((hB.trans (z.h.mono hB.size)).setCell (by show w.heap.size ≤ w.heap.size + 1; omega) _).setCell (by show w.heap.size ≤ w.heap.size + 1; omega) _
theorem sub_eq (x y : E) : x - y = x + -y := by apply E.ext_ <;> simp only [sub_a, sub_b, add_a, add_b, neg_a, neg_b] <;> grind
set_option maxRecDepth 100000 in
set_option maxHeartbeats 400000 in
theorem xSub (x y : E) (w : World) : Calls Tryd.prog 16 #[ev x, ev y] w (Ret (ev (x - y)) w) := by
  rw [sub_eq]
  unfold ev
  go_enter Tryd.func16, Tryd.ntmps16
  go_wp2
  refine wp_stk3 fun W hB hz b1 b2 b3 => ?_
  have c1 := gw_blk b1
  have c2 := gw_blk b2
  refine wp_region_rg 4 [(2, Spec.val (.agg #[.int .u64 (fv (-y).a), .int .u64 (fv (-y).b)])), (3, Spec.val (.agg #[.int .u64 (fv (x + -y).a), .int .u64 (fv (x + -y).b)]))] (by kernel_rfl) (by kernel_rfl) (by kernel_rfl) trivial ?_
  refine rg_det rfl rfl rfl (fun K hK => ?_)
  go_big_quiet_op
  refine hK _ ?_; clear hK K
  refine rg_det rfl rfl rfl (fun K hK => ?_)
  go_big_quiet_op
  refine hK _ ?_; clear hK K
  refine rg_val rfl rfl (fun W1 hW1 hF => step_callv en_attestor_attestorref02_Neg (xNeg y W1) rfl rfl) ?_
  intro a' ha
  simp only [Act.put, List.setIfInBounds_toArray, List.set_cons_succ, List.set_cons_zero] at ha
  subst ha
  refine rg_val rfl rfl (fun W1 hW1 hF => step_callv en_attestor_attestorref02_Add (xAdd x (-y) W1) rfl rfl) ?_
  intro a' ha
  simp only [Act.put, List.setIfInBounds_toArray, List.set_cons_succ, List.set_cons_zero] at ha
  subst ha
  refine rg_nil (fun w' hw' hF => ?_)
  obtain ⟨z, rfl⟩ := hw'
  simp only [List.drop_succ_cons, List.drop_zero]
  have e1 := (b3.gw z).cell
  have e2 := (b3.gw z).frozen
  go_wp2
  refine bodyPost_ret (v := .agg #[.int .u64 (fv (x + -y).a), .int .u64 (fv (x + -y).b)]) (by simp [results, Tryd.results16, go_sem, e1]) rfl ⟨rfl, ?_⟩
  exact ((hB.trans (z.h.mono hB.size)).setCell (by show w.heap.size ≤ w.heap.size + 1 + 1; omega) _).setCell (by show w.heap.size ≤ w.heap.size + 1 + 1; omega) _
set_option maxRecDepth 100000 in
set_option maxHeartbeats 1000000 in
theorem xMul (x y : E) (w : World) : Calls Tryd.prog 23 #[ev x, ev y] w (Ret (ev (x * y)) w) := by
  unfold ev
  rw [mul_a, mul_b]
  go_enter Tryd.func23, Tryd.ntmps23
  go_wp2
  refine wp_stk3 fun W hB hz b1 b2 b3 => ?_
  have c1 := gw_blk b1
  have c2 := gw_blk b2
  refine wp_region_rg 24 [(4, Spec.val (.int .u64 (fv (x.a * y.a)))), (9, Spec.val (.int .u64 (fv (x.b * y.b)))), (10, Spec.val (.int .u64 (fv (7 * (x.b * y.b))))), (11, Spec.val (.int .u64 (fv (x.a * y.a + 7 * (x.b * y.b))))), (16, Spec.val (.int .u64 (fv (x.a * y.b)))), (21, Spec.val (.int .u64 (fv (x.b * y.a)))), (22, Spec.val (.int .u64 (fv (x.a * y.b + x.b * y.a))))] (by kernel_rfl) (by kernel_rfl) (by kernel_rfl) trivial ?_
  refine rg_det rfl rfl rfl (fun K hK => ?_)
  go_big_quiet_op
  refine hK _ ?_; clear hK K
  refine rg_det rfl rfl rfl (fun K hK => ?_)
  go_big_quiet_op
  refine hK _ ?_; clear hK K
  refine rg_det rfl rfl rfl (fun K hK => ?_)
  go_big_quiet_op
  refine hK _ ?_; clear hK K
  refine rg_det rfl rfl rfl (fun K hK => ?_)
  go_big_quiet_op
  refine hK _ ?_; clear hK K
  refine rg_val rfl rfl (fun W1 hW1 hF => step_callv en_attestor_attestorref01_Mul (ret_of_same (rMul x.a y.a W1)) rfl rfl) ?_
  intro a' ha
  simp only [Act.put, List.setIfInBounds_toArray, List.set_cons_succ, List.set_cons_zero] at ha
  subst ha
  refine rg_det rfl rfl rfl (fun K hK => ?_)
  go_big_quiet_op
  refine hK _ ?_; clear hK K
  refine rg_det rfl rfl rfl (fun K hK => ?_)
  go_big_quiet_op
  refine hK _ ?_; clear hK K
  refine rg_det rfl rfl rfl (fun K hK => ?_)
  go_big_quiet_op
  refine hK _ ?_; clear hK K
  refine rg_det rfl rfl rfl (fun K hK => ?_)
  go_big_quiet_op
  refine hK _ ?_; clear hK K
  refine rg_val rfl rfl (fun W1 hW1 hF => step_callv en_attestor_attestorref01_Mul (ret_of_same (rMul x.b y.b W1)) rfl rfl) ?_
  intro a' ha
  simp only [Act.put, List.setIfInBounds_toArray, List.set_cons_succ, List.set_cons_zero] at ha
  subst ha
  refine rg_val rfl rfl (fun W1 hW1 hF => step_callv en_attestor_attestorref01_Mul (ret_of_same (rMul 7 (x.b * y.b) W1)) rfl rfl) ?_
  intro a' ha
  simp only [Act.put, List.setIfInBounds_toArray, List.set_cons_succ, List.set_cons_zero] at ha
  subst ha
  refine rg_val rfl rfl (fun W1 hW1 hF => step_callv en_attestor_attestorref01_Add (ret_of_same (rAdd (x.a * y.a) (7 * (x.b * y.b)) W1)) rfl rfl) ?_
  intro a' ha
  simp only [Act.put, List.setIfInBounds_toArray, List.set_cons_succ, List.set_cons_zero] at ha
  subst ha
  refine rg_det rfl rfl rfl (fun K hK => ?_)
  go_big_quiet_op
  refine hK _ ?_; clear hK K
  refine rg_det rfl rfl rfl (fun K hK => ?_)
  go_big_quiet_op
  refine hK _ ?_; clear hK K
  refine rg_det rfl rfl rfl (fun K hK => ?_)
  go_big_quiet_op
  refine hK _ ?_; clear hK K
  refine rg_det rfl rfl rfl (fun K hK => ?_)
  go_big_quiet_op
  refine hK _ ?_; clear hK K
  refine rg_val rfl rfl (fun W1 hW1 hF => step_callv en_attestor_attestorref01_Mul (ret_of_same (rMul x.a y.b W1)) rfl rfl) ?_
  intro a' ha
  simp only [Act.put, List.setIfInBounds_toArray, List.set_cons_succ, List.set_cons_zero] at ha
  subst ha
  refine rg_det rfl rfl rfl (fun K hK => ?_)
  go_big_quiet_op
  refine hK _ ?_; clear hK K
  refine rg_det rfl rfl rfl (fun K hK => ?_)
  go_big_quiet_op
  refine hK _ ?_; clear hK K
  refine rg_det rfl rfl rfl (fun K hK => ?_)
  go_big_quiet_op
  refine hK _ ?_; clear hK K
  refine rg_det rfl rfl rfl (fun K hK => ?_)
  go_big_quiet_op
  refine hK _ ?_; clear hK K
  refine rg_val rfl rfl (fun W1 hW1 hF => step_callv en_attestor_attestorref01_Mul (ret_of_same (rMul x.b y.a W1)) rfl rfl) ?_
  intro a' ha
  simp only [Act.put, List.setIfInBounds_toArray, List.set_cons_succ, List.set_cons_zero] at ha
  subst ha
  refine rg_val rfl rfl (fun W1 hW1 hF => step_callv en_attestor_attestorref01_Add (ret_of_same (rAdd (x.a * y.b) (x.b * y.a) W1)) rfl rfl) ?_
  intro a' ha
  simp only [Act.put, List.setIfInBounds_toArray, List.set_cons_succ, List.set_cons_zero] at ha
  subst ha
  refine rg_det rfl rfl rfl (fun K hK => ?_)
  go_big_quiet_op
  refine hK _ ?_; clear hK K
  refine rg_nil (fun w' hw' hF => ?_)
  obtain ⟨z, rfl⟩ := hw'
  simp only [List.drop_succ_cons, List.drop_zero]
  have e1 := (b3.gw z).cell
  have e2 := (b3.gw z).frozen
  go_wp2
  refine bodyPost_ret (v := .agg #[.int .u64 (fv (x.a * y.a + 7 * (x.b * y.b))), .int .u64 (fv (x.a * y.b + x.b * y.a))]) (by simp [results, Tryd.results23, go_sem, e1]) rfl ⟨rfl, ?_⟩
  exact ((hB.trans (z.h.mono hB.size)).setCell (by show w.heap.size ≤ w.heap.size + 1 + 1; omega) _).setCell (by show w.heap.size ≤ w.heap.size + 1 + 1; omega) _
end Go.Proofs.YtipaecageimnnaaDoor
namespace Go.Proofs.YtipaecageimnnaaDoor
open Go.RowKit

theorem fv0 : fv 0 = 0 := rfl
theorem fv1 : fv 1 = 1 := rfl
set_option maxRecDepth 100000 in
set_option maxHeartbeats 400000 in
theorem xFromBase (c : Fp) (w : World) : Calls Tryd.prog 101 #[.int .u64 (fv c)] w (Ret (ev (eb c)) w) := by
  unfold ev eb
  go_enter Tryd.func101, Tryd.ntmps101
  go_wp2
  refine bodyPost_ret (v := .agg #[.int .u64 (fv c), .int .u64 (fv 0)]) (by simp [results, Tryd.results101, go_sem, fv0]) rfl ⟨rfl, ?_⟩
  exact (Below.refl _ _).alloc (Nat.le_refl _) _
set_option maxRecDepth 100000 in
set_option maxHeartbeats 400000 in
theorem xMulBase (x : E) (c : Fp) (w : World) : Calls Tryd.prog 86 #[ev x, .int .u64 (fv c)] w (Ret (ev (x * eb c)) w) := by
  unfold ev
  go_enter Tryd.func86, Tryd.ntmps86
  go_wp2
  refine wp_stk2 fun W hB hz b1 b2 => ?_
  have c1 := gw_blk b1
  refine wp_region_rg 4 [(2, Spec.val (.agg #[.int .u64 (fv (eb c).a), .int .u64 (fv (eb c).b)])), (3, Spec.val (.agg #[.int .u64 (fv (x * eb c).a), .int .u64 (fv (x * eb c).b)]))] (by kernel_rfl) (by kernel_rfl) (by kernel_rfl) trivial ?_
  refine rg_det rfl rfl rfl (fun K hK => ?_)
  go_big_quiet_op
  refine hK _ ?_; clear hK K
  refine rg_det rfl rfl rfl (fun K hK => ?_)
  go_big_quiet_op
  refine hK _ ?_; clear hK K
  refine rg_val rfl rfl (fun W1 hW1 hF => step_callv en_attestor_attestorref02_FromBase (xFromBase c W1) rfl rfl) ?_
  intro a' ha
  simp only [Act.put, List.setIfInBounds_toArray, List.set_cons_succ, List.set_cons_zero] at ha
  subst ha
  refine rg_val rfl rfl (fun W1 hW1 hF => step_callv en_attestor_attestorref02_Mul (xMul x (eb c) W1) rfl rfl) ?_
  intro a' ha
  simp only [Act.put, List.setIfInBounds_toArray, List.set_cons_succ, List.set_cons_zero] at ha
  subst ha
  refine rg_nil (fun w' hw' hF => ?_)
  obtain ⟨z, rfl⟩ := hw'
  simp only [List.drop_succ_cons, List.drop_zero]
  have e1 := (b2.gw z).cell
  have e2 := (b2.gw z).frozen
  go_wp2
  refine bodyPost_ret (v := .agg #[.int .u64 (fv (x * eb c).a), .int .u64 (fv (x * eb c).b)]) (by simp [results, Tryd.results86, go_sem, e1]) rfl ⟨rfl, ?_⟩
  exact ((hB.trans (z.h.mono hB.size)).setCell (by show w.heap.size ≤ w.heap.size + 1; omega) _).setCell (by show w.heap.size ≤ w.heap.size + 1; omega) _
set_option maxRecDepth 100000 in
set_option maxHeartbeats 400000 in
theorem xFromInt (z : Int) (hz1 : -9223372036854775808 ≤ z) (hz2 : z ≤ 9223372036854775807) (w : World) : Calls Tryd.prog 27 #[.int .i64 z] w (Ret (ev (eb (fz z))) w) := by
  unfold ev eb
  go_enter Tryd.func27, Tryd.ntmps27
  go_wp2_with fail
  refine (rFromInt z hz1 hz2 _).mono ?_
  rintro e w' ⟨rfl, rfl⟩
  go_wp2
  refine bodyPost_ret (v := .agg #[.int .u64 (fv (fz z)), .int .u64 (fv 0)]) (by simp [results, Tryd.results27, go_sem, fv0]) rfl ⟨rfl, ?_⟩
  exact (Below.refl _ _).alloc (Nat.le_refl _) _
set_option maxRecDepth 100000 in
set_option maxHeartbeats 400000 in
theorem xOne (w : World) : Calls Tryd.prog 82 #[] w (Ret (ev 1) w) := by
  unfold ev
  rw [one_a, one_b]
  go_enter Tryd.func82, Tryd.ntmps82
  go_wp2
  refine bodyPost_ret (v := .agg #[.int .u64 (fv 1), .int .u64 (fv 0)]) (by simp [results, Tryd.results82, go_sem, fv0, fv1]) rfl ⟨rfl, ?_⟩
  exact (Below.refl _ _).alloc (Nat.le_refl _) _
/-- The element that arbitrary words are made into. -/
def em (a b : Int) : E := ⟨fz a, fz b⟩
set_option maxRecDepth 100000 in
set_option maxHeartbeats 400000 in
theorem xMade (a b : Int) (a0 : 0 ≤ a) (a1 : a < 18446744073709551616) (d0 : 0 ≤ b) (d1 : b < 18446744073709551616) (w : World) : Calls Tryd.prog 21 #[.agg #[.int .u64 a, .int .u64 b]] w (Ret (ev (em a b)) w) := by
  have hr : ∀ x w, 0 ≤ x → x < 18446744073709551616 → Calls Tryd.prog 41 #[.int .u64 x] w fun e w' => e = .returned (.int .u64 (fv (fz x))) ∧ w = w' := fun x w h1 h2 => by rw [fv_fz]; exact rRed x h1 h2 w
  have HR := Lib.hid hr
  clear hr
  unfold ev em
  go_enter Tryd.func21, Tryd.ntmps21
  go_wp2
  refine wp_stk2 fun W hB hz b1 b2 => ?_
  have c1 := gw_blk b1
  refine wp_region_rg 7 [(2, Spec.val (.int .u64 (fv (fz a)))), (5, Spec.val (.int .u64 (fv (fz b))))] (by kernel_rfl) (by kernel_rfl) (by kernel_rfl) trivial ?_
  refine rg_det rfl rfl rfl (fun K hK => ?_)
  go_big_quiet_op
  refine hK _ ?_; clear hK K
  refine rg_det rfl rfl rfl (fun K hK => ?_)
  go_big_quiet_op
  refine hK _ ?_; clear hK K
  refine rg_val rfl rfl (fun W1 hW1 hF => step_callv en_attestor_attestorref01_Reduce (ret_of_same (HR.out a W1 a0 a1)) rfl rfl) ?_
  intro a' ha
  simp only [Act.put, List.setIfInBounds_toArray, List.set_cons_succ, List.set_cons_zero] at ha
  subst ha
  refine rg_det rfl rfl rfl (fun K hK => ?_)
  go_big_quiet_op
  refine hK _ ?_; clear hK K
  refine rg_det rfl rfl rfl (fun K hK => ?_)
  go_big_quiet_op
  refine hK _ ?_; clear hK K
  refine rg_val rfl rfl (fun W1 hW1 hF => step_callv en_attestor_attestorref01_Reduce (ret_of_same (HR.out b W1 d0 d1)) rfl rfl) ?_
  intro a' ha
  simp only [Act.put, List.setIfInBounds_toArray, List.set_cons_succ, List.set_cons_zero] at ha
  subst ha
  refine rg_det rfl rfl rfl (fun K hK => ?_)
  go_big_quiet_op
  refine hK _ ?_; clear hK K
  refine rg_nil (fun w' hw' hF => ?_)
  obtain ⟨z, rfl⟩ := hw'
  simp only [List.drop_succ_cons, List.drop_zero]
  have e1 := (b2.gw z).cell
  have e2 := (b2.gw z).frozen
  go_wp2
  refine bodyPost_ret (v := .agg #[.int .u64 (fv (fz a)), .int .u64 (fv (fz b))]) (by simp [results, Tryd.results21, go_sem, e1]) rfl ⟨rfl, ?_⟩
  exact ((hB.trans (z.h.mono hB.size)).setCell (by show w.heap.size ≤ w.heap.size + 1; omega) _).setCell (by show w.heap.size ≤ w.heap.size + 1; omega) _
set_option maxRecDepth 100000 in
set_option maxHeartbeats 400000 in
theorem mBlend (x y r : E) (w : World) : Calls Tryd.prog 102 #[ev x, ev y, ev r] w (Ret (ev (x + r * (y - x))) w) := by
  unfold ev
  go_enter Tryd.func102, Tryd.ntmps102
  go_wp2
  refine wp_stk4 fun W hB hz b1 b2 b3 b4 => ?_
  have c1 := gw_blk b1
  have c2 := gw_blk b2
  have c3 := gw_blk b3
  refine wp_region_rg 7 [(4, Spec.val (.agg #[.int .u64 (fv (y - x).a), .int .u64 (fv (y - x).b)])), (5, Spec.val (.agg #[.int .u64 (fv (r * (y - x)).a), .int .u64 (fv (r * (y - x)).b)])), (6, Spec.val (.agg #[.int .u64 (fv (x + r * (y - x)).a), .int .u64 (fv (x + r * (y - x)).b)]))] (by kernel_rfl) (by kernel_rfl) (by kernel_rfl) trivial ?_
  refine rg_det rfl rfl rfl (fun K hK => ?_)
  go_big_quiet_op
  refine hK _ ?_; clear hK K
  refine rg_det rfl rfl rfl (fun K hK => ?_)
  go_big_quiet_op
  refine hK _ ?_; clear hK K
  refine rg_det rfl rfl rfl (fun K hK => ?_)
  go_big_quiet_op
  refine hK _ ?_; clear hK K
  refine rg_det rfl rfl rfl (fun K hK => ?_)
  go_big_quiet_op
  refine hK _ ?_; clear hK K
  refine rg_val rfl rfl (fun W1 hW1 hF => step_callv en_attestor_ext_Sub (eSub y x W1) rfl rfl) ?_
  intro a' ha
  simp only [Act.put, List.setIfInBounds_toArray, List.set_cons_succ, List.set_cons_zero] at ha
  subst ha
  refine rg_val rfl rfl (fun W1 hW1 hF => step_callv en_attestor_ext_Mul (eMul r (y - x) W1) rfl rfl) ?_
  intro a' ha
  simp only [Act.put, List.setIfInBounds_toArray, List.set_cons_succ, List.set_cons_zero] at ha
  subst ha
  refine rg_val rfl rfl (fun W1 hW1 hF => step_callv en_attestor_ext_Add (eAdd x (r * (y - x)) W1) rfl rfl) ?_
  intro a' ha
  simp only [Act.put, List.setIfInBounds_toArray, List.set_cons_succ, List.set_cons_zero] at ha
  subst ha
  refine rg_nil (fun w' hw' hF => ?_)
  obtain ⟨z, rfl⟩ := hw'
  simp only [List.drop_succ_cons, List.drop_zero]
  have e1 := (b4.gw z).cell
  have e2 := (b4.gw z).frozen
  go_wp2
  refine bodyPost_ret (v := .agg #[.int .u64 (fv (x + r * (y - x)).a), .int .u64 (fv (x + r * (y - x)).b)]) (by simp [results, Tryd.results102, go_sem, e1]) rfl ⟨rfl, ?_⟩
  exact ((hB.trans (z.h.mono hB.size)).setCell (by show w.heap.size ≤ w.heap.size + 1 + 1 + 1; omega) _).setCell (by show w.heap.size ≤ w.heap.size + 1 + 1 + 1; omega) _
end Go.Proofs.YtipaecageimnnaaDoor
