/-
  More of package ext, its reference and the functions above it that only compute with elements.
-/
import Derived.Test.YtnfiomccgakooaaDoorExt
namespace Go.Proofs.YtnfiomccgakooaaDoor
open Go.RowKit

theorem fv0 : fv 0 = 0 := rfl
theorem fv1 : fv 1 = 1 := rfl
set_option maxRecDepth 100000 in
set_option maxHeartbeats 400000 in
theorem xFromBase (c : Fp) (w : World) : Calls Tryd.prog 52 #[.int .u64 (fv c)] w (Ret (ev (eb c)) w) := by
  unfold ev eb
  go_enter Tryd.func52, Tryd.ntmps52
  go_wp2
  refine bodyPost_ret (v := .agg #[.int .u64 (fv c), .int .u64 (fv 0)]) (by simp [results, Tryd.results52, go_sem, fv0]) rfl ⟨rfl, ?_⟩
  exact (Below.refl _ _).alloc (Nat.le_refl _) _
set_option maxRecDepth 100000 in
set_option maxHeartbeats 400000 in
theorem xFromInt (z : Int) (hz1 : -9223372036854775808 ≤ z) (hz2 : z ≤ 9223372036854775807) (w : World) : Calls Tryd.prog 27 #[.int .i64 z] w (Ret (ev (eb (fz z))) w) := by
  unfold ev eb
  go_enter Tryd.func27, Tryd.ntmps27
  go_wp2_with fail
  refine (rFromInt z hz1 hz2 _).mono ?_
  rintro e w' ⟨rfl, rfl⟩
  go_wp2
  refine bodyPost_ret (v := .agg #[.int .u64 (fv (fz z)), .int .u64 (fv 0)]) (by simp [results, Tryd.results27, go_sem, fv0]) rfl ⟨rfl, ?_⟩
  exact (Below.refl _ _).alloc (Nat.le_refl _) _
set_option maxRecDepth 100000 in
set_option maxHeartbeats 400000 in
theorem xOne (w : World) : Calls Tryd.prog 43 #[] w (Ret (ev 1) w) := by
  unfold ev
  rw [one_a, one_b]
  go_enter Tryd.func43, Tryd.ntmps43
  go_wp2
  refine bodyPost_ret (v := .agg #[.int .u64 (fv 1), .int .u64 (fv 0)]) (by simp [results, Tryd.results43, go_sem, fv0, fv1]) rfl ⟨rfl, ?_⟩
  exact (Below.refl _ _).alloc (Nat.le_refl _) _
/-- The element that arbitrary words are made into. -/
def em (a b : Int) : E := ⟨fz a, fz b⟩
set_option maxRecDepth 100000 in
set_option maxHeartbeats 400000 in
theorem xMade (a b : Int) (a0 : 0 ≤ a) (a1 : a < 18446744073709551616) (d0 : 0 ≤ b) (d1 : b < 18446744073709551616) (w : World) : Calls Tryd.prog 8 #[.agg #[.int .u64 a, .int .u64 b]] w (Ret (ev (em a b)) w) := by
  have hr : ∀ x w, 0 ≤ x → x < 18446744073709551616 → Calls Tryd.prog 35 #[.int .u64 x] w fun e w' => e = .returned (.int .u64 (fv (fz x))) ∧ w = w' := fun x w h1 h2 => by rw [fv_fz]; exact rRed x h1 h2 w
  have HR := Lib.hid hr
  clear hr
  unfold ev em
  go_enter Tryd.func8, Tryd.ntmps8
  go_wp2
  refine wp_stk2 fun W hB hz b1 b2 => ?_
  have c1 := gw_blk b1
  refine wp_region_rg 7 [(2, Spec.val (.int .u64 (fv (fz a)))), (5, Spec.val (.int .u64 (fv (fz b))))] (by kernel_rfl) (by kernel_rfl) (by kernel_rfl) trivial ?_
  refine rg_det rfl rfl rfl (fun K hK => ?_)
  go_big_quiet_op
  refine hK _ ?_; clear hK K
  refine rg_det rfl rfl rfl (fun K hK => ?_)
  go_big_quiet_op
  refine hK _ ?_; clear hK K
  refine rg_val rfl rfl (fun W1 hW1 hF => step_callv en_attestor_attestorref01_Reduce (ret_of_same (HR.out a W1 a0 a1)) rfl rfl) ?_
  intro a' ha
  simp only [Act.put, List.setIfInBounds_toArray, List.set_cons_succ, List.set_cons_zero] at ha
  subst ha
  refine rg_det rfl rfl rfl (fun K hK => ?_)
  go_big_quiet_op
  refine hK _ ?_; clear hK K
  refine rg_det rfl rfl rfl (fun K hK => ?_)
  go_big_quiet_op
  refine hK _ ?_; clear hK K
  refine rg_val rfl rfl (fun W1 hW1 hF => step_callv en_attestor_attestorref01_Reduce (ret_of_same (HR.out b W1 d0 d1)) rfl rfl) ?_
  intro a' ha
  simp only [Act.put, List.setIfInBounds_toArray, List.set_cons_succ, List.set_cons_zero] at ha
  subst ha
  refine rg_det rfl rfl rfl (fun K hK => ?_)
  go_big_quiet_op
  refine hK _ ?_; clear hK K
  refine rg_nil (fun w' hw' hF => ?_)
  obtain ⟨z, rfl⟩ := hw'
  simp only [List.drop_succ_cons, List.drop_zero]
  have e1 := (b2.gw z).cell
  have e2 := (b2.gw z).frozen
  go_wp2
  refine bodyPost_ret (v := .agg #[.int .u64 (fv (fz a)), .int .u64 (fv (fz b))]) (by simp [results, Tryd.results8, go_sem, e1]) rfl ⟨rfl, ?_⟩
  exact ((hB.trans (z.h.mono hB.size)).setCell (by show w.heap.size ≤ w.heap.size + 1; omega) _).setCell (by show w.heap.size ≤ w.heap.size + 1; omega) _
set_option maxRecDepth 100000 in
set_option maxHeartbeats 400000 in
theorem mBlend (x y r : E) (w : World) : Calls Tryd.prog 59 #[ev x, ev y, ev r] w (Ret (ev (x + r * (y - x))) w) := by
  unfold ev
  go_enter Tryd.func59, Tryd.ntmps59
  go_wp2
  refine wp_stk4 fun W hB hz b1 b2 b3 b4 => ?_
  have c1 := gw_blk b1
  have c2 := gw_blk b2
  have c3 := gw_blk b3
  refine wp_region_rg 7 [(4, Spec.val (.agg #[.int .u64 (fv (y - x).a), .int .u64 (fv (y - x).b)])), (5, Spec.val (.agg #[.int .u64 (fv (r * (y - x)).a), .int .u64 (fv (r * (y - x)).b)])), (6, Spec.val (.agg #[.int .u64 (fv (x + r * (y - x)).a), .int .u64 (fv (x + r * (y - x)).b)]))] (by kernel_rfl) (by kernel_rfl) (by kernel_rfl) trivial ?_
  refine rg_det rfl rfl rfl (fun K hK => ?_)
  go_big_quiet_op
  refine hK _ ?_; clear hK K
  refine rg_det rfl rfl rfl (fun K hK => ?_)
  go_big_quiet_op
  refine hK _ ?_; clear hK K
  refine rg_det rfl rfl rfl (fun K hK => ?_)
  go_big_quiet_op
  refine hK _ ?_; clear hK K
  refine rg_det rfl rfl rfl (fun K hK => ?_)
  go_big_quiet_op
  refine hK _ ?_; clear hK K
  refine rg_val rfl rfl (fun W1 hW1 hF => step_callv en_attestor_ext_Sub (eSub y x W1) rfl rfl) ?_
  intro a' ha
  simp only [Act.put, List.setIfInBounds_toArray, List.set_cons_succ, List.set_cons_zero] at ha
  subst ha
  refine rg_val rfl rfl (fun W1 hW1 hF => step_callv en_attestor_ext_Mul (eMul r (y - x) W1) rfl rfl) ?_
  intro a' ha
  simp only [Act.put, List.setIfInBounds_toArray, List.set_cons_succ, List.set_cons_zero] at ha
  subst ha
  refine rg_val rfl rfl (fun W1 hW1 hF => step_callv en_attestor_ext_Add (eAdd x (r * (y - x)) W1) rfl rfl) ?_
  intro a' ha
  simp only [Act.put, List.setIfInBounds_toArray, List.set_cons_succ, List.set_cons_zero] at ha
  subst ha
  refine rg_nil (fun w' hw' hF => ?_)
  obtain ⟨z, rfl⟩ := hw'
  simp only [List.drop_succ_cons, List.drop_zero]
  have e1 := (b4.gw z).cell
  have e2 := (b4.gw z).frozen
  go_wp2
  refine bodyPost_ret (v := .agg #[.int .u64 (fv (x + r * (y - x)).a), .int .u64 (fv (x + r * (y - x)).b)]) (by simp [results, Tryd.results59, go_sem, e1]) rfl ⟨rfl, ?_⟩
  exact ((hB.trans (z.h.mono hB.size)).setCell (by show w.heap.size ≤ w.heap.size + 1 + 1 + 1; omega) _).setCell (by show w.heap.size ≤ w.heap.size + 1 + 1 + 1; omega) _
end Go.Proofs.YtnfiomccgakooaaDoor
