/-
  Verify of the reference of chapter 32, by contract.
-/
import Derived.Test.YtnddfeidggcplaaGreatRs32
import Derived.Test.YtnddfeidggcplaaGreatZ32
import Derived.Test.YtnddfeidggcplaaGreatRv6
namespace Go.Proofs.YtnddfeidggcplaaGreat
open Go.RowKit

theorem en_attestor_attestorref32_Verify : ∀ args w, (callFunc 31 args).run Tryz.prog w = .ok (.enter 31 args) w := enters_of Tryz.func31 (by kernel_rfl) rfl
theorem en_attestor_attestorref06_Verify32 : ∀ args w, (callFunc 74 args).run Tryz.prog w = .ok (.enter 74 args) w := enters_of Tryz.func74 (by kernel_rfl) rfl
attribute [local irreducible] wpRg
set_option maxRecDepth 100000 in
set_option maxHeartbeats 4000000 in
theorem rVerifyM (v rho tot : E) (gs : List (List E)) (cs : List E) (d : Int) (hd : -9223372036854775808 ≤ d ∧ d < 9223372036854775808) (vr : Value) (AC : Option Addr) (capC : Nat) (lo hi lo2 hi2 : Nat) (w : World) (hg : TabS lo hi w vr gs) (hc : ExtS lo2 hi2 w (.slice AC cs.length capC) cs) :
    Calls Tryz.prog 31 #[ev v, vr, .agg #[.int .u64 (fv rho.a), .int .u64 (fv rho.b), .slice AC cs.length capC, .int .u64 (fv tot.a), .int .u64 (fv tot.b), .int .i64 d]] w (Ret (.tuple #[ev (vrfE d (v + rho * tot) gs cs).1, .int .i64 (vrfE d (v + rho * tot) gs cs).2]) w) := by
  obtain ⟨A, cap, rfl⟩ := hg.len
  have HV := Lib.hid (fun W (hW : Below w.heap.size w W) => rVerify (v + rho * tot) gs cs d hd (.slice A gs.length cap) (.slice AC cs.length capC) lo hi lo2 hi2 W (hg.keep hW) (Rd.keep hc hW))
  clear hg hc
  generalize vrfE d (v + rho * tot) gs cs = f at *
  obtain ⟨f1, f2⟩ := f
  generalize gs.length = n at *
  generalize cs.length = nc at *
  obtain ⟨i1, hi1, jz0, jz1, jz2⟩ := info_parts ext_info
  unfold ev at *
  simp only at *
  go_enter Tryz.func31, Tryz.ntmps31
  go_upto_region 1 with (fail)
  refine wp_stk3 fun W hB hz b3 b5 b6 => ?_
  have hWs : w.heap.size + 1 + 1 + 1 ≤ W.heap.size := Nat.le_of_eq hz.out.symm
  clear hz
  apply join32 (Q := fun n X => Below w.heap.size w X ∧ Blk X n 30 #[.int .u64 (fv f1.a), .int .u64 (fv f1.b)] ∧ Blk X (w.heap.size + 1 + 1) 30 #[.int .u64 0, .int .u64 0])
  case h =>
    intro kk
    have KK := Lib.hid kk
    clear kk
    have y3 := gw_blk b3
    have y5 := gw_blk b5
    refine wp_region_swap 20 18 undef [(6, Spec.val (.agg #[.int .u64 (fv ((rho * tot)).a), .int .u64 (fv ((rho * tot)).b)])), (7, Spec.val (.agg #[.int .u64 (fv ((v + rho * tot)).a), .int .u64 (fv ((v + rho * tot)).b)])), (15, Spec.val (.tuple #[.agg #[.int .u64 (fv ((f1)).a), .int .u64 (fv ((f1)).b)], .int .i64 f2])), (19, Spec.rel (New 30 #[.int .u64 0, .int .u64 0]) (NewF))] (by kernel_rfl) (by kernel_rfl) (by kernel_rfl) rfl rfl rfl rfl ⟨fit_new, trivial⟩ ?_ ?_
    refine rg_det rfl rfl rfl (fun K hK => ?_)
    go_big_quiet_op
    refine hK _ ?_; clear hK K
    refine rg_det rfl rfl rfl (fun K hK => ?_)
    go_big_quiet_op
    refine hK _ ?_; clear hK K
    refine rg_det rfl rfl rfl (fun K hK => ?_)
    go_big_quiet_op
    refine hK _ ?_; clear hK K
    refine rg_det rfl rfl rfl (fun K hK => ?_)
    go_big_quiet_op
    refine hK _ ?_; clear hK K
    refine rg_det rfl rfl rfl (fun K hK => ?_)
    go_big_quiet_op
    refine hK _ ?_; clear hK K
    refine rg_det rfl rfl rfl (fun K hK => ?_)
    go_big_quiet_op
    refine hK _ ?_; clear hK K
    refine rg_val rfl rfl (fun W1 hW1 hF => step_callv en_attestor_attestorref02_Mul (xMul rho tot W1) rfl rfl) ?_
    intro a' ha
    simp only [Act.put, List.setIfInBounds_toArray, List.set_cons_succ, List.set_cons_zero] at ha
    subst ha
    refine rg_val rfl rfl (fun W1 hW1 hF => step_callv en_attestor_attestorref02_Add (xAdd v (rho * tot) W1) rfl rfl) ?_
    intro a' ha
    simp only [Act.put, List.setIfInBounds_toArray, List.set_cons_succ, List.set_cons_zero] at ha
    subst ha
    refine rg_det rfl rfl rfl (fun K hK => ?_)
    go_big_quiet_op
    refine hK _ ?_; clear hK K
    refine rg_det rfl rfl rfl (fun K hK => ?_)
    go_big_quiet_op
    refine hK _ ?_; clear hK K
    refine rg_det rfl rfl rfl (fun K hK => ?_)
    go_big_quiet_op
    refine hK _ ?_; clear hK K
    refine rg_det rfl rfl rfl (fun K hK => ?_)
    go_big_quiet_op
    refine hK _ ?_; clear hK K
    refine rg_det rfl rfl rfl (fun K hK => ?_)
    go_big_quiet_op
    refine hK _ ?_; clear hK K
    refine rg_det rfl rfl rfl (fun K hK => ?_)
    go_big_quiet_op
    refine hK _ ?_; clear hK K
    refine rg_det rfl rfl rfl (fun K hK => ?_)
    go_big_quiet_op
    refine hK _ ?_; clear hK K
    refine rg_val rfl rfl (fun W1 hW1 hF => (step_callv en_attestor_attestorref06_Verify32 (HV.out W1 (hB.trans ((grw_below hW1).mono hB.size))) rfl rfl)) ?_
    intro a' ha
    simp only [Act.put, List.setIfInBounds_toArray, List.set_cons_succ, List.set_cons_zero] at ha
    subst ha
    refine rg_det rfl rfl rfl (fun K hK => ?_)
    go_big_quiet_op
    refine hK _ ?_; clear hK K
    refine rg_det rfl rfl rfl (fun K hK => ?_)
    go_big_quiet_op
    refine hK _ ?_; clear hK K
    refine rg_det rfl rfl rfl (fun K hK => ?_)
    go_big_quiet_op
    refine hK _ ?_; clear hK K
    refine rg_rel rfl rfl (fun W1 hW1 hF => step_new hi1 jz0 rfl) ?_
    intro n19 m19 v19 hn19 hm19 hd19 hf19 a' ha
    simp only [Act.put, List.setIfInBounds_toArray, List.set_cons_succ, List.set_cons_zero] at ha
    subst ha
    obtain rfl := hf19
    refine rg_nil (fun w' hw' hF => ?_)
    obtain ⟨z, rfl⟩ := hw'
    simp only [List.drop_succ_cons, List.drop_zero]
    rotate_left 1
    refine rg_det rfl rfl rfl (fun K hK => ?_)
    go_big_quiet_op
    refine hK _ ?_; clear hK K
    refine rg_det rfl rfl rfl (fun K hK => ?_)
    go_big_quiet_op
    refine hK _ ?_; clear hK K
    refine rg_det rfl rfl rfl (fun K hK => ?_)
    go_big_quiet_op
    refine hK _ ?_; clear hK K
    refine rg_det rfl rfl rfl (fun K hK => ?_)
    go_big_quiet_op
    refine hK _ ?_; clear hK K
    refine rg_det rfl rfl rfl (fun K hK => ?_)
    go_big_quiet_op
    refine hK _ ?_; clear hK K
    refine rg_det rfl rfl rfl (fun K hK => ?_)
    go_big_quiet_op
    refine hK _ ?_; clear hK K
    refine rg_val rfl rfl (fun W1 hW1 hF => step_callv en_attestor_attestorref02_Mul (xMul rho tot W1) rfl rfl) ?_
    intro a' ha
    simp only [Act.put, List.setIfInBounds_toArray, List.set_cons_succ, List.set_cons_zero] at ha
    subst ha
    refine rg_val rfl rfl (fun W1 hW1 hF => step_callv en_attestor_attestorref02_Add (xAdd v (rho * tot) W1) rfl rfl) ?_
    intro a' ha
    simp only [Act.put, List.setIfInBounds_toArray, List.set_cons_succ, List.set_cons_zero] at ha
    subst ha
    refine rg_det rfl rfl rfl (fun K hK => ?_)
    go_big_quiet_op
    refine hK _ ?_; clear hK K
    refine rg_det rfl rfl rfl (fun K hK => ?_)
    go_big_quiet_op
    refine hK _ ?_; clear hK K
    refine rg_det rfl rfl rfl (fun K hK => ?_)
    go_big_quiet_op
    refine hK _ ?_; clear hK K
    refine rg_det rfl rfl rfl (fun K hK => ?_)
    go_big_quiet_op
    refine hK _ ?_; clear hK K
    refine rg_det rfl rfl rfl (fun K hK => ?_)
    go_big_quiet_op
    refine hK _ ?_; clear hK K
    refine rg_det rfl rfl rfl (fun K hK => ?_)
    go_big_quiet_op
    refine hK _ ?_; clear hK K
    refine rg_det rfl rfl rfl (fun K hK => ?_)
    go_big_quiet_op
    refine hK _ ?_; clear hK K
    refine rg_val rfl rfl (fun W1 hW1 hF => (step_callv en_attestor_attestorref06_Verify32 (HV.out W1 (hB.trans ((grw_below hW1).mono hB.size))) rfl rfl)) ?_
    intro a' ha
    simp only [Act.put, List.setIfInBounds_toArray, List.set_cons_succ, List.set_cons_zero] at ha
    subst ha
    refine rg_det rfl rfl rfl (fun K hK => ?_)
    go_big_quiet_op
    refine hK _ ?_; clear hK K
    refine rg_det rfl rfl rfl (fun K hK => ?_)
    go_big_quiet_op
    refine hK _ ?_; clear hK K
    refine rg_pass rfl rfl ?_
    intro a' ha
    simp only [Act.put, List.setIfInBounds_toArray, List.set_cons_succ, List.set_cons_zero] at ha
    subst ha
    refine rg_rel rfl rfl (fun W1 hW1 hF => step_new hi1 jz0 rfl) ?_
    intro n19 m19 v19 hn19 hm19 hd19 hf19 a' ha
    simp only [Act.put, List.setIfInBounds_toArray, List.set_cons_succ, List.set_cons_zero] at ha
    subst ha
    obtain rfl := hf19
    refine rg_nil (fun w' hw' hF => ?_)
    obtain ⟨z, rfl⟩ := hw'
    simp only [List.drop_succ_cons, List.drop_zero]
    refine wpList_putS ?_
    intro a' ha
    simp only [Act.put, List.setIfInBounds_toArray, List.set_cons_succ, List.set_cons_zero] at ha
    subst ha
    rotate_right 1
    all_goals
      obtain ⟨hm19, -, hl19, b19⟩ := end_last hF
      have e1 := b19.cell
      have e2 := b19.frozen
      clear hF y3 y5
      go_upto_region 2 with (fail)
      rename_i K hK
      refine set2 (M := fun W => Code.wp _ _ _ _ W) b19 fun X1 hX1 bX1 => ?_
      revert K
      exact KK.out n19 X1 ⟨below_put (hB.trans (z.h.mono hB.size)) hX1 (by omega), bX1, hX1.blk (b6.gw z) (by have := b6.lt; omega)⟩
  intro g8 X ⟨hBX, b8, b6X⟩ K hK
  have e8 := b8.cell
  have e6 := b6X.cell
  have e6f := b6X.frozen
  go_wp2_with fail
  refine bodyPost_ret (v := .tuple #[.agg #[.int .u64 (fv f1.a), .int .u64 (fv f1.b)], .int .i64 f2]) (by simp [results, Tryz.results31, go_sem, e6]) rfl ⟨rfl, below_set2 hBX (by omega)⟩
end Go.Proofs.YtnddfeidggcplaaGreat
