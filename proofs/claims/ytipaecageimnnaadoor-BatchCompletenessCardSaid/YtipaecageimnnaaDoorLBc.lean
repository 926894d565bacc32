/-
  BatchCompleteness: the walk.
-/
import Derived.Test.YtipaecageimnnaaDoorQ21
namespace Go.Proofs.YtipaecageimnnaaDoor
open Go.RowKit

attribute [local irreducible] wpRg
set_option maxRecDepth 100000 in
set_option maxHeartbeats 4000000 in
theorem wkBatchCompleteness (q : Q21) (vT vL vC : Value) (w : World) (h : Q21S w.heap.size w q vT vL vC) (hL : Laid w) :
    Calls Tryd.prog 3 #[qv21 vT vL vC q] w (Ret (.bool true) w) := by
  have HQ := Lib.hid (fun W (hW : Below w.heap.size w W) => gProblem q vT vL vC W (h.keep hW))
  have HL := Lib.hid (fun W (hW : Below w.heap.size w W) => hL.keep hW)
  have hk4 := q.hk
  have HT := Lib.hid q.ht
  have HC := Lib.hid q.hc
  have HU := Lib.hid (fun us => @Q21.us q us)
  have hp4 : 2 ^ q.k ≤ 2 ^ 4 := Nat.pow_le_pow_right (by decide) hk4
  unfold qv21 at *
  clear h hL
  go_enter Tryd.func3, Tryd.ntmps3
  go_wp2_with fail
  refine calls_stk1 fun W1 hB1 hz1 b1 => ?_
  refine (lSanity21 W1 (HL.out _ hB1)).mono ?_
  rintro e w1 ⟨rfl, hb1⟩
  have h1 := hB1.trans (hb1.mono hB1.size)
  have f1 := (b1.keep hb1).cell
  go_wp2_with fail
  refine (HQ.out w1 h1).mono ?_
  rintro e w2 ⟨v1, v2, AC, cc, us, rfl, T2, U2, hus, C2, hb2⟩
  obtain ⟨hup, hun⟩ := HU.out us hus
  have h2 := h1.trans (hb2.mono h1.size)
  clear f1 HQ HU hus
  generalize q.t = T at *
  generalize q.c = co at *
  generalize q.r = r at *
  generalize q.k = k at *
  obtain ⟨AT, cT, rfl⟩ := Rd.len T2
  obtain ⟨AU, cU, rfl⟩ := U2.len
  go_upto_region 3 with (fail)
  refine wp_stk1 fun W3 hB3 hz3 b3 => ?_
  have h3 := h2.trans (hB3.mono h2.size)
  go_wp2_with fail
  refine (rTrue21 T us (.slice AT T.length cT) (.slice AU us.length cU) _ _ _ _ W3 (hB3.size) (Rd.keep T2 hB3) (U2.keep hB3) (by rw [HT.out]; omega) (by omega) (fun x hx => by rw [HT.out, hup x hx])).mono ?_
  rintro e w4 ⟨v4, rfl, U4, hb4⟩
  have hB4 := hB3.trans (hb4.mono hB3.size)
  have h4 := h2.trans (hB4.mono h2.size)
  have hn4 : (truB T us).length ≤ 5 := by rw [truB_length]; exact hun
  have hp4' := truB_p (T := T) hup
  have ht4 := truB_true T us
  generalize truB T us = cs at *
  obtain ⟨A4, c4, rfl⟩ := U4.len
  have T4 := Rd.keep T2 hB4
  have C4 := Rd.keep C2 hB4
  have f3 := (b3.keep hb4).cell
  go_wp2_with fail
  refine (gProveB T cs r co k HC.out (by omega) AC cc (.slice AT T.length cT) (.slice A4 cs.length c4) _ _ _ _ _ _ w4 (Nat.le_refl _) hB4.size T4 U4 C4 HT.out (fun x hx => by rw [HT.out, hp4' x hx]) (HL.out _ h4)).mono ?_
  rintro e w5 ⟨v5, rfl, R5, hb5⟩
  have hfv : (prvV (tabB T cs r) co).getD 0 0 = mev T co := by rw [prvV_mev]; rfl
  rw [hfv]
  clear hfv f3
  have hB5 := hB4.trans (hb5.mono hB4.size)
  have h5 := h2.trans (hB5.mono h2.size)
  have hBb := hb4.trans (hb5.mono hb4.size)
  obtain ⟨A5, c5, rfl⟩ := R5.len
  have HE := Lib.hid (show ∀ W1, Below w5.heap.size w5 W1 → Calls Tryd.prog 12 #[.slice AT T.length cT, .slice AC co.length cc] W1 (Ret (ev (mev T co)) W1) from fun W1 hW => by
    rw [← dotE_all T co (by rw [HC.out, HT.out])]
    exact rEval T co (by rw [HT.out]; omega) (by rw [HC.out]; omega) _ _ _ _ _ _ W1 (Rd.keep (Rd.keep T4 hb5) hW) (Rd.keep (Rd.keep C4 hb5) hW))
  have HV := Lib.hid (show ∀ W1, Below w5.heap.size w5 W1 → Calls Tryd.prog 11 #[.slice A4 cs.length c4, .slice A5 (prvR (tabB T cs r) trmB co).length c5, .agg #[.int .u64 (fv r.a), .int .u64 (fv r.b), .slice AC co.length cc, .int .u64 (fv (mev T co).a), .int .u64 (fv (mev T co).b)]] W1 (Ret (.tuple #[clV (⟨co, mev T co⟩, (AC, cc)), .int .i64 0]) W1) from fun W1 hW => by
    have := gVerifyB cs r (prvR (tabB T cs r) trmB co) co (mev T co) AC cc _ _ _ _ _ _ _ _ W1 (by have := hb5.size; have := hW.size; omega) ((U4.keep hb5).keep hW) (Rd.keep (Rd.keep C4 hb5) hW) (R5.keep hW) (by rw [prvR_length, HC.out]; omega) (fun x hx => by rw [HC.out, hp4' x hx]) (HL.out _ (h5.trans (hW.mono h5.size)))
    rwa [vfyB_complete T cs r co AC cc (by rw [HT.out, HC.out]) (fun x hx => by rw [HC.out, hp4' x hx]) ht4] at this)
  have HR := Lib.hid (show ∀ W1, Below w5.heap.size w5 W1 → Calls Tryd.prog 13 #[clV (⟨co, mev T co⟩, (AC, cc)), clV (⟨co, mev T co⟩, (AC, cc))] W1 (Ret (.bool true) W1) from fun W1 hW =>
    rSame21 co (mev T co) AC AC cc cc _ _ _ _ W1 (Rd.keep (Rd.keep C4 hb5) hW) (Rd.keep (Rd.keep C4 hb5) hW))
  have HP := Lib.hid (show ∀ W1, Below w5.heap.size w5 W1 → Calls Tryd.prog 14 #[.slice AC co.length cc, .slice AC co.length cc] W1 (Ret (.bool true) W1) from fun W1 hW =>
    xSame3 co _ _ _ _ _ _ W1 (Rd.keep (Rd.keep C4 hb5) hW) (Rd.keep (Rd.keep C4 hb5) hW))
  generalize mev T co = y at *
  generalize (prvR (tabB T cs r) trmB co).length = lr at *
  clear T4 C4 U4 R5 U2 T2 C2 ht4 hp4' hup HT HC
  unfold clV clc ptV at *
  dsimp only at *
  have b5 := (b3.keep hBb)
  go_upto_region 5 with (fail)
  refine wp_stk1 fun W6 hB6 hz6 b6 => ?_
  have h6 := h5.trans (hB6.mono h5.size)
  have y3 := gw_blk (b5.keep hB6)
  have y6 := gw_blk b6
  obtain ⟨i0, hi0, iz0, iz1, iz2⟩ := info_parts clm_info
  refine wp_region_swap 13 11 undef [(6, Spec.val (.agg #[.int .u64 (fv (y).a), .int .u64 (fv (y).b)])), (8, Spec.val (.tuple #[.agg #[.slice AC co.length cc, .int .u64 (fv y.a), .int .u64 (fv y.b)], .int .i64 0])), (12, Spec.rel (New 38 #[.slice none 0 0, .int .u64 0, .int .u64 0]) (NewF))] (by kernel_rfl) (by kernel_rfl) (by kernel_rfl) rfl rfl rfl rfl ⟨fit_new, trivial⟩ ?_ ?_
  refine rg_det rfl rfl rfl (fun K hK => ?_)
  go_big_quiet_op
  refine hK _ ?_; clear hK K
  refine rg_det rfl rfl rfl (fun K hK => ?_)
  go_big_quiet_op
  refine hK _ ?_; clear hK K
  refine rg_det rfl rfl rfl (fun K hK => ?_)
  go_big_quiet_op
  refine hK _ ?_; clear hK K
  refine rg_det rfl rfl rfl (fun K hK => ?_)
  go_big_quiet_op
  refine hK _ ?_; clear hK K
  refine rg_det rfl rfl rfl (fun K hK => ?_)
  go_big_quiet_op
  refine hK _ ?_; clear hK K
  refine rg_det rfl rfl rfl (fun K hK => ?_)
  go_big_quiet_op
  refine hK _ ?_; clear hK K
  refine rg_val rfl rfl (fun W1 hW1 hF => step_callv en_attestor_attestorref05_Eval (HE.out W1 (hB6.trans ((grw_below hW1).mono hB6.size))) rfl rfl) ?_
  intro a' ha
  simp only [Act.put, List.setIfInBounds_toArray, List.set_cons_succ, List.set_cons_zero] at ha
  subst ha
  refine rg_det rfl rfl rfl (fun K hK => ?_)
  go_big_quiet_op
  refine hK _ ?_; clear hK K
  refine rg_val rfl rfl (fun W1 hW1 hF => step_callv en_attestor_batch_Verify (HV.out W1 (hB6.trans ((grw_below hW1).mono hB6.size))) rfl rfl) ?_
  intro a' ha
  simp only [Act.put, List.setIfInBounds_toArray, List.set_cons_succ, List.set_cons_zero] at ha
  subst ha
  refine rg_det rfl rfl rfl (fun K hK => ?_)
  go_big_quiet_op
  refine hK _ ?_; clear hK K
  refine rg_det rfl rfl rfl (fun K hK => ?_)
  go_big_quiet_op
  refine hK _ ?_; clear hK K
  refine rg_det rfl rfl rfl (fun K hK => ?_)
  go_big_quiet_op
  refine hK _ ?_; clear hK K
  refine rg_rel rfl rfl (fun W1 hW1 hF => step_new hi0 iz0 rfl) ?_
  intro n12 m12 v12 hn12 hm12 hd12 hf12 a' ha
  simp only [Act.put, List.setIfInBounds_toArray, List.set_cons_succ, List.set_cons_zero] at ha
  subst ha
  obtain rfl := hf12
  refine rg_nil (fun w' hw' hF => ?_)
  obtain ⟨z, rfl⟩ := hw'
  simp only [List.drop_succ_cons, List.drop_zero]
  rotate_left 1
  refine rg_det rfl rfl rfl (fun K hK => ?_)
  go_big_quiet_op
  refine hK _ ?_; clear hK K
  refine rg_det rfl rfl rfl (fun K hK => ?_)
  go_big_quiet_op
  refine hK _ ?_; clear hK K
  refine rg_det rfl rfl rfl (fun K hK => ?_)
  go_big_quiet_op
  refine hK _ ?_; clear hK K
  refine rg_det rfl rfl rfl (fun K hK => ?_)
  go_big_quiet_op
  refine hK _ ?_; clear hK K
  refine rg_det rfl rfl rfl (fun K hK => ?_)
  go_big_quiet_op
  refine hK _ ?_; clear hK K
  refine rg_det rfl rfl rfl (fun K hK => ?_)
  go_big_quiet_op
  refine hK _ ?_; clear hK K
  refine rg_val rfl rfl (fun W1 hW1 hF => step_callv en_attestor_attestorref05_Eval (HE.out W1 (hB6.trans ((grw_below hW1).mono hB6.size))) rfl rfl) ?_
  intro a' ha
  simp only [Act.put, List.setIfInBounds_toArray, List.set_cons_succ, List.set_cons_zero] at ha
  subst ha
  refine rg_det rfl rfl rfl (fun K hK => ?_)
  go_big_quiet_op
  refine hK _ ?_; clear hK K
  refine rg_val rfl rfl (fun W1 hW1 hF => step_callv en_attestor_batch_Verify (HV.out W1 (hB6.trans ((grw_below hW1).mono hB6.size))) rfl rfl) ?_
  intro a' ha
  simp only [Act.put, List.setIfInBounds_toArray, List.set_cons_succ, List.set_cons_zero] at ha
  subst ha
  refine rg_det rfl rfl rfl (fun K hK => ?_)
  go_big_quiet_op
  refine hK _ ?_; clear hK K
  refine rg_det rfl rfl rfl (fun K hK => ?_)
  go_big_quiet_op
  refine hK _ ?_; clear hK K
  refine rg_pass rfl rfl ?_
  intro a' ha
  simp only [Act.put, List.setIfInBounds_toArray, List.set_cons_succ, List.set_cons_zero] at ha
  subst ha
  refine rg_rel rfl rfl (fun W1 hW1 hF => step_new hi0 iz0 rfl) ?_
  intro n12 m12 v12 hn12 hm12 hd12 hf12 a' ha
  simp only [Act.put, List.setIfInBounds_toArray, List.set_cons_succ, List.set_cons_zero] at ha
  subst ha
  obtain rfl := hf12
  refine rg_nil (fun w' hw' hF => ?_)
  obtain ⟨z, rfl⟩ := hw'
  simp only [List.drop_succ_cons, List.drop_zero]
  refine wpList_putS ?_
  intro a' ha
  simp only [Act.put, List.setIfInBounds_toArray, List.set_cons_succ, List.set_cons_zero] at ha
  subst ha
  rotate_right 1
  all_goals
    obtain ⟨hm12, -, hl12, b12⟩ := end_last hF
    have e1 := b12.cell
    have e2 := b12.frozen
    clear hF y3 y6
    go_upto_region 6 with (fail)
    refine set3B (M := fun W => Code.wp _ _ _ _ W) b12 fun X hX bX => ?_
    have hBX := below_put z.h hX hn12
    have y3 := gw_blk ((b5.keep hB6).keep hBX)
    have y6 := gw_blk (b6.keep hBX)
    have y12 := gw_blk bX
    clear e1 e2 b12
    have hB7 := hB6.trans (hBX.mono hB6.size)
    refine wp_region_rg 26 [(8, Spec.val (.bool true)), (16, Spec.val (.agg #[.int .u64 (fv (y).a), .int .u64 (fv (y).b)])), (24, Spec.val (.bool true))] (by kernel_rfl) (by kernel_rfl) (by kernel_rfl) trivial ?_
    refine rg_det rfl rfl rfl (fun K hK => ?_)
    go_big_quiet_op
    refine hK _ ?_; clear hK K
    refine rg_det rfl rfl rfl (fun K hK => ?_)
    go_big_quiet_op
    refine hK _ ?_; clear hK K
    refine rg_det rfl rfl rfl (fun K hK => ?_)
    go_big_quiet_op
    refine hK _ ?_; clear hK K
    refine rg_det rfl rfl rfl (fun K hK => ?_)
    go_big_quiet_op
    refine hK _ ?_; clear hK K
    refine rg_det rfl rfl rfl (fun K hK => ?_)
    go_big_quiet_op
    refine hK _ ?_; clear hK K
    refine rg_det rfl rfl rfl (fun K hK => ?_)
    go_big_quiet_op
    refine hK _ ?_; clear hK K
    refine rg_det rfl rfl rfl (fun K hK => ?_)
    go_big_quiet_op
    refine hK _ ?_; clear hK K
    refine rg_det rfl rfl rfl (fun K hK => ?_)
    go_big_quiet_op
    refine hK _ ?_; clear hK K
    refine rg_val rfl rfl (fun W1 hW1 hF => step_callv en_attestor_attestorref21_Same (HR.out W1 (hB7.trans ((grw_below hW1).mono hB7.size))) rfl rfl) ?_
    intro a' ha
    simp only [Act.put, List.setIfInBounds_toArray, List.set_cons_succ, List.set_cons_zero] at ha
    subst ha
    refine rg_det rfl rfl rfl (fun K hK => ?_)
    go_big_quiet_op
    refine hK _ ?_; clear hK K
    refine rg_det rfl rfl rfl (fun K hK => ?_)
    go_big_quiet_op
    refine hK _ ?_; clear hK K
    refine rg_det rfl rfl rfl (fun K hK => ?_)
    go_big_quiet_op
    refine hK _ ?_; clear hK K
    refine rg_det rfl rfl rfl (fun K hK => ?_)
    go_big_quiet_op
    refine hK _ ?_; clear hK K
    refine rg_det rfl rfl rfl (fun K hK => ?_)
    go_big_quiet_op
    refine hK _ ?_; clear hK K
    refine rg_det rfl rfl rfl (fun K hK => ?_)
    go_big_quiet_op
    refine hK _ ?_; clear hK K
    refine rg_det rfl rfl rfl (fun K hK => ?_)
    go_big_quiet_op
    refine hK _ ?_; clear hK K
    refine rg_val rfl rfl (fun W1 hW1 hF => step_callv en_attestor_attestorref05_Eval (HE.out W1 (hB7.trans ((grw_below hW1).mono hB7.size))) rfl rfl) ?_
    intro a' ha
    simp only [Act.put, List.setIfInBounds_toArray, List.set_cons_succ, List.set_cons_zero] at ha
    subst ha
    refine rg_det rfl rfl rfl (fun K hK => ?_)
    go_big_quiet_op
    refine hK _ ?_; clear hK K
    refine rg_det rfl rfl rfl (fun K hK => ?_)
    go_big_quiet_op
    refine hK _ ?_; clear hK K
    refine rg_det rfl rfl rfl (fun K hK => ?_)
    go_big_quiet_op
    refine hK _ ?_; clear hK K
    refine rg_det rfl rfl rfl (fun K hK => ?_)
    go_big_quiet_op
    refine hK _ ?_; clear hK K
    refine rg_det rfl rfl rfl (fun K hK => ?_)
    go_big_quiet_op
    refine hK _ ?_; clear hK K
    refine rg_det rfl rfl rfl (fun K hK => ?_)
    go_big_quiet_op
    refine hK _ ?_; clear hK K
    refine rg_det rfl rfl rfl (fun K hK => ?_)
    go_big_quiet_op
    refine hK _ ?_; clear hK K
    refine rg_val rfl rfl (fun W1 hW1 hF => step_callv en_attestor_attestorref03_Same (HP.out W1 (hB7.trans ((grw_below hW1).mono hB7.size))) rfl rfl) ?_
    intro a' ha
    simp only [Act.put, List.setIfInBounds_toArray, List.set_cons_succ, List.set_cons_zero] at ha
    subst ha
    refine rg_det rfl rfl rfl (fun K hK => ?_)
    go_big_quiet_op
    refine hK _ ?_; clear hK K
    refine rg_nil (fun w' hw' hF => ?_)
    obtain ⟨z9, rfl⟩ := hw'
    simp only [List.drop_succ_cons, List.drop_zero]
    go_wp2_with fail
    go_ret
    exact ⟨rfl, h6.trans ((hBX.trans (z9.h.mono hBX.size)).mono h6.size)⟩
end Go.Proofs.YtipaecageimnnaaDoor
