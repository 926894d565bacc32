/-
  MaskComplete: the walk.
-/
import Derived.Test.YtnddfeidggcplaaGreatZ32
namespace Go.Proofs.YtnddfeidggcplaaGreat
open Go.RowKit

attribute [local irreducible] wpRg
set_option maxRecDepth 100000 in
set_option maxHeartbeats 4000000 in
theorem wkMaskComplete (q : Q32) (A : Nat → Option Addr) (cc : Nat → Nat) (AL : Option Addr) (cL : Nat) (vM vC : Value) (w : World) (h : Q32S w.heap.size w q A cc AL cL vM vC) :
    Calls Tryz.prog 11 #[qv32 A cc AL cL vM vC q] w (Ret (.bool true) w) := by
  have HK := Lib.hid (msk_complete q.tabs q.ps q.m q.rho q.co (by rw [q.co_len]; exact q.all) (by rw [q.tabs_len]; decide) q.deg (by rw [q.m_len, q.co_len]) q.m_row)
  have HVL := Lib.hid (show (prvV q.tabs q.co).length = 3 by
    unfold prvV
    rw [List.length_map, bndAll_length, q.tabs_len])
  have HQ := Lib.hid (fun W (hW : Below w.heap.size w W) => lMade32 q A cc AL cL vM vC W (h.keep hW hW.size))
  unfold qv32 at *
  clear h
  go_enter Tryz.func11, Tryz.ntmps11
  go_wp2_with fail
  refine calls_stk1 fun W1 hB1 hz1 b1 => ?_
  refine (lSanity32a W1).mono ?_
  rintro e w1 ⟨rfl, hb1⟩
  have h1 := hB1.trans (hb1.mono hB1.size)
  have f1 := (b1.keep hb1).cell
  go_wp2_with fail
  refine (HQ.out w1 h1).mono ?_
  rintro e w2 ⟨vt, vp, vm, AC, cC, rfl, hS, hM, hC, hb2⟩
  obtain ⟨AT, cT, hv⟩ := hS.ht.len
  replace hv : vt = .slice AT 3 cT := by rw [hv, q.tabs_len]
  subst hv
  obtain ⟨AP, cP, rfl⟩ := hS.hp.len
  obtain ⟨AM, cM, hv⟩ := hM.len
  replace hv : vm = .slice AM q.n cM := by rw [hv, q.m_len]
  subst hv
  rw [q.co_len] at hC ⊢
  clear f1
  unfold sv
  go_upto_region 3 with (fail)
  refine wp_stk2 fun X hX hzX b4 b6 => ?_
  have h2 := h1.trans (hb2.mono h1.size)
  have hZ : Z32 w q w2.heap.size (w2.heap.size + 1) AT AP AM AC cT cP cM cC X :=
    ⟨⟨(hS.ht.keep hX).base, (hS.hp.keep hX).base, hS.ix, hS.few, hS.short⟩, (hM.keep hX).base, ext_base (Rd.keep hC hX), b4, b6, h2.trans (hX.mono h2.size)⟩
  clear hS hM hC b4 b6 hX hzX hb2 h1 h2 hB1 hz1 b1 hb1 HQ
  have e4 := hZ.bS.cell
  have e6 := hZ.bW.cell
  go_wp2_with fail
  refine (hZ.prove (Below.refl _ _)).mono ?_
  rintro e w4 ⟨v1, v2, rfl, hR, hV, hb4⟩
  obtain ⟨AV, cV, hv⟩ := Rd.len hV
  replace hv : v2 = .slice AV 3 cV := by rw [hv, HVL.out]
  subst hv
  obtain ⟨AR, cR, rfl⟩ := hR.len
  have hZ4 := hZ.keep hb4
  clear e4 e6 hZ hb4
  have e4 := hZ4.bS.cell
  have e6 := hZ4.bW.cell
  go_wp2_with fail
  refine (hZ4.plain (Below.refl _ _)).mono ?_
  rintro e w5 ⟨v3, v4, rfl, hR2, hV2, hb5⟩
  obtain ⟨AV2, cV2, hv⟩ := Rd.len hV2
  replace hv : v4 = .slice AV2 3 cV2 := by rw [hv, HVL.out]
  subst hv
  obtain ⟨AR2, cR2, rfl⟩ := hR2.len
  have hZ5 := hZ4.keep hb5
  replace hR := hR.keep hb5
  replace hV := Rd.keep hV hb5
  clear e4 e6 hZ4 hb5 hR2
  go_upto_region 5 with (fail)
  replace hR := hR.base
  replace hV := ext_base hV
  replace hV2 := ext_base hV2
  obtain ⟨fE, hfE⟩ : ∃ x, x = finE (valL (prvV q.tabs q.co)) q.ps := ⟨_, rfl⟩
  obtain ⟨eM, heM⟩ : ∃ x, x = evM q.m q.co := ⟨_, rfl⟩
  obtain ⟨tE, htE⟩ : ∃ x, x = totE q.tabs q.ps := ⟨_, rfl⟩
  obtain ⟨tM, htM⟩ : ∃ x, x = totM q.m := ⟨_, rfl⟩
  obtain ⟨D, hD⟩ : ∃ x, x = degE q.ps := ⟨_, rfl⟩
  have hD9 : D ≤ 3 := by rw [hD]; exact q.deg
  have XV := Lib.hid (show ∀ W1, Below w5.heap.size w5 W1 → Calls Tryz.prog 30 #[.agg #[.int .u64 (fv (tE).a), .int .u64 (fv (tE).b)], .slice AR (prvM (prvR q.tabs q.ps q.co) q.m q.rho q.co).length cR, .agg #[.int .u64 (fv q.rho.a), .int .u64 (fv q.rho.b), .slice AC q.n cC, .int .u64 (fv tM.a), .int .u64 (fv tM.b), .int .i64 (D : Nat)]] W1 (Ret (.tuple #[.agg #[.int .u64 (fv ((fE + q.rho * eM)).a), .int .u64 (fv ((fE + q.rho * eM)).b)], .int .i64 0]) W1) from fun W1 h => by
    have := gVerifyM tE q.rho tM (prvM (prvR q.tabs q.ps q.co) q.m q.rho q.co) q.co (D : Int) (by omega) (by rw [prvM_length, q.m_len]; exact Nat.le_trans q.n_le (by decide)) (.slice AR (prvM (prvR q.tabs q.ps q.co) q.m q.rho q.co).length cR) AC cC _ _ _ _ W1 (hR.keep h) (by rw [q.co_len]; exact Rd.keep hZ5.hC h)
    rw [q.co_len, htE, htM, hD, HK.out, ← hfE, ← heM, ← htM, ← htE, ← hD] at this
    exact this)
  have XT := Lib.hid (fun W1 (h : Below w5.heap.size w5 W1) => htE ▸ hZ5.total h)
  have XM := Lib.hid (fun W1 (h : Below w5.heap.size w5 W1) => htM ▸ hZ5.totM h)
  have XD := Lib.hid (fun W1 (h : Below w5.heap.size w5 W1) => hD ▸ hZ5.degree h)
  have XF := Lib.hid (show ∀ W1, Below w5.heap.size w5 W1 → Calls Tryz.prog 47 #[.agg #[.slice AT 3 cT, .slice AP q.ps.length cP], .slice AV 3 cV] W1 (Ret (ev fE) W1) from fun W1 h => by
    rw [hfE]
    exact gFinal (prvV q.tabs q.co) (.slice AT 3 cT) (.slice AP q.ps.length cP) (.slice AV 3 cV) q.ps _ _ _ _ W1 (hZ5.keep h).hS.hp (Rd.keep hV h) (by rw [HVL.out]; have := hZ5.hS.ix; rwa [q.tabs_len] at this) hZ5.hS.few hZ5.hS.short)
  have XE := Lib.hid (fun W1 (h : Below w5.heap.size w5 W1) => heM ▸ hZ5.evM h)
  have XS := Lib.hid (fun W1 (h : Below w5.heap.size w5 W1) => xSame (prvV q.tabs q.co) (.slice AV 3 cV) (.slice AV2 3 cV2) _ _ _ _ W1 (Rd.keep hV h) (Rd.keep hV2 h))
  have bS5 := hZ5.bS
  have bW5 := hZ5.bW
  have hw5 := hZ5.hw
  clear hZ5 hR hV hV2 HK hfE heM htE htM hD HVL
  generalize (prvM (prvR q.tabs q.ps q.co) q.m q.rho q.co).length = lR at *
  obtain ⟨i1, hi1, jz0, jz1, jz2⟩ := info_parts ext_info
  apply join32 (Q := fun n X => Below w5.heap.size w5 X ∧ Blk X n 30 #[.int .u64 (fv (fE + q.rho * eM).a), .int .u64 (fv (fE + q.rho * eM).b)])
  case h =>
    intro kk
    have KK := Lib.hid kk
    clear kk
    have yS := gw_blk bS5
    have yW := gw_blk bW5
    refine wp_region_swap 14 12 undef [(1, Spec.val (.agg #[.int .u64 (fv (tE).a), .int .u64 (fv (tE).b)])), (5, Spec.val (.agg #[.int .u64 (fv (tM).a), .int .u64 (fv (tM).b)])), (7, Spec.val (.int .i64 (D : Nat))), (9, Spec.val (.tuple #[.agg #[.int .u64 (fv ((fE + q.rho * eM)).a), .int .u64 (fv ((fE + q.rho * eM)).b)], .int .i64 0])), (13, Spec.rel (New 30 #[.int .u64 0, .int .u64 0]) (NewF))] (by kernel_rfl) (by kernel_rfl) (by kernel_rfl) rfl rfl rfl rfl ⟨fit_new, trivial⟩ ?_ ?_
    refine rg_det rfl rfl rfl (fun K hK => ?_)
    go_big_quiet_op
    refine hK _ ?_; clear hK K
    refine rg_val rfl rfl (fun W1 hW1 hF => step_callv en_attestor_sumcheck_Total (XT.out W1 (grw_below hW1)) rfl rfl) ?_
    intro a' ha
    simp only [Act.put, List.setIfInBounds_toArray, List.set_cons_succ, List.set_cons_zero] at ha
    subst ha
    refine rg_det rfl rfl rfl (fun K hK => ?_)
    go_big_quiet_op
    refine hK _ ?_; clear hK K
    refine rg_det rfl rfl rfl (fun K hK => ?_)
    go_big_quiet_op
    refine hK _ ?_; clear hK K
    refine rg_det rfl rfl rfl (fun K hK => ?_)
    go_big_quiet_op
    refine hK _ ?_; clear hK K
    refine rg_val rfl rfl (fun W1 hW1 hF => step_callv en_attestor_mask_Total (XM.out W1 (grw_below hW1)) rfl rfl) ?_
    intro a' ha
    simp only [Act.put, List.setIfInBounds_toArray, List.set_cons_succ, List.set_cons_zero] at ha
    subst ha
    refine rg_det rfl rfl rfl (fun K hK => ?_)
    go_big_quiet_op
    refine hK _ ?_; clear hK K
    refine rg_val rfl rfl (fun W1 hW1 hF => step_callv en_attestor_sumcheck_Degree (XD.out W1 (grw_below hW1)) rfl rfl) ?_
    intro a' ha
    simp only [Act.put, List.setIfInBounds_toArray, List.set_cons_succ, List.set_cons_zero] at ha
    subst ha
    refine rg_det rfl rfl rfl (fun K hK => ?_)
    go_big_quiet_op
    refine hK _ ?_; clear hK K
    refine rg_val rfl rfl (fun W1 hW1 hF => step_callv en_attestor_mask_Verify (XV.out W1 (grw_below hW1)) rfl rfl) ?_
    intro a' ha
    simp only [Act.put, List.setIfInBounds_toArray, List.set_cons_succ, List.set_cons_zero] at ha
    subst ha
    refine rg_det rfl rfl rfl (fun K hK => ?_)
    go_big_quiet_op
    refine hK _ ?_; clear hK K
    refine rg_det rfl rfl rfl (fun K hK => ?_)
    go_big_quiet_op
    refine hK _ ?_; clear hK K
    refine rg_det rfl rfl rfl (fun K hK => ?_)
    go_big_quiet_op
    refine hK _ ?_; clear hK K
    refine rg_rel rfl rfl (fun W1 hW1 hF => step_new hi1 jz0 rfl) ?_
    intro n13 m13 v13 hn13 hm13 hd13 hf13 a' ha
    simp only [Act.put, List.setIfInBounds_toArray, List.set_cons_succ, List.set_cons_zero] at ha
    subst ha
    obtain rfl := hf13
    refine rg_nil (fun w' hw' hF => ?_)
    obtain ⟨z, rfl⟩ := hw'
    simp only [List.drop_succ_cons, List.drop_zero]
    rotate_left 1
    refine rg_det rfl rfl rfl (fun K hK => ?_)
    go_big_quiet_op
    refine hK _ ?_; clear hK K
    refine rg_val rfl rfl (fun W1 hW1 hF => step_callv en_attestor_sumcheck_Total (XT.out W1 (grw_below hW1)) rfl rfl) ?_
    intro a' ha
    simp only [Act.put, List.setIfInBounds_toArray, List.set_cons_succ, List.set_cons_zero] at ha
    subst ha
    refine rg_det rfl rfl rfl (fun K hK => ?_)
    go_big_quiet_op
    refine hK _ ?_; clear hK K
    refine rg_det rfl rfl rfl (fun K hK => ?_)
    go_big_quiet_op
    refine hK _ ?_; clear hK K
    refine rg_det rfl rfl rfl (fun K hK => ?_)
    go_big_quiet_op
    refine hK _ ?_; clear hK K
    refine rg_val rfl rfl (fun W1 hW1 hF => step_callv en_attestor_mask_Total (XM.out W1 (grw_below hW1)) rfl rfl) ?_
    intro a' ha
    simp only [Act.put, List.setIfInBounds_toArray, List.set_cons_succ, List.set_cons_zero] at ha
    subst ha
    refine rg_det rfl rfl rfl (fun K hK => ?_)
    go_big_quiet_op
    refine hK _ ?_; clear hK K
    refine rg_val rfl rfl (fun W1 hW1 hF => step_callv en_attestor_sumcheck_Degree (XD.out W1 (grw_below hW1)) rfl rfl) ?_
    intro a' ha
    simp only [Act.put, List.setIfInBounds_toArray, List.set_cons_succ, List.set_cons_zero] at ha
    subst ha
    refine rg_det rfl rfl rfl (fun K hK => ?_)
    go_big_quiet_op
    refine hK _ ?_; clear hK K
    refine rg_val rfl rfl (fun W1 hW1 hF => step_callv en_attestor_mask_Verify (XV.out W1 (grw_below hW1)) rfl rfl) ?_
    intro a' ha
    simp only [Act.put, List.setIfInBounds_toArray, List.set_cons_succ, List.set_cons_zero] at ha
    subst ha
    refine rg_det rfl rfl rfl (fun K hK => ?_)
    go_big_quiet_op
    refine hK _ ?_; clear hK K
    refine rg_det rfl rfl rfl (fun K hK => ?_)
    go_big_quiet_op
    refine hK _ ?_; clear hK K
    refine rg_pass rfl rfl ?_
    intro a' ha
    simp only [Act.put, List.setIfInBounds_toArray, List.set_cons_succ, List.set_cons_zero] at ha
    subst ha
    refine rg_rel rfl rfl (fun W1 hW1 hF => step_new hi1 jz0 rfl) ?_
    intro n13 m13 v13 hn13 hm13 hd13 hf13 a' ha
    simp only [Act.put, List.setIfInBounds_toArray, List.set_cons_succ, List.set_cons_zero] at ha
    subst ha
    obtain rfl := hf13
    refine rg_nil (fun w' hw' hF => ?_)
    obtain ⟨z, rfl⟩ := hw'
    simp only [List.drop_succ_cons, List.drop_zero]
    refine wpList_putS ?_
    intro a' ha
    simp only [Act.put, List.setIfInBounds_toArray, List.set_cons_succ, List.set_cons_zero] at ha
    subst ha
    rotate_right 1
    all_goals
      obtain ⟨hm13, -, hl13, b13⟩ := end_last hF
      have e1 := b13.cell
      have e2 := b13.frozen
      clear hF yS yW
      go_upto_region 6 with (fail)
      rename_i K' hK' K hK
      refine set2 (M := fun W => Code.wp _ _ _ _ W) b13 fun X1 hX1 bX1 => ?_
      revert K' K
      exact KK.out n13 X1 ⟨below_put z.h hX1 hn13, bX1⟩
  intro g11 X6 ⟨hB6, b11⟩ K6 hK6 K7 hK7
  have e4 := (bS5.keep hB6).cell
  go_wp2_with fail
  refine (XS.out X6 hB6).mono ?_
  rintro e w7 ⟨rfl, hb7⟩
  have hB7 := hB6.trans (hb7.mono hB6.size)
  have hw7 := hw5.trans (hB7.mono hw5.size)
  go_upto_region 8 with (fail)
  have yS := gw_blk (bS5.keep hB7)
  have yW := gw_blk (bW5.keep hB7)
  have yv := gw_blk (b11.keep hb7)
  clear e4 XS XV XT XM XD
  refine wp_region_rg 16 [(3, Spec.val (.agg #[.int .u64 (fv (fE).a), .int .u64 (fv (fE).b)])), (9, Spec.val (.agg #[.int .u64 (fv (eM).a), .int .u64 (fv (eM).b)])), (10, Spec.val (.agg #[.int .u64 (fv ((q.rho * eM)).a), .int .u64 (fv ((q.rho * eM)).b)])), (11, Spec.val (.agg #[.int .u64 (fv ((fE + q.rho * eM)).a), .int .u64 (fv ((fE + q.rho * eM)).b)]))] (by kernel_rfl) (by kernel_rfl) (by kernel_rfl) trivial ?_
  refine rg_det rfl rfl rfl (fun K hK => ?_)
  go_big_quiet_op
  refine hK _ ?_; clear hK K
  refine rg_det rfl rfl rfl (fun K hK => ?_)
  go_big_quiet_op
  refine hK _ ?_; clear hK K
  refine rg_det rfl rfl rfl (fun K hK => ?_)
  go_big_quiet_op
  refine hK _ ?_; clear hK K
  refine rg_val rfl rfl (fun W1 hW1 hF => step_callv en_attestor_sumcheck_Final (XF.out W1 (hB7.trans ((grw_below hW1).mono hB7.size))) rfl rfl) ?_
  intro a' ha
  simp only [Act.put, List.setIfInBounds_toArray, List.set_cons_succ, List.set_cons_zero] at ha
  subst ha
  refine rg_det rfl rfl rfl (fun K hK => ?_)
  go_big_quiet_op
  refine hK _ ?_; clear hK K
  refine rg_det rfl rfl rfl (fun K hK => ?_)
  go_big_quiet_op
  refine hK _ ?_; clear hK K
  refine rg_det rfl rfl rfl (fun K hK => ?_)
  go_big_quiet_op
  refine hK _ ?_; clear hK K
  refine rg_det rfl rfl rfl (fun K hK => ?_)
  go_big_quiet_op
  refine hK _ ?_; clear hK K
  refine rg_det rfl rfl rfl (fun K hK => ?_)
  go_big_quiet_op
  refine hK _ ?_; clear hK K
  refine rg_val rfl rfl (fun W1 hW1 hF => step_callv en_attestor_mask_Eval (XE.out W1 (hB7.trans ((grw_below hW1).mono hB7.size))) rfl rfl) ?_
  intro a' ha
  simp only [Act.put, List.setIfInBounds_toArray, List.set_cons_succ, List.set_cons_zero] at ha
  subst ha
  refine rg_val rfl rfl (fun W1 hW1 hF => step_callv en_attestor_ext_Mul (eMul q.rho eM W1) rfl rfl) ?_
  intro a' ha
  simp only [Act.put, List.setIfInBounds_toArray, List.set_cons_succ, List.set_cons_zero] at ha
  subst ha
  refine rg_val rfl rfl (fun W1 hW1 hF => step_callv en_attestor_ext_Add (eAdd fE (q.rho * eM) W1) rfl rfl) ?_
  intro a' ha
  simp only [Act.put, List.setIfInBounds_toArray, List.set_cons_succ, List.set_cons_zero] at ha
  subst ha
  refine rg_det rfl rfl rfl (fun K hK => ?_)
  go_big_quiet_op
  refine hK _ ?_; clear hK K
  refine rg_det rfl rfl rfl (fun K hK => ?_)
  go_big_quiet_op
  refine hK _ ?_; clear hK K
  refine rg_det rfl rfl rfl (fun K hK => ?_)
  go_big_quiet_op
  refine hK _ ?_; clear hK K
  refine rg_det rfl rfl rfl (fun K hK => ?_)
  go_big_quiet_op
  refine hK _ ?_; clear hK K
  refine rg_nil (fun w' hw' hF => ?_)
  obtain ⟨z9, rfl⟩ := hw'
  simp only [List.drop_succ_cons, List.drop_zero]
  have hBz := hw7.trans (z9.h.mono hw7.size)
  clear hF
  go_wp2_with fail
  go_ret
  exact ⟨rfl, hBz⟩
end Go.Proofs.YtnddfeidggcplaaGreat
