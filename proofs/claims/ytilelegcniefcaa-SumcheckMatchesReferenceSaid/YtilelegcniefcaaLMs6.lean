/-
  SumcheckMatchesReference: the walk.
-/
import Derived.Test.YtilelegcniefcaaRw6
import Derived.Test.YtilelegcniefcaaLCo6
namespace Go.Proofs.Ytilelegcniefcaa
open Go.RowKit

attribute [local irreducible] wpRg
set_option maxRecDepth 100000 in
set_option maxHeartbeats 16000000 in
theorem wkSumcheckMatches (q : Raw6) (A : Nat → Option Addr) (cc : Nat → Nat) (AL : Option Addr) (cL : Nat) (rt : List (List Raw)) (rp : List RTrm) (vt0 vp0 : Value) (c : List Raw) (vC : Value) (w : World) (h : Raw6S w q A cc AL cL) (hrt : RTabS 0 w.heap.size w vt0 rt) (hrp : RTrmS 0 w.heap.size w vp0 rp) (hc : RawS 0 w.heap.size w vC c) :
    Calls Try.prog 3 #[raw6V q A cc AL cL, .agg #[vt0, vp0], vC] w (Ret (.bool true) w) := by
  obtain ⟨k0, hk0, kz0, kz1, kz2⟩ := info_parts sum_info
  obtain ⟨AC, capC, rfl⟩ := hc.1.len
  obtain ⟨A0, c0, rfl⟩ := hrt.len
  obtain ⟨P0, cp0, rfl⟩ := hrp.len
  have HM := Lib.hid (fun W (hW : Below w.heap.size w W) => rMade6S q 4 (by decide) A cc AL cL W (h.keep hW))
  have hn5 := q.n_le 4
  have hall := q.all 4
  have hl3 := q.tabs_len 4
  have HS := Lib.hid (fun lo hi w vt vp => @Raw6.sum q 4 lo hi w vt vp)
  have HSh := Lib.hid q.short
  have HX := Lib.hid (fun W (hW : Below w.heap.size w W) => xExact c (q.n 4) (by omega) (.slice AC c.length capC) 0 w.heap.size W ⟨Rd.keep hc.1 hW, hc.2⟩)
  have HXl := Lib.hid (madeAll_length c (q.n 4))
  have HX3 := Lib.hid (fun W (hW : Below w.heap.size w W) => xExact c 3 (by decide) (.slice AC c.length capC) 0 w.heap.size W ⟨Rd.keep hc.1 hW, hc.2⟩)
  have HX3l := Lib.hid (madeAll_length c 3)
  have HSm := Lib.hid (fun W (hW : Below w.heap.size w W) => lSmall rt rp (.slice A0 rt.length c0) (.slice P0 rp.length cp0) 0 w.heap.size W (hrt.keep hW) (hrp.keep hW))
  have HVg := Lib.hid (fun W (hW : Below w.heap.size w W) => gValidS rt rp (.slice A0 rt.length c0) (.slice P0 rp.length cp0) 0 w.heap.size W (hrt.keep hW) (hrp.keep hW))
  have HVr := Lib.hid (fun W (hW : Below w.heap.size w W) => rValidS rt rp (.slice A0 rt.length c0) (.slice P0 rp.length cp0) 0 w.heap.size W (hrt.keep hW) (hrp.keep hW))
  generalize q.tabs 4 = tabs at *
  generalize q.trms = ps at *
  generalize q.n 4 = n at *
  generalize madeAll c n = co at *
  generalize madeAll c 3 = vs at *
  generalize validB rt rp = R at *
  generalize rt.length = lt0 at *
  generalize rp.length = lp0 at *
  have HAll := Lib.hid hall
  have HL3 := Lib.hid hl3
  clear h hc hall hl3 hrt hrp
  unfold raw6V at *
  obtain ⟨l0, -⟩ : ∃ l, l = (q.T 0).length := ⟨_, rfl⟩
  go_enter Try.func3, Try.ntmps3
  go_wp2_with fail
  refine calls_stk2 fun W hB hz b3 b4 => ?_
  refine (lSanity6 W).mono ?_
  rintro e w1 ⟨rfl, hb1⟩
  have hB1 := hB.trans (hb1.mono hB.size)
  have b31 := b3.keep hb1
  have b41 := b4.keep hb1
  clear hz b3 b4
  have c1 := gw_blk b41
  go_wp2_with fail
  cases hs : smallB rt rp
  · rw [hs] at HSm
    clear hs HVg HVr
    refine wp_region_rg 9 [(1, Spec.val (.bool false))] (by kernel_rfl) (by kernel_rfl) (by kernel_rfl) trivial ?_
    refine rg_det rfl rfl rfl (fun K hK => ?_)
    go_big_quiet_op
    refine hK _ ?_; clear hK K
    refine rg_val rfl rfl (fun W1 hW1 hF => step_callv en_attestor_attestorlaw06_small (HSm.out W1 (hB1.trans ((grw_below hW1).mono hB1.size))) rfl rfl) ?_
    intro a' ha
    simp only [Act.put, List.setIfInBounds_toArray, List.set_cons_succ, List.set_cons_zero] at ha
    subst ha
    refine rg_det rfl rfl rfl (fun K hK => ?_)
    go_big_quiet_op
    refine hK _ ?_; clear hK K
    refine rg_skip (by kernel_rfl) ?_
    intro a' ha
    simp only [Act.put, List.setIfInBounds_toArray, List.set_cons_succ, List.set_cons_zero] at ha
    subst ha
    refine rg_skip (by kernel_rfl) ?_
    intro a' ha
    simp only [Act.put, List.setIfInBounds_toArray, List.set_cons_succ, List.set_cons_zero] at ha
    subst ha
    refine rg_skip (by kernel_rfl) ?_
    intro a' ha
    simp only [Act.put, List.setIfInBounds_toArray, List.set_cons_succ, List.set_cons_zero] at ha
    subst ha
    refine rg_skip (by kernel_rfl) ?_
    intro a' ha
    simp only [Act.put, List.setIfInBounds_toArray, List.set_cons_succ, List.set_cons_zero] at ha
    subst ha
    refine rg_skip (by kernel_rfl) ?_
    intro a' ha
    simp only [Act.put, List.setIfInBounds_toArray, List.set_cons_succ, List.set_cons_zero] at ha
    subst ha
    refine rg_det rfl rfl rfl (fun K hK => ?_)
    go_big_quiet_op
    refine hK _ ?_; clear hK K
    refine rg_nil (fun w' hw' hF => ?_)
    obtain ⟨zr, rfl⟩ := hw'
    simp only [List.drop_succ_cons, List.drop_zero]
    have hBz := hB1.trans (zr.h.mono hB1.size)
    have b31z := b31.keep zr.h
    clear hF c1 b41
    have e1 := b31z.cell
    go_wp2_with fail
    refine (HM.out zr.w hBz).mono ?_
    rintro e w2 ⟨v2, rfl, ⟨vt, vp, rfl, ht, hp⟩, hb2⟩
    obtain ⟨At, ct, rfl⟩ := ht.len
    obtain ⟨Ap, cp, rfl⟩ := hp.len
    have hS := HS.out _ _ _ _ _ ht hp
    rw [HL3.out] at hS ⊢
    have hB2 := hBz.trans (hb2.mono hBz.size)
    clear ht hp e1 b31z b31
    unfold sv
    go_upto_region 5 with (fail)
    refine wp_stk1 fun V hV hzV b8 => ?_
    have hBV := hB2.trans (hV.mono hB2.size)
    have hSV := hS.keep hV
    have e1 := b8.cell
    obtain ⟨np, hnp⟩ : ∃ np, np = ps.length := ⟨_, rfl⟩
    rw [← hnp] at hSV b8 e1 ⊢
    clear hS hnp hzV
    go_wp2_with fail
    refine (rLog tabs n (by omega) HAll.out (by rw [HL3.out]; decide) _ _ _ _ V hSV.ht ⟨_, _, _, rfl⟩).mono ?_
    rintro e w3 ⟨rfl, hb3⟩
    go_wp2_with fail
    have hB3 := hBV.trans (hb3.mono hBV.size)
    refine (HX.out w3 hB3).mono ?_
    rintro e w4 ⟨v4, rfl, h4, hb4⟩
    replace h4 : ExtS w3.heap.size w4.heap.size w4 v4 co := h4
    obtain ⟨A4, cap4, hv⟩ := Rd.len h4
    rw [HXl.out] at hv
    subst hv
    have hB4 := hB3.trans (hb4.mono hB3.size)
    go_wp2_with fail
    refine (HX3.out w4 hB4).mono ?_
    rintro e w5 ⟨v5, rfl, h5, hb5⟩
    replace h5 : ExtS w4.heap.size w5.heap.size w5 v5 vs := h5
    obtain ⟨A5, cap5, hv⟩ := Rd.len h5
    rw [HX3l.out] at hv
    subst hv
    have h35 := hb3.trans ((hb4.trans (hb5.mono hb4.size)).mono hb3.size)
    have hB5 := hBV.trans (h35.mono hBV.size)
    have b85 := b8.keep h35
    have HS5 := Lib.hid (hSV.keep h35)
    have HC5 := Lib.hid (Rd.keep h4 hb5)
    have HV5 := Lib.hid h5
    clear e1 b8 hSV h4 h5
    have e1 := b85.cell
    go_wp2_with fail
    refine (gProve tabs ps co n HXl.out (by omega) HAll.out (by rw [HL3.out]; decide) (by rw [HL3.out]; decide) _ _ _ _ _ _ _ w5 HS5.out HC5.out).mono ?_
    rintro e w6 ⟨vR, vV, rfl, hR6, hV6, hb6⟩
    have e2 := (b85.keep hb6).cell
    clear e1
    go_wp2_with fail
    refine (rProve tabs ps co n HXl.out (by omega) HAll.out (by rw [HL3.out]; decide) (by rw [HL3.out]; decide) _ _ _ _ _ _ _ w6 (HS5.out.keep hb6) (Rd.keep HC5.out hb6)).mono ?_
    rintro e w7 ⟨vR2, vV2, rfl, hR7, hV7, hb7⟩
    have h57 := hb6.trans (hb7.mono hb6.size)
    have hB7 := hB5.trans (h57.mono hB5.size)
    have b87 := b85.keep h57
    have HS7 := Lib.hid (HS5.out.keep h57)
    have HV7 := Lib.hid (Rd.keep HV5.out h57)
    obtain ⟨AR, cR, rfl⟩ := hR6.len
    obtain ⟨AR2, cR2, rfl⟩ := hR7.len
    obtain ⟨AV, cV, rfl⟩ := Rd.len hV6
    obtain ⟨AV2, cV2, rfl⟩ := Rd.len hV7
    have HSR := Lib.hid (show ∀ W1, Below w7.heap.size w7 W1 → Calls Try.prog 18 #[.slice AR (prvR tabs ps co).length cR, .slice AR2 (prvR tabs ps co).length cR2] W1 (Ret (.bool true) W1) from fun W1 hW => rSameR _ _ _ _ _ _ _ W1 ((hR6.keep hb7).keep hW) (hR7.keep hW))
    have HSV := Lib.hid (show ∀ W1, Below w7.heap.size w7 W1 → Calls Try.prog 19 #[.slice AV (prvV tabs co).length cV, .slice AV2 (prvV tabs co).length cV2] W1 (Ret (.bool true) W1) from fun W1 hW => xSame3 _ _ _ _ _ _ _ W1 (Rd.keep (Rd.keep hV6 hb7) hW) (Rd.keep hV7 hW))
    have hp2 : 2 ^ n ≤ 2 ^ 4 := Nat.pow_le_pow_right (by decide) (by omega)
    have HDg := Lib.hid (show ∀ W1, Below w7.heap.size w7 W1 → Calls Try.prog 20 #[.agg #[.slice At 3 ct, .slice Ap np cp]] W1 (Ret (.int .i64 (degE ps : Nat)) W1) from fun W1 hW => gDegree _ _ ps _ _ W1 (HS7.out.keep hW).hp HS7.out.short)
    have HDr := Lib.hid (show ∀ W1, Below w7.heap.size w7 W1 → Calls Try.prog 21 #[.agg #[.slice At 3 ct, .slice Ap np cp]] W1 (Ret (.int .i64 (degE ps : Nat)) W1) from fun W1 hW => rDegree _ _ ps _ _ W1 (HS7.out.keep hW).hp HS7.out.short)
    have HTg := Lib.hid (show ∀ W1, Below w7.heap.size w7 W1 → Calls Try.prog 22 #[.agg #[.slice At 3 ct, .slice Ap np cp]] W1 (Ret (ev (totE tabs ps)) W1) from fun W1 hW => gTotal tabs (2 ^ n) _ _ ps _ _ W1 (HS7.out.keep hW) (by rw [HL3.out]; decide) HAll.out (Nat.le_trans hp2 (by decide)))
    have HTr := Lib.hid (show ∀ W1, Below w7.heap.size w7 W1 → Calls Try.prog 23 #[.agg #[.slice At 3 ct, .slice Ap np cp]] W1 (Ret (ev (totE tabs ps)) W1) from fun W1 hW => rTotal tabs (2 ^ n) _ _ ps _ _ W1 (HS7.out.keep hW) (by rw [HL3.out]; decide) (by rw [HL3.out]; decide) HAll.out (Nat.le_trans hp2 (by decide)))
    have hix : ∀ p ∈ ps, ∀ k ∈ p.t, k < vs.length := fun p hp k hk => by have := HS7.out.ix p hp k hk; rw [HX3l.out]; rwa [HL3.out] at this
    have HFg := Lib.hid (show ∀ W1, Below w7.heap.size w7 W1 → Calls Try.prog 24 #[.agg #[.slice At 3 ct, .slice Ap np cp], .slice A5 3 cap5] W1 (Ret (ev (finE (valL vs) ps)) W1) from fun W1 hW => gFinal _ _ _ _ ps _ _ _ _ W1 (HS7.out.keep hW).hp (Rd.keep HV7.out hW) hix HS7.out.few HS7.out.short)
    have HFr := Lib.hid (show ∀ W1, Below w7.heap.size w7 W1 → Calls Try.prog 25 #[.agg #[.slice At 3 ct, .slice Ap np cp], .slice A5 3 cap5] W1 (Ret (ev (finE (valL vs) ps)) W1) from fun W1 hW => rFinal _ _ _ _ ps _ _ _ _ W1 (HS7.out.keep hW).hp (Rd.keep HV7.out hW) hix)
    have HVd := Lib.hid (show ∀ W1, Below w7.heap.size w7 W1 → Calls Try.prog 11 #[.agg #[.slice At 3 ct, .slice Ap np cp]] W1 (Ret (.bool true) W1) from fun W1 hW => gValidGood tabs ps n (by omega) HAll.out (by rw [HL3.out]; decide) (by rw [HL3.out]; decide) HSh.out _ _ _ _ W1 (HS7.out.keep hW))
    clear e2 b85 hR6 hV6 hR7 hV7 hix HS5 HC5 HV5
    generalize (prvR tabs ps co).length = lR at *
    generalize (prvV tabs co).length = lV at *
    generalize totE tabs ps = T at *
    generalize finE (valL vs) ps = F at *
    obtain ⟨D, hD⟩ : ∃ D, D = degE ps := ⟨_, rfl⟩
    rw [← hD] at HDg HDr
    clear hD
    have f1 := gw_blk b87
    go_wp2_with fail
    refine wp_region_rg 38 [(2, Spec.val (.bool true)), (7, Spec.val (.bool true)), (12, Spec.val (.int .i64 (D : Nat))), (14, Spec.val (.int .i64 (D : Nat))), (19, Spec.val (.agg #[.int .u64 (fv (T).a), .int .u64 (fv (T).b)])), (21, Spec.val (.agg #[.int .u64 (fv (T).a), .int .u64 (fv (T).b)])), (27, Spec.val (.agg #[.int .u64 (fv (F).a), .int .u64 (fv (F).b)])), (30, Spec.val (.agg #[.int .u64 (fv (F).a), .int .u64 (fv (F).b)])), (35, Spec.val (.bool true))] (by kernel_rfl) (by kernel_rfl) (by kernel_rfl) trivial ?_
    refine rg_det rfl rfl rfl (fun K hK => ?_)
    go_big_quiet_op
    refine hK _ ?_; clear hK K
    refine rg_det rfl rfl rfl (fun K hK => ?_)
    go_big_quiet_op
    refine hK _ ?_; clear hK K
    refine rg_val rfl rfl (fun W1 hW1 hF => step_callv en_attestor_attestorref06_SameRounds (HSR.out W1 (grw_below hW1)) rfl rfl) ?_
    intro a' ha
    simp only [Act.put, List.setIfInBounds_toArray, List.set_cons_succ, List.set_cons_zero] at ha
    subst ha
    refine rg_det rfl rfl rfl (fun K hK => ?_)
    go_big_quiet_op
    refine hK _ ?_; clear hK K
    refine rg_det rfl rfl rfl (fun K hK => ?_)
    go_big_quiet_op
    refine hK _ ?_; clear hK K
    refine rg_det rfl rfl rfl (fun K hK => ?_)
    go_big_quiet_op
    refine hK _ ?_; clear hK K
    refine rg_det rfl rfl rfl (fun K hK => ?_)
    go_big_quiet_op
    refine hK _ ?_; clear hK K
    refine rg_val rfl rfl (fun W1 hW1 hF => step_callv en_attestor_attestorref03_Same (HSV.out W1 (grw_below hW1)) rfl rfl) ?_
    intro a' ha
    simp only [Act.put, List.setIfInBounds_toArray, List.set_cons_succ, List.set_cons_zero] at ha
    subst ha
    refine rg_det rfl rfl rfl (fun K hK => ?_)
    go_big_quiet_op
    refine hK _ ?_; clear hK K
    refine rg_det rfl rfl rfl (fun K hK => ?_)
    go_big_quiet_op
    refine hK _ ?_; clear hK K
    refine rg_det rfl rfl rfl (fun K hK => ?_)
    go_big_quiet_op
    refine hK _ ?_; clear hK K
    refine rg_det rfl rfl rfl (fun K hK => ?_)
    go_big_quiet_op
    refine hK _ ?_; clear hK K
    refine rg_val rfl rfl (fun W1 hW1 hF => step_callv en_attestor_sumcheck_Degree (HDg.out W1 (grw_below hW1)) rfl rfl) ?_
    intro a' ha
    simp only [Act.put, List.setIfInBounds_toArray, List.set_cons_succ, List.set_cons_zero] at ha
    subst ha
    refine rg_det rfl rfl rfl (fun K hK => ?_)
    go_big_quiet_op
    refine hK _ ?_; clear hK K
    refine rg_val rfl rfl (fun W1 hW1 hF => step_callv en_attestor_attestorref06_Degree (HDr.out W1 (grw_below hW1)) rfl rfl) ?_
    intro a' ha
    simp only [Act.put, List.setIfInBounds_toArray, List.set_cons_succ, List.set_cons_zero] at ha
    subst ha
    refine rg_det rfl rfl rfl (fun K hK => ?_)
    go_big_quiet_op
    refine hK _ ?_; clear hK K
    refine rg_det rfl rfl rfl (fun K hK => ?_)
    go_big_quiet_op
    refine hK _ ?_; clear hK K
    refine rg_det rfl rfl rfl (fun K hK => ?_)
    go_big_quiet_op
    refine hK _ ?_; clear hK K
    refine rg_det rfl rfl rfl (fun K hK => ?_)
    go_big_quiet_op
    refine hK _ ?_; clear hK K
    refine rg_val rfl rfl (fun W1 hW1 hF => step_callv en_attestor_sumcheck_Total (HTg.out W1 (grw_below hW1)) rfl rfl) ?_
    intro a' ha
    simp only [Act.put, List.setIfInBounds_toArray, List.set_cons_succ, List.set_cons_zero] at ha
    subst ha
    refine rg_det rfl rfl rfl (fun K hK => ?_)
    go_big_quiet_op
    refine hK _ ?_; clear hK K
    refine rg_val rfl rfl (fun W1 hW1 hF => step_callv en_attestor_attestorref06_Total (HTr.out W1 (grw_below hW1)) rfl rfl) ?_
    intro a' ha
    simp only [Act.put, List.setIfInBounds_toArray, List.set_cons_succ, List.set_cons_zero] at ha
    subst ha
    refine rg_det rfl rfl rfl (fun K hK => ?_)
    go_big_quiet_op
    refine hK _ ?_; clear hK K
    refine rg_det rfl rfl rfl (fun K hK => ?_)
    go_big_quiet_op
    refine hK _ ?_; clear hK K
    refine rg_det rfl rfl rfl (fun K hK => ?_)
    go_big_quiet_op
    refine hK _ ?_; clear hK K
    refine rg_det rfl rfl rfl (fun K hK => ?_)
    go_big_quiet_op
    refine hK _ ?_; clear hK K
    refine rg_det rfl rfl rfl (fun K hK => ?_)
    go_big_quiet_op
    refine hK _ ?_; clear hK K
    refine rg_val rfl rfl (fun W1 hW1 hF => step_callv en_attestor_sumcheck_Final (HFg.out W1 (grw_below hW1)) rfl rfl) ?_
    intro a' ha
    simp only [Act.put, List.setIfInBounds_toArray, List.set_cons_succ, List.set_cons_zero] at ha
    subst ha
    refine rg_det rfl rfl rfl (fun K hK => ?_)
    go_big_quiet_op
    refine hK _ ?_; clear hK K
    refine rg_det rfl rfl rfl (fun K hK => ?_)
    go_big_quiet_op
    refine hK _ ?_; clear hK K
    refine rg_val rfl rfl (fun W1 hW1 hF => step_callv en_attestor_attestorref06_Final (HFr.out W1 (grw_below hW1)) rfl rfl) ?_
    intro a' ha
    simp only [Act.put, List.setIfInBounds_toArray, List.set_cons_succ, List.set_cons_zero] at ha
    subst ha
    refine rg_det rfl rfl rfl (fun K hK => ?_)
    go_big_quiet_op
    refine hK _ ?_; clear hK K
    refine rg_det rfl rfl rfl (fun K hK => ?_)
    go_big_quiet_op
    refine hK _ ?_; clear hK K
    refine rg_det rfl rfl rfl (fun K hK => ?_)
    go_big_quiet_op
    refine hK _ ?_; clear hK K
    refine rg_det rfl rfl rfl (fun K hK => ?_)
    go_big_quiet_op
    refine hK _ ?_; clear hK K
    refine rg_val rfl rfl (fun W1 hW1 hF => step_callv en_attestor_sumcheck_Valid (HVd.out W1 (grw_below hW1)) rfl rfl) ?_
    intro a' ha
    simp only [Act.put, List.setIfInBounds_toArray, List.set_cons_succ, List.set_cons_zero] at ha
    subst ha
    refine rg_det rfl rfl rfl (fun K hK => ?_)
    go_big_quiet_op
    refine hK _ ?_; clear hK K
    refine rg_det rfl rfl rfl (fun K hK => ?_)
    go_big_quiet_op
    refine hK _ ?_; clear hK K
    refine rg_nil (fun w' hw' hF => ?_)
    obtain ⟨z7, rfl⟩ := hw'
    simp only [List.drop_succ_cons, List.drop_zero]
    have hB8 := hB7.trans (z7.h.mono hB7.size)
    have b88 := b87.keep z7.h
    have HS8 := Lib.hid (HS7.out.keep z7.h)
    have HV8 := Lib.hid (Rd.keep HV7.out z7.h)
    clear hF f1 HSR HSV HDg HDr HTg HTr HFg HFr HVd b87 HS7 HV7
    by_cases h0 : n = 0
    · subst h0
      go_wp2_with fail
      go_ret
      exact ⟨rfl, hB8⟩
    have hn0 : ((n : Int) == 0) = false := by simp; omega
    obtain ⟨M, hM⟩ : ∃ M, M = 2 ^ (n - 1) := ⟨_, rfl⟩
    have HA2 := Lib.hid (show AllLen tabs (2 * M) by have := HAll.out; rw [show n = (n - 1) + 1 by omega, Nat.pow_succ, Nat.mul_comm, ← hM] at this; exact this)
    have hM3 : M ≤ 2 ^ 3 := by rw [hM]; exact Nat.pow_le_pow_right (by decide) (by omega)
    have hM0 : 0 < M := by rw [hM]; exact Nat.pow_pos (by decide)
    clear hM
    obtain ⟨gV, oV, cV', hv, -, -, -, lV', qV⟩ := exts_cells HV8.out (by rw [HX3l.out]; decide)
    rw [HX3l.out] at hv
    cases hv
    obtain ⟨y, hy, -⟩ := get_of (l := vs) (k := 0) (by rw [HX3l.out]; decide)
    obtain ⟨d1, d2⟩ := qV 0 y hy
    simp only [Nat.zero_mul, Nat.add_zero] at d1 d2
    have HBd := Lib.hid (show ∀ W1, Below z7.w.heap.size z7.w W1 → Calls Try.prog 26 #[.agg #[.slice At 3 ct, .slice Ap np cp], ev y] W1 (RetR (BndA (.slice Ap np cp) (bndE tabs y)) W1) from fun W1 hW => gBndSum tabs y M HA2.out hM0 (by omega) (by rw [HL3.out]; decide) _ _ _ _ W1 (HS8.out.keep hW).ht ⟨_, _, _, rfl⟩)
    have HD1 := Lib.hid d1
    have HD2 := Lib.hid d2
    have f1 := gw_blk b88
    have f2 := gw_cell lV' d1
    have f3 := gw_cell lV' d2
    clear qV hy d1 d2
    go_wp2_with fail
    refine wp_region_rg 6 [(4, Spec.rel (BndA (.slice Ap np cp) (bndE tabs y)) AnyV), (5, Spec.rel (New 30 #[.slice none 0 0, .slice none 0 0]) (NewF))] (by kernel_rfl) (by kernel_rfl) (by kernel_rfl) ⟨fit_of (bnd_stable _ _), fit_new, trivial⟩ ?_
    refine rg_det rfl rfl rfl (fun K hK => ?_)
    go_big_quiet_op
    refine hK _ ?_; clear hK K
    refine rg_det rfl rfl rfl (fun K hK => ?_)
    go_big_quiet_op
    refine hK _ ?_; clear hK K
    refine rg_det rfl rfl rfl (fun K hK => ?_)
    go_big_quiet_op
    refine hK _ ?_; clear hK K
    refine rg_det rfl rfl rfl (fun K hK => ?_)
    go_big_quiet_op
    refine hK _ ?_; clear hK K
    refine rg_rel rfl rfl (fun W1 hW1 hF => step_callr en_attestor_sumcheck_Bind (HBd.out W1 (grw_below hW1)) rfl rfl) ?_
    intro nc4 mc4 vc4 hnc4 hmc4 hdc4 hfc4 a' ha
    simp only [Act.put, List.setIfInBounds_toArray, List.set_cons_succ, List.set_cons_zero] at ha
    subst ha
    refine rg_rel rfl rfl (fun W1 hW1 hF => step_new hk0 kz0 rfl) ?_
    intro nc5 mc5 vc5 hnc5 hmc5 hdc5 hfc5 a' ha
    simp only [Act.put, List.setIfInBounds_toArray, List.set_cons_succ, List.set_cons_zero] at ha
    subst ha
    obtain rfl := hfc5
    refine rg_nil (fun w' hw' hF => ?_)
    obtain ⟨z8, rfl⟩ := hw'
    simp only [List.drop_succ_cons, List.drop_zero]
    obtain ⟨hmc4', vtb, rfl, htb⟩ := end_last (end_init hF)
    obtain ⟨hmc5', -, hlc5, bc5⟩ := end_last hF
    have hdj := hdc5 (nc4, mc4) (by simp)
    simp only at hdj
    obtain ⟨Ab, cb, hv⟩ := htb.len
    rw [bndE_length, HL3.out] at hv
    subst hv
    have e2 := bc5.frozen
    have e3 := bc5.cell
    unfold sv
    clear hF f1 f2 f3 hdc4 hdc5
    go_upto_region 15 with (fail)
    refine set2 (M := fun W => Code.wp _ _ _ _ W) bc5 fun X8 hX8 b16 => ?_
    have hX8B := below_put z8.h hX8 hnc5
    have HTB := Lib.hid (htb.put hX8 (by omega))
    have b89 := b88.keep hX8B
    have hB9 := hB8.trans (hX8B.mono hB8.size)
    have HS9 := Lib.hid (HS8.out.keep hX8B)
    clear e2 e3 bc5 htb hX8 b88 HS8 HBd
    obtain ⟨gT, oT, cT, hv, -, -, -, lT, qT⟩ := tabs_cells HS9.out.ht (by rw [HL3.out]; decide)
    rw [HL3.out] at hv
    cases hv
    obtain ⟨gB, oB, cB, hv, -, -, -, lB, qB⟩ := tabs_cells HTB.out (by rw [bndE_length, HL3.out]; decide)
    rw [bndE_length, HL3.out] at hv
    cases hv
    have HQT := Lib.hid qT
    have HQB := Lib.hid qB
    have e1 := b16.cell
    have e2 := b89.cell
    clear qT qB
    go_wp2_with fail
    go_loopw [17] (fun i wr => ∃ j : Nat, j ≤ 3 ∧ i = .int .i64 j ∧ Below X8.heap.size X8 wr) (fun i _ => 3 - (intOf i).toNat)
    case atStart => exact ⟨0, by decide, rfl, Below.refl _ _⟩
    case round =>
      obtain ⟨j, hj, rfl, hBr⟩ := hrel
      have hXr := hX8B.trans (hBr.mono hX8B.size)
      have f1 := gw_blk (b16.keep hBr)
      have f2 := gw_blk (b89.keep hBr)
      by_cases hlt : j < 3
      · obtain ⟨t, ht⟩ : ∃ t, tabs[j]? = some t := ⟨_, List.getElem?_eq_getElem (by rw [HL3.out]; exact hlt)⟩
        obtain ⟨AT1, cT1, d1, hE1⟩ := HQT.out j t ht
        obtain ⟨AB1, cB1, d2, hE2⟩ := HQB.out j (bindL t y) (bndE_get tabs y j t ht)
        have htl := HA2.out t (List.mem_of_getElem? ht)
        have HRb := Lib.hid (show ∀ W1, Below wr.heap.size wr W1 → Calls Try.prog 27 #[.slice AT1 t.length cT1, ev y] W1 (RetR (ExtA (bindL t y)) W1) from fun W1 hW => rBind t y M htl (by omega) _ _ _ W1 (Rd.keep (Rd.keep hE1 hBr) hW))
        have HE2 := Lib.hid (Rd.keep hE2 hBr)
        have f3 := gw_cell (W := wr) (Nat.lt_of_lt_of_le lT hBr.size) ((hBr.cell (p := ⟨gT, oT + j, none⟩) lT).trans d1)
        have f4 := gw_cell (W := wr) (Nat.lt_of_lt_of_le lB hBr.size) ((hBr.cell (p := ⟨gB, oB + j, none⟩) lB).trans d2)
        have f5 := gw_cell (W := wr) (Nat.lt_of_lt_of_le lV' hXr.size) ((hXr.cell (p := ⟨gV, oV, none⟩) lV').trans HD1.out)
        have f6 := gw_cell (W := wr) (Nat.lt_of_lt_of_le lV' hXr.size) ((hXr.cell (p := ⟨gV, oV + 1, none⟩) lV').trans HD2.out)
        clear ht d1 d2 hE1 hE2 htl
        generalize bindL t y = zl at *
        generalize t.length = tl at *
        go_wp2_with fail
        refine wp_region_rg 16 [(13, Spec.rel (ExtA zl) (SlF zl.length)), (14, Spec.val (.bool true))] (by kernel_rfl) (by kernel_rfl) (by kernel_rfl) ⟨fit_ext, trivial⟩ ?_
        refine rg_det rfl rfl rfl (fun K hK => ?_)
        go_big_quiet_op
        refine hK _ ?_; clear hK K
        refine rg_det rfl rfl rfl (fun K hK => ?_)
        go_big_quiet_op
        refine hK _ ?_; clear hK K
        refine rg_det rfl rfl rfl (fun K hK => ?_)
        go_big_quiet_op
        refine hK _ ?_; clear hK K
        refine rg_det rfl rfl rfl (fun K hK => ?_)
        go_big_quiet_op
        refine hK _ ?_; clear hK K
        refine rg_det rfl rfl rfl (fun K hK => ?_)
        go_big_quiet_op
        refine hK _ ?_; clear hK K
        refine rg_det rfl rfl rfl (fun K hK => ?_)
        go_big_quiet_op
        refine hK _ ?_; clear hK K
        refine rg_det rfl rfl rfl (fun K hK => ?_)
        go_big_quiet_op
        refine hK _ ?_; clear hK K
        refine rg_det rfl rfl rfl (fun K hK => ?_)
        go_big_quiet_op
        refine hK _ ?_; clear hK K
        refine rg_det rfl rfl rfl (fun K hK => ?_)
        go_big_quiet_op
        refine hK _ ?_; clear hK K
        refine rg_det rfl rfl rfl (fun K hK => ?_)
        go_big_quiet_op
        refine hK _ ?_; clear hK K
        refine rg_det rfl rfl rfl (fun K hK => ?_)
        go_big_quiet_op
        refine hK _ ?_; clear hK K
        refine rg_det rfl rfl rfl (fun K hK => ?_)
        go_big_quiet_op
        refine hK _ ?_; clear hK K
        refine rg_det rfl rfl rfl (fun K hK => ?_)
        go_big_quiet_op
        refine hK _ ?_; clear hK K
        refine rg_rel rfl rfl (fun W1 hW1 hF => step_callr en_attestor_attestorref05_Bind (HRb.out W1 (grw_below hW1)) rfl rfl) ?_
        intro nd13 md13 vd13 hnd13 hmd13 hdd13 hfd13 a' ha
        simp only [Act.put, List.setIfInBounds_toArray, List.set_cons_succ, List.set_cons_zero] at ha
        subst ha
        obtain ⟨Ad13, capd13, rfl⟩ := hfd13
        refine rg_val rfl rfl (fun W1 hW1 hF => step_callv en_attestor_attestorref03_Same (xSame3 zl _ _ _ _ _ _ W1 (Rd.keep HE2.out (grw_below hW1)) (pick_last hF (by kernel_rfl)).2) rfl rfl) ?_
        intro a' ha
        simp only [Act.put, List.setIfInBounds_toArray, List.set_cons_succ, List.set_cons_zero] at ha
        subst ha
        refine rg_det rfl rfl rfl (fun K hK => ?_)
        go_big_quiet_op
        refine hK _ ?_; clear hK K
        refine rg_nil (fun w' hw' hF => ?_)
        obtain ⟨z9, rfl⟩ := hw'
        simp only [List.drop_succ_cons, List.drop_zero]
        clear hF f1 f2 f3 f4 f5 f6 hdd13
        go_wp2_with fail
        exact ⟨⟨j + 1, by omega, by go_num, hBr.trans (z9.h.mono hBr.size)⟩, by simp [intOf]; omega⟩
      · obtain rfl : j = 3 := by omega
        have HRg := Lib.hid (show ∀ W1, Below wr.heap.size wr W1 → Calls Try.prog 28 #[.agg #[.slice (some ⟨gT, oT, none⟩) 3 ct, .slice Ap np cp]] W1 (RetR (ExtA (rndE tabs ps)) W1) from fun W1 hW => gRound tabs ps M HA2.out (by rw [HL3.out]; decide) (by rw [HL3.out]; decide) (by omega) _ _ _ _ W1 ((HS9.out.keep hBr).keep hW))
        have HRr := Lib.hid (show ∀ W1, Below wr.heap.size wr W1 → Calls Try.prog 29 #[.agg #[.slice (some ⟨gT, oT, none⟩) 3 ct, .slice Ap np cp]] W1 (RetR (ExtA (rndE tabs ps)) W1) from fun W1 hW => rRound tabs ps M HA2.out (by rw [HL3.out]; decide) (by rw [HL3.out]; decide) (by omega) _ _ _ _ W1 ((HS9.out.keep hBr).keep hW))
        generalize rndE tabs ps = rl at *
        clear f1
        go_wp2_with fail
        refine wp_region_rg 8 [(3, Spec.rel (ExtA rl) (SlF rl.length)), (5, Spec.rel (ExtA rl) (SlF rl.length)), (6, Spec.val (.bool true))] (by kernel_rfl) (by kernel_rfl) (by kernel_rfl) ⟨fit_ext, fit_ext, trivial⟩ ?_
        refine rg_det rfl rfl rfl (fun K hK => ?_)
        go_big_quiet_op
        refine hK _ ?_; clear hK K
        refine rg_det rfl rfl rfl (fun K hK => ?_)
        go_big_quiet_op
        refine hK _ ?_; clear hK K
        refine rg_det rfl rfl rfl (fun K hK => ?_)
        go_big_quiet_op
        refine hK _ ?_; clear hK K
        refine rg_rel rfl rfl (fun W1 hW1 hF => step_callr en_attestor_sumcheck_Round (HRg.out W1 (grw_below hW1)) rfl rfl) ?_
        intro nd3 md3 vd3 hnd3 hmd3 hdd3 hfd3 a' ha
        simp only [Act.put, List.setIfInBounds_toArray, List.set_cons_succ, List.set_cons_zero] at ha
        subst ha
        obtain ⟨Ad3, capd3, rfl⟩ := hfd3
        refine rg_det rfl rfl rfl (fun K hK => ?_)
        go_big_quiet_op
        refine hK _ ?_; clear hK K
        refine rg_rel rfl rfl (fun W1 hW1 hF => step_callr en_attestor_attestorref06_Round (HRr.out W1 (grw_below hW1)) rfl rfl) ?_
        intro nd5 md5 vd5 hnd5 hmd5 hdd5 hfd5 a' ha
        simp only [Act.put, List.setIfInBounds_toArray, List.set_cons_succ, List.set_cons_zero] at ha
        subst ha
        obtain ⟨Ad5, capd5, rfl⟩ := hfd5
        refine rg_val rfl rfl (fun W1 hW1 hF => step_callv en_attestor_attestorref03_Same (xSame3 rl _ _ _ _ _ _ W1 (pick_last (pick_init hF) (by kernel_rfl)).2 (pick_last hF (by kernel_rfl)).2) rfl rfl) ?_
        intro a' ha
        simp only [Act.put, List.setIfInBounds_toArray, List.set_cons_succ, List.set_cons_zero] at ha
        subst ha
        refine rg_det rfl rfl rfl (fun K hK => ?_)
        go_big_quiet_op
        refine hK _ ?_; clear hK K
        refine rg_nil (fun w' hw' hF => ?_)
        obtain ⟨z9, rfl⟩ := hw'
        simp only [List.drop_succ_cons, List.drop_zero]
        clear hF f2 hdd3 hdd5
        go_wp2_with fail
        go_ret
        exact ⟨rfl, hB9.trans ((hBr.trans (z9.h.mono hBr.size)).mono hB9.size)⟩
  · rw [hs] at HSm
    clear hs
    cases R
    · skip
      refine wp_region_rg 9 [(1, Spec.val (.bool true)), (4, Spec.val (.bool false)), (6, Spec.val (.bool false))] (by kernel_rfl) (by kernel_rfl) (by kernel_rfl) trivial ?_
      refine rg_det rfl rfl rfl (fun K hK => ?_)
      go_big_quiet_op
      refine hK _ ?_; clear hK K
      refine rg_val rfl rfl (fun W1 hW1 hF => step_callv en_attestor_attestorlaw06_small (HSm.out W1 (hB1.trans ((grw_below hW1).mono hB1.size))) rfl rfl) ?_
      intro a' ha
      simp only [Act.put, List.setIfInBounds_toArray, List.set_cons_succ, List.set_cons_zero] at ha
      subst ha
      refine rg_det rfl rfl rfl (fun K hK => ?_)
      go_big_quiet_op
      refine hK _ ?_; clear hK K
      refine rg_det rfl rfl rfl (fun K hK => ?_)
      go_big_quiet_op
      refine hK _ ?_; clear hK K
      refine rg_val rfl rfl (fun W1 hW1 hF => step_callv en_attestor_sumcheck_Valid (HVg.out W1 (hB1.trans ((grw_below hW1).mono hB1.size))) rfl rfl) ?_
      intro a' ha
      simp only [Act.put, List.setIfInBounds_toArray, List.set_cons_succ, List.set_cons_zero] at ha
      subst ha
      refine rg_det rfl rfl rfl (fun K hK => ?_)
      go_big_quiet_op
      refine hK _ ?_; clear hK K
      refine rg_val rfl rfl (fun W1 hW1 hF => step_callv en_attestor_attestorref06_Valid (HVr.out W1 (hB1.trans ((grw_below hW1).mono hB1.size))) rfl rfl) ?_
      intro a' ha
      simp only [Act.put, List.setIfInBounds_toArray, List.set_cons_succ, List.set_cons_zero] at ha
      subst ha
      refine rg_det rfl rfl rfl (fun K hK => ?_)
      go_big_quiet_op
      refine hK _ ?_; clear hK K
      refine rg_det rfl rfl rfl (fun K hK => ?_)
      go_big_quiet_op
      refine hK _ ?_; clear hK K
      refine rg_nil (fun w' hw' hF => ?_)
      obtain ⟨zr, rfl⟩ := hw'
      simp only [List.drop_succ_cons, List.drop_zero]
      have hBz := hB1.trans (zr.h.mono hB1.size)
      have b31z := b31.keep zr.h
      clear hF c1 b41
      have e1 := b31z.cell
      go_wp2_with fail
      refine (HM.out zr.w hBz).mono ?_
      rintro e w2 ⟨v2, rfl, ⟨vt, vp, rfl, ht, hp⟩, hb2⟩
      obtain ⟨At, ct, rfl⟩ := ht.len
      obtain ⟨Ap, cp, rfl⟩ := hp.len
      have hS := HS.out _ _ _ _ _ ht hp
      rw [HL3.out] at hS ⊢
      have hB2 := hBz.trans (hb2.mono hBz.size)
      clear ht hp e1 b31z b31
      unfold sv
      go_upto_region 5 with (fail)
      refine wp_stk1 fun V hV hzV b8 => ?_
      have hBV := hB2.trans (hV.mono hB2.size)
      have hSV := hS.keep hV
      have e1 := b8.cell
      obtain ⟨np, hnp⟩ : ∃ np, np = ps.length := ⟨_, rfl⟩
      rw [← hnp] at hSV b8 e1 ⊢
      clear hS hnp hzV
      go_wp2_with fail
      refine (rLog tabs n (by omega) HAll.out (by rw [HL3.out]; decide) _ _ _ _ V hSV.ht ⟨_, _, _, rfl⟩).mono ?_
      rintro e w3 ⟨rfl, hb3⟩
      go_wp2_with fail
      have hB3 := hBV.trans (hb3.mono hBV.size)
      refine (HX.out w3 hB3).mono ?_
      rintro e w4 ⟨v4, rfl, h4, hb4⟩
      replace h4 : ExtS w3.heap.size w4.heap.size w4 v4 co := h4
      obtain ⟨A4, cap4, hv⟩ := Rd.len h4
      rw [HXl.out] at hv
      subst hv
      have hB4 := hB3.trans (hb4.mono hB3.size)
      go_wp2_with fail
      refine (HX3.out w4 hB4).mono ?_
      rintro e w5 ⟨v5, rfl, h5, hb5⟩
      replace h5 : ExtS w4.heap.size w5.heap.size w5 v5 vs := h5
      obtain ⟨A5, cap5, hv⟩ := Rd.len h5
      rw [HX3l.out] at hv
      subst hv
      have h35 := hb3.trans ((hb4.trans (hb5.mono hb4.size)).mono hb3.size)
      have hB5 := hBV.trans (h35.mono hBV.size)
      have b85 := b8.keep h35
      have HS5 := Lib.hid (hSV.keep h35)
      have HC5 := Lib.hid (Rd.keep h4 hb5)
      have HV5 := Lib.hid h5
      clear e1 b8 hSV h4 h5
      have e1 := b85.cell
      go_wp2_with fail
      refine (gProve tabs ps co n HXl.out (by omega) HAll.out (by rw [HL3.out]; decide) (by rw [HL3.out]; decide) _ _ _ _ _ _ _ w5 HS5.out HC5.out).mono ?_
      rintro e w6 ⟨vR, vV, rfl, hR6, hV6, hb6⟩
      have e2 := (b85.keep hb6).cell
      clear e1
      go_wp2_with fail
      refine (rProve tabs ps co n HXl.out (by omega) HAll.out (by rw [HL3.out]; decide) (by rw [HL3.out]; decide) _ _ _ _ _ _ _ w6 (HS5.out.keep hb6) (Rd.keep HC5.out hb6)).mono ?_
      rintro e w7 ⟨vR2, vV2, rfl, hR7, hV7, hb7⟩
      have h57 := hb6.trans (hb7.mono hb6.size)
      have hB7 := hB5.trans (h57.mono hB5.size)
      have b87 := b85.keep h57
      have HS7 := Lib.hid (HS5.out.keep h57)
      have HV7 := Lib.hid (Rd.keep HV5.out h57)
      obtain ⟨AR, cR, rfl⟩ := hR6.len
      obtain ⟨AR2, cR2, rfl⟩ := hR7.len
      obtain ⟨AV, cV, rfl⟩ := Rd.len hV6
      obtain ⟨AV2, cV2, rfl⟩ := Rd.len hV7
      have HSR := Lib.hid (show ∀ W1, Below w7.heap.size w7 W1 → Calls Try.prog 18 #[.slice AR (prvR tabs ps co).length cR, .slice AR2 (prvR tabs ps co).length cR2] W1 (Ret (.bool true) W1) from fun W1 hW => rSameR _ _ _ _ _ _ _ W1 ((hR6.keep hb7).keep hW) (hR7.keep hW))
      have HSV := Lib.hid (show ∀ W1, Below w7.heap.size w7 W1 → Calls Try.prog 19 #[.slice AV (prvV tabs co).length cV, .slice AV2 (prvV tabs co).length cV2] W1 (Ret (.bool true) W1) from fun W1 hW => xSame3 _ _ _ _ _ _ _ W1 (Rd.keep (Rd.keep hV6 hb7) hW) (Rd.keep hV7 hW))
      have hp2 : 2 ^ n ≤ 2 ^ 4 := Nat.pow_le_pow_right (by decide) (by omega)
      have HDg := Lib.hid (show ∀ W1, Below w7.heap.size w7 W1 → Calls Try.prog 20 #[.agg #[.slice At 3 ct, .slice Ap np cp]] W1 (Ret (.int .i64 (degE ps : Nat)) W1) from fun W1 hW => gDegree _ _ ps _ _ W1 (HS7.out.keep hW).hp HS7.out.short)
      have HDr := Lib.hid (show ∀ W1, Below w7.heap.size w7 W1 → Calls Try.prog 21 #[.agg #[.slice At 3 ct, .slice Ap np cp]] W1 (Ret (.int .i64 (degE ps : Nat)) W1) from fun W1 hW => rDegree _ _ ps _ _ W1 (HS7.out.keep hW).hp HS7.out.short)
      have HTg := Lib.hid (show ∀ W1, Below w7.heap.size w7 W1 → Calls Try.prog 22 #[.agg #[.slice At 3 ct, .slice Ap np cp]] W1 (Ret (ev (totE tabs ps)) W1) from fun W1 hW => gTotal tabs (2 ^ n) _ _ ps _ _ W1 (HS7.out.keep hW) (by rw [HL3.out]; decide) HAll.out (Nat.le_trans hp2 (by decide)))
      have HTr := Lib.hid (show ∀ W1, Below w7.heap.size w7 W1 → Calls Try.prog 23 #[.agg #[.slice At 3 ct, .slice Ap np cp]] W1 (Ret (ev (totE tabs ps)) W1) from fun W1 hW => rTotal tabs (2 ^ n) _ _ ps _ _ W1 (HS7.out.keep hW) (by rw [HL3.out]; decide) (by rw [HL3.out]; decide) HAll.out (Nat.le_trans hp2 (by decide)))
      have hix : ∀ p ∈ ps, ∀ k ∈ p.t, k < vs.length := fun p hp k hk => by have := HS7.out.ix p hp k hk; rw [HX3l.out]; rwa [HL3.out] at this
      have HFg := Lib.hid (show ∀ W1, Below w7.heap.size w7 W1 → Calls Try.prog 24 #[.agg #[.slice At 3 ct, .slice Ap np cp], .slice A5 3 cap5] W1 (Ret (ev (finE (valL vs) ps)) W1) from fun W1 hW => gFinal _ _ _ _ ps _ _ _ _ W1 (HS7.out.keep hW).hp (Rd.keep HV7.out hW) hix HS7.out.few HS7.out.short)
      have HFr := Lib.hid (show ∀ W1, Below w7.heap.size w7 W1 → Calls Try.prog 25 #[.agg #[.slice At 3 ct, .slice Ap np cp], .slice A5 3 cap5] W1 (Ret (ev (finE (valL vs) ps)) W1) from fun W1 hW => rFinal _ _ _ _ ps _ _ _ _ W1 (HS7.out.keep hW).hp (Rd.keep HV7.out hW) hix)
      have HVd := Lib.hid (show ∀ W1, Below w7.heap.size w7 W1 → Calls Try.prog 11 #[.agg #[.slice At 3 ct, .slice Ap np cp]] W1 (Ret (.bool true) W1) from fun W1 hW => gValidGood tabs ps n (by omega) HAll.out (by rw [HL3.out]; decide) (by rw [HL3.out]; decide) HSh.out _ _ _ _ W1 (HS7.out.keep hW))
      clear e2 b85 hR6 hV6 hR7 hV7 hix HS5 HC5 HV5
      generalize (prvR tabs ps co).length = lR at *
      generalize (prvV tabs co).length = lV at *
      generalize totE tabs ps = T at *
      generalize finE (valL vs) ps = F at *
      obtain ⟨D, hD⟩ : ∃ D, D = degE ps := ⟨_, rfl⟩
      rw [← hD] at HDg HDr
      clear hD
      have f1 := gw_blk b87
      go_wp2_with fail
      refine wp_region_rg 38 [(2, Spec.val (.bool true)), (7, Spec.val (.bool true)), (12, Spec.val (.int .i64 (D : Nat))), (14, Spec.val (.int .i64 (D : Nat))), (19, Spec.val (.agg #[.int .u64 (fv (T).a), .int .u64 (fv (T).b)])), (21, Spec.val (.agg #[.int .u64 (fv (T).a), .int .u64 (fv (T).b)])), (27, Spec.val (.agg #[.int .u64 (fv (F).a), .int .u64 (fv (F).b)])), (30, Spec.val (.agg #[.int .u64 (fv (F).a), .int .u64 (fv (F).b)])), (35, Spec.val (.bool true))] (by kernel_rfl) (by kernel_rfl) (by kernel_rfl) trivial ?_
      refine rg_det rfl rfl rfl (fun K hK => ?_)
      go_big_quiet_op
      refine hK _ ?_; clear hK K
      refine rg_det rfl rfl rfl (fun K hK => ?_)
      go_big_quiet_op
      refine hK _ ?_; clear hK K
      refine rg_val rfl rfl (fun W1 hW1 hF => step_callv en_attestor_attestorref06_SameRounds (HSR.out W1 (grw_below hW1)) rfl rfl) ?_
      intro a' ha
      simp only [Act.put, List.setIfInBounds_toArray, List.set_cons_succ, List.set_cons_zero] at ha
      subst ha
      refine rg_det rfl rfl rfl (fun K hK => ?_)
      go_big_quiet_op
      refine hK _ ?_; clear hK K
      refine rg_det rfl rfl rfl (fun K hK => ?_)
      go_big_quiet_op
      refine hK _ ?_; clear hK K
      refine rg_det rfl rfl rfl (fun K hK => ?_)
      go_big_quiet_op
      refine hK _ ?_; clear hK K
      refine rg_det rfl rfl rfl (fun K hK => ?_)
      go_big_quiet_op
      refine hK _ ?_; clear hK K
      refine rg_val rfl rfl (fun W1 hW1 hF => step_callv en_attestor_attestorref03_Same (HSV.out W1 (grw_below hW1)) rfl rfl) ?_
      intro a' ha
      simp only [Act.put, List.setIfInBounds_toArray, List.set_cons_succ, List.set_cons_zero] at ha
      subst ha
      refine rg_det rfl rfl rfl (fun K hK => ?_)
      go_big_quiet_op
      refine hK _ ?_; clear hK K
      refine rg_det rfl rfl rfl (fun K hK => ?_)
      go_big_quiet_op
      refine hK _ ?_; clear hK K
      refine rg_det rfl rfl rfl (fun K hK => ?_)
      go_big_quiet_op
      refine hK _ ?_; clear hK K
      refine rg_det rfl rfl rfl (fun K hK => ?_)
      go_big_quiet_op
      refine hK _ ?_; clear hK K
      refine rg_val rfl rfl (fun W1 hW1 hF => step_callv en_attestor_sumcheck_Degree (HDg.out W1 (grw_below hW1)) rfl rfl) ?_
      intro a' ha
      simp only [Act.put, List.setIfInBounds_toArray, List.set_cons_succ, List.set_cons_zero] at ha
      subst ha
      refine rg_det rfl rfl rfl (fun K hK => ?_)
      go_big_quiet_op
      refine hK _ ?_; clear hK K
      refine rg_val rfl rfl (fun W1 hW1 hF => step_callv en_attestor_attestorref06_Degree (HDr.out W1 (grw_below hW1)) rfl rfl) ?_
      intro a' ha
      simp only [Act.put, List.setIfInBounds_toArray, List.set_cons_succ, List.set_cons_zero] at ha
      subst ha
      refine rg_det rfl rfl rfl (fun K hK => ?_)
      go_big_quiet_op
      refine hK _ ?_; clear hK K
      refine rg_det rfl rfl rfl (fun K hK => ?_)
      go_big_quiet_op
      refine hK _ ?_; clear hK K
      refine rg_det rfl rfl rfl (fun K hK => ?_)
      go_big_quiet_op
      refine hK _ ?_; clear hK K
      refine rg_det rfl rfl rfl (fun K hK => ?_)
      go_big_quiet_op
      refine hK _ ?_; clear hK K
      refine rg_val rfl rfl (fun W1 hW1 hF => step_callv en_attestor_sumcheck_Total (HTg.out W1 (grw_below hW1)) rfl rfl) ?_
      intro a' ha
      simp only [Act.put, List.setIfInBounds_toArray, List.set_cons_succ, List.set_cons_zero] at ha
      subst ha
      refine rg_det rfl rfl rfl (fun K hK => ?_)
      go_big_quiet_op
      refine hK _ ?_; clear hK K
      refine rg_val rfl rfl (fun W1 hW1 hF => step_callv en_attestor_attestorref06_Total (HTr.out W1 (grw_below hW1)) rfl rfl) ?_
      intro a' ha
      simp only [Act.put, List.setIfInBounds_toArray, List.set_cons_succ, List.set_cons_zero] at ha
      subst ha
      refine rg_det rfl rfl rfl (fun K hK => ?_)
      go_big_quiet_op
      refine hK _ ?_; clear hK K
      refine rg_det rfl rfl rfl (fun K hK => ?_)
      go_big_quiet_op
      refine hK _ ?_; clear hK K
      refine rg_det rfl rfl rfl (fun K hK => ?_)
      go_big_quiet_op
      refine hK _ ?_; clear hK K
      refine rg_det rfl rfl rfl (fun K hK => ?_)
      go_big_quiet_op
      refine hK _ ?_; clear hK K
      refine rg_det rfl rfl rfl (fun K hK => ?_)
      go_big_quiet_op
      refine hK _ ?_; clear hK K
      refine rg_val rfl rfl (fun W1 hW1 hF => step_callv en_attestor_sumcheck_Final (HFg.out W1 (grw_below hW1)) rfl rfl) ?_
      intro a' ha
      simp only [Act.put, List.setIfInBounds_toArray, List.set_cons_succ, List.set_cons_zero] at ha
      subst ha
      refine rg_det rfl rfl rfl (fun K hK => ?_)
      go_big_quiet_op
      refine hK _ ?_; clear hK K
      refine rg_det rfl rfl rfl (fun K hK => ?_)
      go_big_quiet_op
      refine hK _ ?_; clear hK K
      refine rg_val rfl rfl (fun W1 hW1 hF => step_callv en_attestor_attestorref06_Final (HFr.out W1 (grw_below hW1)) rfl rfl) ?_
      intro a' ha
      simp only [Act.put, List.setIfInBounds_toArray, List.set_cons_succ, List.set_cons_zero] at ha
      subst ha
      refine rg_det rfl rfl rfl (fun K hK => ?_)
      go_big_quiet_op
      refine hK _ ?_; clear hK K
      refine rg_det rfl rfl rfl (fun K hK => ?_)
      go_big_quiet_op
      refine hK _ ?_; clear hK K
      refine rg_det rfl rfl rfl (fun K hK => ?_)
      go_big_quiet_op
      refine hK _ ?_; clear hK K
      refine rg_det rfl rfl rfl (fun K hK => ?_)
      go_big_quiet_op
      refine hK _ ?_; clear hK K
      refine rg_val rfl rfl (fun W1 hW1 hF => step_callv en_attestor_sumcheck_Valid (HVd.out W1 (grw_below hW1)) rfl rfl) ?_
      intro a' ha
      simp only [Act.put, List.setIfInBounds_toArray, List.set_cons_succ, List.set_cons_zero] at ha
      subst ha
      refine rg_det rfl rfl rfl (fun K hK => ?_)
      go_big_quiet_op
      refine hK _ ?_; clear hK K
      refine rg_det rfl rfl rfl (fun K hK => ?_)
      go_big_quiet_op
      refine hK _ ?_; clear hK K
      refine rg_nil (fun w' hw' hF => ?_)
      obtain ⟨z7, rfl⟩ := hw'
      simp only [List.drop_succ_cons, List.drop_zero]
      have hB8 := hB7.trans (z7.h.mono hB7.size)
      have b88 := b87.keep z7.h
      have HS8 := Lib.hid (HS7.out.keep z7.h)
      have HV8 := Lib.hid (Rd.keep HV7.out z7.h)
      clear hF f1 HSR HSV HDg HDr HTg HTr HFg HFr HVd b87 HS7 HV7
      by_cases h0 : n = 0
      · subst h0
        go_wp2_with fail
        go_ret
        exact ⟨rfl, hB8⟩
      have hn0 : ((n : Int) == 0) = false := by simp; omega
      obtain ⟨M, hM⟩ : ∃ M, M = 2 ^ (n - 1) := ⟨_, rfl⟩
      have HA2 := Lib.hid (show AllLen tabs (2 * M) by have := HAll.out; rw [show n = (n - 1) + 1 by omega, Nat.pow_succ, Nat.mul_comm, ← hM] at this; exact this)
      have hM3 : M ≤ 2 ^ 3 := by rw [hM]; exact Nat.pow_le_pow_right (by decide) (by omega)
      have hM0 : 0 < M := by rw [hM]; exact Nat.pow_pos (by decide)
      clear hM
      obtain ⟨gV, oV, cV', hv, -, -, -, lV', qV⟩ := exts_cells HV8.out (by rw [HX3l.out]; decide)
      rw [HX3l.out] at hv
      cases hv
      obtain ⟨y, hy, -⟩ := get_of (l := vs) (k := 0) (by rw [HX3l.out]; decide)
      obtain ⟨d1, d2⟩ := qV 0 y hy
      simp only [Nat.zero_mul, Nat.add_zero] at d1 d2
      have HBd := Lib.hid (show ∀ W1, Below z7.w.heap.size z7.w W1 → Calls Try.prog 26 #[.agg #[.slice At 3 ct, .slice Ap np cp], ev y] W1 (RetR (BndA (.slice Ap np cp) (bndE tabs y)) W1) from fun W1 hW => gBndSum tabs y M HA2.out hM0 (by omega) (by rw [HL3.out]; decide) _ _ _ _ W1 (HS8.out.keep hW).ht ⟨_, _, _, rfl⟩)
      have HD1 := Lib.hid d1
      have HD2 := Lib.hid d2
      have f1 := gw_blk b88
      have f2 := gw_cell lV' d1
      have f3 := gw_cell lV' d2
      clear qV hy d1 d2
      go_wp2_with fail
      refine wp_region_rg 6 [(4, Spec.rel (BndA (.slice Ap np cp) (bndE tabs y)) AnyV), (5, Spec.rel (New 30 #[.slice none 0 0, .slice none 0 0]) (NewF))] (by kernel_rfl) (by kernel_rfl) (by kernel_rfl) ⟨fit_of (bnd_stable _ _), fit_new, trivial⟩ ?_
      refine rg_det rfl rfl rfl (fun K hK => ?_)
      go_big_quiet_op
      refine hK _ ?_; clear hK K
      refine rg_det rfl rfl rfl (fun K hK => ?_)
      go_big_quiet_op
      refine hK _ ?_; clear hK K
      refine rg_det rfl rfl rfl (fun K hK => ?_)
      go_big_quiet_op
      refine hK _ ?_; clear hK K
      refine rg_det rfl rfl rfl (fun K hK => ?_)
      go_big_quiet_op
      refine hK _ ?_; clear hK K
      refine rg_rel rfl rfl (fun W1 hW1 hF => step_callr en_attestor_sumcheck_Bind (HBd.out W1 (grw_below hW1)) rfl rfl) ?_
      intro nc4 mc4 vc4 hnc4 hmc4 hdc4 hfc4 a' ha
      simp only [Act.put, List.setIfInBounds_toArray, List.set_cons_succ, List.set_cons_zero] at ha
      subst ha
      refine rg_rel rfl rfl (fun W1 hW1 hF => step_new hk0 kz0 rfl) ?_
      intro nc5 mc5 vc5 hnc5 hmc5 hdc5 hfc5 a' ha
      simp only [Act.put, List.setIfInBounds_toArray, List.set_cons_succ, List.set_cons_zero] at ha
      subst ha
      obtain rfl := hfc5
      refine rg_nil (fun w' hw' hF => ?_)
      obtain ⟨z8, rfl⟩ := hw'
      simp only [List.drop_succ_cons, List.drop_zero]
      obtain ⟨hmc4', vtb, rfl, htb⟩ := end_last (end_init hF)
      obtain ⟨hmc5', -, hlc5, bc5⟩ := end_last hF
      have hdj := hdc5 (nc4, mc4) (by simp)
      simp only at hdj
      obtain ⟨Ab, cb, hv⟩ := htb.len
      rw [bndE_length, HL3.out] at hv
      subst hv
      have e2 := bc5.frozen
      have e3 := bc5.cell
      unfold sv
      clear hF f1 f2 f3 hdc4 hdc5
      go_upto_region 15 with (fail)
      refine set2 (M := fun W => Code.wp _ _ _ _ W) bc5 fun X8 hX8 b16 => ?_
      have hX8B := below_put z8.h hX8 hnc5
      have HTB := Lib.hid (htb.put hX8 (by omega))
      have b89 := b88.keep hX8B
      have hB9 := hB8.trans (hX8B.mono hB8.size)
      have HS9 := Lib.hid (HS8.out.keep hX8B)
      clear e2 e3 bc5 htb hX8 b88 HS8 HBd
      obtain ⟨gT, oT, cT, hv, -, -, -, lT, qT⟩ := tabs_cells HS9.out.ht (by rw [HL3.out]; decide)
      rw [HL3.out] at hv
      cases hv
      obtain ⟨gB, oB, cB, hv, -, -, -, lB, qB⟩ := tabs_cells HTB.out (by rw [bndE_length, HL3.out]; decide)
      rw [bndE_length, HL3.out] at hv
      cases hv
      have HQT := Lib.hid qT
      have HQB := Lib.hid qB
      have e1 := b16.cell
      have e2 := b89.cell
      clear qT qB
      go_wp2_with fail
      go_loopw [17] (fun i wr => ∃ j : Nat, j ≤ 3 ∧ i = .int .i64 j ∧ Below X8.heap.size X8 wr) (fun i _ => 3 - (intOf i).toNat)
      case atStart => exact ⟨0, by decide, rfl, Below.refl _ _⟩
      case round =>
        obtain ⟨j, hj, rfl, hBr⟩ := hrel
        have hXr := hX8B.trans (hBr.mono hX8B.size)
        have f1 := gw_blk (b16.keep hBr)
        have f2 := gw_blk (b89.keep hBr)
        by_cases hlt : j < 3
        · obtain ⟨t, ht⟩ : ∃ t, tabs[j]? = some t := ⟨_, List.getElem?_eq_getElem (by rw [HL3.out]; exact hlt)⟩
          obtain ⟨AT1, cT1, d1, hE1⟩ := HQT.out j t ht
          obtain ⟨AB1, cB1, d2, hE2⟩ := HQB.out j (bindL t y) (bndE_get tabs y j t ht)
          have htl := HA2.out t (List.mem_of_getElem? ht)
          have HRb := Lib.hid (show ∀ W1, Below wr.heap.size wr W1 → Calls Try.prog 27 #[.slice AT1 t.length cT1, ev y] W1 (RetR (ExtA (bindL t y)) W1) from fun W1 hW => rBind t y M htl (by omega) _ _ _ W1 (Rd.keep (Rd.keep hE1 hBr) hW))
          have HE2 := Lib.hid (Rd.keep hE2 hBr)
          have f3 := gw_cell (W := wr) (Nat.lt_of_lt_of_le lT hBr.size) ((hBr.cell (p := ⟨gT, oT + j, none⟩) lT).trans d1)
          have f4 := gw_cell (W := wr) (Nat.lt_of_lt_of_le lB hBr.size) ((hBr.cell (p := ⟨gB, oB + j, none⟩) lB).trans d2)
          have f5 := gw_cell (W := wr) (Nat.lt_of_lt_of_le lV' hXr.size) ((hXr.cell (p := ⟨gV, oV, none⟩) lV').trans HD1.out)
          have f6 := gw_cell (W := wr) (Nat.lt_of_lt_of_le lV' hXr.size) ((hXr.cell (p := ⟨gV, oV + 1, none⟩) lV').trans HD2.out)
          clear ht d1 d2 hE1 hE2 htl
          generalize bindL t y = zl at *
          generalize t.length = tl at *
          go_wp2_with fail
          refine wp_region_rg 16 [(13, Spec.rel (ExtA zl) (SlF zl.length)), (14, Spec.val (.bool true))] (by kernel_rfl) (by kernel_rfl) (by kernel_rfl) ⟨fit_ext, trivial⟩ ?_
          refine rg_det rfl rfl rfl (fun K hK => ?_)
          go_big_quiet_op
          refine hK _ ?_; clear hK K
          refine rg_det rfl rfl rfl (fun K hK => ?_)
          go_big_quiet_op
          refine hK _ ?_; clear hK K
          refine rg_det rfl rfl rfl (fun K hK => ?_)
          go_big_quiet_op
          refine hK _ ?_; clear hK K
          refine rg_det rfl rfl rfl (fun K hK => ?_)
          go_big_quiet_op
          refine hK _ ?_; clear hK K
          refine rg_det rfl rfl rfl (fun K hK => ?_)
          go_big_quiet_op
          refine hK _ ?_; clear hK K
          refine rg_det rfl rfl rfl (fun K hK => ?_)
          go_big_quiet_op
          refine hK _ ?_; clear hK K
          refine rg_det rfl rfl rfl (fun K hK => ?_)
          go_big_quiet_op
          refine hK _ ?_; clear hK K
          refine rg_det rfl rfl rfl (fun K hK => ?_)
          go_big_quiet_op
          refine hK _ ?_; clear hK K
          refine rg_det rfl rfl rfl (fun K hK => ?_)
          go_big_quiet_op
          refine hK _ ?_; clear hK K
          refine rg_det rfl rfl rfl (fun K hK => ?_)
          go_big_quiet_op
          refine hK _ ?_; clear hK K
          refine rg_det rfl rfl rfl (fun K hK => ?_)
          go_big_quiet_op
          refine hK _ ?_; clear hK K
          refine rg_det rfl rfl rfl (fun K hK => ?_)
          go_big_quiet_op
          refine hK _ ?_; clear hK K
          refine rg_det rfl rfl rfl (fun K hK => ?_)
          go_big_quiet_op
          refine hK _ ?_; clear hK K
          refine rg_rel rfl rfl (fun W1 hW1 hF => step_callr en_attestor_attestorref05_Bind (HRb.out W1 (grw_below hW1)) rfl rfl) ?_
          intro nd13 md13 vd13 hnd13 hmd13 hdd13 hfd13 a' ha
          simp only [Act.put, List.setIfInBounds_toArray, List.set_cons_succ, List.set_cons_zero] at ha
          subst ha
          obtain ⟨Ad13, capd13, rfl⟩ := hfd13
          refine rg_val rfl rfl (fun W1 hW1 hF => step_callv en_attestor_attestorref03_Same (xSame3 zl _ _ _ _ _ _ W1 (Rd.keep HE2.out (grw_below hW1)) (pick_last hF (by kernel_rfl)).2) rfl rfl) ?_
          intro a' ha
          simp only [Act.put, List.setIfInBounds_toArray, List.set_cons_succ, List.set_cons_zero] at ha
          subst ha
          refine rg_det rfl rfl rfl (fun K hK => ?_)
          go_big_quiet_op
          refine hK _ ?_; clear hK K
          refine rg_nil (fun w' hw' hF => ?_)
          obtain ⟨z9, rfl⟩ := hw'
          simp only [List.drop_succ_cons, List.drop_zero]
          clear hF f1 f2 f3 f4 f5 f6 hdd13
          go_wp2_with fail
          exact ⟨⟨j + 1, by omega, by go_num, hBr.trans (z9.h.mono hBr.size)⟩, by simp [intOf]; omega⟩
        · obtain rfl : j = 3 := by omega
          have HRg := Lib.hid (show ∀ W1, Below wr.heap.size wr W1 → Calls Try.prog 28 #[.agg #[.slice (some ⟨gT, oT, none⟩) 3 ct, .slice Ap np cp]] W1 (RetR (ExtA (rndE tabs ps)) W1) from fun W1 hW => gRound tabs ps M HA2.out (by rw [HL3.out]; decide) (by rw [HL3.out]; decide) (by omega) _ _ _ _ W1 ((HS9.out.keep hBr).keep hW))
          have HRr := Lib.hid (show ∀ W1, Below wr.heap.size wr W1 → Calls Try.prog 29 #[.agg #[.slice (some ⟨gT, oT, none⟩) 3 ct, .slice Ap np cp]] W1 (RetR (ExtA (rndE tabs ps)) W1) from fun W1 hW => rRound tabs ps M HA2.out (by rw [HL3.out]; decide) (by rw [HL3.out]; decide) (by omega) _ _ _ _ W1 ((HS9.out.keep hBr).keep hW))
          generalize rndE tabs ps = rl at *
          clear f1
          go_wp2_with fail
          refine wp_region_rg 8 [(3, Spec.rel (ExtA rl) (SlF rl.length)), (5, Spec.rel (ExtA rl) (SlF rl.length)), (6, Spec.val (.bool true))] (by kernel_rfl) (by kernel_rfl) (by kernel_rfl) ⟨fit_ext, fit_ext, trivial⟩ ?_
          refine rg_det rfl rfl rfl (fun K hK => ?_)
          go_big_quiet_op
          refine hK _ ?_; clear hK K
          refine rg_det rfl rfl rfl (fun K hK => ?_)
          go_big_quiet_op
          refine hK _ ?_; clear hK K
          refine rg_det rfl rfl rfl (fun K hK => ?_)
          go_big_quiet_op
          refine hK _ ?_; clear hK K
          refine rg_rel rfl rfl (fun W1 hW1 hF => step_callr en_attestor_sumcheck_Round (HRg.out W1 (grw_below hW1)) rfl rfl) ?_
          intro nd3 md3 vd3 hnd3 hmd3 hdd3 hfd3 a' ha
          simp only [Act.put, List.setIfInBounds_toArray, List.set_cons_succ, List.set_cons_zero] at ha
          subst ha
          obtain ⟨Ad3, capd3, rfl⟩ := hfd3
          refine rg_det rfl rfl rfl (fun K hK => ?_)
          go_big_quiet_op
          refine hK _ ?_; clear hK K
          refine rg_rel rfl rfl (fun W1 hW1 hF => step_callr en_attestor_attestorref06_Round (HRr.out W1 (grw_below hW1)) rfl rfl) ?_
          intro nd5 md5 vd5 hnd5 hmd5 hdd5 hfd5 a' ha
          simp only [Act.put, List.setIfInBounds_toArray, List.set_cons_succ, List.set_cons_zero] at ha
          subst ha
          obtain ⟨Ad5, capd5, rfl⟩ := hfd5
          refine rg_val rfl rfl (fun W1 hW1 hF => step_callv en_attestor_attestorref03_Same (xSame3 rl _ _ _ _ _ _ W1 (pick_last (pick_init hF) (by kernel_rfl)).2 (pick_last hF (by kernel_rfl)).2) rfl rfl) ?_
          intro a' ha
          simp only [Act.put, List.setIfInBounds_toArray, List.set_cons_succ, List.set_cons_zero] at ha
          subst ha
          refine rg_det rfl rfl rfl (fun K hK => ?_)
          go_big_quiet_op
          refine hK _ ?_; clear hK K
          refine rg_nil (fun w' hw' hF => ?_)
          obtain ⟨z9, rfl⟩ := hw'
          simp only [List.drop_succ_cons, List.drop_zero]
          clear hF f2 hdd3 hdd5
          go_wp2_with fail
          go_ret
          exact ⟨rfl, hB9.trans ((hBr.trans (z9.h.mono hBr.size)).mono hB9.size)⟩
    · skip
      refine wp_region_rg 9 [(1, Spec.val (.bool true)), (4, Spec.val (.bool true)), (6, Spec.val (.bool true))] (by kernel_rfl) (by kernel_rfl) (by kernel_rfl) trivial ?_
      refine rg_det rfl rfl rfl (fun K hK => ?_)
      go_big_quiet_op
      refine hK _ ?_; clear hK K
      refine rg_val rfl rfl (fun W1 hW1 hF => step_callv en_attestor_attestorlaw06_small (HSm.out W1 (hB1.trans ((grw_below hW1).mono hB1.size))) rfl rfl) ?_
      intro a' ha
      simp only [Act.put, List.setIfInBounds_toArray, List.set_cons_succ, List.set_cons_zero] at ha
      subst ha
      refine rg_det rfl rfl rfl (fun K hK => ?_)
      go_big_quiet_op
      refine hK _ ?_; clear hK K
      refine rg_det rfl rfl rfl (fun K hK => ?_)
      go_big_quiet_op
      refine hK _ ?_; clear hK K
      refine rg_val rfl rfl (fun W1 hW1 hF => step_callv en_attestor_sumcheck_Valid (HVg.out W1 (hB1.trans ((grw_below hW1).mono hB1.size))) rfl rfl) ?_
      intro a' ha
      simp only [Act.put, List.setIfInBounds_toArray, List.set_cons_succ, List.set_cons_zero] at ha
      subst ha
      refine rg_det rfl rfl rfl (fun K hK => ?_)
      go_big_quiet_op
      refine hK _ ?_; clear hK K
      refine rg_val rfl rfl (fun W1 hW1 hF => step_callv en_attestor_attestorref06_Valid (HVr.out W1 (hB1.trans ((grw_below hW1).mono hB1.size))) rfl rfl) ?_
      intro a' ha
      simp only [Act.put, List.setIfInBounds_toArray, List.set_cons_succ, List.set_cons_zero] at ha
      subst ha
      refine rg_det rfl rfl rfl (fun K hK => ?_)
      go_big_quiet_op
      refine hK _ ?_; clear hK K
      refine rg_det rfl rfl rfl (fun K hK => ?_)
      go_big_quiet_op
      refine hK _ ?_; clear hK K
      refine rg_nil (fun w' hw' hF => ?_)
      obtain ⟨zr, rfl⟩ := hw'
      simp only [List.drop_succ_cons, List.drop_zero]
      have hBz := hB1.trans (zr.h.mono hB1.size)
      have b31z := b31.keep zr.h
      clear hF c1 b41
      have e1 := b31z.cell
      go_wp2_with fail
      refine (HM.out zr.w hBz).mono ?_
      rintro e w2 ⟨v2, rfl, ⟨vt, vp, rfl, ht, hp⟩, hb2⟩
      obtain ⟨At, ct, rfl⟩ := ht.len
      obtain ⟨Ap, cp, rfl⟩ := hp.len
      have hS := HS.out _ _ _ _ _ ht hp
      rw [HL3.out] at hS ⊢
      have hB2 := hBz.trans (hb2.mono hBz.size)
      clear ht hp e1 b31z b31
      unfold sv
      go_upto_region 5 with (fail)
      refine wp_stk1 fun V hV hzV b8 => ?_
      have hBV := hB2.trans (hV.mono hB2.size)
      have hSV := hS.keep hV
      have e1 := b8.cell
      obtain ⟨np, hnp⟩ : ∃ np, np = ps.length := ⟨_, rfl⟩
      rw [← hnp] at hSV b8 e1 ⊢
      clear hS hnp hzV
      go_wp2_with fail
      refine (rLog tabs n (by omega) HAll.out (by rw [HL3.out]; decide) _ _ _ _ V hSV.ht ⟨_, _, _, rfl⟩).mono ?_
      rintro e w3 ⟨rfl, hb3⟩
      go_wp2_with fail
      have hB3 := hBV.trans (hb3.mono hBV.size)
      refine (HX.out w3 hB3).mono ?_
      rintro e w4 ⟨v4, rfl, h4, hb4⟩
      replace h4 : ExtS w3.heap.size w4.heap.size w4 v4 co := h4
      obtain ⟨A4, cap4, hv⟩ := Rd.len h4
      rw [HXl.out] at hv
      subst hv
      have hB4 := hB3.trans (hb4.mono hB3.size)
      go_wp2_with fail
      refine (HX3.out w4 hB4).mono ?_
      rintro e w5 ⟨v5, rfl, h5, hb5⟩
      replace h5 : ExtS w4.heap.size w5.heap.size w5 v5 vs := h5
      obtain ⟨A5, cap5, hv⟩ := Rd.len h5
      rw [HX3l.out] at hv
      subst hv
      have h35 := hb3.trans ((hb4.trans (hb5.mono hb4.size)).mono hb3.size)
      have hB5 := hBV.trans (h35.mono hBV.size)
      have b85 := b8.keep h35
      have HS5 := Lib.hid (hSV.keep h35)
      have HC5 := Lib.hid (Rd.keep h4 hb5)
      have HV5 := Lib.hid h5
      clear e1 b8 hSV h4 h5
      have e1 := b85.cell
      go_wp2_with fail
      refine (gProve tabs ps co n HXl.out (by omega) HAll.out (by rw [HL3.out]; decide) (by rw [HL3.out]; decide) _ _ _ _ _ _ _ w5 HS5.out HC5.out).mono ?_
      rintro e w6 ⟨vR, vV, rfl, hR6, hV6, hb6⟩
      have e2 := (b85.keep hb6).cell
      clear e1
      go_wp2_with fail
      refine (rProve tabs ps co n HXl.out (by omega) HAll.out (by rw [HL3.out]; decide) (by rw [HL3.out]; decide) _ _ _ _ _ _ _ w6 (HS5.out.keep hb6) (Rd.keep HC5.out hb6)).mono ?_
      rintro e w7 ⟨vR2, vV2, rfl, hR7, hV7, hb7⟩
      have h57 := hb6.trans (hb7.mono hb6.size)
      have hB7 := hB5.trans (h57.mono hB5.size)
      have b87 := b85.keep h57
      have HS7 := Lib.hid (HS5.out.keep h57)
      have HV7 := Lib.hid (Rd.keep HV5.out h57)
      obtain ⟨AR, cR, rfl⟩ := hR6.len
      obtain ⟨AR2, cR2, rfl⟩ := hR7.len
      obtain ⟨AV, cV, rfl⟩ := Rd.len hV6
      obtain ⟨AV2, cV2, rfl⟩ := Rd.len hV7
      have HSR := Lib.hid (show ∀ W1, Below w7.heap.size w7 W1 → Calls Try.prog 18 #[.slice AR (prvR tabs ps co).length cR, .slice AR2 (prvR tabs ps co).length cR2] W1 (Ret (.bool true) W1) from fun W1 hW => rSameR _ _ _ _ _ _ _ W1 ((hR6.keep hb7).keep hW) (hR7.keep hW))
      have HSV := Lib.hid (show ∀ W1, Below w7.heap.size w7 W1 → Calls Try.prog 19 #[.slice AV (prvV tabs co).length cV, .slice AV2 (prvV tabs co).length cV2] W1 (Ret (.bool true) W1) from fun W1 hW => xSame3 _ _ _ _ _ _ _ W1 (Rd.keep (Rd.keep hV6 hb7) hW) (Rd.keep hV7 hW))
      have hp2 : 2 ^ n ≤ 2 ^ 4 := Nat.pow_le_pow_right (by decide) (by omega)
      have HDg := Lib.hid (show ∀ W1, Below w7.heap.size w7 W1 → Calls Try.prog 20 #[.agg #[.slice At 3 ct, .slice Ap np cp]] W1 (Ret (.int .i64 (degE ps : Nat)) W1) from fun W1 hW => gDegree _ _ ps _ _ W1 (HS7.out.keep hW).hp HS7.out.short)
      have HDr := Lib.hid (show ∀ W1, Below w7.heap.size w7 W1 → Calls Try.prog 21 #[.agg #[.slice At 3 ct, .slice Ap np cp]] W1 (Ret (.int .i64 (degE ps : Nat)) W1) from fun W1 hW => rDegree _ _ ps _ _ W1 (HS7.out.keep hW).hp HS7.out.short)
      have HTg := Lib.hid (show ∀ W1, Below w7.heap.size w7 W1 → Calls Try.prog 22 #[.agg #[.slice At 3 ct, .slice Ap np cp]] W1 (Ret (ev (totE tabs ps)) W1) from fun W1 hW => gTotal tabs (2 ^ n) _ _ ps _ _ W1 (HS7.out.keep hW) (by rw [HL3.out]; decide) HAll.out (Nat.le_trans hp2 (by decide)))
      have HTr := Lib.hid (show ∀ W1, Below w7.heap.size w7 W1 → Calls Try.prog 23 #[.agg #[.slice At 3 ct, .slice Ap np cp]] W1 (Ret (ev (totE tabs ps)) W1) from fun W1 hW => rTotal tabs (2 ^ n) _ _ ps _ _ W1 (HS7.out.keep hW) (by rw [HL3.out]; decide) (by rw [HL3.out]; decide) HAll.out (Nat.le_trans hp2 (by decide)))
      have hix : ∀ p ∈ ps, ∀ k ∈ p.t, k < vs.length := fun p hp k hk => by have := HS7.out.ix p hp k hk; rw [HX3l.out]; rwa [HL3.out] at this
      have HFg := Lib.hid (show ∀ W1, Below w7.heap.size w7 W1 → Calls Try.prog 24 #[.agg #[.slice At 3 ct, .slice Ap np cp], .slice A5 3 cap5] W1 (Ret (ev (finE (valL vs) ps)) W1) from fun W1 hW => gFinal _ _ _ _ ps _ _ _ _ W1 (HS7.out.keep hW).hp (Rd.keep HV7.out hW) hix HS7.out.few HS7.out.short)
      have HFr := Lib.hid (show ∀ W1, Below w7.heap.size w7 W1 → Calls Try.prog 25 #[.agg #[.slice At 3 ct, .slice Ap np cp], .slice A5 3 cap5] W1 (Ret (ev (finE (valL vs) ps)) W1) from fun W1 hW => rFinal _ _ _ _ ps _ _ _ _ W1 (HS7.out.keep hW).hp (Rd.keep HV7.out hW) hix)
      have HVd := Lib.hid (show ∀ W1, Below w7.heap.size w7 W1 → Calls Try.prog 11 #[.agg #[.slice At 3 ct, .slice Ap np cp]] W1 (Ret (.bool true) W1) from fun W1 hW => gValidGood tabs ps n (by omega) HAll.out (by rw [HL3.out]; decide) (by rw [HL3.out]; decide) HSh.out _ _ _ _ W1 (HS7.out.keep hW))
      clear e2 b85 hR6 hV6 hR7 hV7 hix HS5 HC5 HV5
      generalize (prvR tabs ps co).length = lR at *
      generalize (prvV tabs co).length = lV at *
      generalize totE tabs ps = T at *
      generalize finE (valL vs) ps = F at *
      obtain ⟨D, hD⟩ : ∃ D, D = degE ps := ⟨_, rfl⟩
      rw [← hD] at HDg HDr
      clear hD
      have f1 := gw_blk b87
      go_wp2_with fail
      refine wp_region_rg 38 [(2, Spec.val (.bool true)), (7, Spec.val (.bool true)), (12, Spec.val (.int .i64 (D : Nat))), (14, Spec.val (.int .i64 (D : Nat))), (19, Spec.val (.agg #[.int .u64 (fv (T).a), .int .u64 (fv (T).b)])), (21, Spec.val (.agg #[.int .u64 (fv (T).a), .int .u64 (fv (T).b)])), (27, Spec.val (.agg #[.int .u64 (fv (F).a), .int .u64 (fv (F).b)])), (30, Spec.val (.agg #[.int .u64 (fv (F).a), .int .u64 (fv (F).b)])), (35, Spec.val (.bool true))] (by kernel_rfl) (by kernel_rfl) (by kernel_rfl) trivial ?_
      refine rg_det rfl rfl rfl (fun K hK => ?_)
      go_big_quiet_op
      refine hK _ ?_; clear hK K
      refine rg_det rfl rfl rfl (fun K hK => ?_)
      go_big_quiet_op
      refine hK _ ?_; clear hK K
      refine rg_val rfl rfl (fun W1 hW1 hF => step_callv en_attestor_attestorref06_SameRounds (HSR.out W1 (grw_below hW1)) rfl rfl) ?_
      intro a' ha
      simp only [Act.put, List.setIfInBounds_toArray, List.set_cons_succ, List.set_cons_zero] at ha
      subst ha
      refine rg_det rfl rfl rfl (fun K hK => ?_)
      go_big_quiet_op
      refine hK _ ?_; clear hK K
      refine rg_det rfl rfl rfl (fun K hK => ?_)
      go_big_quiet_op
      refine hK _ ?_; clear hK K
      refine rg_det rfl rfl rfl (fun K hK => ?_)
      go_big_quiet_op
      refine hK _ ?_; clear hK K
      refine rg_det rfl rfl rfl (fun K hK => ?_)
      go_big_quiet_op
      refine hK _ ?_; clear hK K
      refine rg_val rfl rfl (fun W1 hW1 hF => step_callv en_attestor_attestorref03_Same (HSV.out W1 (grw_below hW1)) rfl rfl) ?_
      intro a' ha
      simp only [Act.put, List.setIfInBounds_toArray, List.set_cons_succ, List.set_cons_zero] at ha
      subst ha
      refine rg_det rfl rfl rfl (fun K hK => ?_)
      go_big_quiet_op
      refine hK _ ?_; clear hK K
      refine rg_det rfl rfl rfl (fun K hK => ?_)
      go_big_quiet_op
      refine hK _ ?_; clear hK K
      refine rg_det rfl rfl rfl (fun K hK => ?_)
      go_big_quiet_op
      refine hK _ ?_; clear hK K
      refine rg_det rfl rfl rfl (fun K hK => ?_)
      go_big_quiet_op
      refine hK _ ?_; clear hK K
      refine rg_val rfl rfl (fun W1 hW1 hF => step_callv en_attestor_sumcheck_Degree (HDg.out W1 (grw_below hW1)) rfl rfl) ?_
      intro a' ha
      simp only [Act.put, List.setIfInBounds_toArray, List.set_cons_succ, List.set_cons_zero] at ha
      subst ha
      refine rg_det rfl rfl rfl (fun K hK => ?_)
      go_big_quiet_op
      refine hK _ ?_; clear hK K
      refine rg_val rfl rfl (fun W1 hW1 hF => step_callv en_attestor_attestorref06_Degree (HDr.out W1 (grw_below hW1)) rfl rfl) ?_
      intro a' ha
      simp only [Act.put, List.setIfInBounds_toArray, List.set_cons_succ, List.set_cons_zero] at ha
      subst ha
      refine rg_det rfl rfl rfl (fun K hK => ?_)
      go_big_quiet_op
      refine hK _ ?_; clear hK K
      refine rg_det rfl rfl rfl (fun K hK => ?_)
      go_big_quiet_op
      refine hK _ ?_; clear hK K
      refine rg_det rfl rfl rfl (fun K hK => ?_)
      go_big_quiet_op
      refine hK _ ?_; clear hK K
      refine rg_det rfl rfl rfl (fun K hK => ?_)
      go_big_quiet_op
      refine hK _ ?_; clear hK K
      refine rg_val rfl rfl (fun W1 hW1 hF => step_callv en_attestor_sumcheck_Total (HTg.out W1 (grw_below hW1)) rfl rfl) ?_
      intro a' ha
      simp only [Act.put, List.setIfInBounds_toArray, List.set_cons_succ, List.set_cons_zero] at ha
      subst ha
      refine rg_det rfl rfl rfl (fun K hK => ?_)
      go_big_quiet_op
      refine hK _ ?_; clear hK K
      refine rg_val rfl rfl (fun W1 hW1 hF => step_callv en_attestor_attestorref06_Total (HTr.out W1 (grw_below hW1)) rfl rfl) ?_
      intro a' ha
      simp only [Act.put, List.setIfInBounds_toArray, List.set_cons_succ, List.set_cons_zero] at ha
      subst ha
      refine rg_det rfl rfl rfl (fun K hK => ?_)
      go_big_quiet_op
      refine hK _ ?_; clear hK K
      refine rg_det rfl rfl rfl (fun K hK => ?_)
      go_big_quiet_op
      refine hK _ ?_; clear hK K
      refine rg_det rfl rfl rfl (fun K hK => ?_)
      go_big_quiet_op
      refine hK _ ?_; clear hK K
      refine rg_det rfl rfl rfl (fun K hK => ?_)
      go_big_quiet_op
      refine hK _ ?_; clear hK K
      refine rg_det rfl rfl rfl (fun K hK => ?_)
      go_big_quiet_op
      refine hK _ ?_; clear hK K
      refine rg_val rfl rfl (fun W1 hW1 hF => step_callv en_attestor_sumcheck_Final (HFg.out W1 (grw_below hW1)) rfl rfl) ?_
      intro a' ha
      simp only [Act.put, List.setIfInBounds_toArray, List.set_cons_succ, List.set_cons_zero] at ha
      subst ha
      refine rg_det rfl rfl rfl (fun K hK => ?_)
      go_big_quiet_op
      refine hK _ ?_; clear hK K
      refine rg_det rfl rfl rfl (fun K hK => ?_)
      go_big_quiet_op
      refine hK _ ?_; clear hK K
      refine rg_val rfl rfl (fun W1 hW1 hF => step_callv en_attestor_attestorref06_Final (HFr.out W1 (grw_below hW1)) rfl rfl) ?_
      intro a' ha
      simp only [Act.put, List.setIfInBounds_toArray, List.set_cons_succ, List.set_cons_zero] at ha
      subst ha
      refine rg_det rfl rfl rfl (fun K hK => ?_)
      go_big_quiet_op
      refine hK _ ?_; clear hK K
      refine rg_det rfl rfl rfl (fun K hK => ?_)
      go_big_quiet_op
      refine hK _ ?_; clear hK K
      refine rg_det rfl rfl rfl (fun K hK => ?_)
      go_big_quiet_op
      refine hK _ ?_; clear hK K
      refine rg_det rfl rfl rfl (fun K hK => ?_)
      go_big_quiet_op
      refine hK _ ?_; clear hK K
      refine rg_val rfl rfl (fun W1 hW1 hF => step_callv en_attestor_sumcheck_Valid (HVd.out W1 (grw_below hW1)) rfl rfl) ?_
      intro a' ha
      simp only [Act.put, List.setIfInBounds_toArray, List.set_cons_succ, List.set_cons_zero] at ha
      subst ha
      refine rg_det rfl rfl rfl (fun K hK => ?_)
      go_big_quiet_op
      refine hK _ ?_; clear hK K
      refine rg_det rfl rfl rfl (fun K hK => ?_)
      go_big_quiet_op
      refine hK _ ?_; clear hK K
      refine rg_nil (fun w' hw' hF => ?_)
      obtain ⟨z7, rfl⟩ := hw'
      simp only [List.drop_succ_cons, List.drop_zero]
      have hB8 := hB7.trans (z7.h.mono hB7.size)
      have b88 := b87.keep z7.h
      have HS8 := Lib.hid (HS7.out.keep z7.h)
      have HV8 := Lib.hid (Rd.keep HV7.out z7.h)
      clear hF f1 HSR HSV HDg HDr HTg HTr HFg HFr HVd b87 HS7 HV7
      by_cases h0 : n = 0
      · subst h0
        go_wp2_with fail
        go_ret
        exact ⟨rfl, hB8⟩
      have hn0 : ((n : Int) == 0) = false := by simp; omega
      obtain ⟨M, hM⟩ : ∃ M, M = 2 ^ (n - 1) := ⟨_, rfl⟩
      have HA2 := Lib.hid (show AllLen tabs (2 * M) by have := HAll.out; rw [show n = (n - 1) + 1 by omega, Nat.pow_succ, Nat.mul_comm, ← hM] at this; exact this)
      have hM3 : M ≤ 2 ^ 3 := by rw [hM]; exact Nat.pow_le_pow_right (by decide) (by omega)
      have hM0 : 0 < M := by rw [hM]; exact Nat.pow_pos (by decide)
      clear hM
      obtain ⟨gV, oV, cV', hv, -, -, -, lV', qV⟩ := exts_cells HV8.out (by rw [HX3l.out]; decide)
      rw [HX3l.out] at hv
      cases hv
      obtain ⟨y, hy, -⟩ := get_of (l := vs) (k := 0) (by rw [HX3l.out]; decide)
      obtain ⟨d1, d2⟩ := qV 0 y hy
      simp only [Nat.zero_mul, Nat.add_zero] at d1 d2
      have HBd := Lib.hid (show ∀ W1, Below z7.w.heap.size z7.w W1 → Calls Try.prog 26 #[.agg #[.slice At 3 ct, .slice Ap np cp], ev y] W1 (RetR (BndA (.slice Ap np cp) (bndE tabs y)) W1) from fun W1 hW => gBndSum tabs y M HA2.out hM0 (by omega) (by rw [HL3.out]; decide) _ _ _ _ W1 (HS8.out.keep hW).ht ⟨_, _, _, rfl⟩)
      have HD1 := Lib.hid d1
      have HD2 := Lib.hid d2
      have f1 := gw_blk b88
      have f2 := gw_cell lV' d1
      have f3 := gw_cell lV' d2
      clear qV hy d1 d2
      go_wp2_with fail
      refine wp_region_rg 6 [(4, Spec.rel (BndA (.slice Ap np cp) (bndE tabs y)) AnyV), (5, Spec.rel (New 30 #[.slice none 0 0, .slice none 0 0]) (NewF))] (by kernel_rfl) (by kernel_rfl) (by kernel_rfl) ⟨fit_of (bnd_stable _ _), fit_new, trivial⟩ ?_
      refine rg_det rfl rfl rfl (fun K hK => ?_)
      go_big_quiet_op
      refine hK _ ?_; clear hK K
      refine rg_det rfl rfl rfl (fun K hK => ?_)
      go_big_quiet_op
      refine hK _ ?_; clear hK K
      refine rg_det rfl rfl rfl (fun K hK => ?_)
      go_big_quiet_op
      refine hK _ ?_; clear hK K
      refine rg_det rfl rfl rfl (fun K hK => ?_)
      go_big_quiet_op
      refine hK _ ?_; clear hK K
      refine rg_rel rfl rfl (fun W1 hW1 hF => step_callr en_attestor_sumcheck_Bind (HBd.out W1 (grw_below hW1)) rfl rfl) ?_
      intro nc4 mc4 vc4 hnc4 hmc4 hdc4 hfc4 a' ha
      simp only [Act.put, List.setIfInBounds_toArray, List.set_cons_succ, List.set_cons_zero] at ha
      subst ha
      refine rg_rel rfl rfl (fun W1 hW1 hF => step_new hk0 kz0 rfl) ?_
      intro nc5 mc5 vc5 hnc5 hmc5 hdc5 hfc5 a' ha
      simp only [Act.put, List.setIfInBounds_toArray, List.set_cons_succ, List.set_cons_zero] at ha
      subst ha
      obtain rfl := hfc5
      refine rg_nil (fun w' hw' hF => ?_)
      obtain ⟨z8, rfl⟩ := hw'
      simp only [List.drop_succ_cons, List.drop_zero]
      obtain ⟨hmc4', vtb, rfl, htb⟩ := end_last (end_init hF)
      obtain ⟨hmc5', -, hlc5, bc5⟩ := end_last hF
      have hdj := hdc5 (nc4, mc4) (by simp)
      simp only at hdj
      obtain ⟨Ab, cb, hv⟩ := htb.len
      rw [bndE_length, HL3.out] at hv
      subst hv
      have e2 := bc5.frozen
      have e3 := bc5.cell
      unfold sv
      clear hF f1 f2 f3 hdc4 hdc5
      go_upto_region 15 with (fail)
      refine set2 (M := fun W => Code.wp _ _ _ _ W) bc5 fun X8 hX8 b16 => ?_
      have hX8B := below_put z8.h hX8 hnc5
      have HTB := Lib.hid (htb.put hX8 (by omega))
      have b89 := b88.keep hX8B
      have hB9 := hB8.trans (hX8B.mono hB8.size)
      have HS9 := Lib.hid (HS8.out.keep hX8B)
      clear e2 e3 bc5 htb hX8 b88 HS8 HBd
      obtain ⟨gT, oT, cT, hv, -, -, -, lT, qT⟩ := tabs_cells HS9.out.ht (by rw [HL3.out]; decide)
      rw [HL3.out] at hv
      cases hv
      obtain ⟨gB, oB, cB, hv, -, -, -, lB, qB⟩ := tabs_cells HTB.out (by rw [bndE_length, HL3.out]; decide)
      rw [bndE_length, HL3.out] at hv
      cases hv
      have HQT := Lib.hid qT
      have HQB := Lib.hid qB
      have e1 := b16.cell
      have e2 := b89.cell
      clear qT qB
      go_wp2_with fail
      go_loopw [17] (fun i wr => ∃ j : Nat, j ≤ 3 ∧ i = .int .i64 j ∧ Below X8.heap.size X8 wr) (fun i _ => 3 - (intOf i).toNat)
      case atStart => exact ⟨0, by decide, rfl, Below.refl _ _⟩
      case round =>
        obtain ⟨j, hj, rfl, hBr⟩ := hrel
        have hXr := hX8B.trans (hBr.mono hX8B.size)
        have f1 := gw_blk (b16.keep hBr)
        have f2 := gw_blk (b89.keep hBr)
        by_cases hlt : j < 3
        · obtain ⟨t, ht⟩ : ∃ t, tabs[j]? = some t := ⟨_, List.getElem?_eq_getElem (by rw [HL3.out]; exact hlt)⟩
          obtain ⟨AT1, cT1, d1, hE1⟩ := HQT.out j t ht
          obtain ⟨AB1, cB1, d2, hE2⟩ := HQB.out j (bindL t y) (bndE_get tabs y j t ht)
          have htl := HA2.out t (List.mem_of_getElem? ht)
          have HRb := Lib.hid (show ∀ W1, Below wr.heap.size wr W1 → Calls Try.prog 27 #[.slice AT1 t.length cT1, ev y] W1 (RetR (ExtA (bindL t y)) W1) from fun W1 hW => rBind t y M htl (by omega) _ _ _ W1 (Rd.keep (Rd.keep hE1 hBr) hW))
          have HE2 := Lib.hid (Rd.keep hE2 hBr)
          have f3 := gw_cell (W := wr) (Nat.lt_of_lt_of_le lT hBr.size) ((hBr.cell (p := ⟨gT, oT + j, none⟩) lT).trans d1)
          have f4 := gw_cell (W := wr) (Nat.lt_of_lt_of_le lB hBr.size) ((hBr.cell (p := ⟨gB, oB + j, none⟩) lB).trans d2)
          have f5 := gw_cell (W := wr) (Nat.lt_of_lt_of_le lV' hXr.size) ((hXr.cell (p := ⟨gV, oV, none⟩) lV').trans HD1.out)
          have f6 := gw_cell (W := wr) (Nat.lt_of_lt_of_le lV' hXr.size) ((hXr.cell (p := ⟨gV, oV + 1, none⟩) lV').trans HD2.out)
          clear ht d1 d2 hE1 hE2 htl
          generalize bindL t y = zl at *
          generalize t.length = tl at *
          go_wp2_with fail
          refine wp_region_rg 16 [(13, Spec.rel (ExtA zl) (SlF zl.length)), (14, Spec.val (.bool true))] (by kernel_rfl) (by kernel_rfl) (by kernel_rfl) ⟨fit_ext, trivial⟩ ?_
          refine rg_det rfl rfl rfl (fun K hK => ?_)
          go_big_quiet_op
          refine hK _ ?_; clear hK K
          refine rg_det rfl rfl rfl (fun K hK => ?_)
          go_big_quiet_op
          refine hK _ ?_; clear hK K
          refine rg_det rfl rfl rfl (fun K hK => ?_)
          go_big_quiet_op
          refine hK _ ?_; clear hK K
          refine rg_det rfl rfl rfl (fun K hK => ?_)
          go_big_quiet_op
          refine hK _ ?_; clear hK K
          refine rg_det rfl rfl rfl (fun K hK => ?_)
          go_big_quiet_op
          refine hK _ ?_; clear hK K
          refine rg_det rfl rfl rfl (fun K hK => ?_)
          go_big_quiet_op
          refine hK _ ?_; clear hK K
          refine rg_det rfl rfl rfl (fun K hK => ?_)
          go_big_quiet_op
          refine hK _ ?_; clear hK K
          refine rg_det rfl rfl rfl (fun K hK => ?_)
          go_big_quiet_op
          refine hK _ ?_; clear hK K
          refine rg_det rfl rfl rfl (fun K hK => ?_)
          go_big_quiet_op
          refine hK _ ?_; clear hK K
          refine rg_det rfl rfl rfl (fun K hK => ?_)
          go_big_quiet_op
          refine hK _ ?_; clear hK K
          refine rg_det rfl rfl rfl (fun K hK => ?_)
          go_big_quiet_op
          refine hK _ ?_; clear hK K
          refine rg_det rfl rfl rfl (fun K hK => ?_)
          go_big_quiet_op
          refine hK _ ?_; clear hK K
          refine rg_det rfl rfl rfl (fun K hK => ?_)
          go_big_quiet_op
          refine hK _ ?_; clear hK K
          refine rg_rel rfl rfl (fun W1 hW1 hF => step_callr en_attestor_attestorref05_Bind (HRb.out W1 (grw_below hW1)) rfl rfl) ?_
          intro nd13 md13 vd13 hnd13 hmd13 hdd13 hfd13 a' ha
          simp only [Act.put, List.setIfInBounds_toArray, List.set_cons_succ, List.set_cons_zero] at ha
          subst ha
          obtain ⟨Ad13, capd13, rfl⟩ := hfd13
          refine rg_val rfl rfl (fun W1 hW1 hF => step_callv en_attestor_attestorref03_Same (xSame3 zl _ _ _ _ _ _ W1 (Rd.keep HE2.out (grw_below hW1)) (pick_last hF (by kernel_rfl)).2) rfl rfl) ?_
          intro a' ha
          simp only [Act.put, List.setIfInBounds_toArray, List.set_cons_succ, List.set_cons_zero] at ha
          subst ha
          refine rg_det rfl rfl rfl (fun K hK => ?_)
          go_big_quiet_op
          refine hK _ ?_; clear hK K
          refine rg_nil (fun w' hw' hF => ?_)
          obtain ⟨z9, rfl⟩ := hw'
          simp only [List.drop_succ_cons, List.drop_zero]
          clear hF f1 f2 f3 f4 f5 f6 hdd13
          go_wp2_with fail
          exact ⟨⟨j + 1, by omega, by go_num, hBr.trans (z9.h.mono hBr.size)⟩, by simp [intOf]; omega⟩
        · obtain rfl : j = 3 := by omega
          have HRg := Lib.hid (show ∀ W1, Below wr.heap.size wr W1 → Calls Try.prog 28 #[.agg #[.slice (some ⟨gT, oT, none⟩) 3 ct, .slice Ap np cp]] W1 (RetR (ExtA (rndE tabs ps)) W1) from fun W1 hW => gRound tabs ps M HA2.out (by rw [HL3.out]; decide) (by rw [HL3.out]; decide) (by omega) _ _ _ _ W1 ((HS9.out.keep hBr).keep hW))
          have HRr := Lib.hid (show ∀ W1, Below wr.heap.size wr W1 → Calls Try.prog 29 #[.agg #[.slice (some ⟨gT, oT, none⟩) 3 ct, .slice Ap np cp]] W1 (RetR (ExtA (rndE tabs ps)) W1) from fun W1 hW => rRound tabs ps M HA2.out (by rw [HL3.out]; decide) (by rw [HL3.out]; decide) (by omega) _ _ _ _ W1 ((HS9.out.keep hBr).keep hW))
          generalize rndE tabs ps = rl at *
          clear f1
          go_wp2_with fail
          refine wp_region_rg 8 [(3, Spec.rel (ExtA rl) (SlF rl.length)), (5, Spec.rel (ExtA rl) (SlF rl.length)), (6, Spec.val (.bool true))] (by kernel_rfl) (by kernel_rfl) (by kernel_rfl) ⟨fit_ext, fit_ext, trivial⟩ ?_
          refine rg_det rfl rfl rfl (fun K hK => ?_)
          go_big_quiet_op
          refine hK _ ?_; clear hK K
          refine rg_det rfl rfl rfl (fun K hK => ?_)
          go_big_quiet_op
          refine hK _ ?_; clear hK K
          refine rg_det rfl rfl rfl (fun K hK => ?_)
          go_big_quiet_op
          refine hK _ ?_; clear hK K
          refine rg_rel rfl rfl (fun W1 hW1 hF => step_callr en_attestor_sumcheck_Round (HRg.out W1 (grw_below hW1)) rfl rfl) ?_
          intro nd3 md3 vd3 hnd3 hmd3 hdd3 hfd3 a' ha
          simp only [Act.put, List.setIfInBounds_toArray, List.set_cons_succ, List.set_cons_zero] at ha
          subst ha
          obtain ⟨Ad3, capd3, rfl⟩ := hfd3
          refine rg_det rfl rfl rfl (fun K hK => ?_)
          go_big_quiet_op
          refine hK _ ?_; clear hK K
          refine rg_rel rfl rfl (fun W1 hW1 hF => step_callr en_attestor_attestorref06_Round (HRr.out W1 (grw_below hW1)) rfl rfl) ?_
          intro nd5 md5 vd5 hnd5 hmd5 hdd5 hfd5 a' ha
          simp only [Act.put, List.setIfInBounds_toArray, List.set_cons_succ, List.set_cons_zero] at ha
          subst ha
          obtain ⟨Ad5, capd5, rfl⟩ := hfd5
          refine rg_val rfl rfl (fun W1 hW1 hF => step_callv en_attestor_attestorref03_Same (xSame3 rl _ _ _ _ _ _ W1 (pick_last (pick_init hF) (by kernel_rfl)).2 (pick_last hF (by kernel_rfl)).2) rfl rfl) ?_
          intro a' ha
          simp only [Act.put, List.setIfInBounds_toArray, List.set_cons_succ, List.set_cons_zero] at ha
          subst ha
          refine rg_det rfl rfl rfl (fun K hK => ?_)
          go_big_quiet_op
          refine hK _ ?_; clear hK K
          refine rg_nil (fun w' hw' hF => ?_)
          obtain ⟨z9, rfl⟩ := hw'
          simp only [List.drop_succ_cons, List.drop_zero]
          clear hF f2 hdd3 hdd5
          go_wp2_with fail
          go_ret
          exact ⟨rfl, hB9.trans ((hBr.trans (z9.h.mono hBr.size)).mono hB9.size)⟩
end Go.Proofs.Ytilelegcniefcaa
