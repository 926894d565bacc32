/-
  SumcheckRoundPolynomial: the walk.
-/
import Derived.Test.YtilelegcniefcaaLCo6
import Derived.Test.YtilelegcniefcaaIp
import Derived.Test.YtilelegcniefcaaCpm
namespace Go.Proofs.Ytilelegcniefcaa
open Go.RowKit

theorem bnd_stable (vp : Value) (tabs : List (List E)) : Stable (BndA vp tabs) := fun _ _ _ _ _ ⟨vt, h1, us, h2, h3, h4⟩ hb => ⟨vt, h1, us, h2, Rd.below h3 hb (Nat.le_refl _), fun k u t hu ht => Rd.below (h4 k u t hu ht) hb (Nat.le_refl _)⟩
/-- A word pair as an element's description. -/
def rawV (r : Raw) : Value := .agg #[.int .u64 r.1, .int .u64 r.2]
set_option maxRecDepth 100000 in
set_option maxHeartbeats 8000000 in
theorem wkSumcheckRoundPolynomial (q : Raw6) (A : Nat → Option Addr) (cc : Nat → Nat) (AL : Option Addr) (cL : Nat) (r : Raw) (hr : Word r.1 ∧ Word r.2) (w : World) (h : Raw6S w q A cc AL cL) :
    Calls Try.prog 6 #[raw6V q A cc AL cL, .agg #[.int .u64 r.1, .int .u64 r.2]] w (Ret (.bool true) w) := by
  obtain ⟨i0, hi0, iz0, iz1, iz2⟩ := info_parts ext_info
  have HM := Lib.hid (fun W (hW : Below w.heap.size w W) => rMade6S q 5 (by decide) A cc AL cL W (h.keep hW))
  have hn5 := q.n_le 5
  have hall := q.all 5
  have hl3 := q.tabs_len 5
  have HS := Lib.hid (fun lo hi w vt vp => @Raw6.sum q 5 lo hi w vt vp)
  have HD := Lib.hid q.deg
  have HXM := Lib.hid (xMade r.1 r.2 hr.1.1 hr.1.2 hr.2.1 hr.2.2)
  obtain ⟨r1, r2⟩ := r
  simp only at *
  generalize q.tabs 5 = tabs at *
  generalize q.trms = ps at *
  generalize q.n 5 = n at *
  generalize em r1 r2 = y at *
  have HAll := Lib.hid hall
  have HL3 := Lib.hid hl3
  clear h hr hall hl3
  unfold raw6V at *
  obtain ⟨l0, -⟩ : ∃ l, l = (q.T 0).length := ⟨_, rfl⟩
  go_enter Try.func6, Try.ntmps6
  go_wp2_with fail
  refine calls_stk2 fun W hB hz b2 b3 => ?_
  refine (lSanity6 W).mono ?_
  rintro e w1 ⟨rfl, hb1⟩
  have hB1 := hB.trans (hb1.mono hB.size)
  have e1 := (b2.keep hb1).cell
  have b31 := b3.keep hb1
  go_wp2_with fail
  refine (HM.out w1 hB1).mono ?_
  rintro e w2 ⟨v2, rfl, ⟨vt, vp, rfl, ht, hp⟩, hb2⟩
  obtain ⟨At, ct, rfl⟩ := ht.len
  obtain ⟨Ap, cp, rfl⟩ := hp.len
  have hS := HS.out _ _ _ _ _ ht hp
  rw [HL3.out] at hS ⊢
  have hB2 := hB1.trans (hb2.mono hB1.size)
  have b32 := b31.keep hb2
  clear ht hp e1 b2 b3 b31
  unfold sv
  go_upto_region 3 with (fail)
  refine wp_stk1 fun V hV hzV b6 => ?_
  have hBV := hB2.trans (hV.mono hB2.size)
  have hSV := hS.keep hV
  have b3V := b32.keep hV
  have e1 := b6.cell
  obtain ⟨np, hnp⟩ : ∃ np, np = ps.length := ⟨_, rfl⟩
  rw [← hnp] at hSV b6 e1 ⊢
  clear hS hnp b32
  go_wp2_with fail
  refine (rLog tabs n (by omega) HAll.out (by rw [HL3.out]; decide) _ _ _ _ V hSV.ht ⟨_, _, _, rfl⟩).mono ?_
  rintro e w3 ⟨rfl, hb3⟩
  replace hBV := hBV.trans (hb3.mono hBV.size)
  replace hSV := hSV.keep hb3
  replace b6 := b6.keep hb3
  replace b3V := b3V.keep hb3
  replace e1 := b6.cell
  by_cases h0 : n = 0
  · subst h0
    go_wp2_with fail
    go_ret
    exact ⟨rfl, hBV⟩
  · obtain ⟨m, rfl⟩ : ∃ m, n = m + 1 := ⟨n - 1, by omega⟩
    have hp2 : 2 ^ m ≤ 2 ^ 4 := Nat.pow_le_pow_right (by decide) (by omega)
    obtain ⟨M, hM⟩ : ∃ M, M = 2 ^ m := ⟨_, rfl⟩
    have HA2 := Lib.hid (show AllLen tabs (2 * M) by have := HAll.out; rwa [Nat.pow_succ, Nat.mul_comm, ← hM] at this)
    rw [← hM] at hp2
    have hM0 : 0 < M := by rw [hM]; exact Nat.pow_pos (by decide)
    clear HAll hM
    go_wp2_with fail
    have hd3 := HD.out
    refine (gRound tabs ps M HA2.out (by rw [HL3.out]; decide) (by rw [HL3.out]; decide) (by omega) _ _ _ _ w3 hSV).mono ?_
    rintro e w4 ⟨vg, rfl, hg, hb4⟩
    replace hg : ExtS w3.heap.size w4.heap.size w4 vg (rndE tabs ps) := hg
    obtain ⟨gG, oG, capG, hv, cG, q1, q2, lG, q5⟩ := exts_cells hg (by rw [rndE_length]; omega)
    have hsum := rnd_sum tabs ps M HA2.out (by rw [HL3.out]; decide)
    have hat := rnd_at tabs ps M HA2.out (by rw [HL3.out]; decide) hd3 y
    have hgl := rndE_length tabs ps
    have hdp := degE_pos ps
    have HHG := Lib.hid hg
    have HDg := Lib.hid (show ∀ W1, Below w4.heap.size w4 W1 → Calls Try.prog 20 #[.agg #[.slice At 3 ct, .slice Ap np cp]] W1 (Ret (.int .i64 (degE ps : Nat)) W1) from fun W1 hW =>
      gDegree _ _ ps _ _ W1 (hSV.keep (hb4.trans (hW.mono hb4.size))).hp hSV.short)
    have HTt := Lib.hid (show ∀ W1, Below w4.heap.size w4 W1 → Calls Try.prog 22 #[.agg #[.slice At 3 ct, .slice Ap np cp]] W1 (Ret (ev (totE tabs ps)) W1) from fun W1 hW =>
      gTotal tabs (2 * M) _ _ ps _ _ W1 (hSV.keep (hb4.trans (hW.mono hb4.size))) (by rw [HL3.out]; decide) HA2.out (by omega))
    have HBd := Lib.hid (show ∀ W1, Below w4.heap.size w4 W1 → Calls Try.prog 26 #[.agg #[.slice At 3 ct, .slice Ap np cp], ev y] W1 (RetR (BndA (.slice Ap np cp) (bndE tabs y)) W1) from fun W1 hW =>
      gBndSum tabs y M HA2.out hM0 (by omega) (by rw [HL3.out]; decide) _ _ _ _ W1 (hSV.keep (hb4.trans (hW.mono hb4.size))).ht ⟨_, _, _, rfl⟩)
    have HTb := Lib.hid (show ∀ W1 lo hi vb, Below w4.heap.size w4 W1 → TabS lo hi W1 vb (bndE tabs y) → hi ≤ W1.heap.size → Calls Try.prog 22 #[.agg #[vb, .slice Ap np cp]] W1 (Ret (ev (totE (bndE tabs y) ps)) W1) from fun W1 lo hi vb hW hvb hhi =>
      gTotal (bndE tabs y) M _ _ ps 0 W1.heap.size W1 ⟨hvb.wide (Nat.zero_le _) hhi, ((hSV.keep (hb4.trans (hW.mono hb4.size))).hp).wide (Nat.zero_le _) (by have := hW.size; have := hb4.size; have := hb3.size; have := hV.size; omega), fun p hp k hk => by rw [bndE_length]; exact hSV.ix p hp k hk, hSV.few, hSV.short⟩ (by rw [bndE_length, HL3.out]; decide) (AllLen.bnd HA2.out y) (by omega))
    obtain ⟨g0, hg0, hgd0⟩ := get_of (l := rndE tabs ps) (k := 0) (by omega)
    obtain ⟨g1, hg1, hgd1⟩ := get_of (l := rndE tabs ps) (k := 1) (by omega)
    obtain ⟨d1, d2⟩ := q5 0 g0 hg0
    obtain ⟨d3, d4⟩ := q5 1 g1 hg1
    simp only [Nat.zero_mul, Nat.one_mul, Nat.add_zero, Nat.add_assoc, Nat.reduceAdd] at d1 d2 d3 d4
    rw [hgd0, hgd1] at hsum
    obtain ⟨L, hL⟩ : ∃ L, L = (rndE tabs ps).length := ⟨_, rfl⟩
    rw [← hL] at hv
    subst hv
    have HAdd : Hid (∀ W1, Calls Try.prog 36 #[ev g0, ev g1] W1 (Ret (ev (totE tabs ps)) W1)) := Lib.hid fun W1 => by rw [← hsum]; exact xAdd g0 g1 W1
    have HAt : Hid (∀ W1, Below w4.heap.size w4 W1 → Calls Try.prog 37 #[.slice (some ⟨gG, oG, none⟩) L capG, ev y] W1 (Ret (ev (totE (bndE tabs y) ps)) W1)) := Lib.hid fun W1 hW => by
      rw [← hat]
      exact pAt (rndE tabs ps) y (by omega) _ _ _ W1 (Rd.keep HHG.out hW)
    obtain rfl : L = degE ps + 1 := hL.trans hgl
    generalize degE ps = D at *
    have b6' := b6.keep hb4
    have b3' := b3V.keep hb4
    have hB4 := hBV.trans (hb4.mono hBV.size)
    have HSV := Lib.hid hSV
    have f1 := gw_cell lG d1
    have f2 := gw_cell lG d2
    have f3 := gw_cell lG d3
    have f4 := gw_cell lG d4
    clear hsum hat hg0 hgd0 hg1 hgd1 q5 hL hgl b6 b3V hSV e1 d1 d2 d3 d4 HHG HS HM
    have e1 := b3'.cell
    go_wp2_with fail
    refine (HXM.out _).mono ?_
    rintro e w5 ⟨he, hb5⟩
    unfold ev at he
    subst he
    go_upto_region 7 with (fail)
    refine wp_stk1 fun X hX hzX b8 => ?_
    have h5X := hb5.trans (hX.mono hb5.size)
    have b6X := b6'.keep h5X
    have hBX := hB4.trans (h5X.mono hB4.size)
    replace e1 := b6X.cell
    clear hzX
    go_wp2_with fail
    refine (HDg.out X h5X).mono ?_
    rintro e w6 ⟨rfl, hb6⟩
    have h56 := h5X.trans (hb6.mono h5X.size)
    have b66 := b6X.keep hb6
    have b86 := b8.keep hb6
    have hB6 := hBX.trans (hb6.mono hBX.size)
    have c1 := gw_blk b66
    have c2 := gw_blk b86
    have hs6 := h56.size
    replace f1 := gw_cell (Nat.lt_of_lt_of_le lG hs6) (f1 ⟨_, h56⟩)
    replace f2 := gw_cell (Nat.lt_of_lt_of_le lG hs6) (f2 ⟨_, h56⟩)
    replace f3 := gw_cell (Nat.lt_of_lt_of_le lG hs6) (f3 ⟨_, h56⟩)
    replace f4 := gw_cell (Nat.lt_of_lt_of_le lG hs6) (f4 ⟨_, h56⟩)
    clear e1 b6' b3'
    generalize totE tabs ps = T at *
    obtain ⟨TB, hTB⟩ : ∃ t, t = totE (bndE tabs y) ps := ⟨_, rfl⟩
    rw [← hTB] at HTb HAt
    clear hTB
    go_wp2_with fail
    refine wp_region_rg 23 [(8, Spec.val (.agg #[.int .u64 (fv (T).a), .int .u64 (fv (T).b)])), (10, Spec.val (.agg #[.int .u64 (fv (T).a), .int .u64 (fv (T).b)])), (16, Spec.val (.agg #[.int .u64 (fv (TB).a), .int .u64 (fv (TB).b)])), (19, Spec.rel (BndA (.slice Ap np cp) (bndE tabs y)) AnyV), (20, Spec.val (.agg #[.int .u64 (fv (TB).a), .int .u64 (fv (TB).b)]))] (by kernel_rfl) (by kernel_rfl) (by kernel_rfl) ⟨fit_of (bnd_stable _ _), trivial⟩ ?_
    refine rg_det rfl rfl rfl (fun K hK => ?_)
    go_big_quiet_op
    refine hK _ ?_; clear hK K
    refine rg_det rfl rfl rfl (fun K hK => ?_)
    go_big_quiet_op
    refine hK _ ?_; clear hK K
    refine rg_det rfl rfl rfl (fun K hK => ?_)
    go_big_quiet_op
    refine hK _ ?_; clear hK K
    refine rg_det rfl rfl rfl (fun K hK => ?_)
    go_big_quiet_op
    refine hK _ ?_; clear hK K
    refine rg_det rfl rfl rfl (fun K hK => ?_)
    go_big_quiet_op
    refine hK _ ?_; clear hK K
    refine rg_det rfl rfl rfl (fun K hK => ?_)
    go_big_quiet_op
    refine hK _ ?_; clear hK K
    refine rg_det rfl rfl rfl (fun K hK => ?_)
    go_big_quiet_op
    refine hK _ ?_; clear hK K
    refine rg_det rfl rfl rfl (fun K hK => ?_)
    go_big_quiet_op
    refine hK _ ?_; clear hK K
    refine rg_val rfl rfl (fun W1 hW1 hF => step_callv en_attestor_attestorref02_Add (HAdd.out W1) rfl rfl) ?_
    intro a' ha
    simp only [Act.put, List.setIfInBounds_toArray, List.set_cons_succ, List.set_cons_zero] at ha
    subst ha
    refine rg_det rfl rfl rfl (fun K hK => ?_)
    go_big_quiet_op
    refine hK _ ?_; clear hK K
    refine rg_val rfl rfl (fun W1 hW1 hF => step_callv en_attestor_sumcheck_Total (HTt.out W1 (h56.trans ((grw_below hW1).mono h56.size))) rfl rfl) ?_
    intro a' ha
    simp only [Act.put, List.setIfInBounds_toArray, List.set_cons_succ, List.set_cons_zero] at ha
    subst ha
    refine rg_det rfl rfl rfl (fun K hK => ?_)
    go_big_quiet_op
    refine hK _ ?_; clear hK K
    refine rg_det rfl rfl rfl (fun K hK => ?_)
    go_big_quiet_op
    refine hK _ ?_; clear hK K
    refine rg_det rfl rfl rfl (fun K hK => ?_)
    go_big_quiet_op
    refine hK _ ?_; clear hK K
    refine rg_det rfl rfl rfl (fun K hK => ?_)
    go_big_quiet_op
    refine hK _ ?_; clear hK K
    refine rg_det rfl rfl rfl (fun K hK => ?_)
    go_big_quiet_op
    refine hK _ ?_; clear hK K
    refine rg_val rfl rfl (fun W1 hW1 hF => step_callv en_attestor_attestorref03_At (HAt.out W1 (h56.trans ((grw_below hW1).mono h56.size))) rfl rfl) ?_
    intro a' ha
    simp only [Act.put, List.setIfInBounds_toArray, List.set_cons_succ, List.set_cons_zero] at ha
    subst ha
    refine rg_det rfl rfl rfl (fun K hK => ?_)
    go_big_quiet_op
    refine hK _ ?_; clear hK K
    refine rg_det rfl rfl rfl (fun K hK => ?_)
    go_big_quiet_op
    refine hK _ ?_; clear hK K
    refine rg_rel rfl rfl (fun W1 hW1 hF => step_callr en_attestor_sumcheck_Bind (HBd.out W1 (h56.trans ((grw_below hW1).mono h56.size))) rfl rfl) ?_
    intro n19 m19 v19 hn19 hm19 hd19 hf19 a' ha
    simp only [Act.put, List.setIfInBounds_toArray, List.set_cons_succ, List.set_cons_zero] at ha
    subst ha
    refine rg_val rfl rfl (fun W1 hW1 hF => (by obtain ⟨hm, vt, rfl, ht⟩ := pick_last hF (by kernel_rfl); exact step_callv en_attestor_sumcheck_Total (HTb.out W1 _ _ vt (h56.trans ((grw_below hW1).mono h56.size)) ht hm) rfl rfl)) ?_
    intro a' ha
    simp only [Act.put, List.setIfInBounds_toArray, List.set_cons_succ, List.set_cons_zero] at ha
    subst ha
    refine rg_det rfl rfl rfl (fun K hK => ?_)
    go_big_quiet_op
    refine hK _ ?_; clear hK K
    refine rg_det rfl rfl rfl (fun K hK => ?_)
    go_big_quiet_op
    refine hK _ ?_; clear hK K
    refine rg_nil (fun w' hw' hF => ?_)
    obtain ⟨z, rfl⟩ := hw'
    simp only [List.drop_succ_cons, List.drop_zero]
    clear hF
    go_wp2_with fail
    go_ret
    exact ⟨rfl, hB6.trans (z.h.mono hB6.size)⟩
end Go.Proofs.Ytilelegcniefcaa
