/-
  SumcheckCompleteness: the walk.
-/
import Derived.Test.YtilelegcniefcaaMa6
import Derived.Test.YtilelegcniefcaaInts
namespace Go.Proofs.Ytilelegcniefcaa
open Go.RowKit

/-- The raw description as it lies. -/
structure Raw6S (w : World) (q : Raw6) (A : Nat → Option Addr) (cc : Nat → Nat) (AL : Option Addr) (cL : Nat) : Prop where
  T : ∀ k, k < 3 → RawS 0 w.heap.size w (.slice (A k) (q.T k).length (cc k)) (q.T k)
  L : TRawS 0 w.heap.size w (.slice AL q.L.length cL) q.L
  N : Byte q.N
theorem Raw6S.keep {w W : World} {q : Raw6} {A : Nat → Option Addr} {cc : Nat → Nat} {AL : Option Addr} {cL : Nat} (h : Raw6S w q A cc AL cL) (hb : Below w.heap.size w W) : Raw6S W q A cc AL cL :=
  ⟨fun k hk => ⟨Rd.wide (Rd.keep (h.T k hk).1 hb) (Nat.le_refl _) hb.size, (h.T k hk).2⟩, ⟨Rd.wide (Rd.keep h.L.1 hb) (Nat.le_refl _) hb.size, h.L.2⟩, h.N⟩
def raw6V (q : Raw6) (A : Nat → Option Addr) (cc : Nat → Nat) (AL : Option Addr) (cL : Nat) : Value := .agg #[.slice (A 0) (q.T 0).length (cc 0), .slice (A 1) (q.T 1).length (cc 1), .slice (A 2) (q.T 2).length (cc 2), .slice AL q.L.length cL, .int .u8 q.N]
theorem rMade6S (q : Raw6) (most : Nat) (hm : most ≤ 5) (A : Nat → Option Addr) (cc : Nat → Nat) (AL : Option Addr) (cL : Nat) (w : World) (h : Raw6S w q A cc AL cL) :
    Calls Try.prog 13 #[raw6V q A cc AL cL, .int .i64 (most : Int)] w (RetR (MadeA (q.tabs most) q.trms) w) := rMade6 q most hm A A cc AL cL 0 w.heap.size w h.T h.L h.N
theorem Raw6.sum (q : Raw6) (most : Nat) {lo hi : Nat} {w : World} {vt vp : Value} (ht : TabS lo hi w vt (q.tabs most)) (hp : TrmS lo hi w vp q.trms) : SumS lo hi w vt vp (q.tabs most) q.trms :=
  ⟨ht, hp, fun p hp k hk => by rw [q.tabs_len]; exact q.ix p hp k hk, by have := q.trms_len; omega, fun p hp => by have := (q.short p hp).2; omega⟩
set_option maxRecDepth 100000 in
set_option maxHeartbeats 8000000 in
theorem wkSumcheckCompleteness (q : Raw6) (A : Nat → Option Addr) (cc : Nat → Nat) (AL : Option Addr) (cL : Nat) (c : List Raw) (vC : Value) (w : World) (h : Raw6S w q A cc AL cL) (hc : RawS 0 w.heap.size w vC c) :
    Calls Try.prog 5 #[raw6V q A cc AL cL, vC] w (Ret (.bool true) w) := by
  obtain ⟨i0, hi0, iz0, iz1, iz2⟩ := info_parts ext_info
  obtain ⟨AC, capC, rfl⟩ := hc.1.len
  have HM := Lib.hid (fun W (hW : Below w.heap.size w W) => rMade6S q 5 (by decide) A cc AL cL W (h.keep hW))
  have hn5 := q.n_le 5
  have hall := q.all 5
  have hl3 := q.tabs_len 5
  have HS := Lib.hid (fun lo hi w vt vp => @Raw6.sum q 5 lo hi w vt vp)
  have HD := Lib.hid q.deg
  have HX := Lib.hid (fun W (hW : Below w.heap.size w W) => xExact c (q.n 5) (by omega) (.slice AC c.length capC) 0 w.heap.size W ⟨Rd.keep hc.1 hW, hc.2⟩)
  have HXl := Lib.hid (madeAll_length c (q.n 5))
  generalize q.tabs 5 = tabs at *
  generalize q.trms = ps at *
  generalize q.n 5 = n at *
  generalize madeAll c n = co at *
  have HAll := Lib.hid hall
  have HL3 := Lib.hid hl3
  clear h hc hall hl3
  unfold raw6V at *
  obtain ⟨l0, -⟩ : ∃ l, l = (q.T 0).length := ⟨_, rfl⟩
  go_enter Try.func5, Try.ntmps5
  go_wp2_with fail
  refine calls_stk1 fun W hB hz b2 => ?_
  refine (lSanity6 W).mono ?_
  rintro e w1 ⟨rfl, hb1⟩
  have hB1 := hB.trans (hb1.mono hB.size)
  have e1 := (b2.keep hb1).cell
  go_wp2_with fail
  refine (HM.out w1 hB1).mono ?_
  rintro e w2 ⟨v2, rfl, ⟨vt, vp, rfl, ht, hp⟩, hb2⟩
  obtain ⟨At, ct, rfl⟩ := ht.len
  obtain ⟨Ap, cp, rfl⟩ := hp.len
  have hS := HS.out _ _ _ _ _ ht hp
  rw [HL3.out] at hS ⊢
  have hB2 := hB1.trans (hb2.mono hB1.size)
  clear ht hp e1 b2
  unfold sv
  go_upto_region 3 with (fail)
  refine wp_stk1 fun V hV hzV b6 => ?_
  have hBV := hB2.trans (hV.mono hB2.size)
  have hSV := hS.keep hV
  have e1 := b6.cell
  obtain ⟨np, hnp⟩ : ∃ np, np = ps.length := ⟨_, rfl⟩
  rw [← hnp] at hSV b6 e1 ⊢
  clear hS hnp
  go_wp2_with fail
  refine (rLog tabs n (by omega) HAll.out (by rw [HL3.out]; decide) _ _ _ _ V hSV.ht ⟨_, _, _, rfl⟩).mono ?_
  rintro e w3 ⟨rfl, hb3⟩
  go_wp2_with fail
  refine (HX.out w3 (hBV.trans (hb3.mono hBV.size))).mono ?_
  rintro e w4 ⟨v4, rfl, h4, hb4⟩
  replace h4 : ExtS w3.heap.size w4.heap.size w4 v4 co := h4
  obtain ⟨A4, cap4, hv⟩ := Rd.len h4
  rw [HXl.out] at hv
  subst hv
  have h34 := hb3.trans (hb4.mono hb3.size)
  have hS4 := hSV.keep h34
  have b64 := b6.keep h34
  have hBV4 := hBV.trans (h34.mono hBV.size)
  have HC4 := Lib.hid h4
  clear h4 hSV e1 b6
  have e1 := b64.cell
  go_wp2_with fail
  refine (gProve tabs ps co n HXl.out (by omega) HAll.out (by rw [HL3.out]; decide) (by rw [HL3.out]; decide) _ _ _ _ _ _ _ w4 hS4 HC4.out).mono ?_
  rintro e w5 ⟨vR, vV, rfl, hR, hV5, hb5⟩
  obtain ⟨AR, capR, hv⟩ := hR.len
  rw [prvR_length, HXl.out] at hv
  subst hv
  rw [prvV_mev] at hV5
  have hl5 : (tabs.map fun t => mev t co).length = 3 := by rw [List.length_map, HL3.out]
  obtain ⟨gV, oV, capV, hv, cV, q1, q2, lV, q5⟩ := exts_cells hV5 (by rw [hl5]; decide)
  rw [hl5] at hv
  subst hv
  have HQ5 := Lib.hid q5
  have b65 := b64.keep hb5
  have hS5 := hS4.keep hb5
  have HC5 := Lib.hid (Rd.keep HC4.out hb5)
  have hBw5 := hBV4.trans (hb5.mono hBV4.size)
  obtain ⟨gT, oT, capT, hv, -, -, -, lT, qT⟩ := tabs_cells hS5.ht (by rw [HL3.out]; decide)
  rw [HL3.out] at hv
  cases hv
  have HQT := Lib.hid qT
  have HS5 := Lib.hid hS5
  have HR5 := Lib.hid hR
  have HV5 := Lib.hid hV5
  clear q1 q2 q5 qT b64 hS4 hb5 hl5 hS5 hR hV5 e1
  go_wp2_with fail
  go_loopw [10] (fun i wr => ∃ j : Nat, j ≤ 3 ∧ i = .int .i64 j ∧ Below w5.heap.size w5 wr) (fun i _ => 3 - (intOf i).toNat)
  case atStart => exact ⟨0, by decide, rfl, Below.refl _ _⟩
  case round =>
    obtain ⟨j, hj, rfl, hBr⟩ := hrel
    have b6r := b65.keep hBr
    have c6 := gw_blk b6r
    by_cases hlt : j < 3
    · obtain ⟨t, ht⟩ : ∃ t, tabs[j]? = some t := ⟨_, List.getElem?_eq_getElem (by rw [HL3.out]; exact hlt)⟩
      obtain ⟨A0, c0, d0, hE⟩ := HQT.out j t ht
      obtain ⟨d1, d2⟩ := HQ5.out j (mev t co) (by simp [ht])
      have htl : t.length = 2 ^ n := HAll.out t (List.mem_of_getElem? ht)
      have hp2 : 2 ^ n ≤ 2 ^ 5 := Nat.pow_le_pow_right (by decide) hn5
      have HE := Lib.hid (show ∀ W1, Below wr.heap.size wr W1 → Calls Try.prog 35 #[.slice A0 t.length c0, .slice A4 n cap4] W1 (Ret (ev (mev t co)) W1) from fun W1 hW => by
        rw [← dotE_all t co (by rw [HXl.out]; exact htl)]
        have hW5 := hBr.trans (hW.mono hBr.size)
        exact rEval t co (by have : 2 ^ 5 = 32 := rfl; omega) (by rw [HXl.out]; omega) _ _ _ _ _ _ W1 (Rd.keep hE hW5) (Rd.keep HC5.out hW5))
      have k1 := gw_cell (W := wr) (Nat.lt_of_lt_of_le lT hBr.size) ((hBr.cell (p := ⟨gT, oT + j, none⟩) lT).trans d0)
      have k2 := gw_cell (W := wr) (Nat.lt_of_lt_of_le lV hBr.size) ((hBr.cell (p := ⟨gV, oV + j * 2, none⟩) lV).trans d1)
      have k3 := gw_cell (W := wr) (Nat.lt_of_lt_of_le lV hBr.size) ((hBr.cell (p := ⟨gV, oV + j * 2 + 1, none⟩) lV).trans d2)
      clear d0 d1 d2 hE ht htl hp2
      generalize mev t co = y at *
      generalize t.length = tl at *
      go_wp2_with fail
      refine wp_region_rg 12 [(10, Spec.val (.agg #[.int .u64 (fv (y).a), .int .u64 (fv (y).b)]))] (by kernel_rfl) (by kernel_rfl) (by kernel_rfl) trivial ?_
      refine rg_det rfl rfl rfl (fun K hK => ?_)
      go_big_quiet_op
      refine hK _ ?_; clear hK K
      refine rg_det rfl rfl rfl (fun K hK => ?_)
      go_big_quiet_op
      refine hK _ ?_; clear hK K
      refine rg_det rfl rfl rfl (fun K hK => ?_)
      go_big_quiet_op
      refine hK _ ?_; clear hK K
      refine rg_det rfl rfl rfl (fun K hK => ?_)
      go_big_quiet_op
      refine hK _ ?_; clear hK K
      refine rg_det rfl rfl rfl (fun K hK => ?_)
      go_big_quiet_op
      refine hK _ ?_; clear hK K
      refine rg_det rfl rfl rfl (fun K hK => ?_)
      go_big_quiet_op
      refine hK _ ?_; clear hK K
      refine rg_det rfl rfl rfl (fun K hK => ?_)
      go_big_quiet_op
      refine hK _ ?_; clear hK K
      refine rg_det rfl rfl rfl (fun K hK => ?_)
      go_big_quiet_op
      refine hK _ ?_; clear hK K
      refine rg_det rfl rfl rfl (fun K hK => ?_)
      go_big_quiet_op
      refine hK _ ?_; clear hK K
      refine rg_det rfl rfl rfl (fun K hK => ?_)
      go_big_quiet_op
      refine hK _ ?_; clear hK K
      refine rg_val rfl rfl (fun W1 hW1 hF => step_callv en_attestor_attestorref05_Eval (HE.out W1 (grw_below hW1)) rfl rfl) ?_
      intro a' ha
      simp only [Act.put, List.setIfInBounds_toArray, List.set_cons_succ, List.set_cons_zero] at ha
      subst ha
      refine rg_det rfl rfl rfl (fun K hK => ?_)
      go_big_quiet_op
      refine hK _ ?_; clear hK K
      refine rg_nil (fun w' hw' hF => ?_)
      obtain ⟨z, rfl⟩ := hw'
      simp only [List.drop_succ_cons, List.drop_zero]
      go_wp2_with fail
      exact ⟨⟨j + 1, by omega, by go_num, hBr.trans (z.h.mono hBr.size)⟩, by simp [intOf]; omega⟩
    · obtain rfl : j = 3 := by omega
      go_wp2_with fail
      have hp2 : 2 ^ n ≤ 2 ^ 5 := Nat.pow_le_pow_right (by decide) hn5
      have HT := Lib.hid (show ∀ W1, Below wr.heap.size wr W1 → Calls Try.prog 22 #[.agg #[.slice (some ⟨gT, oT, none⟩) 3 ct, .slice Ap np cp]] W1 (Ret (ev (totE tabs ps)) W1) from fun W1 hW =>
        gTotal tabs (2 ^ n) _ _ ps _ _ W1 (HS5.out.keep (hBr.trans (hW.mono hBr.size))) (by rw [HL3.out]; decide) HAll.out (Nat.le_trans hp2 (by decide)))
      have HG := Lib.hid (show ∀ W1, Below wr.heap.size wr W1 → Calls Try.prog 20 #[.agg #[.slice (some ⟨gT, oT, none⟩) 3 ct, .slice Ap np cp]] W1 (Ret (.int .i64 (degE ps : Nat)) W1) from fun W1 hW =>
        gDegree _ _ ps _ _ W1 (HS5.out.keep (hBr.trans (hW.mono hBr.size))).hp HS5.out.short)
      have HVf := Lib.hid (show ∀ W1, Below wr.heap.size wr W1 → Calls Try.prog 33 #[ev (totE tabs ps), .slice AR n capR, .agg #[.slice A4 n cap4, .int .i64 (degE ps : Nat)]] W1 (Ret (.tuple #[ev (finE (valL (tabs.map fun t => mev t co)) ps), .int .i64 0]) W1) from fun W1 hW => by
        have hW5 := hBr.trans (hW.mono hBr.size)
        have hd := HD.out
        have := gVerify (totE tabs ps) (prvR tabs ps co) co (degE ps : Nat) (by omega) (by rw [prvR_length, HXl.out]; omega) _ _ _ _ _ _ W1 (HR5.out.keep hW5) (Rd.keep HC5.out hW5)
        rwa [vrf_complete tabs ps co (by rw [HXl.out]; exact HAll.out) (by rw [HL3.out]; decide) hd, prvV_mev] at this)
      have HFn := Lib.hid (show ∀ W1, Below w5.heap.size w5 W1 → Calls Try.prog 24 #[.agg #[.slice (some ⟨gT, oT, none⟩) 3 ct, .slice Ap np cp], .slice (some ⟨gV, oV, none⟩) 3 capV] W1 (Ret (ev (finE (valL (tabs.map fun t => mev t co)) ps)) W1) from fun W1 hW =>
        gFinal _ _ _ _ ps _ _ _ _ W1 (HS5.out.keep hW).hp (Rd.keep HV5.out hW) (fun p hp k hk => by rw [List.length_map]; exact HS5.out.ix p hp k hk) HS5.out.few HS5.out.short)
      generalize totE tabs ps = T at *
      generalize degE ps = D at *
      generalize finE (valL (tabs.map fun t => mev t co)) ps = F at *
      have hb6w := b65.lt
      refine wp_region_swap 12 10 undef [(1, Spec.val (.agg #[.int .u64 (fv (T).a), .int .u64 (fv (T).b)])), (5, Spec.val (.int .i64 (D : Nat))), (7, Spec.val (.tuple #[.agg #[.int .u64 (fv (F).a), .int .u64 (fv (F).b)], .int .i64 0])), (11, Spec.rel (New 43 #[.int .u64 0, .int .u64 0]) (NewF))] (by kernel_rfl) (by kernel_rfl) (by kernel_rfl) rfl rfl rfl rfl ⟨fit_new, trivial⟩ ?_ ?_
      refine rg_det rfl rfl rfl (fun K hK => ?_)
      go_big_quiet_op
      refine hK _ ?_; clear hK K
      refine rg_val rfl rfl (fun W1 hW1 hF => step_callv en_attestor_sumcheck_Total (HT.out W1 (grw_below hW1)) rfl rfl) ?_
      intro a' ha
      simp only [Act.put, List.setIfInBounds_toArray, List.set_cons_succ, List.set_cons_zero] at ha
      subst ha
      refine rg_det rfl rfl rfl (fun K hK => ?_)
      go_big_quiet_op
      refine hK _ ?_; clear hK K
      refine rg_det rfl rfl rfl (fun K hK => ?_)
      go_big_quiet_op
      refine hK _ ?_; clear hK K
      refine rg_det rfl rfl rfl (fun K hK => ?_)
      go_big_quiet_op
      refine hK _ ?_; clear hK K
      refine rg_val rfl rfl (fun W1 hW1 hF => step_callv en_attestor_sumcheck_Degree (HG.out W1 (grw_below hW1)) rfl rfl) ?_
      intro a' ha
      simp only [Act.put, List.setIfInBounds_toArray, List.set_cons_succ, List.set_cons_zero] at ha
      subst ha
      refine rg_det rfl rfl rfl (fun K hK => ?_)
      go_big_quiet_op
      refine hK _ ?_; clear hK K
      refine rg_val rfl rfl (fun W1 hW1 hF => step_callv en_attestor_sumcheck_Verify (HVf.out W1 (grw_below hW1)) rfl rfl) ?_
      intro a' ha
      simp only [Act.put, List.setIfInBounds_toArray, List.set_cons_succ, List.set_cons_zero] at ha
      subst ha
      refine rg_det rfl rfl rfl (fun K hK => ?_)
      go_big_quiet_op
      refine hK _ ?_; clear hK K
      refine rg_det rfl rfl rfl (fun K hK => ?_)
      go_big_quiet_op
      refine hK _ ?_; clear hK K
      refine rg_det rfl rfl rfl (fun K hK => ?_)
      go_big_quiet_op
      refine hK _ ?_; clear hK K
      refine rg_rel rfl rfl (fun W1 hW1 hF => step_new hi0 iz0 rfl) ?_
      intro n11 m11 v11 hn11 hm11 hd11 hf11 a' ha
      simp only [Act.put, List.setIfInBounds_toArray, List.set_cons_succ, List.set_cons_zero] at ha
      subst ha
      obtain rfl := hf11
      refine rg_nil (fun w' hw' hF => ?_)
      obtain ⟨z, rfl⟩ := hw'
      simp only [List.drop_succ_cons, List.drop_zero]
      rotate_left 1
      refine rg_det rfl rfl rfl (fun K hK => ?_)
      go_big_quiet_op
      refine hK _ ?_; clear hK K
      refine rg_val rfl rfl (fun W1 hW1 hF => step_callv en_attestor_sumcheck_Total (HT.out W1 (grw_below hW1)) rfl rfl) ?_
      intro a' ha
      simp only [Act.put, List.setIfInBounds_toArray, List.set_cons_succ, List.set_cons_zero] at ha
      subst ha
      refine rg_det rfl rfl rfl (fun K hK => ?_)
      go_big_quiet_op
      refine hK _ ?_; clear hK K
      refine rg_det rfl rfl rfl (fun K hK => ?_)
      go_big_quiet_op
      refine hK _ ?_; clear hK K
      refine rg_det rfl rfl rfl (fun K hK => ?_)
      go_big_quiet_op
      refine hK _ ?_; clear hK K
      refine rg_val rfl rfl (fun W1 hW1 hF => step_callv en_attestor_sumcheck_Degree (HG.out W1 (grw_below hW1)) rfl rfl) ?_
      intro a' ha
      simp only [Act.put, List.setIfInBounds_toArray, List.set_cons_succ, List.set_cons_zero] at ha
      subst ha
      refine rg_det rfl rfl rfl (fun K hK => ?_)
      go_big_quiet_op
      refine hK _ ?_; clear hK K
      refine rg_val rfl rfl (fun W1 hW1 hF => step_callv en_attestor_sumcheck_Verify (HVf.out W1 (grw_below hW1)) rfl rfl) ?_
      intro a' ha
      simp only [Act.put, List.setIfInBounds_toArray, List.set_cons_succ, List.set_cons_zero] at ha
      subst ha
      refine rg_det rfl rfl rfl (fun K hK => ?_)
      go_big_quiet_op
      refine hK _ ?_; clear hK K
      refine rg_det rfl rfl rfl (fun K hK => ?_)
      go_big_quiet_op
      refine hK _ ?_; clear hK K
      refine rg_pass rfl rfl ?_
      intro a' ha
      simp only [Act.put, List.setIfInBounds_toArray, List.set_cons_succ, List.set_cons_zero] at ha
      subst ha
      refine rg_rel rfl rfl (fun W1 hW1 hF => step_new hi0 iz0 rfl) ?_
      intro n11 m11 v11 hn11 hm11 hd11 hf11 a' ha
      simp only [Act.put, List.setIfInBounds_toArray, List.set_cons_succ, List.set_cons_zero] at ha
      subst ha
      obtain rfl := hf11
      refine rg_nil (fun w' hw' hF => ?_)
      obtain ⟨z, rfl⟩ := hw'
      simp only [List.drop_succ_cons, List.drop_zero]
      refine wpList_putS ?_
      intro a' ha
      simp only [Act.put, List.setIfInBounds_toArray, List.set_cons_succ, List.set_cons_zero] at ha
      subst ha
      rotate_right 1
      all_goals
        obtain ⟨hm11, -, hl11, b11⟩ := end_last hF
        have e2 := b11.frozen
        have e3 := b11.cell
        clear hF hd11 c6
        go_upto_region 13 with (fail)
        refine set2 (M := fun W => Code.wp _ _ _ _ W) b11 fun X hX bX => ?_
        have hBX := hBr.trans ((below_put z.h hX hn11).mono hBr.size)
        have c6 := gw_blk (b65.keep hBX)
        have c7 := gw_blk bX
        clear e2 e3 b11
        refine wp_region_rg 12 [(9, Spec.val (.agg #[.int .u64 (fv (F).a), .int .u64 (fv (F).b)]))] (by kernel_rfl) (by kernel_rfl) (by kernel_rfl) trivial ?_
        refine rg_det rfl rfl rfl (fun K hK => ?_)
        go_big_quiet_op
        refine hK _ ?_; clear hK K
        refine rg_det rfl rfl rfl (fun K hK => ?_)
        go_big_quiet_op
        refine hK _ ?_; clear hK K
        refine rg_det rfl rfl rfl (fun K hK => ?_)
        go_big_quiet_op
        refine hK _ ?_; clear hK K
        refine rg_det rfl rfl rfl (fun K hK => ?_)
        go_big_quiet_op
        refine hK _ ?_; clear hK K
        refine rg_det rfl rfl rfl (fun K hK => ?_)
        go_big_quiet_op
        refine hK _ ?_; clear hK K
        refine rg_det rfl rfl rfl (fun K hK => ?_)
        go_big_quiet_op
        refine hK _ ?_; clear hK K
        refine rg_det rfl rfl rfl (fun K hK => ?_)
        go_big_quiet_op
        refine hK _ ?_; clear hK K
        refine rg_det rfl rfl rfl (fun K hK => ?_)
        go_big_quiet_op
        refine hK _ ?_; clear hK K
        refine rg_det rfl rfl rfl (fun K hK => ?_)
        go_big_quiet_op
        refine hK _ ?_; clear hK K
        refine rg_val rfl rfl (fun W1 hW1 hF => step_callv en_attestor_sumcheck_Final (HFn.out W1 (hBX.trans ((grw_below hW1).mono hBX.size))) rfl rfl) ?_
        intro a' ha
        simp only [Act.put, List.setIfInBounds_toArray, List.set_cons_succ, List.set_cons_zero] at ha
        subst ha
        refine rg_det rfl rfl rfl (fun K hK => ?_)
        go_big_quiet_op
        refine hK _ ?_; clear hK K
        refine rg_det rfl rfl rfl (fun K hK => ?_)
        go_big_quiet_op
        refine hK _ ?_; clear hK K
        refine rg_nil (fun w' hw' hF => ?_)
        obtain ⟨z9, rfl⟩ := hw'
        simp only [List.drop_succ_cons, List.drop_zero]
        go_wp2_with fail
        go_ret
        exact ⟨rfl, hBw5.trans ((hBX.trans (z9.h.mono hBX.size)).mono hBw5.size)⟩
end Go.Proofs.Ytilelegcniefcaa
