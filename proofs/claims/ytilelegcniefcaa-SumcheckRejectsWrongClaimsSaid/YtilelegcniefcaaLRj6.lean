/-
  SumcheckRejectsWrongClaims: the walk.
-/
import Derived.Test.YtilelegcniefcaaLCo6
import Derived.Test.YtilelegcniefcaaIp
import Derived.Test.YtilelegcniefcaaFg6
namespace Go.Proofs.Ytilelegcniefcaa
open Go.RowKit

theorem Rd.base {lo hi n size : Nat} {w : World} {v : Value} {cs : List Value} (h : Rd lo hi size w v n cs) : Rd 0 w.heap.size size w v n cs := by
  obtain ⟨q1, q2, A, cap, q3, q4, q5⟩ := h
  refine ⟨q1, q2, A, cap, q3, q4, fun h0 => ?_⟩
  obtain ⟨g, off, r1, r2, r3, r4, r5⟩ := q5 h0
  exact ⟨g, off, r1, Nat.zero_le _, r4, r4, r5⟩
/-- Rounds but the last, and another one behind them. -/
theorem forgedS {lo hi lo3 hi3 m : Nat} {w : World} {v x : Value} {us : List Value} {gs : List (List E)} {g : List E} (h : Rd lo hi 1 w v (m + 1) (us ++ [x])) (hu : us.length = m) (hg : gs.length = m)
    (hs : ∀ (k : Nat) u t, us[k]? = some u → gs[k]? = some t → ∃ lo hi, ExtS lo hi w u t) (hx : ExtS lo3 hi3 w x g) : TabS 0 w.heap.size w v (gs ++ [g]) := by
  refine ⟨us ++ [x], by simp [hu, hg], by rw [List.length_append, hg]; exact h.base, fun k u t hk ht => ?_⟩
  by_cases hkm : k < m
  · rw [List.getElem?_append_left (by omega)] at hk ht
    obtain ⟨lo, hi, h⟩ := hs k u t hk ht
    exact ext_base h
  · have hkk : k < (us ++ [x]).length := (List.getElem?_eq_some_iff.1 hk).1
    simp only [List.length_append, List.length_cons, List.length_nil] at hkk
    obtain rfl : k = m := by omega
    rw [List.getElem?_append_right (by omega), hu, Nat.sub_self] at hk
    rw [List.getElem?_append_right (by omega), hg, Nat.sub_self] at ht
    simp only [List.getElem?_cons_zero, Option.some.injEq] at hk ht
    subst hk
    subst ht
    exact ext_base hx
theorem rd_take1 {lo hi n k cap : Nat} {A : Option Addr} {w : World} {us : List Value} (h : Rd lo hi 1 w (.slice A n cap) n us) (hk : k ≤ n) : Rd lo hi 1 w (.slice A k cap) k (us.take k) := by
  obtain ⟨h1, h2, A', cap', h3, h4, h5⟩ := h
  cases h3
  refine ⟨by rw [List.length_take]; omega, by omega, A, cap, rfl, by omega, fun h0 => ?_⟩
  obtain ⟨g, off, q1, q2, q3, q4, q5⟩ := h5 (by omega)
  refine ⟨g, off, q1, q2, q3, q4, fun j u hj => q5 j u ?_⟩
  have hj' := (List.getElem?_eq_some_iff.1 hj).1
  rw [List.length_take] at hj'
  rwa [List.getElem?_take, if_pos (by omega)] at hj
theorem add_ne (T y : E) (hy : y ≠ 0) : T + y ≠ T := fun e => hy (E.sub_of y T (by rw [E.add_comm]; exact e))
theorem vrf_wrong' (tabs : List (List E)) (ps : List Trm) (cs : List E) (v : E) (hc : cs ≠ []) (h : AllLen tabs (2 ^ cs.length)) (h0 : 0 < tabs.length) (h3 : degE ps ≤ 3) (hv : v ≠ totE tabs ps) :
    vrfE (degE ps : Int) v (prvR tabs ps cs) cs = (0, 60) := by
  cases cs with
  | nil => exact absurd rfl hc
  | cons c cs => exact vrf_wrong tabs ps c cs v h h0 h3 hv
theorem three_add (a b y : E) : a + y + b = a + b + y := by rw [E.add_assoc, E.add_comm y, ← E.add_assoc]
theorem add_take (a b y : E) : a + y + (b - y) = a + b := by
  apply E.ext_ <;> simp only [add_a, add_b, sub_a, sub_b] <;> grind
theorem set_getD_ne (l : List E) (j k : Nat) (x : E) (h : j ≠ k) : (l.set j x).getD k 0 = l.getD k 0 := by simp [List.getD, List.getElem?_set, h]
theorem set_getD_eq (l : List E) (j : Nat) (x : E) (h : j < l.length) : (l.set j x).getD j 0 = x := by simp [List.getD, List.getElem?_set, h]
theorem ext_cases (x F : E) : x = F ∨ fv x.a ≠ fv F.a ∨ (fv x.a = fv F.a ∧ fv x.b ≠ fv F.b) := by
  by_cases ha : fv x.a = fv F.a
  · by_cases hb : fv x.b = fv F.b
    · exact .inl (E.ext_ (fv_inj ha) (fv_inj hb))
    · exact .inr (.inr ⟨ha, hb⟩)
  · exact .inr (.inl ha)
set_option maxRecDepth 100000 in
set_option maxHeartbeats 8000000 in
theorem wkSumcheckRejects (q : Raw6) (A : Nat → Option Addr) (cc : Nat → Nat) (AL : Option Addr) (cL : Nat) (c : List Raw) (vC : Value) (r : Raw) (hr : Word r.1 ∧ Word r.2) (w : World) (h : Raw6S w q A cc AL cL) (hc : RawS 0 w.heap.size w vC c) :
    Calls Try.prog 7 #[raw6V q A cc AL cL, vC, .agg #[.int .u64 r.1, .int .u64 r.2]] w (Ret (.bool true) w) := by
  obtain ⟨i0, hi0, iz0, iz1, iz2⟩ := info_parts ext_info
  obtain ⟨AC, capC, rfl⟩ := hc.1.len
  have HM := Lib.hid (fun W (hW : Below w.heap.size w W) => rMade6S q 4 (by decide) A cc AL cL W (h.keep hW))
  have hn5 := q.n_le 4
  have hall := q.all 4
  have hl3 := q.tabs_len 4
  have HS := Lib.hid (fun lo hi w vt vp => @Raw6.sum q 4 lo hi w vt vp)
  have HD := Lib.hid q.deg
  have HX := Lib.hid (fun W (hW : Below w.heap.size w W) => xExact c (q.n 4) (by omega) (.slice AC c.length capC) 0 w.heap.size W ⟨Rd.keep hc.1 hW, hc.2⟩)
  have HXl := Lib.hid (madeAll_length c (q.n 4))
  have HXM := Lib.hid (xMade r.1 r.2 hr.1.1 hr.1.2 hr.2.1 hr.2.2)
  obtain ⟨r1, r2⟩ := r
  simp only at *
  generalize q.tabs 4 = tabs at *
  generalize q.trms = ps at *
  generalize q.n 4 = n at *
  generalize madeAll c n = co at *
  generalize em r1 r2 = y at *
  have HAll := Lib.hid hall
  have HL3 := Lib.hid hl3
  clear h hc hr hall hl3
  unfold raw6V at *
  obtain ⟨l0, -⟩ : ∃ l, l = (q.T 0).length := ⟨_, rfl⟩
  go_enter Try.func7, Try.ntmps7
  go_wp2_with fail
  refine calls_stk2 fun W hB hz b2 b3 => ?_
  refine (lSanity6 W).mono ?_
  rintro e w1 ⟨rfl, hb1⟩
  have hB1 := hB.trans (hb1.mono hB.size)
  have e1 := (b2.keep hb1).cell
  have b31 := b3.keep hb1
  go_wp2_with fail
  refine (HM.out w1 hB1).mono ?_
  rintro e w2 ⟨v2, rfl, ⟨vt, vp, rfl, ht, hp⟩, hb2⟩
  obtain ⟨At, ct, rfl⟩ := ht.len
  obtain ⟨Ap, cp, rfl⟩ := hp.len
  have hS := HS.out _ _ _ _ _ ht hp
  rw [HL3.out] at hS ⊢
  have hB2 := hB1.trans (hb2.mono hB1.size)
  have b32 := b31.keep hb2
  clear ht hp e1 b2 b3 b31
  unfold sv
  go_upto_region 3 with (fail)
  refine wp_stk1 fun V hV hzV b6 => ?_
  have hBV := hB2.trans (hV.mono hB2.size)
  have hSV := hS.keep hV
  have b3V := b32.keep hV
  have e1 := b6.cell
  obtain ⟨np, hnp⟩ : ∃ np, np = ps.length := ⟨_, rfl⟩
  rw [← hnp] at hSV b6 e1 ⊢
  clear hS hnp b32 hzV
  go_wp2_with fail
  refine (rLog tabs n (by omega) HAll.out (by rw [HL3.out]; decide) _ _ _ _ V hSV.ht ⟨_, _, _, rfl⟩).mono ?_
  rintro e w3 ⟨rfl, hb3⟩
  go_wp2_with fail
  refine (HX.out w3 (hBV.trans (hb3.mono hBV.size))).mono ?_
  rintro e w4 ⟨v4, rfl, h4, hb4⟩
  replace h4 : ExtS w3.heap.size w4.heap.size w4 v4 co := h4
  obtain ⟨A4, cap4, hv⟩ := Rd.len h4
  rw [HXl.out] at hv
  subst hv
  have h34 := hb3.trans (hb4.mono hb3.size)
  clear e1
  have e1 := (b3V.keep h34).cell
  go_wp2_with fail
  refine (HXM.out _).mono ?_
  rintro e w5 ⟨he, hb5⟩
  unfold ev at he
  subst he
  go_upto_region 6 with (fail)
  refine wp_stk1 fun Y hY hzY b11 => ?_
  have h5Y := hb5.trans (hY.mono hb5.size)
  have hVY := h34.trans (h5Y.mono h34.size)
  have hSY := hSV.keep hVY
  have b8 := b6.keep hVY
  have hBY := hBV.trans (hVY.mono hBV.size)
  have hCY := Rd.keep h4 h5Y
  have HCY := Lib.hid hCY
  have HSY := Lib.hid hSY
  clear e1 hzY b6 b3V hSV h4 hCY hSY
  have e1 := b8.cell
  go_wp2_with fail
  refine (gProve tabs ps co n HXl.out (by omega) HAll.out (by rw [HL3.out]; decide) (by rw [HL3.out]; decide) _ _ _ _ _ _ _ Y HSY.out HCY.out).mono ?_
  rintro e w6 ⟨vR, vV, rfl, hR, hV6, hb6⟩
  obtain ⟨AR, capR, hv⟩ := hR.len
  rw [prvR_length, HXl.out] at hv
  subst hv
  obtain ⟨AV, capV, hv⟩ := Rd.len hV6
  have hl6 : (prvV tabs co).length = 3 := by rw [prvV_mev, List.length_map, HL3.out]
  rw [hl6] at hv
  subst hv
  have HL6 := Lib.hid hl6
  have HR6 := Lib.hid hR
  have HV6 := Lib.hid hV6
  have b86 := b8.keep hb6
  have b116 := b11.keep hb6
  have hB6 := hBY.trans (hb6.mono hBY.size)
  have HS6 := Lib.hid (HSY.out.keep hb6)
  have HC6 := Lib.hid (Rd.keep HCY.out hb6)
  clear e1 hl6 hR hV6
  by_cases h0 : n = 0
  · subst h0
    go_wp2_with fail
    go_ret
    exact ⟨rfl, hB6⟩
  have e1 := b116.cell
  have hn0 : ((n : Int) == 0) = false := by simp; omega
  go_wp2_with fail
  refine (xIsZero y _).mono ?_
  rintro e w7 ⟨rfl, hb7⟩
  have hB7 := hB6.trans (hb7.mono hB6.size)
  by_cases hy : y = 0
  · have hy' : decide (y = 0) = true := decide_eq_true hy
    clear hy
    go_wp2_with fail
    go_ret
    exact ⟨rfl, hB7⟩
  have hy' : decide (y = 0) = false := decide_eq_false hy
  have HY := Lib.hid hy
  clear hy e1
  -- the forged rounds, in plain mathematics
  obtain ⟨m, rfl⟩ : ∃ m, n = m + 1 := ⟨n - 1, by omega⟩
  have hco : co ≠ [] := fun e => by have := HXl.out; rw [e] at this; simp at this
  have hA := HAll.out
  rw [← HXl.out] at hA
  have h03 : 0 < tabs.length := by rw [HL3.out]; decide
  obtain ⟨gs, hgs⟩ : ∃ gs, gs = prvR tabs ps co.dropLast := ⟨_, rfl⟩
  obtain ⟨g, hg⟩ : ∃ g, g = rndE (lastT tabs co) ps := ⟨_, rfl⟩
  have hgl : g.length = degE ps + 1 := by rw [hg]; exact rndE_length _ _
  have hgsl : gs.length = m := by rw [hgs, prvR_len, List.length_dropLast, HXl.out]; rfl
  have hpr : prvR tabs ps co = gs ++ [g] := by rw [hgs, hg]; exact prvR_last ps co tabs hco
  have HVg := Lib.hid (fun g' hg' => vrf_forged tabs ps co g' hg' hco hA h03 HD.out)
  rw [← hgs] at HVg
  have hsm := last_sum tabs ps co hco hA h03
  have hat := last_at tabs ps co hco hA h03 HD.out
  have HVw : Hid (vrfE (degE ps : Int) (totE tabs ps + y) (gs ++ [g]) co = (0, 60)) := Lib.hid (by
    rw [← hpr]
    exact vrf_wrong' tabs ps co _ hco hA h03 HD.out (add_ne _ _ HY.out))
  rw [← hg] at hsm hat
  have hcm : co[m]? = some (co.getLastD 0) := by
    rw [List.getLastD_eq_getLast?, List.getLast?_eq_getElem?, HXl.out, Nat.add_sub_cancel]
    have : m < co.length := by rw [HXl.out]; omega
    rw [List.getElem?_eq_getElem this]
    rfl
  rw [hpr] at HR6
  have hd1 := degE_pos ps
  have hd3 := HD.out
  have HVL := Lib.hid (show ∀ p ∈ ps, ∀ k ∈ p.t, k < (prvV tabs co).length from fun p hp k hk => by rw [HL6.out]; have := HS6.out.ix p hp k hk; rwa [HL3.out] at this)
  have HGL := Lib.hid hgl
  have HGSL := Lib.hid hgsl
  have HSM := Lib.hid hsm
  have HAT := Lib.hid hat
  have HCM := Lib.hid hcm
  clear hgs hg hgl hgsl hpr hsm hat hcm hA hco
  generalize totE (lastT tabs co) ps = T' at *
  obtain ⟨F, hF0⟩ : ∃ F, F = finE (valL (prvV tabs co)) ps := ⟨_, rfl⟩
  rw [← hF0] at HAT
  have HF := Lib.hid hF0
  clear hF0
  generalize co.getLastD 0 = cl at *
  have b87 := b86.keep hb7
  have b117 := b116.keep hb7
  have e1 := b87.cell
  have HS7 := Lib.hid (HS6.out.keep hb7)
  have HC7 := Lib.hid (Rd.keep HC6.out hb7)
  have HR7 := Lib.hid (HR6.out.keep hb7)
  have HV7 := Lib.hid (Rd.keep HV6.out hb7)
  clear b86 b116 HS6 HC6 HR6 HV6
  go_wp2_with fail
  refine (gDegree _ _ ps _ _ w7 HS7.out.hp HS7.out.short).mono ?_
  rintro e w8 ⟨rfl, hb8⟩
  generalize hDe : degE ps = D at *
  go_upto_region 12 with (fail)
  refine wp_stk1 fun X8 hX8 hzX8 b14 => ?_
  have h78 := hb8.trans (hX8.mono hb8.size)
  replace e1 := (b87.keep h78).cell
  clear hzX8
  go_wp2_with fail
  have hp2 : 2 ^ (m + 1) ≤ 2 ^ 4 := Nat.pow_le_pow_right (by decide) (by omega)
  refine (gTotal tabs (2 ^ (m + 1)) _ _ ps _ _ X8 (HS7.out.keep h78) (by rw [HL3.out]; decide) HAll.out (Nat.le_trans hp2 (by decide))).mono ?_
  rintro e w9 ⟨he, hb9⟩
  unfold ev at he
  subst he
  generalize totE tabs ps = T at *
  go_upto_region 13 with (fail)
  refine wp_stk1 fun X hX hzX b15 => ?_
  have h8X := hb9.trans (hX.mono hb9.size)
  have h7X := h78.trans (h8X.mono h78.size)
  have b8X := b87.keep h7X
  have b11X := b117.keep h7X
  have b14X := b14.keep h8X
  have hBX := hB7.trans (h7X.mono hB7.size)
  have HSX := Lib.hid (HS7.out.keep h7X)
  have HCX := Lib.hid (Rd.keep HC7.out h7X)
  have HRX := Lib.hid (HR7.out.keep h7X)
  have HVX := Lib.hid (Rd.keep HV7.out h7X)
  clear e1 hzX b87 b117 b14 HS7 HC7 HR7 HV7 hp2
  have HVf1 := Lib.hid (show ∀ W1, Below X.heap.size X W1 → Calls Try.prog 33 #[ev (T + y), .slice AR (m + 1) capR, .agg #[.slice A4 (m + 1) cap4, .int .i64 (D : Nat)]] W1 (Ret (.tuple #[ev 0, .int .i64 60]) W1) from fun W1 hW => by
    have := gVerify (T + y) (gs ++ [g]) co (D : Nat) (by omega) (by rw [List.length_append, HGSL.out]; simp only [List.length_cons, List.length_nil]; omega) _ _ _ _ _ _ W1 (HRX.out.keep hW) (Rd.keep HCX.out hW)
    rwa [HVw.out] at this)
  have c1 := gw_blk b15
  have c2 := gw_blk b11X
  have c3 := gw_blk b14X
  refine wp_region_swap 10 8 undef [(2, Spec.val (.agg #[.int .u64 (fv (T + y).a), .int .u64 (fv (T + y).b)])), (5, Spec.val (  .tuple #[.agg #[.int .u64 (fv ((0 : E)).a), .int .u64 (fv ((0 : E)).b)], .int .i64 60])), (9, Spec.rel (New 43 #[.int .u64 0, .int .u64 0]) (NewF))] (by kernel_rfl) (by kernel_rfl) (by kernel_rfl) rfl rfl rfl rfl ⟨fit_new, trivial⟩ ?_ ?_
  refine rg_det rfl rfl rfl (fun K hK => ?_)
  go_big_quiet_op
  refine hK _ ?_; clear hK K
  refine rg_det rfl rfl rfl (fun K hK => ?_)
  go_big_quiet_op
  refine hK _ ?_; clear hK K
  refine rg_val rfl rfl (fun W1 hW1 hF => step_callv en_attestor_attestorref02_Add (xAdd T y W1) rfl rfl) ?_
  intro a' ha
  simp only [Act.put, List.setIfInBounds_toArray, List.set_cons_succ, List.set_cons_zero] at ha
  subst ha
  refine rg_det rfl rfl rfl (fun K hK => ?_)
  go_big_quiet_op
  refine hK _ ?_; clear hK K
  refine rg_det rfl rfl rfl (fun K hK => ?_)
  go_big_quiet_op
  refine hK _ ?_; clear hK K
  refine rg_val rfl rfl (fun W1 hW1 hF => step_callv en_attestor_sumcheck_Verify (HVf1.out W1 (grw_below hW1)) rfl rfl) ?_
  intro a' ha
  simp only [Act.put, List.setIfInBounds_toArray, List.set_cons_succ, List.set_cons_zero] at ha
  subst ha
  refine rg_det rfl rfl rfl (fun K hK => ?_)
  go_big_quiet_op
  refine hK _ ?_; clear hK K
  refine rg_det rfl rfl rfl (fun K hK => ?_)
  go_big_quiet_op
  refine hK _ ?_; clear hK K
  refine rg_det rfl rfl rfl (fun K hK => ?_)
  go_big_quiet_op
  refine hK _ ?_; clear hK K
  refine rg_rel rfl rfl (fun W1 hW1 hF => step_new hi0 iz0 rfl) ?_
  intro n9 m9 v9 hn9 hm9 hd9 hf9 a' ha
  simp only [Act.put, List.setIfInBounds_toArray, List.set_cons_succ, List.set_cons_zero] at ha
  subst ha
  obtain rfl := hf9
  refine rg_nil (fun w' hw' hF => ?_)
  obtain ⟨z, rfl⟩ := hw'
  simp only [List.drop_succ_cons, List.drop_zero]
  rotate_left 1
  refine rg_det rfl rfl rfl (fun K hK => ?_)
  go_big_quiet_op
  refine hK _ ?_; clear hK K
  refine rg_det rfl rfl rfl (fun K hK => ?_)
  go_big_quiet_op
  refine hK _ ?_; clear hK K
  refine rg_val rfl rfl (fun W1 hW1 hF => step_callv en_attestor_attestorref02_Add (xAdd T y W1) rfl rfl) ?_
  intro a' ha
  simp only [Act.put, List.setIfInBounds_toArray, List.set_cons_succ, List.set_cons_zero] at ha
  subst ha
  refine rg_det rfl rfl rfl (fun K hK => ?_)
  go_big_quiet_op
  refine hK _ ?_; clear hK K
  refine rg_det rfl rfl rfl (fun K hK => ?_)
  go_big_quiet_op
  refine hK _ ?_; clear hK K
  refine rg_val rfl rfl (fun W1 hW1 hF => step_callv en_attestor_sumcheck_Verify (HVf1.out W1 (grw_below hW1)) rfl rfl) ?_
  intro a' ha
  simp only [Act.put, List.setIfInBounds_toArray, List.set_cons_succ, List.set_cons_zero] at ha
  subst ha
  refine rg_det rfl rfl rfl (fun K hK => ?_)
  go_big_quiet_op
  refine hK _ ?_; clear hK K
  refine rg_det rfl rfl rfl (fun K hK => ?_)
  go_big_quiet_op
  refine hK _ ?_; clear hK K
  refine rg_pass rfl rfl ?_
  intro a' ha
  simp only [Act.put, List.setIfInBounds_toArray, List.set_cons_succ, List.set_cons_zero] at ha
  subst ha
  refine rg_rel rfl rfl (fun W1 hW1 hF => step_new hi0 iz0 rfl) ?_
  intro n9 m9 v9 hn9 hm9 hd9 hf9 a' ha
  simp only [Act.put, List.setIfInBounds_toArray, List.set_cons_succ, List.set_cons_zero] at ha
  subst ha
  obtain rfl := hf9
  refine rg_nil (fun w' hw' hF => ?_)
  obtain ⟨z, rfl⟩ := hw'
  simp only [List.drop_succ_cons, List.drop_zero]
  refine wpList_putS ?_
  intro a' ha
  simp only [Act.put, List.setIfInBounds_toArray, List.set_cons_succ, List.set_cons_zero] at ha
  subst ha
  rotate_right 1
  all_goals
    obtain ⟨hm9', -, hl9, b16⟩ := end_last hF
    have e2 := b16.frozen
    have e3 := b16.cell
    clear hF hd9 c1 c2 c3
    go_upto_region 14 with (fail)
    refine set2 (M := fun W => Code.wp _ _ _ _ W) b16 fun V0 hV0 bV0 => ?_
    have hX0 := below_put z.h hV0 hn9
    have b8v := b8X.keep hX0
    have b11v := b11X.keep hX0
    have b14v := b14X.keep hX0
    have b15v := b15.keep hX0
    have hBv := hBX.trans (hX0.mono hBX.size)
    have HSv := Lib.hid (HSX.out.keep hX0)
    have HCv := Lib.hid (Rd.keep HCX.out hX0)
    have HRv := Lib.hid (HRX.out.keep hX0)
    have HVv := Lib.hid (Rd.keep HVX.out hX0)
    obtain ⟨s0, hs0, sz0, sz1, sz2⟩ := info_parts sl_info
    obtain ⟨us, hu1, hu2, hu3⟩ := HRv.out
    have hgl1 : (gs ++ [g]).length = m + 1 := by rw [List.length_append, HGSL.out]; rfl
    rw [hgl1] at hu2 hu1
    obtain ⟨gR, oR, cR, hv, qR1, -, -, lR, qR⟩ := Rd.form hu2 (by omega)
    cases hv
    obtain ⟨x, hx⟩ : ∃ x, us[m]? = some x := ⟨us[m]'(by omega), List.getElem?_eq_getElem _⟩
    have hgm : (gs ++ [g])[m]? = some g := by rw [List.getElem?_append_right (by rw [HGSL.out]; exact Nat.le_refl _), HGSL.out, Nat.sub_self]; rfl
    have hxg := hu3 m x g hx hgm
    obtain ⟨Ax, cx, hv⟩ := Rd.len hxg
    rw [HGL.out] at hv
    subst hv
    have d1 := qR m _ hx
    have HXG := Lib.hid hxg
    have HD1 := Lib.hid d1
    have HU1 := Lib.hid hu1
    have HU2 := Lib.hid hu2
    have HU3 := Lib.hid (show ∀ (k : Nat) u t, (us.take m)[k]? = some u → gs[k]? = some t → ∃ lo hi, ExtS lo hi V0 u t from fun k u t hk ht => ⟨_, _, by
      have hkm : k < m := by have := (List.getElem?_eq_some_iff.1 ht).1; rwa [HGSL.out] at this
      rw [List.getElem?_take, if_pos hkm] at hk
      exact hu3 k u t hk (by rw [List.getElem?_append_left (by rw [HGSL.out]; exact hkm)]; exact ht)⟩)
    have HU4 := Lib.hid (show ∀ u ∈ us.take m, u.oneCell' = true from fun u hu => by
      obtain ⟨k, hk⟩ := List.mem_iff_getElem?.1 (List.mem_of_mem_take hu)
      have hkl := (List.getElem?_eq_some_iff.1 hk).1
      obtain ⟨A, c, rfl⟩ := Rd.len (hu3 k u _ hk (List.getElem?_eq_getElem (by omega)))
      rfl)
    have hk1 : ((m + 1 : Nat) : Int) - 1 = (m : Int) := by omega
    clear qR hx hgm hxg hu1 hu2 hu3 hgl1 HSX HCX HRX HVX b8X b11X b14X b15 e2 e3 b16
    go_wp2_with (at_builtin; refine stop_in ?_)
    refine stop_out ?_
    refine stk1 (M := fun W => wpList _ _ _ _ _ W) fun W9 hB9 hz9 b9 => ?_
    have hs9 : W9.heap.size = V0.heap.size + 1 := hz9.out
    have hg4 : g.length ≤ 100000 := by rw [HGL.out]; omega
    refine wpList_appB rfl _ _ rfl Try.underlying22 hi0 iz0 iz1 iz2 rfl (by decide) (cl := g.flatMap ec) (base := V0.heap.size) (cs := []) (k := 0) (fun u hu => by obtain ⟨x, _, hx⟩ := List.mem_flatMap.1 hu; exact ec_one x u hx) rfl rfl (Rd.keep HXG.out hB9) ⟨rfl, .inr ⟨V0.heap.size, 0, #[], rfl, Nat.le_refl _, b9, Nat.le_refl _, Nat.zero_le _, rfl, rfl⟩⟩ (by unfold maxLen; omega) (by omega) (by omega) ?_
    intro v10 w10 hownw10 hgroww10 hBw10
    rw [Nat.zero_add, List.nil_append] at hownw10
    have B10 := hB9.trans hBw10
    have X10 := ownX_of_own hownw10 rfl (by omega)
    obtain ⟨gl, cl', rl, rfl, l1, l2, l3, bl⟩ := X10.2 (by rw [HGL.out]; omega)
    have hs10 := B10.size
    rw [HGL.out] at l1 ⊢
    obtain ⟨g0, hg0, hgd0⟩ := get_of (l := g) (k := 0) (by rw [HGL.out]; omega)
    obtain ⟨g1, hg1, hgd1⟩ := get_of (l := g) (k := 1) (by rw [HGL.out]; omega)
    obtain ⟨q1, q2⟩ := blk_cellP bl hg0
    obtain ⟨q3, q4⟩ := blk_cellP bl hg1
    simp only [Nat.zero_mul, Nat.one_mul, Nat.zero_add, Nat.reduceAdd] at q1 q2 q3 q4
    have hsm := HSM.out
    rw [hgd0, hgd1] at hsm
    have HSM2 := Lib.hid hsm
    have HG0 := Lib.hid hgd0
    have HG1 := Lib.hid hgd1
    have HGG1 := Lib.hid hg1
    have f1 := gw_cell bl.lt q1
    have f2 := gw_cell bl.lt q2
    have f3 := gw_blk (b11v.keep B10)
    clear hownw10 hgroww10 hBw10 X10 hz9 b9 d1 hg0 hgd0 hg1 hgd1 q1 q2 q3 q4 hsm
    go_wp2_with fail
    refine wp_region_rg 7 [(5, Spec.val (.agg #[.int .u64 (fv (g0 + y).a), .int .u64 (fv (g0 + y).b)]))] (by kernel_rfl) (by kernel_rfl) (by kernel_rfl) trivial ?_
    refine rg_det rfl rfl rfl (fun K hK => ?_)
    go_big_quiet_op
    refine hK _ ?_; clear hK K
    refine rg_det rfl rfl rfl (fun K hK => ?_)
    go_big_quiet_op
    refine hK _ ?_; clear hK K
    refine rg_det rfl rfl rfl (fun K hK => ?_)
    go_big_quiet_op
    refine hK _ ?_; clear hK K
    refine rg_det rfl rfl rfl (fun K hK => ?_)
    go_big_quiet_op
    refine hK _ ?_; clear hK K
    refine rg_det rfl rfl rfl (fun K hK => ?_)
    go_big_quiet_op
    refine hK _ ?_; clear hK K
    refine rg_val rfl rfl (fun W1 hW1 hF => step_callv en_attestor_attestorref02_Add (xAdd g0 y W1) rfl rfl) ?_
    intro a' ha
    simp only [Act.put, List.setIfInBounds_toArray, List.set_cons_succ, List.set_cons_zero] at ha
    subst ha
    refine rg_det rfl rfl rfl (fun K hK => ?_)
    go_big_quiet_op
    refine hK _ ?_; clear hK K
    refine rg_nil (fun w' hw' hF => ?_)
    obtain ⟨za, rfl⟩ := hw'
    simp only [List.drop_succ_cons, List.drop_zero]
    have blz := bl.gw za
    have e2 := blz.frozen
    have s1 := f1 za
    have s2 := f2 za
    have HLS := Lib.hid l1
    have B11z := B10.trans (za.h.mono B10.size)
    have hgl0 : 0 < g.length := by rw [HGL.out]; omega
    clear hF f1 f2 f3 bl
    go_upto_region 18 with (fail)
    refine set2 (M := fun W => Code.wp _ _ _ _ W) blz fun X11 hX11 b11' => ?_
    have bG : Blk X11 gl 43 ((g.set 0 (g0 + y)).flatMap ec ++ rl).toArray := by rw [← flat_set_pad (g0 + y) rl g 0 hgl0]; simpa using b11'
    have B11 := below_put B11z hX11 l2
    have hs11 := B11.size
    have hsz11 : w10.heap.size ≤ X11.heap.size := by rw [hX11.size]; exact za.h.size
    clear e2 s1 s2 b11' blz hX11 hs9 hgl0
    go_wp2_with (at_builtin; refine stop_in ?_)
    refine stop_out ?_
    refine stk1 (M := fun W => wpList _ _ _ _ _ W) fun W12 hB12 hz12 b12 => ?_
    have hs12 : W12.heap.size = X11.heap.size + 1 := hz12.out
    have HU12 := Lib.hid (Rd.keep (Rd.keep HU2.out B11) hB12)
    refine wpList_appB rfl _ _ rfl Try.underlying36 hs0 sz0 sz1 sz2 rfl (by decide) (cl := us.take m) (base := X11.heap.size) (cs := []) (k := 0) HU4.out rfl rfl (rd_take1 HU12.out (by omega)) ⟨rfl, .inr ⟨X11.heap.size, 0, #[], rfl, Nat.le_refl _, b12, Nat.le_refl _, Nat.zero_le _, rfl, rfl⟩⟩ (by unfold maxLen; omega) (by omega) (by omega) ?_
    intro v13 w13 hown13 hgrow13 hB13
    rw [Nat.zero_add, List.nil_append] at hown13
    have B13 := hB12.trans hB13
    have hs13 := B13.size
    obtain ⟨A13, c13, rfl⟩ := own_len hown13
    have bG13 := bG.keep B13
    clear hgrow13 hz12 b12
    have B13v := B11.trans (B13.mono hs11)
    go_wp2_with (at_builtin; refine wpList_app3 rfl _ _ rfl Try.underlying36 hs0 sz0 sz1 sz2 rfl (by decide) (cl := [.slice (some ⟨gl, 0, none⟩) (D + 1) cl']) rfl (fun u hu => by rw [List.mem_singleton.1 hu]; rfl) rfl rfl (own_below hown13 (Nat.le_refl _) ((Below.refl _ _).alloc (Nat.le_refl _) _)) (Blk.new_at _ _ _ rfl) ?hk ?hk2 ?hbase ?_)
    case hk => unfold maxLen; omega
    case hk2 => omega
    case hbase => simp; omega
    intro v14 w14 hown14 hgrow14 hB14 hob14
    have hal : Below w13.heap.size w13 (w13.alloc (.cells #[.slice (some ⟨gl, 0, none⟩) (D + 1) cl'] 22)) := (Below.refl _ _).alloc (Nat.le_refl _) _
    have B14 := (B13.trans (hal.mono hs13)).trans hB14
    have hR14 := Rd.of_own hown14 (by omega) (Nat.le_refl _)
    obtain ⟨A14, c14, rfl⟩ := own_len hown14
    have bG14 := bG.keep B14
    have BV14 := B11.trans (B14.mono hs11)
    obtain ⟨G, hG⟩ : ∃ G, G = g.set 0 (g0 + y) := ⟨_, rfl⟩
    rw [← hG] at bG14
    have hGl : G.length = D + 1 := by rw [hG, List.length_set]; exact HGL.out
    have hG0 : G.getD 0 0 = g0 + y := by rw [hG]; exact set_getD_eq _ _ _ (by rw [HGL.out]; omega)
    have hG1 : G.getD 1 0 = g1 := by rw [hG, set_getD_ne _ _ _ _ (by decide)]; exact HG1.out
    have hG1' : G[1]? = some g1 := by rw [hG, List.getElem?_set_ne (by decide)]; exact HGG1.out
    have hul : (us.take m).length = m := by rw [List.length_take, HU1.out]; omega
    have HF14 : TabS 0 w14.heap.size w14 (.slice A14 (m + 1) c14) (gs ++ [G]) := forgedS hR14 hul HGSL.out (fun k u t hk ht => by
      obtain ⟨lo, hi, h⟩ := HU3.out k u t hk ht
      exact ⟨lo, hi, Rd.keep h BV14⟩) (exts_pad bG14 hGl (by omega) (Nat.zero_le _) bG14.lt HLS.out)
    have HVf2 : Hid (Calls Try.prog 33 #[ev T, .slice A14 (m + 1) c14, .agg #[.slice A4 (m + 1) cap4, .int .i64 (D : Nat)]] w14 (Ret (.tuple #[ev 0, .int .i64 60]) w14)) := Lib.hid (by
      have := gVerify T (gs ++ [G]) co (D : Nat) (by omega) (by rw [List.length_append, HGSL.out]; simp only [List.length_cons, List.length_nil]; omega) _ _ _ _ _ _ w14 HF14 (Rd.keep HCv.out BV14)
      rwa [HVg.out G hGl, if_pos (by rw [hG0, hG1, three_add, HSM2.out]; exact add_ne _ _ HY.out)] at this)
    have e1 := (b15v.keep BV14).cell
    have e2 := (b14v.keep BV14).cell
    have HR14 := Lib.hid hR14
    have HGl := Lib.hid hGl
    have HGa := Lib.hid hG0
    have HUL := Lib.hid hul
    have hgl14 : gl < X11.heap.size := by omega
    clear hown14 hgrow14 hB14 hob14 hal hR14 hGl hG0 hG1 hul HF14 hown13 hB13 B13 hs13 B13v bG13
    go_wp2_with fail
    refine HVf2.out.mono ?_
    rintro e w15 ⟨he, hb15⟩
    unfold ev at he
    subst he
    go_upto_region 21 with (fail)
    refine wp_stk1 fun X16 hX16 hz16 b20 => ?_
    have h1416 := hb15.trans (hX16.mono hb15.size)
    have BV16 := BV14.trans (h1416.mono BV14.size)
    have bG16 := bG14.keep h1416
    obtain ⟨q1, q2⟩ := blk_cellP bG16 hG1'
    simp only [Nat.one_mul, Nat.reduceAdd] at q1 q2
    have f1 := gw_cell bG16.lt q1
    have f2 := gw_cell bG16.lt q2
    have f3 := gw_blk (b11v.keep BV16)
    clear hz16 q1 q2 e1 e2 bG14 hX16 hb15 b20 HVf2
    refine wp_region_rg 7 [(5, Spec.val (.agg #[.int .u64 (fv (g1 - y).a), .int .u64 (fv (g1 - y).b)]))] (by kernel_rfl) (by kernel_rfl) (by kernel_rfl) trivial ?_
    refine rg_det rfl rfl rfl (fun K hK => ?_)
    go_big_quiet_op
    refine hK _ ?_; clear hK K
    refine rg_det rfl rfl rfl (fun K hK => ?_)
    go_big_quiet_op
    refine hK _ ?_; clear hK K
    refine rg_det rfl rfl rfl (fun K hK => ?_)
    go_big_quiet_op
    refine hK _ ?_; clear hK K
    refine rg_det rfl rfl rfl (fun K hK => ?_)
    go_big_quiet_op
    refine hK _ ?_; clear hK K
    refine rg_det rfl rfl rfl (fun K hK => ?_)
    go_big_quiet_op
    refine hK _ ?_; clear hK K
    refine rg_val rfl rfl (fun W1 hW1 hF => step_callv en_attestor_attestorref02_Sub (xSub g1 y W1) rfl rfl) ?_
    intro a' ha
    simp only [Act.put, List.setIfInBounds_toArray, List.set_cons_succ, List.set_cons_zero] at ha
    subst ha
    refine rg_det rfl rfl rfl (fun K hK => ?_)
    go_big_quiet_op
    refine hK _ ?_; clear hK K
    refine rg_nil (fun w' hw' hF => ?_)
    obtain ⟨zb, rfl⟩ := hw'
    simp only [List.drop_succ_cons, List.drop_zero]
    have blz := bG16.gw zb
    have e2 := blz.frozen
    have s1 := f1 zb
    have s2 := f2 zb
    have BVz := BV16.trans (zb.h.mono BV16.size)
    have h14z := h1416.trans (zb.h.mono h1416.size)
    have hGl1 : 1 < G.length := by rw [HGl.out]; omega
    clear hF f1 f2 f3 bG16
    go_upto_region 22 with (fail)
    refine set2 (M := fun W => Code.wp _ _ _ _ W) blz fun X17 hX17 b17' => ?_
    obtain ⟨H, hH⟩ : ∃ H, H = G.set 1 (g1 - y) := ⟨_, rfl⟩
    have bH : Blk X17 gl 43 (H.flatMap ec ++ rl).toArray := by rw [hH, ← flat_set_pad (g1 - y) rl G 1 hGl1]; simpa using b17'
    have BV17 := below_put BVz hX17 l2
    have hHl : H.length = D + 1 := by rw [hH, List.length_set]; exact HGl.out
    have hH0 : H.getD 0 0 = g0 + y := by rw [hH, set_getD_ne _ _ _ _ (by decide)]; exact HGa.out
    have hH1 : H.getD 1 0 = g1 - y := by rw [hH]; exact set_getD_eq _ _ _ hGl1
    have HXH := Lib.hid (exts_pad bH hHl (by omega) (Nat.zero_le _) bH.lt HLS.out)
    have HF17 : TabS 0 X17.heap.size X17 (.slice A14 (m + 1) c14) (gs ++ [H]) := forgedS (hX17.rd (Rd.keep HR14.out h14z) (.inl hgl14)) HUL.out HGSL.out (fun k u t hk ht => by
      obtain ⟨lo, hi, h⟩ := HU3.out k u t hk ht
      exact ⟨lo, hi, Rd.keep h BV17⟩) HXH.out
    have HVf3 : Hid (Calls Try.prog 33 #[ev T, .slice A14 (m + 1) c14, .agg #[.slice A4 (m + 1) cap4, .int .i64 (D : Nat)]] X17 (Ret (.tuple #[ev (atE H cl), .int .i64 0]) X17)) := Lib.hid (by
      have := gVerify T (gs ++ [H]) co (D : Nat) (by omega) (by rw [List.length_append, HGSL.out]; simp only [List.length_cons, List.length_nil]; omega) _ _ _ _ _ _ X17 HF17 (Rd.keep HCv.out BV17)
      rwa [HVg.out H hHl, if_neg (by rw [hH0, hH1, add_take, HSM2.out]; exact fun h => h rfl)] at this)
    have e1 := (b15v.keep BV17).cell
    replace e2 := (b14v.keep BV17).cell
    have HHl := Lib.hid hHl
    clear s1 s2 b17' blz hX17 hGl1 bH hHl hH0 hH1 HF17 hgl14
    obtain ⟨x, hx⟩ : ∃ x, x = atE H cl := ⟨_, rfl⟩
    rw [← hx] at HVf3
    have HXx := Lib.hid hx
    clear hx
    go_wp2_with fail
    refine HVf3.out.mono ?_
    rintro e w18 ⟨he, hb18⟩
    unfold ev at he
    subst he
    go_upto_region 23 with (fail)
    refine wp_stk1 fun X19 hX19 hz19 b22 => ?_
    have h1719 := hb18.trans (hX19.mono hb18.size)
    have BV19 := BV17.trans (h1719.mono BV17.size)
    obtain ⟨gC, oC, cC, hv, -, -, -, lC, qC⟩ := exts_cells (Rd.keep HCv.out BV19) (by rw [HXl.out]; omega)
    rw [HXl.out] at hv
    cases hv
    obtain ⟨d2, d3⟩ := qC m cl HCM.out
    have HFn := Lib.hid (show ∀ W1, Below X19.heap.size X19 W1 → Calls Try.prog 24 #[.agg #[.slice At 3 ct, .slice Ap np cp], .slice AV 3 capV] W1 (Ret (ev F) W1) from fun W1 hW => by
      have hVW := BV19.trans (hW.mono BV19.size)
      rw [HF.out]
      exact gFinal _ _ _ _ ps _ _ _ _ W1 (HSv.out.keep hVW).hp (Rd.keep HVv.out hVW) HVL.out HSv.out.few HSv.out.short)
    have HA1 := Lib.hid (show ∀ W1, Below X19.heap.size X19 W1 → Calls Try.prog 37 #[.slice (some ⟨gl, 0, none⟩) (D + 1) cl', ev cl] W1 (Ret (ev x) W1) from fun W1 hW => by
      rw [HXx.out]
      exact pAt H cl (by rw [HHl.out]; omega) _ _ _ W1 (Rd.keep HXH.out (h1719.trans (hW.mono h1719.size))))
    have HA2 := Lib.hid (show ∀ W1, Below X19.heap.size X19 W1 → Calls Try.prog 37 #[.slice Ax (D + 1) cx, ev cl] W1 (Ret (ev F) W1) from fun W1 hW => by
      rw [← HAT.out]
      exact pAt g cl (by rw [HGL.out]; omega) _ _ _ W1 (Rd.keep HXG.out (BV19.trans (hW.mono BV19.size))))
    have f1 := gw_blk b22
    have f2 := gw_blk (b8v.keep BV19)
    have f3 := gw_cell lC d2
    have f4 := gw_cell lC d3
    have f5 := gw_cell (W := X19) (Nat.lt_of_lt_of_le lR BV19.size) ((BV19.cell (p := ⟨gR, oR + m, none⟩) lR).trans HD1.out)
    clear e1 e2 qC d2 d3 hz19 hX19 hb18 HVf3
    rcases ext_cases x F with hxF | hxa | ⟨hxa, hxb⟩
    · subst hxF
      refine wp_region_rg 40 [(17, Spec.val (.agg #[.int .u64 (fv (x).a), .int .u64 (fv (x).b)])), (25, Spec.val (.agg #[.int .u64 (fv (x).a), .int .u64 (fv (x).b)])), (36, Spec.val (.agg #[.int .u64 (fv (x).a), .int .u64 (fv (x).b)]))] (by kernel_rfl) (by kernel_rfl) (by kernel_rfl) trivial ?_
      refine rg_det rfl rfl rfl (fun K hK => ?_)
      go_big_quiet_op
      refine hK _ ?_; clear hK K
      refine rg_det rfl rfl rfl (fun K hK => ?_)
      go_big_quiet_op
      refine hK _ ?_; clear hK K
      refine rg_det rfl rfl rfl (fun K hK => ?_)
      go_big_quiet_op
      refine hK _ ?_; clear hK K
      refine rg_det rfl rfl rfl (fun K hK => ?_)
      go_big_quiet_op
      refine hK _ ?_; clear hK K
      refine rg_det rfl rfl rfl (fun K hK => ?_)
      go_big_quiet_op
      refine hK _ ?_; clear hK K
      refine rg_det rfl rfl rfl (fun K hK => ?_)
      go_big_quiet_op
      refine hK _ ?_; clear hK K
      refine rg_det rfl rfl rfl (fun K hK => ?_)
      go_big_quiet_op
      refine hK _ ?_; clear hK K
      refine rg_det rfl rfl rfl (fun K hK => ?_)
      go_big_quiet_op
      refine hK _ ?_; clear hK K
      refine rg_det rfl rfl rfl (fun K hK => ?_)
      go_big_quiet_op
      refine hK _ ?_; clear hK K
      refine rg_det rfl rfl rfl (fun K hK => ?_)
      go_big_quiet_op
      refine hK _ ?_; clear hK K
      refine rg_det rfl rfl rfl (fun K hK => ?_)
      go_big_quiet_op
      refine hK _ ?_; clear hK K
      refine rg_det rfl rfl rfl (fun K hK => ?_)
      go_big_quiet_op
      refine hK _ ?_; clear hK K
      refine rg_det rfl rfl rfl (fun K hK => ?_)
      go_big_quiet_op
      refine hK _ ?_; clear hK K
      refine rg_det rfl rfl rfl (fun K hK => ?_)
      go_big_quiet_op
      refine hK _ ?_; clear hK K
      refine rg_det rfl rfl rfl (fun K hK => ?_)
      go_big_quiet_op
      refine hK _ ?_; clear hK K
      refine rg_det rfl rfl rfl (fun K hK => ?_)
      go_big_quiet_op
      refine hK _ ?_; clear hK K
      refine rg_det rfl rfl rfl (fun K hK => ?_)
      go_big_quiet_op
      refine hK _ ?_; clear hK K
      refine rg_val rfl rfl (fun W1 hW1 hF => step_callv en_attestor_sumcheck_Final (HFn.out W1 (grw_below hW1)) rfl rfl) ?_
      intro a' ha
      simp only [Act.put, List.setIfInBounds_toArray, List.set_cons_succ, List.set_cons_zero] at ha
      subst ha
      refine rg_det rfl rfl rfl (fun K hK => ?_)
      go_big_quiet_op
      refine hK _ ?_; clear hK K
      refine rg_det rfl rfl rfl (fun K hK => ?_)
      go_big_quiet_op
      refine hK _ ?_; clear hK K
      refine rg_det rfl rfl rfl (fun K hK => ?_)
      go_big_quiet_op
      refine hK _ ?_; clear hK K
      refine rg_det rfl rfl rfl (fun K hK => ?_)
      go_big_quiet_op
      refine hK _ ?_; clear hK K
      refine rg_det rfl rfl rfl (fun K hK => ?_)
      go_big_quiet_op
      refine hK _ ?_; clear hK K
      refine rg_det rfl rfl rfl (fun K hK => ?_)
      go_big_quiet_op
      refine hK _ ?_; clear hK K
      refine rg_det rfl rfl rfl (fun K hK => ?_)
      go_big_quiet_op
      refine hK _ ?_; clear hK K
      refine rg_val rfl rfl (fun W1 hW1 hF => step_callv en_attestor_attestorref03_At (HA1.out W1 (grw_below hW1)) rfl rfl) ?_
      intro a' ha
      simp only [Act.put, List.setIfInBounds_toArray, List.set_cons_succ, List.set_cons_zero] at ha
      subst ha
      refine rg_det rfl rfl rfl (fun K hK => ?_)
      go_big_quiet_op
      refine hK _ ?_; clear hK K
      refine rg_det rfl rfl rfl (fun K hK => ?_)
      go_big_quiet_op
      refine hK _ ?_; clear hK K
      refine rg_det rfl rfl rfl (fun K hK => ?_)
      go_big_quiet_op
      refine hK _ ?_; clear hK K
      refine rg_det rfl rfl rfl (fun K hK => ?_)
      go_big_quiet_op
      refine hK _ ?_; clear hK K
      refine rg_det rfl rfl rfl (fun K hK => ?_)
      go_big_quiet_op
      refine hK _ ?_; clear hK K
      refine rg_det rfl rfl rfl (fun K hK => ?_)
      go_big_quiet_op
      refine hK _ ?_; clear hK K
      refine rg_det rfl rfl rfl (fun K hK => ?_)
      go_big_quiet_op
      refine hK _ ?_; clear hK K
      refine rg_det rfl rfl rfl (fun K hK => ?_)
      go_big_quiet_op
      refine hK _ ?_; clear hK K
      refine rg_det rfl rfl rfl (fun K hK => ?_)
      go_big_quiet_op
      refine hK _ ?_; clear hK K
      refine rg_det rfl rfl rfl (fun K hK => ?_)
      go_big_quiet_op
      refine hK _ ?_; clear hK K
      refine rg_val rfl rfl (fun W1 hW1 hF => step_callv en_attestor_attestorref03_At (HA2.out W1 (grw_below hW1)) rfl rfl) ?_
      intro a' ha
      simp only [Act.put, List.setIfInBounds_toArray, List.set_cons_succ, List.set_cons_zero] at ha
      subst ha
      refine rg_det rfl rfl rfl (fun K hK => ?_)
      go_big_quiet_op
      refine hK _ ?_; clear hK K
      refine rg_det rfl rfl rfl (fun K hK => ?_)
      go_big_quiet_op
      refine hK _ ?_; clear hK K
      refine rg_det rfl rfl rfl (fun K hK => ?_)
      go_big_quiet_op
      refine hK _ ?_; clear hK K
      refine rg_nil (fun w' hw' hF => ?_)
      obtain ⟨zc, rfl⟩ := hw'
      simp only [List.drop_succ_cons, List.drop_zero]
      clear hF f1 f2 f3 f4 f5
      go_wp2_with fail
      go_ret
      exact ⟨rfl, hBv.trans ((BV19.trans (zc.h.mono BV19.size)).mono hBv.size)⟩
    · skip
      refine wp_region_rg 40 [(17, Spec.val (.agg #[.int .u64 (fv (F).a), .int .u64 (fv (F).b)])), (25, Spec.val (.agg #[.int .u64 (fv (x).a), .int .u64 (fv (x).b)])), (36, Spec.val (.agg #[.int .u64 (fv (F).a), .int .u64 (fv (F).b)]))] (by kernel_rfl) (by kernel_rfl) (by kernel_rfl) trivial ?_
      refine rg_det rfl rfl rfl (fun K hK => ?_)
      go_big_quiet_op
      refine hK _ ?_; clear hK K
      refine rg_det rfl rfl rfl (fun K hK => ?_)
      go_big_quiet_op
      refine hK _ ?_; clear hK K
      refine rg_det rfl rfl rfl (fun K hK => ?_)
      go_big_quiet_op
      refine hK _ ?_; clear hK K
      refine rg_det rfl rfl rfl (fun K hK => ?_)
      go_big_quiet_op
      refine hK _ ?_; clear hK K
      refine rg_det rfl rfl rfl (fun K hK => ?_)
      go_big_quiet_op
      refine hK _ ?_; clear hK K
      refine rg_det rfl rfl rfl (fun K hK => ?_)
      go_big_quiet_op
      refine hK _ ?_; clear hK K
      refine rg_det rfl rfl rfl (fun K hK => ?_)
      go_big_quiet_op
      refine hK _ ?_; clear hK K
      refine rg_det rfl rfl rfl (fun K hK => ?_)
      go_big_quiet_op
      refine hK _ ?_; clear hK K
      refine rg_det rfl rfl rfl (fun K hK => ?_)
      go_big_quiet_op
      refine hK _ ?_; clear hK K
      refine rg_det rfl rfl rfl (fun K hK => ?_)
      go_big_quiet_op
      refine hK _ ?_; clear hK K
      refine rg_det rfl rfl rfl (fun K hK => ?_)
      go_big_quiet_op
      refine hK _ ?_; clear hK K
      refine rg_det rfl rfl rfl (fun K hK => ?_)
      go_big_quiet_op
      refine hK _ ?_; clear hK K
      refine rg_det rfl rfl rfl (fun K hK => ?_)
      go_big_quiet_op
      refine hK _ ?_; clear hK K
      refine rg_det rfl rfl rfl (fun K hK => ?_)
      go_big_quiet_op
      refine hK _ ?_; clear hK K
      refine rg_det rfl rfl rfl (fun K hK => ?_)
      go_big_quiet_op
      refine hK _ ?_; clear hK K
      refine rg_det rfl rfl rfl (fun K hK => ?_)
      go_big_quiet_op
      refine hK _ ?_; clear hK K
      refine rg_det rfl rfl rfl (fun K hK => ?_)
      go_big_quiet_op
      refine hK _ ?_; clear hK K
      refine rg_val rfl rfl (fun W1 hW1 hF => step_callv en_attestor_sumcheck_Final (HFn.out W1 (grw_below hW1)) rfl rfl) ?_
      intro a' ha
      simp only [Act.put, List.setIfInBounds_toArray, List.set_cons_succ, List.set_cons_zero] at ha
      subst ha
      refine rg_det rfl rfl rfl (fun K hK => ?_)
      go_big_quiet_op
      refine hK _ ?_; clear hK K
      refine rg_det rfl rfl rfl (fun K hK => ?_)
      go_big_quiet_op
      refine hK _ ?_; clear hK K
      refine rg_det rfl rfl rfl (fun K hK => ?_)
      go_big_quiet_op
      refine hK _ ?_; clear hK K
      refine rg_det rfl rfl rfl (fun K hK => ?_)
      go_big_quiet_op
      refine hK _ ?_; clear hK K
      refine rg_det rfl rfl rfl (fun K hK => ?_)
      go_big_quiet_op
      refine hK _ ?_; clear hK K
      refine rg_det rfl rfl rfl (fun K hK => ?_)
      go_big_quiet_op
      refine hK _ ?_; clear hK K
      refine rg_det rfl rfl rfl (fun K hK => ?_)
      go_big_quiet_op
      refine hK _ ?_; clear hK K
      refine rg_val rfl rfl (fun W1 hW1 hF => step_callv en_attestor_attestorref03_At (HA1.out W1 (grw_below hW1)) rfl rfl) ?_
      intro a' ha
      simp only [Act.put, List.setIfInBounds_toArray, List.set_cons_succ, List.set_cons_zero] at ha
      subst ha
      refine rg_det rfl rfl rfl (fun K hK => ?_)
      go_big_quiet_op
      refine hK _ ?_; clear hK K
      refine rg_det rfl rfl rfl (fun K hK => ?_)
      go_big_quiet_op
      refine hK _ ?_; clear hK K
      refine rg_det rfl rfl rfl (fun K hK => ?_)
      go_big_quiet_op
      refine hK _ ?_; clear hK K
      refine rg_det rfl rfl rfl (fun K hK => ?_)
      go_big_quiet_op
      refine hK _ ?_; clear hK K
      refine rg_det rfl rfl rfl (fun K hK => ?_)
      go_big_quiet_op
      refine hK _ ?_; clear hK K
      refine rg_det rfl rfl rfl (fun K hK => ?_)
      go_big_quiet_op
      refine hK _ ?_; clear hK K
      refine rg_det rfl rfl rfl (fun K hK => ?_)
      go_big_quiet_op
      refine hK _ ?_; clear hK K
      refine rg_det rfl rfl rfl (fun K hK => ?_)
      go_big_quiet_op
      refine hK _ ?_; clear hK K
      refine rg_det rfl rfl rfl (fun K hK => ?_)
      go_big_quiet_op
      refine hK _ ?_; clear hK K
      refine rg_det rfl rfl rfl (fun K hK => ?_)
      go_big_quiet_op
      refine hK _ ?_; clear hK K
      refine rg_val rfl rfl (fun W1 hW1 hF => step_callv en_attestor_attestorref03_At (HA2.out W1 (grw_below hW1)) rfl rfl) ?_
      intro a' ha
      simp only [Act.put, List.setIfInBounds_toArray, List.set_cons_succ, List.set_cons_zero] at ha
      subst ha
      refine rg_det rfl rfl rfl (fun K hK => ?_)
      go_big_quiet_op
      refine hK _ ?_; clear hK K
      refine rg_det rfl rfl rfl (fun K hK => ?_)
      go_big_quiet_op
      refine hK _ ?_; clear hK K
      refine rg_det rfl rfl rfl (fun K hK => ?_)
      go_big_quiet_op
      refine hK _ ?_; clear hK K
      refine rg_nil (fun w' hw' hF => ?_)
      obtain ⟨zc, rfl⟩ := hw'
      simp only [List.drop_succ_cons, List.drop_zero]
      clear hF f1 f2 f3 f4 f5
      go_wp2_with fail
      go_ret
      exact ⟨rfl, hBv.trans ((BV19.trans (zc.h.mono BV19.size)).mono hBv.size)⟩
    · skip
      refine wp_region_rg 40 [(17, Spec.val (.agg #[.int .u64 (fv (F).a), .int .u64 (fv (F).b)])), (25, Spec.val (.agg #[.int .u64 (fv (x).a), .int .u64 (fv (x).b)])), (36, Spec.val (.agg #[.int .u64 (fv (F).a), .int .u64 (fv (F).b)]))] (by kernel_rfl) (by kernel_rfl) (by kernel_rfl) trivial ?_
      refine rg_det rfl rfl rfl (fun K hK => ?_)
      go_big_quiet_op
      refine hK _ ?_; clear hK K
      refine rg_det rfl rfl rfl (fun K hK => ?_)
      go_big_quiet_op
      refine hK _ ?_; clear hK K
      refine rg_det rfl rfl rfl (fun K hK => ?_)
      go_big_quiet_op
      refine hK _ ?_; clear hK K
      refine rg_det rfl rfl rfl (fun K hK => ?_)
      go_big_quiet_op
      refine hK _ ?_; clear hK K
      refine rg_det rfl rfl rfl (fun K hK => ?_)
      go_big_quiet_op
      refine hK _ ?_; clear hK K
      refine rg_det rfl rfl rfl (fun K hK => ?_)
      go_big_quiet_op
      refine hK _ ?_; clear hK K
      refine rg_det rfl rfl rfl (fun K hK => ?_)
      go_big_quiet_op
      refine hK _ ?_; clear hK K
      refine rg_det rfl rfl rfl (fun K hK => ?_)
      go_big_quiet_op
      refine hK _ ?_; clear hK K
      refine rg_det rfl rfl rfl (fun K hK => ?_)
      go_big_quiet_op
      refine hK _ ?_; clear hK K
      refine rg_det rfl rfl rfl (fun K hK => ?_)
      go_big_quiet_op
      refine hK _ ?_; clear hK K
      refine rg_det rfl rfl rfl (fun K hK => ?_)
      go_big_quiet_op
      refine hK _ ?_; clear hK K
      refine rg_det rfl rfl rfl (fun K hK => ?_)
      go_big_quiet_op
      refine hK _ ?_; clear hK K
      refine rg_det rfl rfl rfl (fun K hK => ?_)
      go_big_quiet_op
      refine hK _ ?_; clear hK K
      refine rg_det rfl rfl rfl (fun K hK => ?_)
      go_big_quiet_op
      refine hK _ ?_; clear hK K
      refine rg_det rfl rfl rfl (fun K hK => ?_)
      go_big_quiet_op
      refine hK _ ?_; clear hK K
      refine rg_det rfl rfl rfl (fun K hK => ?_)
      go_big_quiet_op
      refine hK _ ?_; clear hK K
      refine rg_det rfl rfl rfl (fun K hK => ?_)
      go_big_quiet_op
      refine hK _ ?_; clear hK K
      refine rg_val rfl rfl (fun W1 hW1 hF => step_callv en_attestor_sumcheck_Final (HFn.out W1 (grw_below hW1)) rfl rfl) ?_
      intro a' ha
      simp only [Act.put, List.setIfInBounds_toArray, List.set_cons_succ, List.set_cons_zero] at ha
      subst ha
      refine rg_det rfl rfl rfl (fun K hK => ?_)
      go_big_quiet_op
      refine hK _ ?_; clear hK K
      refine rg_det rfl rfl rfl (fun K hK => ?_)
      go_big_quiet_op
      refine hK _ ?_; clear hK K
      refine rg_det rfl rfl rfl (fun K hK => ?_)
      go_big_quiet_op
      refine hK _ ?_; clear hK K
      refine rg_det rfl rfl rfl (fun K hK => ?_)
      go_big_quiet_op
      refine hK _ ?_; clear hK K
      refine rg_det rfl rfl rfl (fun K hK => ?_)
      go_big_quiet_op
      refine hK _ ?_; clear hK K
      refine rg_det rfl rfl rfl (fun K hK => ?_)
      go_big_quiet_op
      refine hK _ ?_; clear hK K
      refine rg_det rfl rfl rfl (fun K hK => ?_)
      go_big_quiet_op
      refine hK _ ?_; clear hK K
      refine rg_val rfl rfl (fun W1 hW1 hF => step_callv en_attestor_attestorref03_At (HA1.out W1 (grw_below hW1)) rfl rfl) ?_
      intro a' ha
      simp only [Act.put, List.setIfInBounds_toArray, List.set_cons_succ, List.set_cons_zero] at ha
      subst ha
      refine rg_det rfl rfl rfl (fun K hK => ?_)
      go_big_quiet_op
      refine hK _ ?_; clear hK K
      refine rg_det rfl rfl rfl (fun K hK => ?_)
      go_big_quiet_op
      refine hK _ ?_; clear hK K
      refine rg_det rfl rfl rfl (fun K hK => ?_)
      go_big_quiet_op
      refine hK _ ?_; clear hK K
      refine rg_det rfl rfl rfl (fun K hK => ?_)
      go_big_quiet_op
      refine hK _ ?_; clear hK K
      refine rg_det rfl rfl rfl (fun K hK => ?_)
      go_big_quiet_op
      refine hK _ ?_; clear hK K
      refine rg_det rfl rfl rfl (fun K hK => ?_)
      go_big_quiet_op
      refine hK _ ?_; clear hK K
      refine rg_det rfl rfl rfl (fun K hK => ?_)
      go_big_quiet_op
      refine hK _ ?_; clear hK K
      refine rg_det rfl rfl rfl (fun K hK => ?_)
      go_big_quiet_op
      refine hK _ ?_; clear hK K
      refine rg_det rfl rfl rfl (fun K hK => ?_)
      go_big_quiet_op
      refine hK _ ?_; clear hK K
      refine rg_det rfl rfl rfl (fun K hK => ?_)
      go_big_quiet_op
      refine hK _ ?_; clear hK K
      refine rg_val rfl rfl (fun W1 hW1 hF => step_callv en_attestor_attestorref03_At (HA2.out W1 (grw_below hW1)) rfl rfl) ?_
      intro a' ha
      simp only [Act.put, List.setIfInBounds_toArray, List.set_cons_succ, List.set_cons_zero] at ha
      subst ha
      refine rg_det rfl rfl rfl (fun K hK => ?_)
      go_big_quiet_op
      refine hK _ ?_; clear hK K
      refine rg_det rfl rfl rfl (fun K hK => ?_)
      go_big_quiet_op
      refine hK _ ?_; clear hK K
      refine rg_det rfl rfl rfl (fun K hK => ?_)
      go_big_quiet_op
      refine hK _ ?_; clear hK K
      refine rg_nil (fun w' hw' hF => ?_)
      obtain ⟨zc, rfl⟩ := hw'
      simp only [List.drop_succ_cons, List.drop_zero]
      clear hF f1 f2 f3 f4 f5
      go_wp2_with fail
      go_ret
      exact ⟨rfl, hBv.trans ((BV19.trans (zc.h.mono BV19.size)).mono hBv.size)⟩
end Go.Proofs.Ytilelegcniefcaa
