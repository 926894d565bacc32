/-
  SumcheckLinearity: the walk.
-/
import Derived.Test.YtilelegcniefcaaLn6
namespace Go.Proofs.Ytilelegcniefcaa
open Go.RowKit

set_option maxRecDepth 100000 in
set_option maxHeartbeats 8000000 in
theorem wkSumcheckLinearity (q : Raw6) (A : Nat → Option Addr) (cc : Nat → Nat) (AL : Option Addr) (cL : Nat) (r : Raw) (hr : Word r.1 ∧ Word r.2) (z2 : Int) (hz2 : 0 ≤ z2 ∧ z2 < 256) (w : World) (h : Raw6S w q A cc AL cL) :
    Calls Try.prog 8 #[raw6V q A cc AL cL, .agg #[.int .u64 r.1, .int .u64 r.2], .int .u8 z2] w (Ret (.bool true) w) := by
  obtain ⟨i0, hi0, iz0, iz1, iz2⟩ := info_parts ext_info
  obtain ⟨j0, hj0, jz0, jz1, jz2⟩ := info_parts prod_info
  obtain ⟨hz20, hz21⟩ := hz2
  obtain ⟨zi, rfl⟩ := Int.eq_ofNat_of_zero_le hz20
  have HM := Lib.hid (fun W (hW : Below w.heap.size w W) => rMade6S q 4 (by decide) A cc AL cL W (h.keep hW))
  have hn5 := q.n_le 4
  have hall := q.all 4
  have hl3 := q.tabs_len 4
  have HS := Lib.hid (fun lo hi w vt vp => @Raw6.sum q 4 lo hi w vt vp)
  have HSh := Lib.hid (fun p hp => (q.short p hp).2)
  have hpl := q.trms_len
  have HXM := Lib.hid (xMade r.1 r.2 hr.1.1 hr.1.2 hr.2.1 hr.2.2)
  obtain ⟨r1, r2⟩ := r
  simp only at *
  generalize q.tabs 4 = tabs at *
  generalize q.trms = ps at *
  generalize q.n 4 = n at *
  generalize em r1 r2 = y at *
  have HAll := Lib.hid hall
  have HL3 := Lib.hid hl3
  clear h hr hall hl3
  unfold raw6V at *
  obtain ⟨l0, -⟩ : ∃ l, l = (q.T 0).length := ⟨_, rfl⟩
  go_enter Try.func8, Try.ntmps8
  go_wp2_with fail
  refine calls_stk2 fun W hB hz b2 b3 => ?_
  refine (lSanity6 W).mono ?_
  rintro e w1 ⟨rfl, hb1⟩
  have hB1 := hB.trans (hb1.mono hB.size)
  have e1 := (b2.keep hb1).cell
  have b31 := b3.keep hb1
  go_wp2_with fail
  refine (HM.out w1 hB1).mono ?_
  rintro e w2 ⟨v2, rfl, ⟨vt, vp, rfl, ht, hp⟩, hb2⟩
  obtain ⟨At, ct, rfl⟩ := ht.len
  obtain ⟨Ap, cp, rfl⟩ := hp.len
  have hS := HS.out _ _ _ _ _ ht hp
  rw [HL3.out] at hS ⊢
  have hB2 := hB1.trans (hb2.mono hB1.size)
  have b32 := b31.keep hb2
  clear ht hp e1 b2 b3 b31
  unfold sv
  go_upto_region 3 with (fail)
  refine wp_stk1 fun V hV hzV b6 => ?_
  have hBV := hB2.trans (hV.mono hB2.size)
  have hSV := hS.keep hV
  have b3V := b32.keep hV
  have e1 := b3V.cell
  obtain ⟨np, hnp⟩ : ∃ np, np = ps.length := ⟨_, rfl⟩
  rw [← hnp] at hSV b6 ⊢
  have HNP := Lib.hid hnp
  have hnp4 : np ≤ 4 := by omega
  clear hS hnp b32 hzV
  go_wp2_with fail
  refine (HXM.out _).mono ?_
  rintro e w3 ⟨he, hb3⟩
  unfold ev at he
  subst he
  go_upto_region 4 with (fail)
  refine wp_stk1 fun Y hY hzY b9 => ?_
  have hVY := hb3.trans (hY.mono hb3.size)
  have hBY := hBV.trans (hVY.mono hBV.size)
  have hSY := hSV.keep hVY
  have b8 := b6.keep hVY
  clear e1 b6 hSV hzY b3V
  have e1 := b8.cell
  go_upto_region 5 with (fail)
  refine wp_stk1 fun Z hZ hzZ b10 => ?_
  have hZs : Z.heap.size = Y.heap.size + 1 := hzZ.out
  clear hzZ e1
  have HSY := Lib.hid hSY
  clear hSY
  go_wp2_with fail
  go_loopw [11] (fun i wr => ∃ k : Nat, k ≤ np ∧ i = .int .i64 k ∧ ∃ vP, RowQ (Y.heap.size + 1) 0 Y.heap.size Y wr vP (sclE y (ps.take k)) ∧ Blk wr Y.heap.size 30 #[.slice At 3 ct, vP] ∧ Below Y.heap.size Y wr ∧ Y.heap.size + 1 ≤ wr.heap.size) (fun i _ => np - (intOf i).toNat)
  case atStart => exact ⟨0, Nat.zero_le _, rfl, .slice none 0 0, RowQ.first _ _ _ _ _, b10, hZ, by omega⟩
  case round =>
    obtain ⟨k, hk, rfl, vP, hrow, b10, hBr, hrs⟩ := hrel
    obtain ⟨X, hXe⟩ : ∃ X, X = wr := ⟨_, rfl⟩
    subst hXe
    have hkl : (sclE y (ps.take k)).length = k := by rw [sclE_length, List.length_take, ← HNP.out]; omega
    obtain ⟨AP, cP, hv⟩ := hrow.len
    rw [hkl] at hv
    subst hv
    have b8r := b8.keep hBr
    have e1 := b8r.cell
    by_cases hlt : k < np
    · obtain ⟨gP, oP, cP', hv, -, -, -, lP, qP⟩ := trms_cells HSY.out.hp (by rw [← HNP.out]; omega)
      rw [← HNP.out] at hv
      cases hv
      obtain ⟨p, hp⟩ : ∃ p, ps[k]? = some p := ⟨_, List.getElem?_eq_getElem (by rw [← HNP.out]; exact hlt)⟩
      obtain ⟨At', ct', d1, d2, d3, d4⟩ := qP k p hp
      have HP := Lib.hid (sclE_succ y ps k p hp)
      obtain ⟨c, tl⟩ := p
      simp only at *
      obtain ⟨tln, htln⟩ : ∃ n, n = tl.length := ⟨_, rfl⟩
      rw [← htln] at d3 d4
      have HD4 : Hid (IdxS 0 Y.heap.size Y (.slice At' tln ct') tl) := Lib.hid (Rd.wide (lo' := 0) (hi' := Y.heap.size) d4 (Nat.zero_le _) (by have := hVY.size; have := hV.size; omega))
      have f1 := gw_cell (W := X) (Nat.lt_of_lt_of_le lP hBr.size) ((hBr.cell (p := ⟨gP, oP + k * 3, none⟩) lP).trans d1)
      have f2 := gw_cell (W := X) (Nat.lt_of_lt_of_le lP hBr.size) ((hBr.cell (p := ⟨gP, oP + k * 3 + 1, none⟩) lP).trans d2)
      have f3 := gw_cell (W := X) (Nat.lt_of_lt_of_le lP hBr.size) ((hBr.cell (p := ⟨gP, oP + k * 3 + 2, none⟩) lP).trans d3)
      have f4 := gw_blk b8r
      have f5 := gw_blk b10
      have f6 := gw_blk (b9.keep hBr)
      clear qP d1 d2 d3 d4 hp htln
      go_wp2_with fail
      refine wp_region_rg 18 [(9, Spec.val (.agg #[.int .u64 (fv (c * y).a), .int .u64 (fv (c * y).b)])), (17, Spec.rel (Lit 66 1 #[.int .u64 (fv (c * y).a), .int .u64 (fv (c * y).b), .slice At' tln ct']) (LitF 1))] (by kernel_rfl) (by kernel_rfl) (by kernel_rfl) ⟨fit_lit, trivial⟩ ?_
      refine rg_det rfl rfl rfl (fun K hK => ?_)
      go_big_quiet_op
      refine hK _ ?_; clear hK K
      refine rg_det rfl rfl rfl (fun K hK => ?_)
      go_big_quiet_op
      refine hK _ ?_; clear hK K
      refine rg_det rfl rfl rfl (fun K hK => ?_)
      go_big_quiet_op
      refine hK _ ?_; clear hK K
      refine rg_det rfl rfl rfl (fun K hK => ?_)
      go_big_quiet_op
      refine hK _ ?_; clear hK K
      refine rg_det rfl rfl rfl (fun K hK => ?_)
      go_big_quiet_op
      refine hK _ ?_; clear hK K
      refine rg_det rfl rfl rfl (fun K hK => ?_)
      go_big_quiet_op
      refine hK _ ?_; clear hK K
      refine rg_det rfl rfl rfl (fun K hK => ?_)
      go_big_quiet_op
      refine hK _ ?_; clear hK K
      refine rg_det rfl rfl rfl (fun K hK => ?_)
      go_big_quiet_op
      refine hK _ ?_; clear hK K
      refine rg_det rfl rfl rfl (fun K hK => ?_)
      go_big_quiet_op
      refine hK _ ?_; clear hK K
      refine rg_val rfl rfl (fun W1 hW1 hF => step_callv en_attestor_attestorref02_Mul (xMul c y W1) rfl rfl) ?_
      intro a' ha
      simp only [Act.put, List.setIfInBounds_toArray, List.set_cons_succ, List.set_cons_zero] at ha
      subst ha
      refine rg_det rfl rfl rfl (fun K hK => ?_)
      go_big_quiet_op
      refine hK _ ?_; clear hK K
      refine rg_det rfl rfl rfl (fun K hK => ?_)
      go_big_quiet_op
      refine hK _ ?_; clear hK K
      refine rg_det rfl rfl rfl (fun K hK => ?_)
      go_big_quiet_op
      refine hK _ ?_; clear hK K
      refine rg_det rfl rfl rfl (fun K hK => ?_)
      go_big_quiet_op
      refine hK _ ?_; clear hK K
      refine rg_det rfl rfl rfl (fun K hK => ?_)
      go_big_quiet_op
      refine hK _ ?_; clear hK K
      refine rg_det rfl rfl rfl (fun K hK => ?_)
      go_big_quiet_op
      refine hK _ ?_; clear hK K
      refine rg_det rfl rfl rfl (fun K hK => ?_)
      go_big_quiet_op
      refine hK _ ?_; clear hK K
      refine rg_rel rfl rfl (fun W1 hW1 hF => step_lit1 Try.underlying28 hj0 jz0 jz1 (by decide) (by decide) rfl rfl rfl) ?_
      intro n17 m17 v17 hn17 hm17 hd17 hf17 a' ha
      simp only [Act.put, List.setIfInBounds_toArray, List.set_cons_succ, List.set_cons_zero] at ha
      subst ha
      obtain rfl := hf17
      refine rg_nil (fun w' hw' hF => ?_)
      obtain ⟨z, rfl⟩ := hw'
      simp only [List.drop_succ_cons, List.drop_zero]
      obtain ⟨hm17', -, hl17, b17⟩ := end_last hF
      have hrz := hrow.keep z.h
      have b10z := b10.gw z
      have hBz := hBr.trans (z.h.mono hBr.size)
      have hzs := z.h.size
      clear hF hd17 f1 f2 f3 f4 f5 f6 e1 hrow b10
      go_wp2_with (at_builtin; refine wpList_appQ (x := .slice At' tln ct') (y := ⟨c * y, tl⟩) (lo := 0) (hi := Y.heap.size) (V := Y) (base := Y.heap.size + 1) (ps := sclE y (ps.take k)) rfl _ _ rfl Try.underlying28 rfl rfl ?hrow ?hsrc rfl ?hE ?hk ?hbase ?_)
      case hrow => exact hrz
      case hE => exact HD4.out
      case hk => rw [hkl]; omega
      case hbase => omega
      intro u' w5 hrow5 hB5 hg5
      rw [← HP.out] at hrow5
      obtain ⟨A5, c5, hv⟩ := hrow5.len
      rw [show (sclE y (ps.take (k + 1))).length = k + 1 by rw [sclE_length, List.length_take, ← HNP.out]; omega] at hv
      subst hv
      have b105 := b10z.below hB5 (by omega)
      have hBw5 : Below Y.heap.size Y w5 := hBz.trans (hB5.mono (by omega))
      have hs5 := hB5.size
      have e1 := b105.cell
      have e2 := b105.frozen
      clear hg5 hrz b10z
      go_wp2_with fail
      have hp : Put w5 _ Y.heap.size := Put.set w5 Y.heap.size 1 (.slice A5 (k + 1) c5)
      exact ⟨⟨k + 1, by omega, by go_num, .slice A5 (k + 1) c5, hrow5.put hp (by omega), b105.set_ 1 _, below_put hBw5 hp (Nat.le_refl _), by rw [hp.size]; omega⟩, by simp [intOf]; omega⟩
    · obtain rfl : k = np := by omega
      have hps : ps.take k = ps := List.take_of_length_le (by rw [← HNP.out]; exact Nat.le_refl _)
      rw [hps] at hrow
      have hN0 : k + 1 ≠ 0 := by omega
      obtain ⟨N, hN⟩ : ∃ N, N = zi % (k + 1) := ⟨_, rfl⟩
      have hN1 : N < k + 1 := by rw [hN]; exact Nat.mod_lt _ (by omega)
      have hm1 : Int.tmod (zi : Int) ((k : Int) + 1) = (N : Int) := by rw [hN]; rfl
      have hm2 : (zi : Int) % ((k : Int) + 1) = (N : Int) := by rw [hN]; rfl
      clear hN
      have TS := hrow.trms (by rw [sclE_length, ← HNP.out]; omega) hBr (Nat.le_refl _)
      have hcp : k ≤ cp := by
        obtain ⟨us, _, ⟨_, _, A0, cap0, h3, h4, _⟩, _⟩ := HSY.out.hp
        cases h3
        rw [← HNP.out] at h4
        exact h4
      clear hrow hkl hps
      go_wp2_with fail
      have f1 := gw_blk b8r
      obtain ⟨i1, hi1, kz0, kz1, kz2⟩ := info_parts sum_info
      refine wp_region_rg 8 [(7, Spec.rel (New 30 #[.slice none 0 0, .slice none 0 0]) (NewF))] (by kernel_rfl) (by kernel_rfl) (by kernel_rfl) ⟨fit_new, trivial⟩ ?_
      refine rg_det rfl rfl rfl (fun K hK => ?_)
      go_big_quiet_op
      refine hK _ ?_; clear hK K
      refine rg_det rfl rfl rfl (fun K hK => ?_)
      go_big_quiet_op
      refine hK _ ?_; clear hK K
      refine rg_det rfl rfl rfl (fun K hK => ?_)
      go_big_quiet_op
      refine hK _ ?_; clear hK K
      refine rg_det rfl rfl rfl (fun K hK => ?_)
      go_big_quiet_op
      refine hK _ ?_; clear hK K
      refine rg_det rfl rfl rfl (fun K hK => ?_)
      go_big_quiet_op
      refine hK _ ?_; clear hK K
      refine rg_det rfl rfl rfl (fun K hK => ?_)
      go_big_quiet_op
      refine hK _ ?_; clear hK K
      refine rg_det rfl rfl rfl (fun K hK => ?_)
      go_big_quiet_op
      refine hK _ ?_; clear hK K
      refine rg_rel rfl rfl (fun W1 hW1 hF => step_new hi1 kz0 rfl) ?_
      intro na7 ma7 va7 hna7 hma7 hda7 hfa7 a' ha
      simp only [Act.put, List.setIfInBounds_toArray, List.set_cons_succ, List.set_cons_zero] at ha
      subst ha
      obtain rfl := hfa7
      refine rg_nil (fun w' hw' hF => ?_)
      obtain ⟨z3, rfl⟩ := hw'
      simp only [List.drop_succ_cons, List.drop_zero]
      obtain ⟨hma7', -, hla7, ba7⟩ := end_last hF
      have e2 := ba7.frozen
      have e3 := ba7.cell
      clear hF hda7 f1 e1
      go_upto_region 11 with (fail)
      refine set2 (M := fun W => Code.wp _ _ _ _ W) ba7 fun X3 hX3 b13 => ?_
      have hB3 := below_put z3.h hX3 hna7
      have b83 := b8r.keep hB3
      have f1 := gw_blk b83
      clear e2 e3 ba7
      obtain ⟨A', cut', hcut, HC⟩ := cut_trm Ap k cp N (by omega)
      refine wp_region_rg 8 [(5, Spec.val (.slice A' (k - N) cut')), (7, Spec.rel (New 30 #[.slice none 0 0, .slice none 0 0]) (NewF))] (by kernel_rfl) (by kernel_rfl) (by kernel_rfl) ⟨fit_new, trivial⟩ ?_
      refine rg_det rfl rfl rfl (fun K hK => ?_)
      go_big_quiet_op
      refine hK _ ?_; clear hK K
      refine rg_det rfl rfl rfl (fun K hK => ?_)
      go_big_quiet_op
      refine hK _ ?_; clear hK K
      refine rg_det rfl rfl rfl (fun K hK => ?_)
      go_big_quiet_op
      refine hK _ ?_; clear hK K
      refine rg_det rfl rfl rfl (fun K hK => ?_)
      go_big_quiet_op
      refine hK _ ?_; clear hK K
      refine rg_det rfl rfl rfl (fun K hK => ?_)
      go_big_quiet_op
      refine hK _ ?_; clear hK K
      refine rg_val rfl rfl (fun W1 hW1 hF => step_cut rfl rfl rfl hcut) ?_
      intro a' ha
      simp only [Act.put, List.setIfInBounds_toArray, List.set_cons_succ, List.set_cons_zero] at ha
      subst ha
      refine rg_det rfl rfl rfl (fun K hK => ?_)
      go_big_quiet_op
      refine hK _ ?_; clear hK K
      refine rg_rel rfl rfl (fun W1 hW1 hF => step_new hi1 kz0 rfl) ?_
      intro nb7 mb7 vb7 hnb7 hmb7 hdb7 hfb7 a' ha
      simp only [Act.put, List.setIfInBounds_toArray, List.set_cons_succ, List.set_cons_zero] at ha
      subst ha
      obtain rfl := hfb7
      refine rg_nil (fun w' hw' hF => ?_)
      obtain ⟨z4, rfl⟩ := hw'
      simp only [List.drop_succ_cons, List.drop_zero]
      obtain ⟨hmb7', -, hlb7, bb7⟩ := end_last hF
      have e2 := bb7.frozen
      have e3 := bb7.cell
      clear hF hdb7 f1
      go_upto_region 12 with (fail)
      refine set2 (M := fun W => Code.wp _ _ _ _ W) bb7 fun X4 hX4 b14 => ?_
      have hB4 := below_put z4.h hX4 hnb7
      have hX4 := hB3.trans (hB4.mono hB3.size)
      have hY4 := hBr.trans (hX4.mono hBr.size)
      clear e2 e3 bb7 hcut
      have hS0 := HSY.out.keep hY4
      have htw := hS0.ht.wide (Nat.zero_le _) (show w2.heap.size ≤ X4.heap.size by have := hY4.size; have := hVY.size; have := hV.size; omega)
      have hpw := hS0.hp.wide (Nat.zero_le _) (show w2.heap.size ≤ X4.heap.size by have := hY4.size; have := hVY.size; have := hV.size; omega)
      have hSs : SumS 0 X4.heap.size X4 (.slice At 3 ct) (.slice AP k cP) tabs (sclE y ps) := ⟨htw, (TS.keep hX4).wide (Nat.le_refl _) hX4.size, fun p hp j hj => by
        obtain ⟨p', hp', rfl⟩ := List.mem_map.1 hp
        exact hS0.ix p' hp' j hj, by rw [sclE_length]; exact hS0.few, fun p hp => by
        obtain ⟨p', hp', rfl⟩ := List.mem_map.1 hp
        exact hS0.short p' hp'⟩
      have hSa : SumS 0 X4.heap.size X4 (.slice At 3 ct) (.slice Ap N cp) tabs (ps.take N) := ⟨htw, trms_take hpw (by rw [← HNP.out]; omega), fun p hp => hS0.ix p (List.mem_of_mem_take hp), by have := hS0.few; rw [List.length_take]; omega, fun p hp => hS0.short p (List.mem_of_mem_take hp)⟩
      have hSb : SumS 0 X4.heap.size X4 (.slice At 3 ct) (.slice A' (k - N) cut') tabs (ps.drop N) := ⟨htw, HC _ _ _ _ hpw, fun p hp => hS0.ix p (List.mem_of_mem_drop hp), by have := hS0.few; rw [List.length_drop]; omega, fun p hp => hS0.short p (List.mem_of_mem_drop hp)⟩
      have b84 := b83.keep hB4
      have b134 := b13.keep hB4
      have b104 := b10.keep hX4
      have b94 := b9.keep hY4
      have hB44 := hBY.trans (hY4.mono hBY.size)
      have hp2 : 2 ^ n ≤ 2 ^ 4 := Nat.pow_le_pow_right (by decide) hn5
      have tot : ∀ (vp : Value) (qs : List Trm), SumS 0 X4.heap.size X4 (.slice At 3 ct) vp tabs qs → Hid (∀ W1, Below X4.heap.size X4 W1 → Calls Try.prog 22 #[.agg #[.slice At 3 ct, vp]] W1 (Ret (ev (totE tabs qs)) W1)) := fun vp qs hS => Lib.hid fun W1 hW =>
        gTotal tabs (2 ^ n) _ _ qs _ _ W1 (hS.keep hW) (by rw [HL3.out]; decide) HAll.out (Nat.le_trans hp2 (by decide))
      have HT0 := tot _ _ ⟨htw, hpw, hS0.ix, hS0.few, hS0.short⟩
      have HTs := tot _ _ hSs
      have HTa := tot _ _ hSa
      have HTb := tot _ _ hSb
      rw [tot_scl] at HTs
      have HAd := Lib.hid (fun W1 => xAdd (totE tabs (ps.take N)) (totE tabs (ps.drop N)) W1)
      rw [tot_split] at HAd
      have HS0 := Lib.hid (show SumS 0 X4.heap.size X4 (.slice At 3 ct) (.slice Ap k cp) tabs ps from ⟨htw, hpw, hS0.ix, hS0.few, hS0.short⟩)
      have HSs := Lib.hid hSs
      have HSa := Lib.hid hSa
      have HSb := Lib.hid hSb
      clear tot hS0 htw hpw hSs hSa hSb TS HC b83 b13 hm1 hm2
      generalize totE tabs (ps.take N) = Ta at *
      generalize totE tabs (ps.drop N) = Tb at *
      generalize totE tabs ps = T0 at *
      have f1 := gw_blk b84
      have f2 := gw_blk b104
      have f3 := gw_blk b134
      have f4 := gw_blk b14
      have f5 := gw_blk b94
      refine wp_region_rg 17 [(1, Spec.val (.agg #[.int .u64 (fv (T0 * y).a), .int .u64 (fv (T0 * y).b)])), (3, Spec.val (.agg #[.int .u64 (fv (T0).a), .int .u64 (fv (T0).b)])), (5, Spec.val (.agg #[.int .u64 (fv (T0 * y).a), .int .u64 (fv (T0 * y).b)])), (9, Spec.val (.agg #[.int .u64 (fv (Ta).a), .int .u64 (fv (Ta).b)])), (11, Spec.val (.agg #[.int .u64 (fv (Tb).a), .int .u64 (fv (Tb).b)])), (12, Spec.val (.agg #[.int .u64 (fv (T0).a), .int .u64 (fv (T0).b)])), (14, Spec.val (.agg #[.int .u64 (fv (T0).a), .int .u64 (fv (T0).b)]))] (by kernel_rfl) (by kernel_rfl) (by kernel_rfl) trivial ?_
      refine rg_det rfl rfl rfl (fun K hK => ?_)
      go_big_quiet_op
      refine hK _ ?_; clear hK K
      refine rg_val rfl rfl (fun W1 hW1 hF => step_callv en_attestor_sumcheck_Total (HTs.out W1 (grw_below hW1)) rfl rfl) ?_
      intro a' ha
      simp only [Act.put, List.setIfInBounds_toArray, List.set_cons_succ, List.set_cons_zero] at ha
      subst ha
      refine rg_det rfl rfl rfl (fun K hK => ?_)
      go_big_quiet_op
      refine hK _ ?_; clear hK K
      refine rg_val rfl rfl (fun W1 hW1 hF => step_callv en_attestor_sumcheck_Total (HT0.out W1 (grw_below hW1)) rfl rfl) ?_
      intro a' ha
      simp only [Act.put, List.setIfInBounds_toArray, List.set_cons_succ, List.set_cons_zero] at ha
      subst ha
      refine rg_det rfl rfl rfl (fun K hK => ?_)
      go_big_quiet_op
      refine hK _ ?_; clear hK K
      refine rg_val rfl rfl (fun W1 hW1 hF => step_callv en_attestor_attestorref02_Mul (xMul T0 y W1) rfl rfl) ?_
      intro a' ha
      simp only [Act.put, List.setIfInBounds_toArray, List.set_cons_succ, List.set_cons_zero] at ha
      subst ha
      refine rg_det rfl rfl rfl (fun K hK => ?_)
      go_big_quiet_op
      refine hK _ ?_; clear hK K
      refine rg_det rfl rfl rfl (fun K hK => ?_)
      go_big_quiet_op
      refine hK _ ?_; clear hK K
      refine rg_det rfl rfl rfl (fun K hK => ?_)
      go_big_quiet_op
      refine hK _ ?_; clear hK K
      refine rg_val rfl rfl (fun W1 hW1 hF => step_callv en_attestor_sumcheck_Total (HTa.out W1 (grw_below hW1)) rfl rfl) ?_
      intro a' ha
      simp only [Act.put, List.setIfInBounds_toArray, List.set_cons_succ, List.set_cons_zero] at ha
      subst ha
      refine rg_det rfl rfl rfl (fun K hK => ?_)
      go_big_quiet_op
      refine hK _ ?_; clear hK K
      refine rg_val rfl rfl (fun W1 hW1 hF => step_callv en_attestor_sumcheck_Total (HTb.out W1 (grw_below hW1)) rfl rfl) ?_
      intro a' ha
      simp only [Act.put, List.setIfInBounds_toArray, List.set_cons_succ, List.set_cons_zero] at ha
      subst ha
      refine rg_val rfl rfl (fun W1 hW1 hF => step_callv en_attestor_attestorref02_Add (HAd.out W1) rfl rfl) ?_
      intro a' ha
      simp only [Act.put, List.setIfInBounds_toArray, List.set_cons_succ, List.set_cons_zero] at ha
      subst ha
      refine rg_det rfl rfl rfl (fun K hK => ?_)
      go_big_quiet_op
      refine hK _ ?_; clear hK K
      refine rg_val rfl rfl (fun W1 hW1 hF => step_callv en_attestor_sumcheck_Total (HT0.out W1 (grw_below hW1)) rfl rfl) ?_
      intro a' ha
      simp only [Act.put, List.setIfInBounds_toArray, List.set_cons_succ, List.set_cons_zero] at ha
      subst ha
      refine rg_det rfl rfl rfl (fun K hK => ?_)
      go_big_quiet_op
      refine hK _ ?_; clear hK K
      refine rg_det rfl rfl rfl (fun K hK => ?_)
      go_big_quiet_op
      refine hK _ ?_; clear hK K
      refine rg_nil (fun w' hw' hF => ?_)
      obtain ⟨z5, rfl⟩ := hw'
      simp only [List.drop_succ_cons, List.drop_zero]
      clear hF f1 f2 f3 f4 f5 HTs HT0 HTa HTb HAd
      have b8v := b84.keep z5.h
      have b9v := b94.keep z5.h
      have b10v := b104.keep z5.h
      have b13v := b134.keep z5.h
      have b14v := b14.keep z5.h
      have hBv := hB44.trans (z5.h.mono hB44.size)
      have e1 := b8v.cell
      go_wp2_with fail
      refine (rLog tabs n (by omega) HAll.out (by rw [HL3.out]; decide) _ _ _ _ z5.w (HS0.out.ht.keep z5.h) ⟨_, _, _, rfl⟩).mono ?_
      rintro e w6 ⟨rfl, hb6⟩
      replace b8v := b8v.keep hb6
      replace b9v := b9v.keep hb6
      replace b10v := b10v.keep hb6
      replace b13v := b13v.keep hb6
      replace b14v := b14v.keep hb6
      replace hBv := hBv.trans (hb6.mono hBv.size)
      have h46 := z5.h.trans (hb6.mono z5.h.size)
      replace e1 := b8v.cell
      by_cases h0 : n = 0
      · subst h0
        go_wp2_with fail
        go_ret
        exact ⟨rfl, hBv⟩
      · obtain ⟨m, rfl⟩ : ∃ m, n = m + 1 := ⟨n - 1, by omega⟩
        replace hp2 : 2 ^ m ≤ 2 ^ 3 := Nat.pow_le_pow_right (by decide) (by omega)
        obtain ⟨M, hM⟩ : ∃ M, M = 2 ^ m := ⟨_, rfl⟩
        have HA2 := Lib.hid (show AllLen tabs (2 * M) by have := HAll.out; rwa [Nat.pow_succ, Nat.mul_comm, ← hM] at this)
        rw [← hM] at hp2
        have hM0 : 0 < M := by rw [hM]; exact Nat.pow_pos (by decide)
        clear HAll hM
        have rnd : ∀ (vp : Value) (qs : List Trm), SumS 0 X4.heap.size X4 (.slice At 3 ct) vp tabs qs → Hid (∀ W1, Below w6.heap.size w6 W1 → Calls Try.prog 28 #[.agg #[.slice At 3 ct, vp]] W1 (RetR (ExtA (rndE tabs qs)) W1)) := fun vp qs hS => Lib.hid fun W1 hW =>
          gRound tabs qs M HA2.out (by rw [HL3.out]; decide) (by rw [HL3.out]; decide) (by omega) _ _ _ _ W1 (hS.keep (h46.trans (hW.mono h46.size)))
        have HR0 := rnd _ _ HS0.out
        have HRs := rnd _ _ HSs.out
        have HRa := rnd _ _ HSa.out
        have HRb := rnd _ _ HSb.out
        have HRE := Lib.hid (fun i hi => rnd_scl tabs y ps i hi)
        have HRS := Lib.hid (fun i hi => rnd_split tabs ps N i M hi HA2.out (by rw [HL3.out]; decide) HSh.out)
        have hl0 : Hid ((rndE tabs ps).length = degE ps + 1) := Lib.hid (rndE_length _ _)
        have hls : Hid ((rndE tabs (sclE y ps)).length = degE ps + 1) := Lib.hid (by rw [rndE_length, deg_scl])
        have hla := rndE_length tabs (ps.take N)
        have hlb := rndE_length tabs (ps.drop N)
        have hda := degE_pos (ps.take N)
        have hdb := degE_pos (ps.drop N)
        have hd0 := degE_pos ps
        have hd3 : degE ps ≤ 3 := degE_le _ 3 (by decide) HSh.out
        have hda3 : degE (ps.take N) ≤ 3 := degE_le _ 3 (by decide) fun p hp => HSh.out p (List.mem_of_mem_take hp)
        have hdb3 : degE (ps.drop N) ≤ 3 := degE_le _ 3 (by decide) fun p hp => HSh.out p (List.mem_of_mem_drop hp)
        have HLA := Lib.hid hla
        have HLB := Lib.hid hlb
        clear rnd HS0 HSs HSa HSb hla hlb
        generalize rndE tabs (ps.take N) = pl at *
        generalize rndE tabs (ps.drop N) = ql at *
        generalize rndE tabs (sclE y ps) = hl at *
        generalize rndE tabs ps = gl at *
        generalize degE (ps.take N) = Da at *
        generalize degE (ps.drop N) = Db at *
        generalize degE ps = D at *
        have F := Below.refl w6.heap.size w6
        have e2 := b10v.cell
        have e3 := b13v.cell
        have e4 := b14v.cell
        go_wp2_with fail
        refine ((HR0).out _ F).mono ?_
        rintro e u1 ⟨vu1, rfl, tu1, hbu1⟩
        replace tu1 : ExtS _ _ u1 vu1 gl := tu1
        obtain ⟨Au1, capu1, hv⟩ := Rd.len tu1
        rw [(hl0).out] at hv
        subst hv
        have G1 := F.trans (hbu1.mono F.size)
        replace e1 := (b8v.keep G1).cell
        replace e2 := (b10v.keep G1).cell
        replace e3 := (b13v.keep G1).cell
        replace e4 := (b14v.keep G1).cell
        go_wp2_with fail
        refine ((HRs).out _ G1).mono ?_
        rintro e u2 ⟨vu2, rfl, tu2, hbu2⟩
        replace tu2 : ExtS _ _ u2 vu2 hl := tu2
        obtain ⟨Au2, capu2, hv⟩ := Rd.len tu2
        rw [(hls).out] at hv
        subst hv
        have G2 := G1.trans (hbu2.mono G1.size)
        replace e1 := (b8v.keep G2).cell
        replace e2 := (b10v.keep G2).cell
        replace e3 := (b13v.keep G2).cell
        replace e4 := (b14v.keep G2).cell
        go_wp2_with fail
        refine ((HRa).out _ G2).mono ?_
        rintro e u3 ⟨vu3, rfl, tu3, hbu3⟩
        replace tu3 : ExtS _ _ u3 vu3 pl := tu3
        obtain ⟨Au3, capu3, hv⟩ := Rd.len tu3
        rw [(HLA).out] at hv
        subst hv
        have G3 := G2.trans (hbu3.mono G2.size)
        replace e1 := (b8v.keep G3).cell
        replace e2 := (b10v.keep G3).cell
        replace e3 := (b13v.keep G3).cell
        replace e4 := (b14v.keep G3).cell
        go_wp2_with fail
        refine ((HRb).out _ G3).mono ?_
        rintro e u4 ⟨vu4, rfl, tu4, hbu4⟩
        replace tu4 : ExtS _ _ u4 vu4 ql := tu4
        obtain ⟨Au4, capu4, hv⟩ := Rd.len tu4
        rw [(HLB).out] at hv
        subst hv
        have G4 := G3.trans (hbu4.mono G3.size)
        replace e1 := (b8v.keep G4).cell
        replace e2 := (b10v.keep G4).cell
        replace e3 := (b13v.keep G4).cell
        replace e4 := (b14v.keep G4).cell
        have h14 := hbu2.trans ((hbu3.trans (hbu4.mono hbu3.size)).mono hbu2.size)
        have h24 := hbu3.trans (hbu4.mono hbu3.size)
        have HP4 := Lib.hid (Rd.keep tu3 hbu4)
        have HQ4 := Lib.hid tu4
        obtain ⟨gg, og, cg, hv, -, -, -, lg, qg⟩ := exts_cells (Rd.keep tu1 h14) (by rw [hl0.out]; omega)
        rw [hl0.out] at hv
        cases hv
        obtain ⟨gh, oh, ch, hv, -, -, -, lh, qh⟩ := exts_cells (Rd.keep tu2 h24) (by rw [hls.out]; omega)
        rw [hls.out] at hv
        cases hv
        have HQG := Lib.hid qg
        have HQH := Lib.hid qh
        have b94v := b9v.keep G4
        have hB4v := hBv.trans (G4.mono hBv.size)
        clear tu1 tu2 tu3 tu4 qg qh h14 h24 hbu1 hbu2 hbu3 hbu4 G1 G2 G3 e1 e2 e3 e4 b8v b9v b10v b13v b14v HR0 HRs HRa HRb
        go_wp2_with fail
        go_loopw [19] (fun i wr => ∃ j : Nat, j ≤ D + 1 ∧ i = .int .i64 j ∧ Below u4.heap.size u4 wr) (fun i _ => D + 1 - (intOf i).toNat)
        case atStart => exact ⟨0, by omega, rfl, Below.refl _ _⟩
        case round =>
          obtain ⟨j, hj, rfl, hBr⟩ := hrel
          by_cases hlt : j < D + 1
          · obtain ⟨xg, hxg, hxgd⟩ := get_of (l := gl) (k := j) (by rw [hl0.out]; exact hlt)
            obtain ⟨xh, hxh, hxhd⟩ := get_of (l := hl) (k := j) (by rw [hls.out]; exact hlt)
            obtain ⟨d1, d2⟩ := HQG.out j xg hxg
            obtain ⟨d3, d4⟩ := HQH.out j xh hxh
            have hE1 := HRE.out j hlt
            rw [hxgd, hxhd] at hE1
            subst hE1
            have hE2 := HRS.out j hlt
            rw [hxgd] at hE2
            have HFI := Lib.hid (show ∀ W1, Calls Try.prog 40 #[.int .i64 (j : Int)] W1 (Ret (ev (nodeE j)) W1) from fun W1 => by rw [nodeE_int]; exact xFromInt (j : Int) (by omega) (by omega) W1)
            have HAd := Lib.hid (show ∀ W1, Calls Try.prog 36 #[ev (atE pl (nodeE j)), ev (atE ql (nodeE j))] W1 (Ret (ev xg) W1) from fun W1 => by rw [← hE2]; exact xAdd _ _ W1)
            have HPt := Lib.hid (show ∀ W1, Below wr.heap.size wr W1 → Calls Try.prog 37 #[.slice Au3 (Da + 1) capu3, ev (nodeE j)] W1 (Ret (ev (atE pl (nodeE j))) W1) from fun W1 hW => pAt pl (nodeE j) (by rw [HLA.out]; omega) _ _ _ W1 (Rd.keep HP4.out (hBr.trans (hW.mono hBr.size))))
            have HQt := Lib.hid (show ∀ W1, Below wr.heap.size wr W1 → Calls Try.prog 37 #[.slice Au4 (Db + 1) capu4, ev (nodeE j)] W1 (Ret (ev (atE ql (nodeE j))) W1) from fun W1 hW => pAt ql (nodeE j) (by rw [HLB.out]; omega) _ _ _ W1 (Rd.keep HQ4.out (hBr.trans (hW.mono hBr.size))))
            clear hE2 hxg hxgd hxh hxhd
            generalize atE pl (nodeE j) = pa at *
            generalize atE ql (nodeE j) = qa at *
            generalize nodeE j = x at *
            go_wp2_with fail
            refine (HFI.out _).mono ?_
            rintro e v1 ⟨he, hv1⟩
            unfold ev at he
            subst he
            go_upto_region 26 with (fail)
            refine wp_stk1 fun V1 hV1 hzV1 b20 => ?_
            have hBV1 := hv1.trans (hV1.mono hv1.size)
            have hB2v := hBr.trans (hBV1.mono hBr.size)
            have f1 := gw_cell (W := V1) (Nat.lt_of_lt_of_le lg hB2v.size) ((hB2v.cell (p := ⟨gg, og + j * 2, none⟩) lg).trans d1)
            have f2 := gw_cell (W := V1) (Nat.lt_of_lt_of_le lg hB2v.size) ((hB2v.cell (p := ⟨gg, og + j * 2 + 1, none⟩) lg).trans d2)
            have f3 := gw_cell (W := V1) (Nat.lt_of_lt_of_le lh hB2v.size) ((hB2v.cell (p := ⟨gh, oh + j * 2, none⟩) lh).trans d3)
            have f4 := gw_cell (W := V1) (Nat.lt_of_lt_of_le lh hB2v.size) ((hB2v.cell (p := ⟨gh, oh + j * 2 + 1, none⟩) lh).trans d4)
            have f5 := gw_blk b20
            have f6 := gw_blk (b94v.keep hB2v)
            clear hzV1 d1 d2 d3 d4 HFI
            refine wp_region_rg 25 [(9, Spec.val (.agg #[.int .u64 (fv (xg * y).a), .int .u64 (fv (xg * y).b)])), (14, Spec.val (.agg #[.int .u64 (fv (pa).a), .int .u64 (fv (pa).b)])), (17, Spec.val (.agg #[.int .u64 (fv (qa).a), .int .u64 (fv (qa).b)])), (18, Spec.val (.agg #[.int .u64 (fv (xg).a), .int .u64 (fv (xg).b)]))] (by kernel_rfl) (by kernel_rfl) (by kernel_rfl) trivial ?_
            refine rg_det rfl rfl rfl (fun K hK => ?_)
            go_big_quiet_op
            refine hK _ ?_; clear hK K
            refine rg_det rfl rfl rfl (fun K hK => ?_)
            go_big_quiet_op
            refine hK _ ?_; clear hK K
            refine rg_det rfl rfl rfl (fun K hK => ?_)
            go_big_quiet_op
            refine hK _ ?_; clear hK K
            refine rg_det rfl rfl rfl (fun K hK => ?_)
            go_big_quiet_op
            refine hK _ ?_; clear hK K
            refine rg_det rfl rfl rfl (fun K hK => ?_)
            go_big_quiet_op
            refine hK _ ?_; clear hK K
            refine rg_det rfl rfl rfl (fun K hK => ?_)
            go_big_quiet_op
            refine hK _ ?_; clear hK K
            refine rg_det rfl rfl rfl (fun K hK => ?_)
            go_big_quiet_op
            refine hK _ ?_; clear hK K
            refine rg_det rfl rfl rfl (fun K hK => ?_)
            go_big_quiet_op
            refine hK _ ?_; clear hK K
            refine rg_det rfl rfl rfl (fun K hK => ?_)
            go_big_quiet_op
            refine hK _ ?_; clear hK K
            refine rg_val rfl rfl (fun W1 hW1 hF => step_callv en_attestor_attestorref02_Mul (xMul xg y W1) rfl rfl) ?_
            intro a' ha
            simp only [Act.put, List.setIfInBounds_toArray, List.set_cons_succ, List.set_cons_zero] at ha
            subst ha
            refine rg_det rfl rfl rfl (fun K hK => ?_)
            go_big_quiet_op
            refine hK _ ?_; clear hK K
            refine rg_det rfl rfl rfl (fun K hK => ?_)
            go_big_quiet_op
            refine hK _ ?_; clear hK K
            refine rg_det rfl rfl rfl (fun K hK => ?_)
            go_big_quiet_op
            refine hK _ ?_; clear hK K
            refine rg_det rfl rfl rfl (fun K hK => ?_)
            go_big_quiet_op
            refine hK _ ?_; clear hK K
            refine rg_val rfl rfl (fun W1 hW1 hF => step_callv en_attestor_attestorref03_At (HPt.out W1 (hBV1.trans ((grw_below hW1).mono hBV1.size))) rfl rfl) ?_
            intro a' ha
            simp only [Act.put, List.setIfInBounds_toArray, List.set_cons_succ, List.set_cons_zero] at ha
            subst ha
            refine rg_det rfl rfl rfl (fun K hK => ?_)
            go_big_quiet_op
            refine hK _ ?_; clear hK K
            refine rg_det rfl rfl rfl (fun K hK => ?_)
            go_big_quiet_op
            refine hK _ ?_; clear hK K
            refine rg_val rfl rfl (fun W1 hW1 hF => step_callv en_attestor_attestorref03_At (HQt.out W1 (hBV1.trans ((grw_below hW1).mono hBV1.size))) rfl rfl) ?_
            intro a' ha
            simp only [Act.put, List.setIfInBounds_toArray, List.set_cons_succ, List.set_cons_zero] at ha
            subst ha
            refine rg_val rfl rfl (fun W1 hW1 hF => step_callv en_attestor_attestorref02_Add (HAd.out W1) rfl rfl) ?_
            intro a' ha
            simp only [Act.put, List.setIfInBounds_toArray, List.set_cons_succ, List.set_cons_zero] at ha
            subst ha
            refine rg_det rfl rfl rfl (fun K hK => ?_)
            go_big_quiet_op
            refine hK _ ?_; clear hK K
            refine rg_det rfl rfl rfl (fun K hK => ?_)
            go_big_quiet_op
            refine hK _ ?_; clear hK K
            refine rg_det rfl rfl rfl (fun K hK => ?_)
            go_big_quiet_op
            refine hK _ ?_; clear hK K
            refine rg_det rfl rfl rfl (fun K hK => ?_)
            go_big_quiet_op
            refine hK _ ?_; clear hK K
            refine rg_det rfl rfl rfl (fun K hK => ?_)
            go_big_quiet_op
            refine hK _ ?_; clear hK K
            refine rg_det rfl rfl rfl (fun K hK => ?_)
            go_big_quiet_op
            refine hK _ ?_; clear hK K
            refine rg_nil (fun w' hw' hF => ?_)
            obtain ⟨z7, rfl⟩ := hw'
            simp only [List.drop_succ_cons, List.drop_zero]
            clear hF f1 f2 f3 f4 f5 f6
            go_wp2_with fail
            exact ⟨⟨j + 1, by omega, by go_num, hB2v.trans (z7.h.mono hB2v.size)⟩, by simp [intOf]; omega⟩
          · obtain rfl : j = D + 1 := by omega
            go_wp2_with fail
            go_ret
            exact ⟨rfl, hB4v.trans (hBr.mono hB4v.size)⟩
end Go.Proofs.Ytilelegcniefcaa
