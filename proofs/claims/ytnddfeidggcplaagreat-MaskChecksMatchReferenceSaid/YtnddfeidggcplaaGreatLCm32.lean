/-
  MaskChecksMatchReference: the walk.
-/
import Derived.Test.YtnddfeidggcplaaGreatRg32
import Derived.Test.YtnddfeidggcplaaGreatMs32
namespace Go.Proofs.YtnddfeidggcplaaGreat
open Go.RowKit

structure Y32 (w : World) (x : Sc32) (gV gS : Nat) (AC AL : Option Addr) (cC cL : Nat) (X : World) : Prop where
  hC : ExtS 0 X.heap.size X (.slice AC x.n cC) x.co
  hL : ExtS 0 X.heap.size X (.slice AL x.l cL) x.rn
  bV : Blk X gV 30 #[.int .u64 (fv x.v.a), .int .u64 (fv x.v.b)]
  bS : Blk X gS 57 #[.slice AC x.n cC, .int .i64 (x.d : Int), .slice AL x.l cL, .int .u64 (fv x.fin.a), .int .u64 (fv x.fin.b)]
  hw : Below w.heap.size w X
theorem Y32.keep {w : World} {x : Sc32} {gV gS : Nat} {AC AL : Option Addr} {cC cL : Nat} {X Y : World} (h : Y32 w x gV gS AC AL cC cL X) (hb : Below X.heap.size X Y) : Y32 w x gV gS AC AL cC cL Y :=
  ⟨ext_base (Rd.keep h.hC hb), ext_base (Rd.keep h.hL hb), h.bV.keep hb, h.bS.keep hb, h.hw.trans (hb.mono h.hw.size)⟩
attribute [local irreducible] wpRg
set_option maxRecDepth 100000 in
set_option maxHeartbeats 8000000 in
theorem wkMaskChecksMatchReference (x : Sc32) (xC xR : Value) (L : List (List Raw)) (vO : Value) (r : Raw) (hr : Word r.1 ∧ Word r.2) (w : World) (h : Sc32S w.heap.size w x xC xR) (hL : RTabS 0 w.heap.size w vO L) :
    Calls Tryz.prog 4 #[sc32 xC xR x, vO, .agg #[.int .u64 r.1, .int .u64 r.2]] w (Ret (.bool true) w) := by
  have hn4 := x.n_le
  have hd3 := x.d_le
  have hl20 := x.l_le
  have HO := Lib.hid hL
  obtain ⟨AO, cO, rfl⟩ := hL.len
  generalize L.length = lO at *
  have HXM := Lib.hid (xMade r.1 r.2 hr.1.1 hr.1.2 hr.2.1 hr.2.2)
  obtain ⟨r1, r2⟩ := r
  simp only at *
  generalize em r1 r2 = tot at *
  clear hr hL
  have HQ := Lib.hid (fun W (hW : Below w.heap.size w W) => lSim32 x xC xR W (h.keep hW hW.size))
  unfold sc32 at *
  clear h
  go_enter Tryz.func4, Tryz.ntmps4
  go_wp2_with fail
  refine calls_stk2 fun W1 hB1 hz1 b1 bT => ?_
  refine (lSanity32a W1).mono ?_
  rintro e w1 ⟨rfl, hb1⟩
  have h1 := hB1.trans (hb1.mono hB1.size)
  have f1 := (b1.keep hb1).cell
  go_wp2_with fail
  refine (HQ.out w1 h1).mono ?_
  rintro e w2 ⟨AC, cC, AL, cL, rfl, hC, hL, hb2⟩
  clear f1
  unfold ev
  go_upto_region 3 with (fail)
  refine wp_stk2 fun X hX hzX b4 b5 => ?_
  have h2 := h1.trans (hb2.mono h1.size)
  have hY : Y32 w x w2.heap.size (w2.heap.size + 1) AC AL cC cL X := ⟨ext_base (Rd.keep hC hX), ext_base (Rd.keep hL hX), b4, b5, h2.trans (hX.mono h2.size)⟩
  replace bT := bT.keep (hb1.trans ((hb2.trans (hX.mono hb2.size)).mono hb1.size))
  clear hC hL b4 b5 hX hzX hb2 h1 h2 hB1 hz1 b1 hb1 HQ
  obtain ⟨i1, hi1, jz0, jz1, jz2⟩ := info_parts ext_info
  obtain ⟨i7, hi7, kz0, kz1, kz2⟩ := info_parts unm_info
  obtain ⟨rs, hrs⟩ : ∃ rs, rs = simE x.v x.co x.rn x.d x.fin := ⟨_, rfl⟩
  have hrl : rs.length ≤ x.n := by rw [hrs, ← x.co_len]; exact simE_le _ _ _ _ _
  have H1 := Lib.hid (show ∀ W, Below X.heap.size X W → Calls Tryz.prog 27 #[ev x.v, .agg #[.slice AC x.n cC, .int .i64 (x.d : Int), .slice AL x.l cL, .int .u64 (fv x.fin.a), .int .u64 (fv x.fin.b)]] W (RetR (TabR rs) W) from fun W hW => by
    have := gSimulate x.v x.co x.rn x.d x.fin hd3.1 (by omega) x.n x.co_len (by omega) AC AL cC cL _ _ _ _ W (hY.keep hW).hC (by rw [x.rn_len]; exact (hY.keep hW).hL)
    rw [x.rn_len, ← hrs] at this
    exact this)
  have H2 := Lib.hid (show ∀ W, Below X.heap.size X W → Calls Tryz.prog 28 #[ev x.v, .agg #[.slice AC x.n cC, .int .i64 (x.d : Int), .slice AL x.l cL, .int .u64 (fv x.fin.a), .int .u64 (fv x.fin.b)]] W (RetR (TabR rs) W) from fun W hW => by
    have := rSimulate x.v x.co x.rn x.d x.fin hd3.1 (by omega) x.n x.co_len (by omega) AC AL cC cL _ _ _ _ W (hY.keep hW).hC (by rw [x.rn_len]; exact (hY.keep hW).hL)
    rw [x.rn_len, ← hrs] at this
    exact this)
  have hd3a := hd3.1
  have hd3b := hd3.2
  have HRL := Lib.hid hrl
  clear hrs hd3 hrl
  have yV := gw_blk hY.bV
  have yS := gw_blk hY.bS
  refine wp_region_rg 6 [(2, Spec.rel (TabR rs) (SlF rs.length)), (5, Spec.rel (TabR rs) (SlF rs.length))] (by kernel_rfl) (by kernel_rfl) (by kernel_rfl) ⟨fit_tabR, fit_tabR, trivial⟩ ?_
  refine rg_det rfl rfl rfl (fun K hK => ?_)
  go_big_quiet_op
  refine hK _ ?_; clear hK K
  refine rg_det rfl rfl rfl (fun K hK => ?_)
  go_big_quiet_op
  refine hK _ ?_; clear hK K
  refine rg_rel rfl rfl (fun W1 hW1 hF => step_callr en_attestor_mask_Simulate (H1.out W1 (grw_below hW1)) rfl rfl) ?_
  intro n2 m2 v2 hn2 hm2 hd2 hf2 a' ha
  simp only [Act.put, List.setIfInBounds_toArray, List.set_cons_succ, List.set_cons_zero] at ha
  subst ha
  obtain ⟨A2, cap2, rfl⟩ := hf2
  refine rg_det rfl rfl rfl (fun K hK => ?_)
  go_big_quiet_op
  refine hK _ ?_; clear hK K
  refine rg_det rfl rfl rfl (fun K hK => ?_)
  go_big_quiet_op
  refine hK _ ?_; clear hK K
  refine rg_rel rfl rfl (fun W1 hW1 hF => step_callr en_attestor_attestorref32_Simulate (H2.out W1 (grw_below hW1)) rfl rfl) ?_
  intro n5 m5 v5 hn5 hm5 hd5 hf5 a' ha
  simp only [Act.put, List.setIfInBounds_toArray, List.set_cons_succ, List.set_cons_zero] at ha
  subst ha
  obtain ⟨A5, cap5, rfl⟩ := hf5
  refine rg_nil (fun w' hw' hF => ?_)
  obtain ⟨z, rfl⟩ := hw'
  simp only [List.drop_succ_cons, List.drop_zero]
  obtain ⟨-, hR2⟩ := end_last hF
  obtain ⟨-, hR1⟩ := end_last (end_init hF)
  replace hR1 : TabS n2 m2 z.w (.slice A2 rs.length cap2) rs := hR1
  replace hR2 : TabS n5 m5 z.w (.slice A5 rs.length cap5) rs := hR2
  replace hY := hY.keep z.h
  replace bT := bT.keep z.h
  clear hF yV yS hd2 hd5 H1 H2
  generalize z.w = Z at *
  go_wp2_with fail
  have yS := gw_blk hY.bS
  have yT := gw_blk bT
  refine wp_region_rg 11 [(6, Spec.val (.agg #[.int .u64 (fv (tot).a), .int .u64 (fv (tot).b)])), (10, Spec.rel (New 63 #[.int .u64 0, .int .u64 0, .slice none 0 0, .int .u64 0, .int .u64 0, .int .i64 0]) (NewF))] (by kernel_rfl) (by kernel_rfl) (by kernel_rfl) ⟨fit_new, trivial⟩ ?_
  refine rg_det rfl rfl rfl (fun K hK => ?_)
  go_big_quiet_op
  refine hK _ ?_; clear hK K
  refine rg_det rfl rfl rfl (fun K hK => ?_)
  go_big_quiet_op
  refine hK _ ?_; clear hK K
  refine rg_det rfl rfl rfl (fun K hK => ?_)
  go_big_quiet_op
  refine hK _ ?_; clear hK K
  refine rg_det rfl rfl rfl (fun K hK => ?_)
  go_big_quiet_op
  refine hK _ ?_; clear hK K
  refine rg_det rfl rfl rfl (fun K hK => ?_)
  go_big_quiet_op
  refine hK _ ?_; clear hK K
  refine rg_det rfl rfl rfl (fun K hK => ?_)
  go_big_quiet_op
  refine hK _ ?_; clear hK K
  refine rg_val rfl rfl (fun W1 hW1 hF => step_callv en_attestor_attestorref02_Made (HXM.out W1) rfl rfl) ?_
  intro a' ha
  simp only [Act.put, List.setIfInBounds_toArray, List.set_cons_succ, List.set_cons_zero] at ha
  subst ha
  refine rg_det rfl rfl rfl (fun K hK => ?_)
  go_big_quiet_op
  refine hK _ ?_; clear hK K
  refine rg_det rfl rfl rfl (fun K hK => ?_)
  go_big_quiet_op
  refine hK _ ?_; clear hK K
  refine rg_det rfl rfl rfl (fun K hK => ?_)
  go_big_quiet_op
  refine hK _ ?_; clear hK K
  refine rg_rel rfl rfl (fun W1 hW1 hF => step_new hi7 kz0 rfl) ?_
  intro nb10 mb10 vb10 hnb10 hmb10 hdb10 hfb10 a' ha
  simp only [Act.put, List.setIfInBounds_toArray, List.set_cons_succ, List.set_cons_zero] at ha
  subst ha
  obtain rfl := hfb10
  refine rg_nil (fun w' hw' hF => ?_)
  obtain ⟨z4, rfl⟩ := hw'
  simp only [List.drop_succ_cons, List.drop_zero]
  obtain ⟨hmb', -, hlb, bU⟩ := end_last hF
  have e1 := bU.cell
  have e2 := bU.frozen
  have hzs := z4.h.size
  clear hF yS yT hdb10
  go_upto_region 5 with (fail)
  refine set6 (M := fun W => Code.wp _ _ _ _ W) bU fun X5 pU5 bU5 => ?_
  replace bU5 : Blk X5 nb10 63 #[.int .u64 (fv x.fin.a), .int .u64 (fv x.fin.b), .slice AC x.n cC, .int .u64 (fv tot.a), .int .u64 (fv tot.b), .int .i64 (x.d : Int)] := bU5
  have h5 := below_put z4.h pU5 (by omega)
  have HYZ := Lib.hid hY
  have HRZ := Lib.hid hR1
  have HSZ := Lib.hid hR2
  replace hY := hY.keep h5
  replace hR1 := hR1.keep h5
  replace hR2 := hR2.keep h5
  have hk := h5
  clear e1 e2 bU pU5 h5 bT
  have bU := bU5
  clear bU5
  have e9 := hY.bS.cell
  go_wp2_with fail
  rw [show (x.d : Int) + 1 = ((x.d + 1 : Nat) : Int) from rfl]
  refine (rMadeRounds L x.n (x.d + 1) (by omega) (by omega) _ _ _ X5 (HO.out.keep hY.hw)).mono ?_
  rintro e X6 ⟨v4, rfl, hO, hb6⟩
  replace hO : TabS X5.heap.size X6.heap.size X6 v4 (mdR L x.n (x.d + 1)) := hO
  obtain ⟨AM5, cM5, hv⟩ := hO.len
  have HOl := Lib.hid (show (mdR L x.n (x.d + 1)).length = x.n from mdR_length _ _ _)
  rw [HOl.out] at hv
  subst hv
  generalize mdR L x.n (x.d + 1) = os at *
  replace hY := hY.keep hb6
  replace hR1 := hR1.keep hb6
  replace hR2 := hR2.keep hb6
  replace bU := bU.keep hb6
  replace hk := hk.trans (hb6.mono hk.size)
  clear hb6 e9
  have hcl := x.co_len
  have HCL := Lib.hid hcl
  clear hcl
  obtain ⟨f, hf⟩ : ∃ f, f = vrfE (x.d : Int) (x.v + x.fin * tot) os x.co := ⟨_, rfl⟩
  obtain ⟨g, hg⟩ : ∃ g, g = vrfE (x.d : Int) (x.v + x.fin * 0) rs x.co := ⟨_, rfl⟩
  obtain ⟨f1, f2⟩ := f
  obtain ⟨g1, g2⟩ := g
  have HF := Lib.hid hf
  have HG := Lib.hid hg
  clear hf hg
  have V1 := Lib.hid (show ∀ W AC cC lo hi lo2 hi2, TabS lo hi W (.slice AM5 x.n cM5) os → ExtS lo2 hi2 W (.slice AC x.n cC) x.co → Calls Tryz.prog 30 #[ev x.v, .slice AM5 x.n cM5, .agg #[.int .u64 (fv x.fin.a), .int .u64 (fv x.fin.b), .slice AC x.n cC, .int .u64 (fv tot.a), .int .u64 (fv tot.b), .int .i64 (x.d : Int)]] W (Ret (.tuple #[ev f1, .int .i64 f2]) W) from fun W AC cC lo hi lo2 hi2 h1 h2 => by
    have := gVerifyM x.v x.fin tot os x.co (x.d : Int) (by omega) (by rw [HOl.out]; omega) (.slice AM5 x.n cM5) AC cC lo hi lo2 hi2 W h1 (by rw [HCL.out]; exact h2)
    rw [HCL.out, ← HF.out] at this
    exact this)
  have V2 := Lib.hid (show ∀ W AC cC lo hi lo2 hi2, TabS lo hi W (.slice AM5 x.n cM5) os → ExtS lo2 hi2 W (.slice AC x.n cC) x.co → Calls Tryz.prog 31 #[ev x.v, .slice AM5 x.n cM5, .agg #[.int .u64 (fv x.fin.a), .int .u64 (fv x.fin.b), .slice AC x.n cC, .int .u64 (fv tot.a), .int .u64 (fv tot.b), .int .i64 (x.d : Int)]] W (Ret (.tuple #[ev f1, .int .i64 f2]) W) from fun W AC cC lo hi lo2 hi2 h1 h2 => by
    have := rVerifyM x.v x.fin tot os x.co (x.d : Int) (by omega) (.slice AM5 x.n cM5) AC cC lo hi lo2 hi2 W h1 (by rw [HCL.out]; exact h2)
    rw [HCL.out, ← HF.out] at this
    exact this)
  have V3 := Lib.hid (show ∀ W A c AC cC lo hi lo2 hi2, TabS lo hi W (.slice A rs.length c) rs → ExtS lo2 hi2 W (.slice AC x.n cC) x.co → Calls Tryz.prog 30 #[ev x.v, .slice A rs.length c, .agg #[.int .u64 (fv x.fin.a), .int .u64 (fv x.fin.b), .slice AC x.n cC, .int .u64 0, .int .u64 0, .int .i64 (x.d : Int)]] W (Ret (.tuple #[ev g1, .int .i64 g2]) W) from fun W A c AC cC lo hi lo2 hi2 h1 h2 => by
    have := gVerifyM x.v x.fin 0 rs x.co (x.d : Int) (by omega) (by have := HRL.out; omega) (.slice A rs.length c) AC cC lo hi lo2 hi2 W h1 (by rw [HCL.out]; exact h2)
    rw [HCL.out, ← HG.out] at this
    exact this)
  have V4 := Lib.hid (show ∀ W A c AC cC lo hi lo2 hi2, TabS lo hi W (.slice A rs.length c) rs → ExtS lo2 hi2 W (.slice AC x.n cC) x.co → Calls Tryz.prog 31 #[ev x.v, .slice A rs.length c, .agg #[.int .u64 (fv x.fin.a), .int .u64 (fv x.fin.b), .slice AC x.n cC, .int .u64 0, .int .u64 0, .int .i64 (x.d : Int)]] W (Ret (.tuple #[ev g1, .int .i64 g2]) W) from fun W A c AC cC lo hi lo2 hi2 h1 h2 => by
    have := rVerifyM x.v x.fin 0 rs x.co (x.d : Int) (by omega) (.slice A rs.length c) AC cC lo hi lo2 hi2 W h1 (by rw [HCL.out]; exact h2)
    rw [HCL.out, ← HG.out] at this
    exact this)
  unfold ev at V1 V2 V3 V4
  clear HF HG HCL HOl HRL
  generalize rs.length = rl at *
  have e8 := hY.bV.cell
  have e12 := bU.cell
  go_wp2_with fail
  refine (V1.out _ _ _ _ _ _ _ hO hY.hC).mono ?_
  rintro e w7 ⟨rfl, hbw7⟩
  replace hY := hY.keep hbw7
  replace bU := bU.keep hbw7
  have hlX7 := bU.lt
  replace hR1 := hR1.keep hbw7
  replace hR2 := hR2.keep hbw7
  try replace hO := hO.keep hbw7
  clear e8 e12
  go_upto_region 7 with (fail)
  refine wp_stk1 fun X7 hXX7 hzX7 bX7 => ?_
  replace hY := hY.keep hXX7
  replace bU := bU.keep hXX7
  replace hR1 := hR1.keep hXX7
  replace hR2 := hR2.keep hXX7
  try replace hO := hO.keep hXX7
  clear hzX7
  have hkX7 := hbw7.trans (hXX7.mono hbw7.size)
  replace hk := hk.trans (hkX7.mono hk.size)
  clear hbw7 hXX7
  have e8 := hY.bV.cell
  have e12 := bU.cell
  go_wp2_with fail
  refine (V2.out _ _ _ _ _ _ _ hO hY.hC).mono ?_
  rintro e w8 ⟨rfl, hbw8⟩
  replace hY := hY.keep hbw8
  replace bU := bU.keep hbw8
  have hlX8 := bU.lt
  replace hR1 := hR1.keep hbw8
  replace hR2 := hR2.keep hbw8
  try replace hO := hO.keep hbw8
  clear e8 e12
  go_upto_region 8 with (fail)
  refine wp_stk1 fun X8 hXX8 hzX8 bX8 => ?_
  replace hY := hY.keep hXX8
  replace bU := bU.keep hXX8
  replace hR1 := hR1.keep hXX8
  replace hR2 := hR2.keep hXX8
  try replace hO := hO.keep hXX8
  clear hzX8
  have hkX8 := hbw8.trans (hXX8.mono hbw8.size)
  replace hk := hk.trans (hkX8.mono hk.size)
  clear hbw8 hXX8
  replace bX7 := bX7.keep hkX8
  have e12 := bU.cell
  have e12f := bU.frozen
  go_upto_region 9 with (fail)
  have hp : Put X8 ((X8.setCell ⟨nb10, 3, none⟩ (.int .u64 0)).setCell ⟨nb10, 4, none⟩ (.int .u64 0)) nb10 := (Put.set _ _ _ _).trans (Put.set _ _ _ _)
  have bU9 := (bU.set_ 3 (.int .u64 0)).set_ 4 (.int .u64 0)
  replace bU9 : Blk ((X8.setCell ⟨nb10, 3, none⟩ (.int .u64 0)).setCell ⟨nb10, 4, none⟩ (.int .u64 0)) nb10 63 #[.int .u64 (fv x.fin.a), .int .u64 (fv x.fin.b), .slice AC x.n cC, .int .u64 0, .int .u64 0, .int .i64 (x.d : Int)] := bU9
  generalize ((X8.setCell ⟨nb10, 3, none⟩ (.int .u64 0)).setCell ⟨nb10, 4, none⟩ (.int .u64 0)) = X9 at *
  have hk9 := below_put hk hp hnb10
  have hY := HYZ.out.keep hk9
  have hR1 := HRZ.out.keep hk9
  have hR2 := HSZ.out.keep hk9
  replace bX8 := hp.blk bX8 (by have := bX8.lt; have := bU.lt; omega)
  replace bX7 := hp.blk bX7 (by have := bX7.lt; have := bU.lt; omega)
  have bU := bU9
  have hk := hk9
  clear hk9 bU9 e12 e12f hO hp hkX7 hkX8
  have e8 := hY.bV.cell
  have e12 := bU.cell
  go_wp2_with fail
  refine (V3.out _ _ _ _ _ _ _ _ _ hR2 hY.hC).mono ?_
  rintro e w10 ⟨rfl, hbw10⟩
  replace hY := hY.keep hbw10
  replace bU := bU.keep hbw10
  have hlX10 := bU.lt
  replace hR1 := hR1.keep hbw10
  replace hR2 := hR2.keep hbw10
  try replace hO := hO.keep hbw10
  clear e8 e12
  go_upto_region 10 with (fail)
  refine wp_stk1 fun X10 hXX10 hzX10 bX10 => ?_
  replace hY := hY.keep hXX10
  replace bU := bU.keep hXX10
  replace hR1 := hR1.keep hXX10
  replace hR2 := hR2.keep hXX10
  try replace hO := hO.keep hXX10
  clear hzX10
  have hkX10 := hbw10.trans (hXX10.mono hbw10.size)
  replace hk := hk.trans (hkX10.mono hk.size)
  clear hbw10 hXX10
  replace bX7 := bX7.keep hkX10
  replace bX8 := bX8.keep hkX10
  have e8 := hY.bV.cell
  have e12 := bU.cell
  go_wp2_with fail
  refine (V4.out _ _ _ _ _ _ _ _ _ hR2 hY.hC).mono ?_
  rintro e w11 ⟨rfl, hbw11⟩
  replace hY := hY.keep hbw11
  replace bU := bU.keep hbw11
  have hlX11 := bU.lt
  replace hR1 := hR1.keep hbw11
  replace hR2 := hR2.keep hbw11
  try replace hO := hO.keep hbw11
  clear e8 e12
  go_upto_region 11 with (fail)
  refine wp_stk1 fun X11 hXX11 hzX11 bX11 => ?_
  replace hY := hY.keep hXX11
  replace bU := bU.keep hXX11
  replace hR1 := hR1.keep hXX11
  replace hR2 := hR2.keep hXX11
  try replace hO := hO.keep hXX11
  clear hzX11
  have hkX11 := hbw11.trans (hXX11.mono hbw11.size)
  replace hk := hk.trans (hkX11.mono hk.size)
  clear hbw11 hXX11
  replace bX7 := bX7.keep hkX11
  replace bX8 := bX8.keep hkX11
  replace bX10 := bX10.keep hkX11
  have HSm := Lib.hid (rSameR rs (.slice A2 rl cap2) (.slice A5 rl cap5) _ _ _ _ X11 hR1 hR2)
  have hwf := hY.hw
  clear hY hR1 hR2 HYZ HRZ HSZ V1 V2 V3 V4 bU
  go_wp2_with fail
  refine (HSm.out).mono ?_
  rintro e w12 ⟨rfl, hb12⟩
  have e7 := (bX7.keep hb12).cell
  have e8 := (bX8.keep hb12).cell
  have e10 := (bX10.keep hb12).cell
  have e11 := (bX11.keep hb12).cell
  have hwf2 := hwf.trans (hb12.mono hwf.size)
  go_wp2_with fail
  go_ret
  exact ⟨rfl, hwf2⟩
end Go.Proofs.YtnddfeidggcplaaGreat
