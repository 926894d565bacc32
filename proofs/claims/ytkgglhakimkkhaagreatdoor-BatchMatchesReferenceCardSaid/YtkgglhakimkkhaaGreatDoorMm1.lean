/-
  The program's transcripts: the next hash output.
  The program's transcripts: the challenge.
  The functions of package mle: agree, Eq, Line, Lift, by contract.
-/
import Derived.Test.YtkgglhakimkkhaaGreatDoorGu2
import Derived.Test.YtkgglhakimkkhaaGreatDoorMr3
namespace Go.Proofs.YtkgglhakimkkhaaGreatDoor
open Go.RowKit

theorem en_attestor_transcript_draw : ∀ args w, (callFunc 87 args).run Tryz.prog w = .ok (.enter 87 args) w := enters_of Tryz.func87 (by kernel_rfl) rfl
attribute [local irreducible] wpRg
set_option maxRecDepth 100000 in
set_option maxHeartbeats 4000000 in
theorem gDraw (st : List Nat) (cnt tag : Nat) (hst : StOk st) (hcnt : cnt < 1000000000) (htag : tag < 256) (b : ByteArray) (hb : b.size ≤ 200) (w : World) (hL : Lsh w) :
    Calls Tryz.prog 87 #[tsV st cnt, .int .u8 (tag : Int), .string b] w (Ret (.tuple #[tsV st (cnt + 1), dgv (sha (tagL st tag (stB b) (w8 cnt)))]) w) := by
  obtain ⟨S, hS⟩ : ∃ S, S = tsV st cnt := ⟨_, rfl⟩
  rw [← hS]
  obtain ⟨isl, hsl, sz0, sz1, sz2⟩ := info_parts byls_info
  obtain ⟨i32', hi32, iz0, iz1, iz2⟩ := info_parts b32_info
  have HST := Lib.hid hst
  have HSZ := Lib.hid hb
  have HL := Lib.hid hL
  have HFl := Lib.hid (show [w8 cnt].flatten = w8 cnt by simp)
  have H8 := Lib.hid (show ∀ x ∈ [w8 cnt].flatten, x < 256 by rw [HFl.out]; exact w8_lt cnt)
  have HF := Lib.hid (show [w8 cnt].flatten.length ≤ 400000 by rw [HFl.out, w8_length]; decide)
  clear hst hL
  go_enter Tryz.func87, Tryz.ntmps87
  go_upto_region 1 with (fail)
  refine wp_stk3 fun W hB hz b1 b2 b3 => ?_
  have b1' : Blk W w.heap.size 60 (tsc st cnt).toArray := by first | exact b1 | (rw [hS] at b1; exact b1)
  obtain ⟨cs0, hcs0, b2'⟩ : ∃ cs : Array Value, cs.size = 33 ∧ Blk W (w.heap.size + 1) 60 cs := ⟨_, rfl, b2⟩
  obtain ⟨cs1, hcs1, b3'⟩ : ∃ cs : Array Value, cs.size = 32 ∧ Blk W (w.heap.size + 1 + 1) 58 cs := ⟨_, rfl, b3⟩
  clear b1 b2 b3 hz
  have c32 := gw_cell b1'.lt (tsc_count b1' HST.out.len)
  refine wp_region_rg 9 [(0, Spec.val (tsV st cnt)), (5, Spec.rel (OwA (w8 cnt)) (SlF 8)), (6, Spec.rel (BylA [w8 cnt]) AnyV), (7, Spec.val (dgv (sha (tagL st tag (stB b) [w8 cnt].flatten)))), (8, Spec.rel (New 58 (zb 32).toArray) (NewF))] (by kernel_rfl) (by kernel_rfl) (by kernel_rfl) ⟨fit_w8, fit_of (byl_st), fit_new, trivial⟩ ?_
  refine rg_val rfl rfl (fun W1 hW1 hF => step_loadR (cs := tsc st cnt) Tryz.underlying60 rfl (by rw [tr_size, tsc_len _ _ HST.out.len]) rfl rfl (blk_range (b1'.below (grw_below hW1) b1'.lt))) ?_
  intro a' ha
  simp only [Act.put, List.setIfInBounds_toArray, List.set_cons_succ, List.set_cons_zero] at ha
  subst ha
  iterate 4 (refine rg_det rfl rfl rfl (fun K hK => ?_); go_big_quiet_op; refine hK _ ?_; clear hK K)
  refine rg_rel rfl rfl (fun W1 hW1 hF => step_callr en_attestor_transcript_appendWord (gAppW0 cnt (by omega) W1) rfl rfl) ?_
  intro n5 m5 v5 hn5 hm5 hd5 hf5 a' ha
  simp only [Act.put, List.setIfInBounds_toArray, List.set_cons_succ, List.set_cons_zero] at ha
  subst ha
  obtain ⟨A5, cap5, rfl⟩ := hf5
  refine rg_rel rfl rfl (fun W1 hW1 hF => stepAt_mono (fun v w' hh => ⟨byl_one hh.1 rfl ((pick_last hF (by kernel_rfl)).2.bys (by rw [w8_length]; decide)) hh.2, hh.2⟩) (step_litF (parts := [(0, .tmp 14)]) (vs := [.slice A5 8 cap5]) byls_slice hsl sz0 sz1 rfl (by simp) (by simp) rfl rfl (by simp [Value.cells]))) ?_
  intro n6 m6 v6 hn6 hm6 hd6 hf6 a' ha
  simp only [Act.put, List.setIfInBounds_toArray, List.set_cons_succ, List.set_cons_zero] at ha
  subst ha
  refine rg_val rfl rfl (fun W1 hW1 hF => step_callv en_attestor_transcript_tagged (gTagged st cnt tag HST.out htag b HSZ.out [w8 cnt] (by simp) HF.out H8.out _ _ _ W1 (HL.out.keep (hB.trans ((grw_below hW1).mono hB.size))) (pick_last hF (by kernel_rfl)).2.byl) rfl rfl) ?_
  intro a' ha
  simp only [Act.put, List.setIfInBounds_toArray, List.set_cons_succ, List.set_cons_zero] at ha
  subst ha
  refine rg_rel rfl rfl (fun W1 hW1 hF => step_new hi32 iz0 rfl) ?_
  intro n8 m8 v8 hn8 hm8 hd8 hf8 a' ha
  simp only [Act.put, List.setIfInBounds_toArray, List.set_cons_succ, List.set_cons_zero] at ha
  subst ha
  obtain rfl := hf8
  refine rg_nil (fun w' hw' hF => ?_)
  obtain ⟨z, rfl⟩ := hw'
  simp only [List.drop_succ_cons, List.drop_zero]
  obtain ⟨hmz, -, hn8m, b8⟩ := end_last hF
  rw [HFl.out]
  generalize hDg : sha (tagL st tag (stB b) (w8 cnt)) = Dg at *
  have hDl : Dg.length = 32 := by rw [← hDg]; exact sha_length _
  have HDL := Lib.hid hDl
  have b1z := b1'.gw z
  have b2z := b2'.gw z
  have b3z := b3'.gw z
  have hBz := hB.trans (z.h.mono hB.size)
  have h3W := b3'.lt
  refine wpList_put rfl 58 (.tmp 8) (.tmp 16) rfl rfl (cells := byc Dg) rfl b8 (by rw [byc_length, HDL.out, List.size_toArray, zb_len]; decide) (by rw [b32_size, byc_length, HDL.out]) (byc_all _) (spl_all _ _ (by rw [List.size_toArray, zb_len, byc_length, HDL.out])) fun X hX bX => ?_
  have b1X := hX.blk b1z (by omega)
  have b2X := hX.blk b2z (by omega)
  have b3X := hX.blk b3z (by omega)
  have hBX := below_put hBz hX (by omega)
  have hn8w : w.heap.size + 1 + 1 < n8 := by omega
  clear hF c32 hd5 hd6 hd8 hf6 b1' b2' b3' b1z b2z b3z hBz hX b8 hmz hDl sz0 sz1 sz2 hsl hi32 iz0 iz1 iz2 hDg
  have e1 := b1X.cell 32
  rw [show (tsc st cnt).toArray[32]? = some (.int .u64 (cnt : Int)) by unfold tsc; simp [byc_length, HST.out.len]] at e1
  have e2 := b1X.frozen
  go_upto_region 3 with (fail)
  refine set1 (M := fun W => Code.wp _ _ _ _ W) b1X fun Y hY bY => ?_
  rw [tsc_next _ _ HST.out.len] at bY
  have b2Y := hY.blk b2X (by omega)
  have b3Y := hY.blk b3X (by omega)
  have b8Y := hY.blk bX (by omega)
  have hBY := below_put hBX hY (Nat.le_refl _)
  clear e1 e2 b1X b2X b3X bX hBX hY
  refine wp_region_swap 2 1 undef [(0, Spec.val (tsV st (cnt + 1))), (1, Spec.val (dgv Dg))] (by kernel_rfl) (by kernel_rfl) (by kernel_rfl) rfl rfl rfl rfl trivial ?_ ?_
  refine rg_val rfl rfl (fun W1 hW1 hF => step_loadR (cs := tsc st (cnt + 1)) Tryz.underlying60 rfl (by rw [tr_size, tsc_len _ _ HST.out.len]) rfl rfl (blk_range (bY.below (grw_below hW1) bY.lt))) ?_
  intro a' ha
  simp only [Act.put, List.setIfInBounds_toArray, List.set_cons_succ, List.set_cons_zero] at ha
  subst ha
  refine rg_val rfl rfl (fun W1 hW1 hF => step_loadR (cs := byc Dg) b32_under rfl (by rw [b32_size, byc_length, HDL.out]) rfl rfl (blk_range (b8Y.below (grw_below hW1) b8Y.lt))) ?_
  intro a' ha
  simp only [Act.put, List.setIfInBounds_toArray, List.set_cons_succ, List.set_cons_zero] at ha
  subst ha
  refine rg_nil (fun w' hw' hF => ?_)
  obtain ⟨y, rfl⟩ := hw'
  simp only [List.drop_succ_cons, List.drop_zero]
  rotate_left 1
  refine rg_val rfl rfl (fun W1 hW1 hF => step_loadR (cs := tsc st (cnt + 1)) Tryz.underlying60 rfl (by rw [tr_size, tsc_len _ _ HST.out.len]) rfl rfl (blk_range (bY.below (grw_below hW1) bY.lt))) ?_
  intro a' ha
  simp only [Act.put, List.setIfInBounds_toArray, List.set_cons_succ, List.set_cons_zero] at ha
  subst ha
  refine rg_pass rfl rfl ?_
  intro a' ha
  simp only [Act.put, List.setIfInBounds_toArray, List.set_cons_succ, List.set_cons_zero] at ha
  subst ha
  refine rg_nil (fun w' hw' hF => ?_)
  obtain ⟨y, rfl⟩ := hw'
  simp only [List.drop_succ_cons, List.drop_zero]
  refine wpList_putS ?_
  intro a' ha
  simp only [Act.put, List.setIfInBounds_toArray, List.set_cons_succ, List.set_cons_zero] at ha
  subst ha
  rotate_right 1
  all_goals
    clear hF
    have b2z := b2Y.gw y
    have b3z := b3Y.gw y
    have b8z := b8Y.gw y
    have hBz := hBY.trans (y.h.mono hBY.size)
    refine wpList_put rfl 60 (.tmp 6) (.tmp 21) rfl rfl (cells := tsc st (cnt + 1)) rfl b2z (by rw [tsc_len _ _ HST.out.len, hcs0]; decide) (by rw [tr_size, tsc_len _ _ HST.out.len]) (ts_one _ _) (spl_all _ _ (by rw [hcs0, tsc_len _ _ HST.out.len])) fun Z hZ bZ => ?_
    have b3Z := hZ.blk b3z (by omega)
    have b8Z := hZ.blk b8z (by omega)
    have hBZ := below_put hBz hZ (by omega)
    clear b2z b3z b8z hBz
  rotate_left 1
  simp only [Act.put, List.setIfInBounds_toArray, List.set_cons_succ, List.set_cons_zero]
  refine wpList_plain rfl fun K hK => wp_of_step (stepAt_mono (fun v w' hh => ?_) (step_loadR0 (cs := byc Dg) b32_under rfl (by rw [b32_size, byc_length, HDL.out]) rfl rfl (blk_range b8Z)))
  obtain ⟨rfl, rfl⟩ := hh
  refine hK _ _ ?_
  clear hK K
  rotate_right 1
  all_goals
    refine wpList_put rfl 58 (.tmp 7) (.tmp 22) rfl rfl (cells := byc Dg) rfl b3Z (by rw [byc_length, HDL.out, hcs1]; decide) (by rw [b32_size, byc_length, HDL.out]) (byc_all _) (spl_all _ _ (by rw [hcs1, byc_length, HDL.out])) fun V hV bV => ?_
    have b2V := hV.blk bZ (by omega)
    have hBV := below_put hBZ hV (by omega)
    go_wp2_with fail
    exact bodyPost_ret (v := .tuple #[tsV st (cnt + 1), dgv Dg]) (res_two (c1 := tsc st (cnt + 1)) (c2 := byc Dg) rfl rfl rfl Tryz.underlying60 rfl (by rw [tr_size, tsc_len _ _ HST.out.len]) b2V b32_under rfl (by rw [b32_size, byc_length, HDL.out]) bV) rfl ⟨rfl, hBV⟩
end Go.Proofs.YtkgglhakimkkhaaGreatDoor
namespace Go.Proofs.YtkgglhakimkkhaaGreatDoor
open Go.RowKit

theorem en_attestor_transcript_Challenge : ∀ args w, (callFunc 56 args).run Tryz.prog w = .ok (.enter 56 args) w := enters_of Tryz.func56 (by kernel_rfl) rfl
theorem gRedF (x : Int) (h : Word x) (w : World) : Calls Tryz.prog 88 #[.int .u64 x] w (Ret (.int .u64 (fv (fz x))) w) :=
  (fRed x h.1 h.2 w).mono fun e w' ⟨he, hw⟩ => by
    subst hw
    exact ⟨by rw [he, fv_fz], Below.refl _ _⟩
attribute [local irreducible] wpRg
set_option maxRecDepth 100000 in
set_option maxHeartbeats 4000000 in
theorem gChal (st : List Nat) (cnt : Nat) (hst : StOk st) (hcnt : cnt < 1000000000) (b : ByteArray) (hb : b.size ≤ 200) (w : World) (hL : Lsh w) :
    Calls Tryz.prog 56 #[tsV st cnt, .string b] w (Ret (.tuple #[tsV st (cnt + 1), ev (chaT st cnt (stB b))]) w) := by
  obtain ⟨S, hS⟩ : ∃ S, S = tsV st cnt := ⟨_, rfl⟩
  rw [← hS]
  obtain ⟨i32', hi32, iz0, iz1, iz2⟩ := info_parts b32_info
  have HST := Lib.hid hst
  have HL := Lib.hid hL
  clear hst hL
  go_enter Tryz.func56, Tryz.ntmps56
  go_upto_region 1 with (fail)
  refine wp_stk3 fun W hB hz b1 b2 b3 => ?_
  have b1' : Blk W w.heap.size 60 (tsc st cnt).toArray := by first | exact b1 | (rw [hS] at b1; exact b1)
  obtain ⟨cs0, hcs0, b2'⟩ : ∃ cs : Array Value, cs.size = 33 ∧ Blk W (w.heap.size + 1) 60 cs := ⟨_, rfl, b2⟩
  obtain ⟨cs1, hcs1, b3'⟩ : ∃ cs : Array Value, cs.size = 2 ∧ Blk W (w.heap.size + 1 + 1) 26 cs := ⟨_, rfl, b3⟩
  clear b1 b2 b3 hz
  have h3W := b3'.lt
  refine wp_region_lit ?_
  refine wpList_plain rfl fun K1 hK1 => wp_of_step (stepAt_mono (fun v8 w8' hh => ?_) (step_loadR0 (cs := tsc st cnt) Tryz.underlying60 rfl (by rw [tr_size, tsc_len _ _ HST.out.len]) rfl rfl (blk_range b1')))
  obtain ⟨rfl, rfl⟩ := hh
  refine hK1 _ _ ?_
  clear hK1 K1
  try simp only [Act.put, List.setIfInBounds_toArray, List.set_cons_succ, List.set_cons_zero]
  iterate 1 (refine wpList_plain rfl fun K hK => ?_; go_big_op; refine hK _ _ ?_; clear hK K)
  refine wpList_plain rfl fun K3 hK3 => wp_of_step (stepAt_mono (fun v10 w10 hh => ?_) (step_callv en_attestor_transcript_draw (gDraw st cnt 2 HST.out hcnt (by decide) b hb _ (HL.out.keep hB)) rfl rfl))
  obtain ⟨rfl, B10⟩ := hh
  refine hK3 _ _ ?_
  clear hK3 K3
  try simp only [Act.put, List.setIfInBounds_toArray, List.set_cons_succ, List.set_cons_zero]
  iterate 3 (refine wpList_plain rfl fun K hK => ?_; go_big_op; refine hK _ _ ?_; clear hK K)
  rw [show sha (tagL st 2 (stB b) (w8 cnt)) = chb st cnt (stB b) from rfl]
  refine wpList_plain rfl fun K5 hK5 => wp_of_step (stepAt_mono (fun v6 w6 hh => ?_) (step_new0 hi32 iz0 rfl))
  obtain ⟨rfl, rfl⟩ := hh
  refine hK5 _ _ ?_
  clear hK5 K5
  try simp only [Act.put, List.setIfInBounds_toArray, List.set_cons_succ, List.set_cons_zero]
  have b6 : Blk (w10.alloc (.cells (Value.agg (zb 32).toArray).cells 58)) w10.heap.size 58 (zb 32).toArray := World.alloc_heap_new w10 _
  have BA := (Below.refl _ w10).alloc (Nat.le_refl _) (.cells (Value.agg (zb 32).toArray).cells 58)
  have b1x := (b1'.keep B10).keep BA
  have b2x := (b2'.keep B10).keep BA
  have b3x := (b3'.keep B10).keep BA
  have hBx := hB.trans ((B10.trans (BA.mono B10.size)).mono hB.size)
  have h6w : w8'.heap.size ≤ w10.heap.size := B10.size
  have hcl : (chb st cnt (stB b)).length = 32 := sha_length _
  have HCL := Lib.hid hcl
  obtain ⟨n6, hn6⟩ : ∃ n, n = w10.heap.size := ⟨_, rfl⟩
  rw [← hn6] at b6 h6w ⊢
  refine wpList_put rfl 60 (.tmp 2) (.tmp 11) rfl rfl (cells := tsc st (cnt + 1)) rfl b1x (by rw [List.size_toArray, tsc_len _ _ HST.out.len, tsc_len _ _ HST.out.len]; decide) (by rw [tr_size, tsc_len _ _ HST.out.len]) (ts_one _ _) (spl_all _ _ (by rw [List.size_toArray, tsc_len _ _ HST.out.len, tsc_len _ _ HST.out.len])) fun X hX bX => ?_
  have b2X := hX.blk b2x (by omega)
  have b3X := hX.blk b3x (by omega)
  have b6X := hX.blk b6 (by omega)
  have hBX := below_put hBx hX (Nat.le_refl _)
  clear b1x b2x b3x b6 hBx hX BA B10 b1' b2' b3'
  refine wpList_put rfl 58 (.tmp 6) (.tmp 12) rfl rfl (cells := byc (chb st cnt (stB b))) rfl b6X (by rw [byc_length, HCL.out, List.size_toArray, zb_len]; decide) (by rw [b32_size, byc_length, HCL.out]) (byc_all _) (spl_all _ _ (by rw [List.size_toArray, zb_len, byc_length, HCL.out])) fun Y hY bY => ?_
  have b1Y := hY.blk bX (by omega)
  have b2Y := hY.blk b2X (by omega)
  have b3Y := hY.blk b3X (by omega)
  have hBY := below_put hBX hY (by omega)
  clear bX b2X b3X b6X hBX hY hcl
  have hn6w : w.heap.size + 1 + 1 < n6 := by omega
  generalize hCh : chb st cnt (stB b) = Ch at *
  have hC8 : ∀ x ∈ Ch, x < 256 := by rw [← hCh]; exact sha_lt _
  have HC8 := Lib.hid hC8
  have HCH := Lib.hid hCh
  have HW0 : Hid (Word ((le8 Ch 0 8 : Nat) : Int)) := Lib.hid (by rw [← hCh]; exact chb_word st (stB b) cnt 0)
  have HW8 : Hid (Word ((le8 Ch 8 8 : Nat) : Int)) := Lib.hid (by rw [← hCh]; exact chb_word st (stB b) cnt 8)
  clear hC8 hCh
  try simp only [Act.put, List.setIfInBounds_toArray, List.set_cons_succ, List.set_cons_zero]
  go_wp2_with fail
  refine wp_region_swap 8 7 undef [(0, Spec.val (tsV st (cnt + 1))), (1, Spec.val (dgv Ch)), (2, Spec.val (.int .u64 (le8 Ch 0 8 : Nat))), (3, Spec.val (.int .u64 (fv (fz (le8 Ch 0 8 : Nat))))), (4, Spec.val (dgv Ch)), (5, Spec.val (.int .u64 (le8 Ch 8 8 : Nat))), (6, Spec.val (.int .u64 (fv (fz (le8 Ch 8 8 : Nat)))))] (by kernel_rfl) (by kernel_rfl) (by kernel_rfl) rfl rfl rfl rfl trivial ?_ ?_
  refine rg_val rfl rfl (fun W1 hW1 hF => step_loadR (cs := tsc st (cnt + 1)) Tryz.underlying60 rfl (by rw [tr_size, tsc_len _ _ HST.out.len]) rfl rfl (blk_range (b1Y.below (grw_below hW1) b1Y.lt))) ?_
  intro a' ha
  simp only [Act.put, List.setIfInBounds_toArray, List.set_cons_succ, List.set_cons_zero] at ha
  subst ha
  refine rg_val rfl rfl (fun W1 hW1 hF => step_loadR (cs := byc Ch) b32_under rfl (by rw [b32_size, byc_length, HCL.out]) rfl rfl (blk_range (bY.below (grw_below hW1) bY.lt))) ?_
  intro a' ha
  simp only [Act.put, List.setIfInBounds_toArray, List.set_cons_succ, List.set_cons_zero] at ha
  subst ha
  refine rg_val rfl rfl (fun W1 hW1 hF => step_callv en_attestor_transcript_word (gWordD Ch HCL.out HC8.out 0 (by decide) W1) rfl rfl) ?_
  intro a' ha
  simp only [Act.put, List.setIfInBounds_toArray, List.set_cons_succ, List.set_cons_zero] at ha
  subst ha
  refine rg_val rfl rfl (fun W1 hW1 hF => step_callv en_attestor_field_Reduce (gRedF _ HW0.out W1) rfl rfl) ?_
  intro a' ha
  simp only [Act.put, List.setIfInBounds_toArray, List.set_cons_succ, List.set_cons_zero] at ha
  subst ha
  refine rg_val rfl rfl (fun W1 hW1 hF => step_loadR (cs := byc Ch) b32_under rfl (by rw [b32_size, byc_length, HCL.out]) rfl rfl (blk_range (bY.below (grw_below hW1) bY.lt))) ?_
  intro a' ha
  simp only [Act.put, List.setIfInBounds_toArray, List.set_cons_succ, List.set_cons_zero] at ha
  subst ha
  refine rg_val rfl rfl (fun W1 hW1 hF => step_callv en_attestor_transcript_word (gWordD Ch HCL.out HC8.out 1 (by decide) W1) rfl rfl) ?_
  intro a' ha
  simp only [Act.put, List.setIfInBounds_toArray, List.set_cons_succ, List.set_cons_zero] at ha
  subst ha
  refine rg_val rfl rfl (fun W1 hW1 hF => step_callv en_attestor_field_Reduce (gRedF _ HW8.out W1) rfl rfl) ?_
  intro a' ha
  simp only [Act.put, List.setIfInBounds_toArray, List.set_cons_succ, List.set_cons_zero] at ha
  subst ha
  refine rg_det rfl rfl rfl (fun K hK => ?_)
  go_big_quiet_op
  refine hK _ ?_; clear hK K
  refine rg_nil (fun w' hw' hF => ?_)
  obtain ⟨z, rfl⟩ := hw'
  simp only [List.drop_succ_cons, List.drop_zero]
  rotate_left 1
  refine rg_val rfl rfl (fun W1 hW1 hF => step_loadR (cs := tsc st (cnt + 1)) Tryz.underlying60 rfl (by rw [tr_size, tsc_len _ _ HST.out.len]) rfl rfl (blk_range (b1Y.below (grw_below hW1) b1Y.lt))) ?_
  intro a' ha
  simp only [Act.put, List.setIfInBounds_toArray, List.set_cons_succ, List.set_cons_zero] at ha
  subst ha
  refine rg_val rfl rfl (fun W1 hW1 hF => step_loadR (cs := byc Ch) b32_under rfl (by rw [b32_size, byc_length, HCL.out]) rfl rfl (blk_range (bY.below (grw_below hW1) bY.lt))) ?_
  intro a' ha
  simp only [Act.put, List.setIfInBounds_toArray, List.set_cons_succ, List.set_cons_zero] at ha
  subst ha
  refine rg_val rfl rfl (fun W1 hW1 hF => step_callv en_attestor_transcript_word (gWordD Ch HCL.out HC8.out 0 (by decide) W1) rfl rfl) ?_
  intro a' ha
  simp only [Act.put, List.setIfInBounds_toArray, List.set_cons_succ, List.set_cons_zero] at ha
  subst ha
  refine rg_val rfl rfl (fun W1 hW1 hF => step_callv en_attestor_field_Reduce (gRedF _ HW0.out W1) rfl rfl) ?_
  intro a' ha
  simp only [Act.put, List.setIfInBounds_toArray, List.set_cons_succ, List.set_cons_zero] at ha
  subst ha
  refine rg_val rfl rfl (fun W1 hW1 hF => step_loadR (cs := byc Ch) b32_under rfl (by rw [b32_size, byc_length, HCL.out]) rfl rfl (blk_range (bY.below (grw_below hW1) bY.lt))) ?_
  intro a' ha
  simp only [Act.put, List.setIfInBounds_toArray, List.set_cons_succ, List.set_cons_zero] at ha
  subst ha
  refine rg_val rfl rfl (fun W1 hW1 hF => step_callv en_attestor_transcript_word (gWordD Ch HCL.out HC8.out 1 (by decide) W1) rfl rfl) ?_
  intro a' ha
  simp only [Act.put, List.setIfInBounds_toArray, List.set_cons_succ, List.set_cons_zero] at ha
  subst ha
  refine rg_val rfl rfl (fun W1 hW1 hF => step_callv en_attestor_field_Reduce (gRedF _ HW8.out W1) rfl rfl) ?_
  intro a' ha
  simp only [Act.put, List.setIfInBounds_toArray, List.set_cons_succ, List.set_cons_zero] at ha
  subst ha
  refine rg_pass rfl rfl ?_
  intro a' ha
  simp only [Act.put, List.setIfInBounds_toArray, List.set_cons_succ, List.set_cons_zero] at ha
  subst ha
  refine rg_nil (fun w' hw' hF => ?_)
  obtain ⟨z, rfl⟩ := hw'
  simp only [List.drop_succ_cons, List.drop_zero]
  refine wpList_putS ?_
  intro a' ha
  simp only [Act.put, List.setIfInBounds_toArray, List.set_cons_succ, List.set_cons_zero] at ha
  subst ha
  rotate_right 1
  all_goals
    clear hF
    have b2z := b2Y.gw z
    have b3z := b3Y.gw z
    have hBz := hBY.trans (z.h.mono hBY.size)
    refine wpList_put rfl 60 (.tmp 4) (.tmp 13) rfl rfl (cells := tsc st (cnt + 1)) rfl b2z (by rw [tsc_len _ _ HST.out.len, hcs0]; decide) (by rw [tr_size, tsc_len _ _ HST.out.len]) (ts_one _ _) (spl_all _ _ (by rw [hcs0, tsc_len _ _ HST.out.len])) fun Z hZ bZ => ?_
    have b3Z := hZ.blk b3z (by omega)
    have hBZ := below_put hBz hZ (by omega)
    clear b2z b3z hBz hZ
  rotate_left 1
  simp only [Act.put, List.setIfInBounds_toArray, List.set_cons_succ, List.set_cons_zero]
  iterate 1 (refine wpList_plain rfl fun K hK => ?_; go_big_op; refine hK _ _ ?_; clear hK K)
  rotate_right 1
  all_goals
    refine wpList_put rfl 26 (.tmp 5) (.tmp 20) rfl rfl (cells := ec (⟨fz (le8 Ch 0 8 : Nat), fz (le8 Ch 8 8 : Nat)⟩ : E)) rfl b3Z (by rw [hcs1]; exact Nat.le_refl _) (by kernel_rfl) rfl (spl_all _ _ (by rw [hcs1]; rfl)) fun V hV bV => ?_
    have b2V := hV.blk bZ (by omega)
    have hBV := below_put hBZ hV (by omega)
    go_wp2_with fail
    rw [show chaT st cnt (stB b) = ⟨fz (le8 Ch 0 8 : Nat), fz (le8 Ch 8 8 : Nat)⟩ by rw [chaT_eq, HCH.out]]
    exact bodyPost_ret (v := .tuple #[tsV st (cnt + 1), ev ⟨fz (le8 Ch 0 8 : Nat), fz (le8 Ch 8 8 : Nat)⟩]) (res_two (c1 := tsc st (cnt + 1)) (c2 := ec (⟨fz (le8 Ch 0 8 : Nat), fz (le8 Ch 8 8 : Nat)⟩ : E)) rfl rfl rfl Tryz.underlying60 rfl (by rw [tr_size, tsc_len _ _ HST.out.len]) b2V Tryz.underlying26 rfl (by kernel_rfl) bV) rfl ⟨rfl, hBV⟩
end Go.Proofs.YtkgglhakimkkhaaGreatDoor
namespace Go.Proofs.YtkgglhakimkkhaaGreatDoor
open Go.RowKit
attribute [local go_sem] Oper.semAt_some

theorem agree_fac (x y : E) : x * y + x * y + 1 - (x + y) = fac x y := by
  unfold fac
  apply E.ext_ <;> simp only [mul_a, mul_b, add_a, add_b, sub_a, sub_b, one_a, one_b] <;> grind
set_option maxRecDepth 100000 in
set_option maxHeartbeats 1000000 in
theorem gAgree (x y : E) (w : World) (hL : Laid w) : Calls Tryz.prog 75 #[ev x, ev y] w (Ret (ev (fac x y)) w) := by
  rw [← agree_fac]
  unfold ev
  go_enter Tryz.func75, Tryz.ntmps75
  go_wp2_with fail
  refine calls_stk3 fun W hB hz b1 b2 b3 => ?_
  refine (eMul x y _).mono ?_
  rintro e w2 ⟨he, hb⟩
  unfold ev at he
  subst he
  go_wp2
  refine wp_stk1 fun W3 hB3 hz3 b5 => ?_
  have hb3 := hb.trans (hB3.mono hb.size)
  have d1 := b1.keep hb3
  have d2 := b2.keep hb3
  have d3 := b3.keep hb3
  have hB4 := (hB.trans (hb3.mono hB.size))
  have HL := hL.keep hB4
  have c1 := gw_blk d1
  have c2 := gw_blk d2
  have c5 := gw_blk b5
  have g1 := gw_cell HL.2.2 HL.1
  have g2 := gw_cell HL.2.2 HL.2.1
  refine wp_region_rg 9 [(2, Spec.val (.agg #[.int .u64 (fv (x * y + x * y).a), .int .u64 (fv (x * y + x * y).b)])), (4, Spec.val (.agg #[.int .u64 (fv (x * y + x * y + 1).a), .int .u64 (fv (x * y + x * y + 1).b)])), (7, Spec.val (.agg #[.int .u64 (fv (x + y).a), .int .u64 (fv (x + y).b)])), (8, Spec.val (.agg #[.int .u64 (fv (x * y + x * y + 1 - (x + y)).a), .int .u64 (fv (x * y + x * y + 1 - (x + y)).b)]))] (by kernel_rfl) (by kernel_rfl) (by kernel_rfl) trivial ?_
  iterate 2 (refine rg_det rfl rfl rfl (fun K hK => ?_); go_big_quiet_op; refine hK _ ?_; clear hK K)
  refine rg_val rfl rfl (fun W1 hW1 hF => step_callv en_attestor_ext_Add (eAdd (x * y) (x * y) W1) rfl rfl) ?_
  intro a' ha
  simp only [Act.put, List.setIfInBounds_toArray, List.set_cons_succ, List.set_cons_zero] at ha
  subst ha
  refine rg_det rfl rfl rfl (fun K hK => ?_)
  go_big_quiet_op
  refine hK _ ?_; clear hK K
  refine rg_val rfl rfl (fun W1 hW1 hF => step_callv en_attestor_ext_Add (eAdd (x * y + x * y) 1 W1) rfl rfl) ?_
  intro a' ha
  simp only [Act.put, List.setIfInBounds_toArray, List.set_cons_succ, List.set_cons_zero] at ha
  subst ha
  iterate 2 (refine rg_det rfl rfl rfl (fun K hK => ?_); go_big_quiet_op; refine hK _ ?_; clear hK K)
  refine rg_val rfl rfl (fun W1 hW1 hF => step_callv en_attestor_ext_Add (eAdd x y W1) rfl rfl) ?_
  intro a' ha
  simp only [Act.put, List.setIfInBounds_toArray, List.set_cons_succ, List.set_cons_zero] at ha
  subst ha
  refine rg_val rfl rfl (fun W1 hW1 hF => step_callv en_attestor_ext_Sub (eSub (x * y + x * y + 1) (x + y) W1) rfl rfl) ?_
  intro a' ha
  simp only [Act.put, List.setIfInBounds_toArray, List.set_cons_succ, List.set_cons_zero] at ha
  subst ha
  refine rg_nil (fun w' hw' hF => ?_)
  obtain ⟨z, rfl⟩ := hw'
  simp only [List.drop_succ_cons, List.drop_zero]
  have e1 := (d3.gw z).cell
  have e2 := (d3.gw z).frozen
  go_wp2
  refine bodyPost_ret (v := .agg #[.int .u64 (fv (x * y + x * y + 1 - (x + y)).a), .int .u64 (fv (x * y + x * y + 1 - (x + y)).b)]) (by simp [results, Tryz.results75, go_sem, e1]) rfl ⟨rfl, ?_⟩
  exact ((hB4.trans (z.h.mono hB4.size)).setCell (by show w.heap.size ≤ w.heap.size + 1 + 1; omega) _).setCell (by show w.heap.size ≤ w.heap.size + 1 + 1; omega) _

set_option maxRecDepth 100000 in
set_option maxHeartbeats 1000000 in
theorem gEq (p q : List E) (hpq : q.length = p.length) (v1 v2 : Value) (lo1 hi1 lo2 hi2 : Nat) (w : World) (h1 : ExtS lo1 hi1 w v1 p) (h2 : ExtS lo2 hi2 w v2 q) (hL : Laid w) :
    Calls Tryz.prog 45 #[v1, v2] w (Ret (ev (pfac p q p.length)) w) := by
  obtain ⟨A1, cap1, rfl⟩ := h1.len
  obtain ⟨A2, cap2, rfl⟩ := h2.len
  have hlen := h1.2.1
  have HPQ := Lib.hid hpq
  clear hpq
  unfold ev
  go_enter Tryz.func45, Tryz.ntmps45
  have g1 := hL.1
  have g2 := hL.2.1
  have g3 : w.heap.size ≠ 0 := by have := hL.2.2; omega
  have g4 : 0 < w.heap.size := hL.2.2
  go_wp2
  refine wp_stk2 fun W3 hB3 hz3 d1 b5 => ?_
  have hne : w.heap.size ≠ w.heap.size + 1 := by omega
  clear g1 g2 g3 g4
  go_loopw [11] (fun i wr => ∃ k : Nat, k ≤ p.length ∧ i = .int .i64 k ∧ Blk wr (w.heap.size + 1) 26 #[.int .u64 (fv (pfac p q k).a), .int .u64 (fv (pfac p q k).b)] ∧ Blk wr w.heap.size 26 #[.int .u64 0, .int .u64 0] ∧ Below w.heap.size w wr) (fun i _ => p.length - (intOf i).toNat)
  case atStart => exact ⟨0, Nat.zero_le _, rfl, b5, d1, hB3⟩
  case round =>
    obtain ⟨k, hk, rfl, bk, br, hB⟩ := hrel
    clear b5 d1 hB3
    by_cases hlt : k < p.length
    · have hlt2 : k < q.length := by rw [HPQ.out]; exact hlt
      obtain ⟨g, off, cap', hv, q1, q2, q3, q4, q5⟩ := exts_cells (Rd.keep h1 hB) (by omega)
      cases hv
      obtain ⟨g', off', cap'', hv, r1, r2, r3, r4, r5⟩ := exts_cells (Rd.keep h2 hB) (by omega)
      cases hv
      obtain ⟨x, hx, hxd⟩ := get_of hlt
      obtain ⟨y, hy, hyd⟩ := get_of hlt2
      obtain ⟨d1, d2⟩ := q5 k x hx
      obtain ⟨d3, d4⟩ := r5 k y hy
      have HF := Lib.hid (show pfac p q k * fac x y = pfac p q (k + 1) by rw [pfac, hxd, hyd])
      have hLr := hL.keep hB
      have hwr := hB.size
      clear q5 r5 hx hy hxd hyd h1 h2
      generalize pfac p q k = m at *
      go_wp2
      refine wp_stk1 fun W5 hB5 hz5 b7 => ?_
      have c3 := gw_cell (W := W5) (Nat.lt_of_lt_of_le r4 hB5.size) ((hB5.cell (p := ⟨g', off' + k * 2, none⟩) r4).trans d3)
      have c4 := gw_cell (W := W5) (Nat.lt_of_lt_of_le r4 hB5.size) ((hB5.cell (p := ⟨g', off' + k * 2 + 1, none⟩) r4).trans d4)
      have bk5 := bk.keep hB5
      have br5 := br.keep hB5
      have c5 := gw_blk bk5
      have c7 := gw_blk b7
      have L5 := hLr.keep hB5
      have hB6 := hB.trans (hB5.mono hwr)
      have h6 := hB6.size
      clear d1 d2 d3 d4
      refine wp_region_rg 8 [(6, Spec.val (.agg #[.int .u64 (fv (fac x y).a), .int .u64 (fv (fac x y).b)])), (7, Spec.val (.agg #[.int .u64 (fv (m * fac x y).a), .int .u64 (fv (m * fac x y).b)]))] (by kernel_rfl) (by kernel_rfl) (by kernel_rfl) trivial ?_
      iterate 6 (refine rg_det rfl rfl rfl (fun K hK => ?_); go_big_quiet_op; refine hK _ ?_; clear hK K)
      refine rg_val rfl rfl (fun W1 hW1 hF => step_callv en_attestor_mle_agree (gAgree x y W1 (L5.keep (grw_below hW1))) rfl rfl) ?_
      intro a' ha
      simp only [Act.put, List.setIfInBounds_toArray, List.set_cons_succ, List.set_cons_zero] at ha
      subst ha
      refine rg_val rfl rfl (fun W1 hW1 hF => step_callv en_attestor_ext_Mul (eMul m (fac x y) W1) rfl rfl) ?_
      intro a' ha
      simp only [Act.put, List.setIfInBounds_toArray, List.set_cons_succ, List.set_cons_zero] at ha
      subst ha
      refine rg_nil (fun w' hw' hF => ?_)
      obtain ⟨z, rfl⟩ := hw'
      simp only [List.drop_succ_cons, List.drop_zero]
      have e1 := (bk5.gw z).cell
      have e2 := (bk5.gw z).frozen
      clear hF c3 c4 c5 c7
      go_wp2
      exact ⟨⟨k + 1, by omega, by go_num, by rw [← HF.out]; exact blk_set2 (bk5.gw z), blk_far2 (br5.gw z) hne, below_set2 (hB6.trans (z.h.mono h6)) (by omega)⟩, by simp [intOf]; omega⟩
    · obtain rfl : k = p.length := by omega
      have e1 := bk.cell
      have e3 := br.cell
      have e4 := br.frozen
      go_wp2
      refine bodyPost_ret (v := .agg #[.int .u64 (fv (pfac p q p.length).a), .int .u64 (fv (pfac p q p.length).b)]) (by simp [results, Tryz.results45, go_sem, e3]) rfl ⟨rfl, ?_⟩
      exact below_set2 hB (Nat.le_refl _)
end Go.Proofs.YtkgglhakimkkhaaGreatDoor
