/-
  WiringMatchesReference: the walk.
-/
import Derived.Test.YtbmgngoeiadmmaaDoorLay
import Derived.Test.YtbmgngoeiadmmaaDoorRt
import Derived.Test.YtbmgngoeiadmmaaDoorCo3
import Derived.Test.YtbmgngoeiadmmaaDoorSame
namespace Go.Proofs.YtbmgngoeiadmmaaDoor
open Go.RowKit

set_option maxRecDepth 100000 in
set_option maxHeartbeats 8000000 in
theorem wkMatches (q : Qy) (vL vU vP vQ : Value) (w : World) (h : QyS w.heap.size w q vL vU vP vQ) (hL : Laid w) :
    Calls Tryd.prog 3 #[qv vL vU vP vQ q] w (Ret (.bool true) w) := by
  unfold qv
  have hpk := q.p_len
  have hqk := q.q_len
  go_enter Tryd.func3, Tryd.ntmps3
  go_wp2_with fail
  refine calls_stk1 fun W1 hB1 hz1 b1 => ?_
  refine (lSanity W1 (hL.keep hB1)).mono ?_
  rintro e w2 ⟨rfl, hb2⟩
  have hB2 := hB1.trans (hb2.mono hB1.size)
  have e1 := (b1.keep hb2).cell
  go_wp2_with fail
  refine (lMade q vL vU vP vQ w.heap.size w2 (h.keep hB2) hB2.size).mono ?_
  rintro e w3 ⟨a, b, c, d, rfl, m1, m2, m3, m4, hb3⟩
  obtain ⟨Aa, capa, rfl⟩ := Rd.len m1
  obtain ⟨Ac, capc, rfl⟩ := Rd.len m3
  obtain ⟨Ad, capd, rfl⟩ := Rd.len m4
  have hB3 := hB2.trans (hb3.mono hB2.size)
  have Ly := lay_made h.K.1 m1 m2 m3 m4 (hL.keep hB3)
  have HPQ := Lib.hid (hqk.trans hpk.symm)
  clear e1 h m1 m2 m3 m4 hpk hqk
  unfold endsV
  generalize q.gs = gs at *
  generalize q.us = us at *
  generalize q.p = pp at *
  generalize q.q = qq at *
  generalize q.x = x at *
  generalize q.y = y at *
  go_wp2_with fail
  refine wp_stk1 fun W4 hB4 hz4 b4 => ?_
  have L4 := Ly.keep hB4
  have hBw4 := hB3.trans (hB4.mono hB3.size)
  have c1 := gw_blk b4
  refine wp_region_rg 12 [(5, .rel (TabA (tabsT pp.length (gs.zip us))) (SlF 4)), (11, .rel (TabA (tabsT pp.length (gs.zip us))) (SlF 4))] (by kernel_rfl) (by kernel_rfl) (by kernel_rfl) ⟨fit_tab, fit_tab, trivial⟩ ?_
  refine rg_det rfl rfl rfl (fun K hK => ?_)
  go_big_quiet_op
  refine hK _ ?_; clear hK K
  refine rg_det rfl rfl rfl (fun K hK => ?_)
  go_big_quiet_op
  refine hK _ ?_; clear hK K
  refine rg_det rfl rfl rfl (fun K hK => ?_)
  go_big_quiet_op
  refine hK _ ?_; clear hK K
  refine rg_det rfl rfl rfl (fun K hK => ?_)
  go_big_quiet_op
  refine hK _ ?_; clear hK K
  refine rg_det rfl rfl rfl (fun K hK => ?_)
  go_big_quiet_op
  refine hK _ ?_; clear hK K
  refine rg_rel rfl rfl (fun W1 hW1 hF => step_callr en_attestor_wiring_Tables ((L4.grw hW1).tables HPQ.out) rfl rfl) ?_
  intro n5 m5 v5 hn5 hm5 hd5 hf5 a' ha
  simp only [Act.put, List.setIfInBounds_toArray, List.set_cons_succ, List.set_cons_zero] at ha
  subst ha
  obtain ⟨A5, cap5, rfl⟩ := hf5
  refine rg_det rfl rfl rfl (fun K hK => ?_)
  go_big_quiet_op
  refine hK _ ?_; clear hK K
  refine rg_det rfl rfl rfl (fun K hK => ?_)
  go_big_quiet_op
  refine hK _ ?_; clear hK K
  refine rg_det rfl rfl rfl (fun K hK => ?_)
  go_big_quiet_op
  refine hK _ ?_; clear hK K
  refine rg_det rfl rfl rfl (fun K hK => ?_)
  go_big_quiet_op
  refine hK _ ?_; clear hK K
  refine rg_det rfl rfl rfl (fun K hK => ?_)
  go_big_quiet_op
  refine hK _ ?_; clear hK K
  refine rg_rel rfl rfl (fun W1 hW1 hF => step_callr en_attestor_attestorref17_Tables (rTables gs us pp.length _ _ 0 _ 0 _ W1 (L4.grw hW1).hl (L4.grw hW1).hu L4.len (fun g hg => by have := L4.ok g hg; rw [HPQ.out] at this; exact this) L4.pl) rfl rfl) ?_
  intro n11 m11 v11 hn11 hm11 hd11 hf11 a' ha
  simp only [Act.put, List.setIfInBounds_toArray, List.set_cons_succ, List.set_cons_zero] at ha
  subst ha
  obtain ⟨A11, cap11, rfl⟩ := hf11
  refine rg_nil (fun w' hw' hF => ?_)
  obtain ⟨z, rfl⟩ := hw'
  simp only [List.drop_succ_cons, List.drop_zero]
  obtain ⟨hm11, t11⟩ := end_last hF
  obtain ⟨hm5, t5⟩ := end_last (end_init hF)
  clear hF c1
  obtain ⟨g5, o5, cap5', hv5, p1, p2, p3, p4, p5⟩ := tab_cells t5 (Nat.succ_pos _)
  obtain ⟨g11, o11, cap11', hv11, q1, q2, q3, q4, q5⟩ := tab_cells t11 (Nat.succ_pos _)
  cases hv5
  cases hv11
  have Lz := L4.keep z.h
  have b4z := b4.keep z.h
  have hBz := hBw4.trans (z.h.mono hBw4.size)
  go_wp2_with fail
  go_loopw [9] (fun i wr => ∃ k : Nat, k ≤ 4 ∧ i = .int .i64 k ∧ Below z.w.heap.size z.w wr) (fun i _ => 4 - (intOf i).toNat)
  case atStart => exact ⟨0, Nat.zero_le _, rfl, Below.refl _ _⟩
  case round =>
    obtain ⟨k, hk, rfl, hB⟩ := hrel
    have hBwr := hBz.trans (hB.mono hBz.size)
    by_cases hk4 : k < 4
    · obtain ⟨xa, ca, sa⟩ := p5 k _ (tabsT_get _ _ k hk4)
      obtain ⟨xb, cb, sb⟩ := q5 k _ (tabsT_get _ _ k hk4)
      have ra := sa.keep hB
      have rb := sb.keep hB
      have f1 := gw_cell (W := wr) (Nat.lt_of_lt_of_le p4 hB.size) ((hB.cell (p := ⟨g5, o5 + k, none⟩) p4).trans ca)
      have f2 := gw_cell (W := wr) (Nat.lt_of_lt_of_le q4 hB.size) ((hB.cell (p := ⟨g11, o11 + k, none⟩) q4).trans cb)
      clear p5 q5 t5 t11 ca cb sa sb
      go_wp2_with fail
      refine wp_region_rg 10 [(8, .val (.bool true))] (by kernel_rfl) (by kernel_rfl) (by kernel_rfl) trivial ?_
      refine rg_det rfl rfl rfl (fun K hK => ?_)
      go_big_quiet_op
      refine hK _ ?_; clear hK K
      refine rg_det rfl rfl rfl (fun K hK => ?_)
      go_big_quiet_op
      refine hK _ ?_; clear hK K
      refine rg_det rfl rfl rfl (fun K hK => ?_)
      go_big_quiet_op
      refine hK _ ?_; clear hK K
      refine rg_det rfl rfl rfl (fun K hK => ?_)
      go_big_quiet_op
      refine hK _ ?_; clear hK K
      refine rg_det rfl rfl rfl (fun K hK => ?_)
      go_big_quiet_op
      refine hK _ ?_; clear hK K
      refine rg_det rfl rfl rfl (fun K hK => ?_)
      go_big_quiet_op
      refine hK _ ?_; clear hK K
      refine rg_det rfl rfl rfl (fun K hK => ?_)
      go_big_quiet_op
      refine hK _ ?_; clear hK K
      refine rg_det rfl rfl rfl (fun K hK => ?_)
      go_big_quiet_op
      refine hK _ ?_; clear hK K
      refine rg_val rfl rfl (fun W1 hW1 hF => step_callv en_attestor_attestorref02_Same (xSame (tabT pp.length (gs.zip us) k) _ _ _ _ _ _ W1 (ra.keep (grw_below hW1)) (rb.keep (grw_below hW1))) rfl rfl) ?_
      intro a' ha
      simp only [Act.put, List.setIfInBounds_toArray, List.set_cons_succ, List.set_cons_zero] at ha
      subst ha
      refine rg_det rfl rfl rfl (fun K hK => ?_)
      go_big_quiet_op
      refine hK _ ?_; clear hK K
      refine rg_nil (fun w' hw' hF => ?_)
      obtain ⟨z2, rfl⟩ := hw'
      simp only [List.drop_succ_cons, List.drop_zero]
      clear hF
      go_wp2_with fail
      refine ⟨⟨k + 1, by omega, by go_num, hB.trans (z2.h.mono hB.size)⟩, by simp [intOf]; omega⟩
    · obtain rfl : k = 4 := by omega
      have L5 := Lz.keep hB
      have c5 := gw_blk (b4z.keep hB)
      obtain ⟨pt, hpt⟩ : ∃ pt, pt = point pp qq gs us x y := ⟨_, rfl⟩
      have hl1 : pp.length ≤ 60 := Nat.le_trans L5.pl (Nat.le_of_ble_eq_true rfl)
      have hl2 : qq.length ≤ 60 := Nat.le_trans L5.ql (Nat.le_of_ble_eq_true rfl)
      clear p5 q5 t5 t11
      go_wp2_with fail
      refine wp_region_rg 23 [(3, .rel (ExtA (coefs pp qq gs us)) (SlF 4)), (7, .rel (ExtA (coefs pp qq gs us)) (SlF 4)), (8, .val (.bool true)), (13, .val (.agg #[.int .u64 (fv (pt).a), .int .u64 (fv (pt).b)])), (17, .val (.agg #[.int .u64 (fv (pt).a), .int .u64 (fv (pt).b)]))] (by kernel_rfl) (by kernel_rfl) (by kernel_rfl) ⟨fit_ext, fit_ext, trivial⟩ ?_
      refine rg_det rfl rfl rfl (fun K hK => ?_)
      go_big_quiet_op
      refine hK _ ?_; clear hK K
      refine rg_det rfl rfl rfl (fun K hK => ?_)
      go_big_quiet_op
      refine hK _ ?_; clear hK K
      refine rg_det rfl rfl rfl (fun K hK => ?_)
      go_big_quiet_op
      refine hK _ ?_; clear hK K
      refine rg_rel rfl rfl (fun W1 hW1 hF => step_callr en_attestor_wiring_Coefficients ((L5.grw hW1).coef x y) rfl rfl) ?_
      intro n3 m3 v3 hn3 hm3 hd3 hf3 a' ha
      simp only [Act.put, List.setIfInBounds_toArray, List.set_cons_succ, List.set_cons_zero] at ha
      subst ha
      obtain ⟨A3, cap3, rfl⟩ := hf3
      refine rg_det rfl rfl rfl (fun K hK => ?_)
      go_big_quiet_op
      refine hK _ ?_; clear hK K
      refine rg_det rfl rfl rfl (fun K hK => ?_)
      go_big_quiet_op
      refine hK _ ?_; clear hK K
      refine rg_det rfl rfl rfl (fun K hK => ?_)
      go_big_quiet_op
      refine hK _ ?_; clear hK K
      refine rg_rel rfl rfl (fun W1 hW1 hF => step_callr en_attestor_attestorref17_Coefficients (rCoef gs us pp qq x y _ _ _ _ 0 _ 0 _ 0 _ 0 _ W1 (L5.grw hW1).hl (L5.grw hW1).hu (L5.grw hW1).hp (L5.grw hW1).hq L5.len L5.okM hl1 hl2) rfl rfl) ?_
      intro n7 m7 v7 hn7 hm7 hd7 hf7 a' ha
      simp only [Act.put, List.setIfInBounds_toArray, List.set_cons_succ, List.set_cons_zero] at ha
      subst ha
      obtain ⟨A7, cap7, rfl⟩ := hf7
      refine rg_val rfl rfl (fun W1 hW1 hF => step_callv en_attestor_attestorref02_Same (xSame (coefs pp qq gs us) _ _ _ _ _ _ W1 (pick_last (pick_init hF) (by kernel_rfl)).2 (pick_last hF (by kernel_rfl)).2) rfl rfl) ?_
      intro a' ha
      simp only [Act.put, List.setIfInBounds_toArray, List.set_cons_succ, List.set_cons_zero] at ha
      subst ha
      refine rg_det rfl rfl rfl (fun K hK => ?_)
      go_big_quiet_op
      refine hK _ ?_; clear hK K
      refine rg_det rfl rfl rfl (fun K hK => ?_)
      go_big_quiet_op
      refine hK _ ?_; clear hK K
      refine rg_det rfl rfl rfl (fun K hK => ?_)
      go_big_quiet_op
      refine hK _ ?_; clear hK K
      refine rg_det rfl rfl rfl (fun K hK => ?_)
      go_big_quiet_op
      refine hK _ ?_; clear hK K
      refine rg_val rfl rfl (fun W1 hW1 hF => step_callv en_attestor_wiring_Point ((by rw [hpt]; exact (L5.grw hW1).point x y)) rfl rfl) ?_
      intro a' ha
      simp only [Act.put, List.setIfInBounds_toArray, List.set_cons_succ, List.set_cons_zero] at ha
      subst ha
      refine rg_det rfl rfl rfl (fun K hK => ?_)
      go_big_quiet_op
      refine hK _ ?_; clear hK K
      refine rg_det rfl rfl rfl (fun K hK => ?_)
      go_big_quiet_op
      refine hK _ ?_; clear hK K
      refine rg_det rfl rfl rfl (fun K hK => ?_)
      go_big_quiet_op
      refine hK _ ?_; clear hK K
      refine rg_val rfl rfl (fun W1 hW1 hF => step_callv en_attestor_attestorref17_Point ((by rw [hpt]; exact rPoint gs us pp qq x y _ _ _ _ 0 _ 0 _ 0 _ 0 _ W1 (L5.grw hW1).hl (L5.grw hW1).hu (L5.grw hW1).hp (L5.grw hW1).hq L5.len L5.okM hl1 hl2)) rfl rfl) ?_
      intro a' ha
      simp only [Act.put, List.setIfInBounds_toArray, List.set_cons_succ, List.set_cons_zero] at ha
      subst ha
      refine rg_det rfl rfl rfl (fun K hK => ?_)
      go_big_quiet_op
      refine hK _ ?_; clear hK K
      refine rg_det rfl rfl rfl (fun K hK => ?_)
      go_big_quiet_op
      refine hK _ ?_; clear hK K
      refine rg_det rfl rfl rfl (fun K hK => ?_)
      go_big_quiet_op
      refine hK _ ?_; clear hK K
      refine rg_det rfl rfl rfl (fun K hK => ?_)
      go_big_quiet_op
      refine hK _ ?_; clear hK K
      refine rg_det rfl rfl rfl (fun K hK => ?_)
      go_big_quiet_op
      refine hK _ ?_; clear hK K
      refine rg_nil (fun w' hw' hF => ?_)
      obtain ⟨z2, rfl⟩ := hw'
      simp only [List.drop_succ_cons, List.drop_zero]
      clear hF
      go_wp2_with fail
      go_ret
      exact ⟨rfl, hBwr.trans (z2.h.mono hBwr.size)⟩
end Go.Proofs.YtbmgngoeiadmmaaDoor
