/-
  MleWeights: the walk.
-/
import Derived.Test.YtphokpkigbonlaaDoorLay5
namespace Go.Proofs.YtphokpkigbonlaaDoor
open Go.RowKit

theorem esum_up (f : Nat → E) (n : Nat) : esum ((List.range (n + 1)).map f) = esum ((List.range n).map f) + f n := by
  rw [List.range_succ, List.map_append, esum_append]
  simp [esum, E.add_zero]
def wsum (p : List E) (j : Nat) : E := esum ((List.range j).map fun i => eqi i p)
def vsum (t p : List E) (j : Nat) : E := esum ((List.range j).map fun i => eqi i p * t.getD i 0)
set_option maxRecDepth 100000 in
set_option maxHeartbeats 8000000 in
theorem wkMleWeights (q : Q5) (vT vP vQ : Value) (w : World) (h : Q5S w.heap.size w q vT vP vQ) (hL : Laid w) :
    Calls Tryd.prog 7 #[qv5 vT vP vQ q] w (Ret (.bool true) w) := by
  unfold qv5
  go_enter Tryd.func7, Tryd.ntmps7
  go_wp2_with fail
  refine calls_stk1 fun W1 hB1 hz1 b1 => ?_
  refine (lSanity5 W1 (hL.keep hB1)).mono ?_
  rintro e w2 ⟨rfl, hb2⟩
  have hB2 := hB1.trans (hb2.mono hB1.size)
  have e1 := (b1.keep hb2).cell
  go_wp2_with fail
  refine (lMade5 q vT vP vQ w.heap.size w2 (h.keep hB2) hB2.size).mono ?_
  rintro e w3 ⟨a, b, c, nt, mt, np, mp, ns, ms, rfl, ot, op, os, ⟨lt1, lp1, ls1, lt2, lp2, ls2⟩, ⟨dtp, dts, dps⟩, hb3⟩
  obtain ⟨Aa, capa, rfl⟩ := ot.1.len
  obtain ⟨Ab, capb, rfl⟩ := op.1.len
  obtain ⟨Ac, capc, rfl⟩ := os.1.len
  have hB3 := hB2.trans (hb3.mono hB2.size)
  have Ly := lay_made5 ot op os lt2 lp2 ls2 (hL.keep hB3)
  clear e1 h
  generalize q.t = t at *
  generalize q.p = p at *
  generalize q.s = s at *
  have hpl := Ly.pl
  have ht64 := Ly.t64
  go_wp2_with fail
  refine (wEqTable p _ 0 w3.heap.size w3 Ly.hp (Nat.le_refl _) Ly.laid (by omega)).mono ?_
  rintro e w4 ⟨v4, rfl, t4, hb4⟩
  replace t4 : ExtS _ _ w4 v4 (tabE p) := t4
  obtain ⟨A4, cap4, rfl⟩ := Rd.len t4
  have L4 := Ly.keep hb4
  have hB4 := hB3.trans (hb4.mono hB3.size)
  rw [tabE_len, ← Ly.tl] at t4 ⊢
  have HT := Lib.hid Ly.tl
  clear Ly ot op os dtp dts dps
  go_wp2_with fail
  refine wp_stk2 fun W5 hB5 hz5 b5 b6 => ?_
  clear hz5
  go_loopw [10] (fun i wr => ∃ j : Nat, j ≤ t.length ∧ i = .int .i64 j ∧ Blk wr w4.heap.size 27 #[.int .u64 (fv (wsum p j).a), .int .u64 (fv (wsum p j).b)] ∧ Blk wr (w4.heap.size + 1) 27 #[.int .u64 (fv (vsum t p j).a), .int .u64 (fv (vsum t p j).b)] ∧ Below w4.heap.size w4 wr) (fun i _ => t.length - (intOf i).toNat)
  case atStart => exact ⟨0, Nat.zero_le _, rfl, b5, b6, hB5⟩
  case round =>
    obtain ⟨j, hj, rfl, bs, bv, hB⟩ := hrel
    clear b5 b6 hB5
    by_cases hlt : j < t.length
    · obtain ⟨g1, o1, c1, hv, -, -, hgT1, p4, p5⟩ := exts_cells (Rd.keep t4 hB) (by rw [tabE_len, ← HT.out]; omega)
      rw [tabE_len, ← HT.out] at hv
      cases hv
      obtain ⟨g2, o2, c2, hv, -, -, hgT2, q4, q5⟩ := exts_cells (Rd.keep L4.ht hB) (by omega)
      cases hv
      obtain ⟨x, hx, hxd⟩ := get_of hlt
      obtain ⟨k1, k2⟩ := p5 j _ (tabE_get p j (by rw [← HT.out]; exact hlt))
      obtain ⟨d1, d2⟩ := q5 j x hx
      have HW := Lib.hid (show wsum p (j + 1) = wsum p j + eqi j p from esum_up _ j)
      have hvs : vsum t p (j + 1) = vsum t p j + eqi j p * x := by rw [← hxd]; exact esum_up _ j
      have HV := Lib.hid hvs
      have HP := Lib.hid (L4.keep hB)
      have f1 := gw_cell p4 k1
      have f2 := gw_cell p4 k2
      clear p5 q5 hx hxd hvs
      generalize wsum p j = m1 at *
      generalize vsum t p j = m2 at *
      go_wp2_with fail
      refine wp_region_rg 8 [(6, Spec.val (.agg #[.int .u64 (fv (eqi j p).a), .int .u64 (fv (eqi j p).b)]))] (by kernel_rfl) (by kernel_rfl) (by kernel_rfl) trivial ?_
      refine rg_det rfl rfl rfl (fun K hK => ?_)
      go_big_quiet_op
      refine hK _ ?_; clear hK K
      refine rg_det rfl rfl rfl (fun K hK => ?_)
      go_big_quiet_op
      refine hK _ ?_; clear hK K
      refine rg_det rfl rfl rfl (fun K hK => ?_)
      go_big_quiet_op
      refine hK _ ?_; clear hK K
      refine rg_det rfl rfl rfl (fun K hK => ?_)
      go_big_quiet_op
      refine hK _ ?_; clear hK K
      refine rg_det rfl rfl rfl (fun K hK => ?_)
      go_big_quiet_op
      refine hK _ ?_; clear hK K
      refine rg_det rfl rfl rfl (fun K hK => ?_)
      go_big_quiet_op
      refine hK _ ?_; clear hK K
      refine rg_val rfl rfl (fun W1 hW1 hF => step_callv en_attestor_mle_EqIndex (gEqIndex j p (by omega) (by omega) _ 0 _ W1 (HP.out.grw hW1).hp (Nat.le_refl _) (HP.out.grw hW1).laid) rfl rfl) ?_
      intro a' ha
      simp only [Act.put, List.setIfInBounds_toArray, List.set_cons_succ, List.set_cons_zero] at ha
      subst ha
      refine rg_det rfl rfl rfl (fun K hK => ?_)
      go_big_quiet_op
      refine hK _ ?_; clear hK K
      refine rg_nil (fun w' hw' hF => ?_)
      obtain ⟨z, rfl⟩ := hw'
      simp only [List.drop_succ_cons, List.drop_zero]
      have Bz := hB.trans (z.h.mono hB.size)
      have bsz := bs.gw z
      have bvz := bv.gw z
      have k1 := (z.h.cell (p := ⟨g1, o1 + j * 2, none⟩) p4).trans k1
      have k2 := (z.h.cell (p := ⟨g1, o1 + j * 2 + 1, none⟩) p4).trans k2
      have d1 := (z.h.cell (p := ⟨g2, o2 + j * 2, none⟩) q4).trans d1
      have d2 := (z.h.cell (p := ⟨g2, o2 + j * 2 + 1, none⟩) q4).trans d2
      have hzs := z.h.size
      have hg1 : g1 < z.w.heap.size := Nat.lt_of_lt_of_le p4 hzs
      have hg2 : g2 < z.w.heap.size := Nat.lt_of_lt_of_le q4 hzs
      clear hF f1 f2
      have f1 := gw_cell hg1 k1
      have f2 := gw_cell hg1 k2
      have f3 := gw_blk bsz
      generalize eqi j p = y at *
      go_wp2_with fail
      refine wp_region_rg 6 [(5, Spec.val (.agg #[.int .u64 (fv (m1 + y).a), .int .u64 (fv (m1 + y).b)]))] (by kernel_rfl) (by kernel_rfl) (by kernel_rfl) trivial ?_
      refine rg_det rfl rfl rfl (fun K hK => ?_)
      go_big_quiet_op
      refine hK _ ?_; clear hK K
      refine rg_det rfl rfl rfl (fun K hK => ?_)
      go_big_quiet_op
      refine hK _ ?_; clear hK K
      refine rg_det rfl rfl rfl (fun K hK => ?_)
      go_big_quiet_op
      refine hK _ ?_; clear hK K
      refine rg_det rfl rfl rfl (fun K hK => ?_)
      go_big_quiet_op
      refine hK _ ?_; clear hK K
      refine rg_det rfl rfl rfl (fun K hK => ?_)
      go_big_quiet_op
      refine hK _ ?_; clear hK K
      refine rg_val rfl rfl (fun W1 hW1 hF => step_callv en_attestor_ext_Add (eAdd m1 y W1) rfl rfl) ?_
      intro a' ha
      simp only [Act.put, List.setIfInBounds_toArray, List.set_cons_succ, List.set_cons_zero] at ha
      subst ha
      refine rg_nil (fun w' hw' hF => ?_)
      obtain ⟨y2, rfl⟩ := hw'
      simp only [List.drop_succ_cons, List.drop_zero]
      have By := Bz.trans (y2.h.mono Bz.size)
      have bsy := bsz.gw y2
      have bvy := bvz.gw y2
      have k1 := f1 y2
      have k2 := f2 y2
      have d1 := (y2.h.cell (p := ⟨g2, o2 + j * 2, none⟩) hg2).trans d1
      have d2 := (y2.h.cell (p := ⟨g2, o2 + j * 2 + 1, none⟩) hg2).trans d2
      have hys := y2.h.size
      have hg1' : g1 < y2.w.heap.size := Nat.lt_of_lt_of_le hg1 hys
      have hg2' : g2 < y2.w.heap.size := Nat.lt_of_lt_of_le hg2 hys
      have e1 := bsy.cell
      have e2 := bsy.frozen
      clear hF f1 f2 f3
      go_wp2_with fail
      refine set2 (M := fun W => Code.wp _ _ _ _ W) bsy fun X hX bsX => ?_
      have bsX : Blk X w4.heap.size 27 #[.int .u64 (fv (m1 + y).a), .int .u64 (fv (m1 + y).b)] := bsX
      have bvX := hX.blk bvy (by omega)
      have BX := below_put By hX (Nat.le_refl _)
      have k1 := (BX.cell (p := ⟨g1, o1 + j * 2, none⟩) hgT1).trans ((By.cell (p := ⟨g1, o1 + j * 2, none⟩) hgT1).symm.trans k1)
      have k2 := (BX.cell (p := ⟨g1, o1 + j * 2 + 1, none⟩) hgT1).trans ((By.cell (p := ⟨g1, o1 + j * 2 + 1, none⟩) hgT1).symm.trans k2)
      have d1 := (BX.cell (p := ⟨g2, o2 + j * 2, none⟩) hgT2).trans ((By.cell (p := ⟨g2, o2 + j * 2, none⟩) hgT2).symm.trans d1)
      have d2 := (BX.cell (p := ⟨g2, o2 + j * 2 + 1, none⟩) hgT2).trans ((By.cell (p := ⟨g2, o2 + j * 2 + 1, none⟩) hgT2).symm.trans d2)
      have hXs := BX.size
      have f1 := gw_cell (Nat.lt_of_lt_of_le hgT1 hXs) k1
      have f2 := gw_cell (Nat.lt_of_lt_of_le hgT1 hXs) k2
      have f3 := gw_cell (Nat.lt_of_lt_of_le hgT2 hXs) d1
      have f4 := gw_cell (Nat.lt_of_lt_of_le hgT2 hXs) d2
      have f5 := gw_blk bvX
      clear e1 e2 hX k1 k2 d1 d2
      refine wp_region_rg 11 [(9, Spec.val (.agg #[.int .u64 (fv (y * x).a), .int .u64 (fv (y * x).b)])), (10, Spec.val (.agg #[.int .u64 (fv (m2 + y * x).a), .int .u64 (fv (m2 + y * x).b)]))] (by kernel_rfl) (by kernel_rfl) (by kernel_rfl) trivial ?_
      refine rg_det rfl rfl rfl (fun K hK => ?_)
      go_big_quiet_op
      refine hK _ ?_; clear hK K
      refine rg_det rfl rfl rfl (fun K hK => ?_)
      go_big_quiet_op
      refine hK _ ?_; clear hK K
      refine rg_det rfl rfl rfl (fun K hK => ?_)
      go_big_quiet_op
      refine hK _ ?_; clear hK K
      refine rg_det rfl rfl rfl (fun K hK => ?_)
      go_big_quiet_op
      refine hK _ ?_; clear hK K
      refine rg_det rfl rfl rfl (fun K hK => ?_)
      go_big_quiet_op
      refine hK _ ?_; clear hK K
      refine rg_det rfl rfl rfl (fun K hK => ?_)
      go_big_quiet_op
      refine hK _ ?_; clear hK K
      refine rg_det rfl rfl rfl (fun K hK => ?_)
      go_big_quiet_op
      refine hK _ ?_; clear hK K
      refine rg_det rfl rfl rfl (fun K hK => ?_)
      go_big_quiet_op
      refine hK _ ?_; clear hK K
      refine rg_det rfl rfl rfl (fun K hK => ?_)
      go_big_quiet_op
      refine hK _ ?_; clear hK K
      refine rg_val rfl rfl (fun W1 hW1 hF => step_callv en_attestor_ext_Mul (eMul y x W1) rfl rfl) ?_
      intro a' ha
      simp only [Act.put, List.setIfInBounds_toArray, List.set_cons_succ, List.set_cons_zero] at ha
      subst ha
      refine rg_val rfl rfl (fun W1 hW1 hF => step_callv en_attestor_ext_Add (eAdd m2 (y * x) W1) rfl rfl) ?_
      intro a' ha
      simp only [Act.put, List.setIfInBounds_toArray, List.set_cons_succ, List.set_cons_zero] at ha
      subst ha
      refine rg_nil (fun w' hw' hF => ?_)
      obtain ⟨z3, rfl⟩ := hw'
      simp only [List.drop_succ_cons, List.drop_zero]
      have bsz3 := bsX.gw z3
      have bvz3 := bvX.gw z3
      have B3 := BX.trans (z3.h.mono BX.size)
      have e1 := bvz3.cell
      have e2 := bvz3.frozen
      clear hF f1 f2 f3 f4 f5
      go_wp2_with fail
      exact ⟨⟨j + 1, by omega, by go_num, by rw [HW.out]; exact blk_far2 bsz3 (by omega), by rw [HV.out]; exact blk_set2 bvz3, below_set2 B3 (by omega)⟩, by simp [intOf]; omega⟩
    · obtain rfl : j = t.length := by omega
      have hw1 : wsum p t.length = 1 := by rw [HT.out]; exact eqi_sum p
      have hv1 : vsum t p t.length = mev t p := by
        have := mev_weights t p HT.out
        rwa [← HT.out] at this
      rw [hw1] at bs
      rw [hv1] at bv
      clear hw1 hv1
      have LP := L4.keep hB
      have f1 := gw_blk bs
      have f2 := gw_blk bv
      go_wp2_with fail
      refine wp_region_rg 13 [(1, Spec.val (.agg #[.int .u64 (fv ((1 : E)).a), .int .u64 (fv ((1 : E)).b)])), (7, Spec.val (.agg #[.int .u64 (fv (mev t p).a), .int .u64 (fv (mev t p).b)]))] (by kernel_rfl) (by kernel_rfl) (by kernel_rfl) trivial ?_
      refine rg_det rfl rfl rfl (fun K hK => ?_)
      go_big_quiet_op
      refine hK _ ?_; clear hK K
      refine rg_val rfl rfl (fun W1 hW1 hF => step_callv en_attestor_attestorref02_One (xOne W1) rfl rfl) ?_
      intro a' ha
      simp only [Act.put, List.setIfInBounds_toArray, List.set_cons_succ, List.set_cons_zero] at ha
      subst ha
      refine rg_det rfl rfl rfl (fun K hK => ?_)
      go_big_quiet_op
      refine hK _ ?_; clear hK K
      refine rg_det rfl rfl rfl (fun K hK => ?_)
      go_big_quiet_op
      refine hK _ ?_; clear hK K
      refine rg_det rfl rfl rfl (fun K hK => ?_)
      go_big_quiet_op
      refine hK _ ?_; clear hK K
      refine rg_det rfl rfl rfl (fun K hK => ?_)
      go_big_quiet_op
      refine hK _ ?_; clear hK K
      refine rg_det rfl rfl rfl (fun K hK => ?_)
      go_big_quiet_op
      refine hK _ ?_; clear hK K
      refine rg_val rfl rfl (fun W1 hW1 hF => step_callv en_attestor_mle_Eval ((LP.grw hW1).eval) rfl rfl) ?_
      intro a' ha
      simp only [Act.put, List.setIfInBounds_toArray, List.set_cons_succ, List.set_cons_zero] at ha
      subst ha
      refine rg_det rfl rfl rfl (fun K hK => ?_)
      go_big_quiet_op
      refine hK _ ?_; clear hK K
      refine rg_det rfl rfl rfl (fun K hK => ?_)
      go_big_quiet_op
      refine hK _ ?_; clear hK K
      refine rg_det rfl rfl rfl (fun K hK => ?_)
      go_big_quiet_op
      refine hK _ ?_; clear hK K
      refine rg_det rfl rfl rfl (fun K hK => ?_)
      go_big_quiet_op
      refine hK _ ?_; clear hK K
      refine rg_det rfl rfl rfl (fun K hK => ?_)
      go_big_quiet_op
      refine hK _ ?_; clear hK K
      refine rg_nil (fun w' hw' hF => ?_)
      obtain ⟨z, rfl⟩ := hw'
      simp only [List.drop_succ_cons, List.drop_zero]
      clear hF
      go_wp2_with fail
      go_ret
      exact ⟨rfl, hB4.trans ((hB.trans (z.h.mono hB.size)).mono hB4.size)⟩
end Go.Proofs.YtphokpkigbonlaaDoor
