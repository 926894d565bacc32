/-
  The reference's coefficients: the walk.
-/
import Derived.Test.YtbmgngoeiadmmaaDoorCo
namespace Go.Proofs.YtbmgngoeiadmmaaDoor
open Go.RowKit

def endsV (vL vR : Value) (x y : E) : Value := .agg #[vL, vR, .int .u64 (fv x.a), .int .u64 (fv x.b), .int .u64 (fv y.a), .int .u64 (fv y.b)]


set_option maxRecDepth 100000 in
set_option maxHeartbeats 4000000 in
theorem rCoef (gs : List Gt) (us p q : List E) (x y : E) (vl vu vL vR : Value) (lo1 hi1 lo2 hi2 lo3 hi3 lo4 hi4 : Nat) (w : World) (hl : GateS lo1 hi1 w vl gs) (hu : ExtS lo2 hi2 w vu us) (hp : ExtS lo3 hi3 w vL p) (hq : ExtS lo4 hi4 w vR q)
    (hlen : gs.length ≤ us.length) (hok : ∀ g ∈ gs, g.L ≤ 1000000 ∧ g.R ≤ 1000000) (hpl : p.length ≤ 60) (hql : q.length ≤ 60) :
    Calls Tryd.prog 17 #[vl, vu, endsV vL vR x y] w (RetR (ExtA (coefs p q gs us)) w) := by
  obtain ⟨A1, cap1, rfl⟩ := hl.len
  obtain ⟨A2, cap2, rfl⟩ := hu.len
  have hl0 := hl.2.1
  have hu0 := hu.2.1
  unfold endsV
  go_enter Tryd.func17, Tryd.ntmps17
  have mk4 := mk_ext 4 (by decide)
  go_wp2
  rw [show (4 : Int) = ((4 : Nat) : Int) from rfl, mk4]
  go_wp2
  refine wp_stk2 fun W hB hz b1 b2 => ?_
  go_loopw [8] (fun i wr => ∃ j : Nat, j ≤ gs.length ∧ i = .int .i64 j ∧ Blk wr w.heap.size 33 #[vL, vR, .int .u64 (fv x.a), .int .u64 (fv x.b), .int .u64 (fv y.a), .int .u64 (fv y.b)] ∧ Blk wr (w.heap.size + 1) 27 (((List.range 4).map fun k => coefN p q gs us k j).flatMap ec).toArray ∧ w.heap.size + 1 < wr.heap.size ∧ Below w.heap.size w wr) (fun i _ => gs.length - (intOf i).toNat)
  case atStart => exact ⟨0, Nat.zero_le _, rfl, b1, b2, b2.lt, hB⟩
  case round =>
    obtain ⟨j, hj, rfl, b1', b2', hsz, hB'⟩ := hrel
    by_cases hlt : j < gs.length
    · obtain ⟨g1, off1, cap', hv, q1, q2, q3, q4, q5⟩ := gates_cells hl (by omega)
      cases hv
      obtain ⟨g2, off2, cap'', hv, r1, r2, r3, r4, r5⟩ := exts_cells hu (by omega)
      cases hv
      obtain ⟨gg, hg⟩ : ∃ x, gs[j]? = some x := ⟨gs[j], List.getElem?_eq_getElem hlt⟩
      obtain ⟨uu, huu⟩ : ∃ x, us[j]? = some x := ⟨us[j]'(by omega), List.getElem?_eq_getElem (by omega)⟩
      have HD := Lib.hid (q5 j gg hg)
      have HU := Lib.hid (r5 j uu huu)
      obtain ⟨ok1, ok2⟩ := hok gg (List.mem_of_getElem? hg)
      have HS := Lib.hid (fun k => coefN_succ p q gs us k j gg uu hg huu)
      have hp' := hp.keep hB'
      have hq' := hq.keep hB'
      have q6 : g1 < wr.heap.size := Nat.lt_of_lt_of_le q4 hB'.size
      have r6 : g2 < wr.heap.size := Nat.lt_of_lt_of_le r4 hB'.size
      have cb := gw_blk b1'
      have x1 := gw_cell (W := wr) q6 ((hB'.cell (p := ⟨g1, off1 + j * 6, none⟩) q4).trans HD.out.1)
      have x2 := gw_cell (W := wr) q6 ((hB'.cell (p := ⟨g1, off1 + j * 6 + 1, none⟩) q4).trans HD.out.2.1)
      have y1 := gw_cell (W := wr) r6 ((hB'.cell (p := ⟨g2, off2 + j * 2, none⟩) r4).trans HU.out.1)
      have y2 := gw_cell (W := wr) r6 ((hB'.cell (p := ⟨g2, off2 + j * 2 + 1, none⟩) r4).trans HU.out.2)
      obtain ⟨i0, hi0, hz0, hz1, hz2⟩ := info_parts ext_info
      clear q5 r5 hg huu hok
      go_wp2_with fail
      refine wp_region_rg 23 [(11, Spec.val (.agg #[.int .u64 (fv (eqi gg.L p).a), .int .u64 (fv (eqi gg.L p).b)])), (19, Spec.val (.agg #[.int .u64 (fv (eqi gg.R q).a), .int .u64 (fv (eqi gg.R q).b)])), (20, Spec.val (.agg #[.int .u64 (fv (eqi gg.L p * eqi gg.R q).a), .int .u64 (fv (eqi gg.L p * eqi gg.R q).b)])), (21, Spec.val (.agg #[.int .u64 (fv (uu * (eqi gg.L p * eqi gg.R q)).a), .int .u64 (fv (uu * (eqi gg.L p * eqi gg.R q)).b)])), (22, Spec.rel (New 27 #[.int .u64 0, .int .u64 0]) (NewF))] (by kernel_rfl) (by kernel_rfl) (by kernel_rfl) ⟨fit_new, trivial⟩ ?_
      refine rg_det rfl rfl rfl (fun K hK => ?_)
      go_big_quiet_op
      refine hK _ ?_; clear hK K
      refine rg_det rfl rfl rfl (fun K hK => ?_)
      go_big_quiet_op
      refine hK _ ?_; clear hK K
      refine rg_det rfl rfl rfl (fun K hK => ?_)
      go_big_quiet_op
      refine hK _ ?_; clear hK K
      refine rg_det rfl rfl rfl (fun K hK => ?_)
      go_big_quiet_op
      refine hK _ ?_; clear hK K
      refine rg_det rfl rfl rfl (fun K hK => ?_)
      go_big_quiet_op
      refine hK _ ?_; clear hK K
      refine rg_det rfl rfl rfl (fun K hK => ?_)
      go_big_quiet_op
      refine hK _ ?_; clear hK K
      refine rg_det rfl rfl rfl (fun K hK => ?_)
      go_big_quiet_op
      refine hK _ ?_; clear hK K
      refine rg_det rfl rfl rfl (fun K hK => ?_)
      go_big_quiet_op
      refine hK _ ?_; clear hK K
      refine rg_det rfl rfl rfl (fun K hK => ?_)
      go_big_quiet_op
      refine hK _ ?_; clear hK K
      refine rg_det rfl rfl rfl (fun K hK => ?_)
      go_big_quiet_op
      refine hK _ ?_; clear hK K
      refine rg_det rfl rfl rfl (fun K hK => ?_)
      go_big_quiet_op
      refine hK _ ?_; clear hK K
      refine rg_val rfl rfl (fun W1 hW1 hF => step_callv en_attestor_attestorref05_EqIndex (mEqIndexR gg.L p ok1 hpl _ _ _ W1 (hp'.keep (grw_below hW1))) rfl rfl) ?_
      intro a' ha
      simp only [Act.put, List.setIfInBounds_toArray, List.set_cons_succ, List.set_cons_zero] at ha
      subst ha
      refine rg_det rfl rfl rfl (fun K hK => ?_)
      go_big_quiet_op
      refine hK _ ?_; clear hK K
      refine rg_det rfl rfl rfl (fun K hK => ?_)
      go_big_quiet_op
      refine hK _ ?_; clear hK K
      refine rg_det rfl rfl rfl (fun K hK => ?_)
      go_big_quiet_op
      refine hK _ ?_; clear hK K
      refine rg_det rfl rfl rfl (fun K hK => ?_)
      go_big_quiet_op
      refine hK _ ?_; clear hK K
      refine rg_det rfl rfl rfl (fun K hK => ?_)
      go_big_quiet_op
      refine hK _ ?_; clear hK K
      refine rg_det rfl rfl rfl (fun K hK => ?_)
      go_big_quiet_op
      refine hK _ ?_; clear hK K
      refine rg_det rfl rfl rfl (fun K hK => ?_)
      go_big_quiet_op
      refine hK _ ?_; clear hK K
      refine rg_val rfl rfl (fun W1 hW1 hF => step_callv en_attestor_attestorref05_EqIndex (mEqIndexR gg.R q ok2 hql _ _ _ W1 (hq'.keep (grw_below hW1))) rfl rfl) ?_
      intro a' ha
      simp only [Act.put, List.setIfInBounds_toArray, List.set_cons_succ, List.set_cons_zero] at ha
      subst ha
      refine rg_val rfl rfl (fun W1 hW1 hF => step_callv en_attestor_attestorref02_Mul (xMul (eqi gg.L p) (eqi gg.R q) W1) rfl rfl) ?_
      intro a' ha
      simp only [Act.put, List.setIfInBounds_toArray, List.set_cons_succ, List.set_cons_zero] at ha
      subst ha
      refine rg_val rfl rfl (fun W1 hW1 hF => step_callv en_attestor_attestorref02_Mul (xMul uu (eqi gg.L p * eqi gg.R q) W1) rfl rfl) ?_
      intro a' ha
      simp only [Act.put, List.setIfInBounds_toArray, List.set_cons_succ, List.set_cons_zero] at ha
      subst ha
      refine rg_rel rfl rfl (fun W1 hW1 hF => step_new hi0 hz0 rfl) ?_
      intro n22 m22 v22 hn22 hm22 hd22 hf22 a' ha
      simp only [Act.put, List.setIfInBounds_toArray, List.set_cons_succ, List.set_cons_zero] at ha
      subst ha
      obtain rfl := hf22
      refine rg_nil (fun w' hw' hF => ?_)
      obtain ⟨z, rfl⟩ := hw'
      simp only [List.drop_succ_cons, List.drop_zero]
      obtain ⟨hm, -, hlt', bw⟩ := end_last hF
      have hBz := z.h
      clear hF x1 x2 y1 y2 hd22 cb
      have b1z := b1'.gw z
      have b2z := b2'.gw z
      have e1 := bw.cell
      have e2 := bw.frozen
      go_wp2_with fail
      generalize hwv : uu * (eqi gg.L p * eqi gg.R q) = wv at *
      go_loopw [10] (fun i wi => ∃ k : Nat, k ≤ 4 ∧ i = .int .i64 k ∧ Blk wi w.heap.size 33 #[vL, vR, .int .u64 (fv x.a), .int .u64 (fv x.b), .int .u64 (fv y.a), .int .u64 (fv y.b)] ∧
        Blk wi (w.heap.size + 1) 27 ((mixL 4 (fun k => coefN p q gs us k j + wv * eb (gk gg k)) (fun k => coefN p q gs us k j) k).flatMap ec).toArray ∧
        Blk wi n22 27 #[.int .u64 (fv wv.a), .int .u64 (fv wv.b)] ∧ Below w.heap.size w wi) (fun i _ => 4 - (intOf i).toNat)
      case atStart =>
        exact ⟨0, by omega, rfl, blk_far2 b1z (by omega), by rw [mixL_zero]; exact blk_far2 b2z (by omega), blk_set2 bw, below_set2 (hB'.trans (hBz.mono hB'.size)) (by omega)⟩
      case round =>
        obtain ⟨k, hk, rfl, f1, f2, f3, hBi⟩ := hrel
        by_cases hk4 : k < 4
        · have q7 : g1 < wr.heap.size := Nat.lt_of_lt_of_le q4 hBi.size
          have k1 := gw_cell (W := wr) q7 ((hBi.cell (p := ⟨g1, off1 + j * 6, none⟩) q4).trans HD.out.1)
          have k2 := gw_cell (W := wr) q7 ((hBi.cell (p := ⟨g1, off1 + j * 6 + 1, none⟩) q4).trans HD.out.2.1)
          have k3 := gw_cell (W := wr) q7 ((hBi.cell (p := ⟨g1, off1 + j * 6 + 2, none⟩) q4).trans HD.out.2.2.1)
          have k4 := gw_cell (W := wr) q7 ((hBi.cell (p := ⟨g1, off1 + j * 6 + 3, none⟩) q4).trans HD.out.2.2.2.1)
          have k5 := gw_cell (W := wr) q7 ((hBi.cell (p := ⟨g1, off1 + j * 6 + 4, none⟩) q4).trans HD.out.2.2.2.2.1)
          have k6 := gw_cell (W := wr) q7 ((hBi.cell (p := ⟨g1, off1 + j * 6 + 5, none⟩) q4).trans HD.out.2.2.2.2.2)
          obtain ⟨m1, m2⟩ := blk_cellE f2 (mixL_get 4 (fun k => coefN p q gs us k j + wv * eb (gk gg k)) (fun k => coefN p q gs us k j) k hk4)
          have m1' := gw_cell f2.lt m1
          have m2' := gw_cell f2.lt m2
          have f3' := gw_blk f3
          have HM := Lib.hid (show (mixL 4 (fun k => coefN p q gs us k j + wv * eb (gk gg k)) (fun k => coefN p q gs us k j) k).set k (coefN p q gs us k j + wv * eb (gk gg k)) = _ from mixL_set 4 (fun k => coefN p q gs us k j + wv * eb (gk gg k)) (fun k => coefN p q gs us k j) k)
          clear m1 m2
          generalize coefN p q gs us k j = cc at *
          go_wp2_with fail
          refine wp_region_rg 18 [(11, Spec.rel (Parts gg) (PartsF)), (14, Spec.val (.int .u64 (fv (gk gg k)))), (15, Spec.val (.agg #[.int .u64 (fv (wv * eb (gk gg k)).a), .int .u64 (fv (wv * eb (gk gg k)).b)])), (16, Spec.val (.agg #[.int .u64 (fv (cc + wv * eb (gk gg k)).a), .int .u64 (fv (cc + wv * eb (gk gg k)).b)]))] (by kernel_rfl) (by kernel_rfl) (by kernel_rfl) ⟨fit_parts, trivial⟩ ?_
          refine rg_det rfl rfl rfl (fun K hK => ?_)
          go_big_quiet_op
          refine hK _ ?_; clear hK K
          refine rg_det rfl rfl rfl (fun K hK => ?_)
          go_big_quiet_op
          refine hK _ ?_; clear hK K
          refine rg_det rfl rfl rfl (fun K hK => ?_)
          go_big_quiet_op
          refine hK _ ?_; clear hK K
          refine rg_det rfl rfl rfl (fun K hK => ?_)
          go_big_quiet_op
          refine hK _ ?_; clear hK K
          refine rg_det rfl rfl rfl (fun K hK => ?_)
          go_big_quiet_op
          refine hK _ ?_; clear hK K
          refine rg_det rfl rfl rfl (fun K hK => ?_)
          go_big_quiet_op
          refine hK _ ?_; clear hK K
          refine rg_det rfl rfl rfl (fun K hK => ?_)
          go_big_quiet_op
          refine hK _ ?_; clear hK K
          refine rg_det rfl rfl rfl (fun K hK => ?_)
          go_big_quiet_op
          refine hK _ ?_; clear hK K
          refine rg_det rfl rfl rfl (fun K hK => ?_)
          go_big_quiet_op
          refine hK _ ?_; clear hK K
          refine rg_det rfl rfl rfl (fun K hK => ?_)
          go_big_quiet_op
          refine hK _ ?_; clear hK K
          refine rg_det rfl rfl rfl (fun K hK => ?_)
          go_big_quiet_op
          refine hK _ ?_; clear hK K
          refine rg_rel rfl rfl (fun W1 hW1 hF => step_callr en_attestor_attestorref17_parts (gParts gg W1) rfl rfl) ?_
          intro n11 m11 v11 hn11 hm11 hd11 hf11 a' ha
          simp only [Act.put, List.setIfInBounds_toArray, List.set_cons_succ, List.set_cons_zero] at ha
          subst ha
          obtain rfl := hf11
          refine rg_det rfl rfl rfl (fun K hK => ?_)
          go_big_quiet_op
          refine hK _ ?_; clear hK K
          refine rg_det rfl rfl rfl (fun K hK => ?_)
          go_big_quiet_op
          refine hK _ ?_; clear hK K
          refine rg_val rfl rfl (fun W1 hW1 hF => step_load1 Tryd.underlying25 rfl rfl rfl (parts_cell (pick_last hF (by kernel_rfl)).2 k hk4)) ?_
          intro a' ha
          simp only [Act.put, List.setIfInBounds_toArray, List.set_cons_succ, List.set_cons_zero] at ha
          subst ha
          refine rg_val rfl rfl (fun W1 hW1 hF => step_callv en_attestor_attestorref02_MulBase (xMulBase wv (gk gg k) W1) rfl rfl) ?_
          intro a' ha
          simp only [Act.put, List.setIfInBounds_toArray, List.set_cons_succ, List.set_cons_zero] at ha
          subst ha
          refine rg_val rfl rfl (fun W1 hW1 hF => step_callv en_attestor_attestorref02_Add (xAdd cc (wv * eb (gk gg k)) W1) rfl rfl) ?_
          intro a' ha
          simp only [Act.put, List.setIfInBounds_toArray, List.set_cons_succ, List.set_cons_zero] at ha
          subst ha
          refine rg_det rfl rfl rfl (fun K hK => ?_)
          go_big_quiet_op
          refine hK _ ?_; clear hK K
          refine rg_nil (fun w' hw' hF => ?_)
          obtain ⟨z, rfl⟩ := hw'
          simp only [List.drop_succ_cons, List.drop_zero]
          clear hF
          have f2z := f2.gw z
          have f1z := f1.gw z
          have f3z := f3.gw z
          have e1 := f2z.cell
          have e2 := f2z.frozen
          have e3 := m1' z
          have e4 := m2' z
          clear e1 m1' m2' k1 k2 k3 k4 k5 k6 f3'
          go_wp2_with fail
          exact ⟨⟨k + 1, by omega, by go_num, blk_farE f1z (by omega), by rw [← HM.out]; exact blk_setE f2z k _ (by rw [mixL_len]; exact hk4), blk_farE f3z (by omega), below_setE (hBi.trans (z.h.mono hBi.size)) (by omega)⟩, by simp [intOf]; omega⟩
        · obtain rfl : k = 4 := by omega
          go_wp2_with fail
          refine ⟨⟨j + 1, by omega, by go_num, f1, ?_, by have := f3.lt; omega, hBi⟩, by simp [intOf]; omega⟩
          have e : (List.range 4).map (fun k => coefN p q gs us k (j + 1)) = mixL 4 (fun k => coefN p q gs us k j + wv * eb (gk gg k)) (fun k => coefN p q gs us k j) 4 := by
            rw [mixL_all]
            refine List.map_congr_left fun k _ => ?_
            rw [HS.out k]
            unfold wgt
            rw [hwv]
          rw [e]
          exact f2
    · go_wp2
      obtain rfl : j = gs.length := by omega
      go_ret
      refine ⟨_, rfl, ?_, hB'⟩
      have e : coefs p q gs us = (List.range 4).map (fun k => coefN p q gs us k gs.length) := List.map_congr_left fun k _ => (coefN_all p q gs us k).symm
      unfold ExtA
      rw [e]
      exact exts_of_blk b2' (by simp) (by decide) (by omega) hsz
end Go.Proofs.YtbmgngoeiadmmaaDoor
