/-
  MleBinding: the walk.
-/
import Derived.Test.YtphokpkigbonlaaDoorLay5
import Derived.Test.YtphokpkigbonlaaDoorCut
namespace Go.Proofs.YtphokpkigbonlaaDoor
open Go.RowKit

theorem mev_evalL : ∀ (p t q : List E), mev (evalL t p) q = mev t (p ++ q)
  | [], _, _ => rfl
  | r :: p, t, q => by
    rw [evalL, mev_evalL p (bindL t r) q, List.cons_append, mev_bind]
set_option maxRecDepth 100000 in
set_option maxHeartbeats 8000000 in
theorem wkMleBinding (q : Q5) (vT vP vQ : Value) (w : World) (h : Q5S w.heap.size w q vT vP vQ) (hL : Laid w) :
    Calls Tryd.prog 5 #[qv5 vT vP vQ q] w (Ret (.bool true) w) := by
  unfold qv5
  go_enter Tryd.func5, Tryd.ntmps5
  go_wp2_with fail
  refine calls_stk1 fun W1 hB1 hz1 b1 => ?_
  refine (lSanity5 W1 (hL.keep hB1)).mono ?_
  rintro e w2 ⟨rfl, hb2⟩
  have hB2 := hB1.trans (hb2.mono hB1.size)
  have e1 := (b1.keep hb2).cell
  go_wp2_with fail
  refine (lMade5 q vT vP vQ w.heap.size w2 (h.keep hB2) hB2.size).mono ?_
  rintro e w3 ⟨a, b, c, nt, mt, np, mp, ns, ms, rfl, ot, op, os, ⟨lt1, lp1, ls1, lt2, lp2, ls2⟩, ⟨dtp, dts, dps⟩, hb3⟩
  obtain ⟨Aa, capa, rfl⟩ := ot.1.len
  obtain ⟨Ab, capb, rfl⟩ := op.1.len
  obtain ⟨Ac, capc, rfl⟩ := os.1.len
  have hB3 := hB2.trans (hb3.mono hB2.size)
  have Ly := lay_made5 ot op os lt2 lp2 ls2 (hL.keep hB3)
  clear e1 h
  generalize q.t = t at *
  generalize q.p = p at *
  generalize q.s = s at *
  have hpl := Ly.pl
  have ht64 := Ly.t64
  go_wp2_with fail
  refine (Ly.eval).mono ?_
  rintro e w4 ⟨he, hb4⟩
  unfold ev at he
  subst he
  have L4 := Ly.keep hb4
  have hB4 := hB3.trans (hb4.mono hB3.size)
  have HTL := Lib.hid L4.tl
  have HM := Lib.hid (fun j => mev_evalL (p.take j) t (p.drop j))
  obtain ⟨y, hy⟩ : ∃ y, y = mev t p := ⟨_, rfl⟩
  rw [← hy]
  have HY := Lib.hid hy
  have HP := Lib.hid L4.hp
  have HLd := Lib.hid L4.laid
  have ht4 := L4.ht
  clear Ly hy L4 ot op os dtp dts dps
  go_wp2_with fail
  refine wp_stk1 fun W5 hB5 hz5 b5 => ?_
  have hs5 := hB5.size
  go_loopw [4, 8] (fun v i wr => ∃ (k : Nat) (A : Option Addr) (cap : Nat), k ≤ p.length ∧ i = .int .i64 k ∧ v = .slice A (2 ^ (p.length - k)) cap ∧ ExtS 0 wr.heap.size wr v (evalL t (p.take k)) ∧ Blk wr w4.heap.size 27 #[.int .u64 (fv y.a), .int .u64 (fv y.b)] ∧ Below w4.heap.size w4 wr) (fun _ i _ => p.length - (intOf i).toNat)
  case atStart => exact ⟨0, Aa, capa, Nat.zero_le _, rfl, by rw [Nat.sub_zero, ← HTL.out], (Rd.keep ht4 hB5).wide (Nat.zero_le _) hs5, b5, hB5⟩
  case round =>
    obtain ⟨k, A, cap, hk, rfl, rfl, hv, bk, hB⟩ := hrel
    by_cases hlt : k < p.length
    · obtain ⟨g2, o2, c2, hvp, -, -, -, p4, p5⟩ := exts_cells (Rd.keep HP.out hB) (by omega)
      cases hvp
      obtain ⟨r, hr⟩ : ∃ r, p[k]? = some r := ⟨p[k], List.getElem?_eq_getElem hlt⟩
      obtain ⟨d1, d2⟩ := p5 k r hr
      have hlk : (evalL t (p.take k)).length = 2 * 2 ^ (p.length - (k + 1)) := by
        rw [evalL_len2 (p.take k) t (p.length - k) (by rw [HTL.out, List.length_take]; congr 1; omega), show p.length - k = p.length - (k + 1) + 1 by omega, Nat.pow_succ']
      have hst : evalL t (p.take (k + 1)) = bindL (evalL t (p.take k)) r := by rw [List.take_add_one, hr]; exact evalL_snoc _ _ _
      have hpw : 2 ^ (p.length - k) = 2 * 2 ^ (p.length - (k + 1)) := by rw [show p.length - k = p.length - (k + 1) + 1 by omega, Nat.pow_succ']
      have hpb : 2 ^ (p.length - (k + 1)) ≤ 64 := Nat.le_trans (Nat.pow_le_pow_right (by decide) (show p.length - (k + 1) ≤ 6 by omega)) (by decide)
      have hp0 : 0 < 2 ^ (p.length - (k + 1)) := Nat.two_pow_pos _
      rw [hpw] at hv ⊢
      generalize hm : 2 ^ (p.length - (k + 1)) = m at *
      have HMm := Lib.hid hm
      have HST := Lib.hid hst
      clear hr p5 hst hpw hm
      go_wp2_with fail
      refine (gBind (evalL t (p.take k)) r m hlk (by omega) hp0 _ 0 wr.heap.size wr hv).mono ?_
      rintro e w6 ⟨v6, rfl, t6, hb6⟩
      replace t6 : ExtS _ _ w6 v6 (bindL (evalL t (p.take k)) r) := t6
      have hl6 := bindL_length r m _ hlk
      rw [← HST.out] at t6 hl6
      have hmv := HM.out (k + 1)
      rw [List.take_append_drop, ← HY.out] at hmv
      generalize htk : evalL t (p.take (k + 1)) = tk at *
      have HTK := Lib.hid htk
      have HMV := Lib.hid hmv
      obtain ⟨A6, cap6, rfl⟩ := Rd.len t6
      rw [hl6] at t6 ⊢
      have HL6 := Lib.hid hl6
      obtain ⟨d, hd⟩ : ∃ d, d = p.length - (k + 1) := ⟨_, rfl⟩
      rw [← hd] at HMm
      have hd1 : (p.length : Int) - (k : Int) - 1 = (d : Int) := by omega
      have hdl : (p.drop (k + 1)).length = d := by rw [List.length_drop, hd]
      have HDL := Lib.hid hdl
      obtain ⟨A', cap', hcut, hread⟩ := cut_ext (some ⟨g2, o2, none⟩) p.length capb (k + 1) (by omega)
      rw [← hd] at hcut hread
      have hcut' : ∀ w, (Instr.sliceAt 22 (.slice (some ⟨g2, o2, none⟩) p.length capb) (some (.int .i64 ((k : Int) + 1))) none none).run Tryd.prog w = .ok (.slice A' d cap') w := fun w => by have := hcut w; simpa using this
      have HC := Lib.hid hcut'
      have B6 := hB.trans (hb6.mono hB.size)
      have hdq : Hid (d = p.length - (k + 1)) := hd
      clear hlk hv hmv htk hl6 hd hdl hcut hcut'
      go_wp2_with fail
      refine (gValidK _ d true (vr_rawE tk d (HL6.out.trans HMm.out.symm) (by omega)) _ _ _ w6 (raws_of_exts t6)).mono ?_
      rintro e w7 ⟨rfl, hb7⟩
      have B7 := B6.trans (hb7.mono B6.size)
      have t7 := Rd.keep t6 hb7
      have hh7 := hb7.size
      have b7 := (bk.keep hb6).keep hb7
      have hP7 : ExtS 0 w4.heap.size w7 _ (p.drop (k + 1)) := hread _ _ _ _ (Rd.keep HP.out B7)
      have h47 := B7.size
      have c1 := gw_blk b7
      clear t6 hread d1 d2 p4
      go_wp2_with fail
      refine wp_region_rg 21 [(16, Spec.val (.slice A' d cap')), (17, Spec.val (.agg #[.int .u64 (fv (y).a), .int .u64 (fv (y).b)]))] (by kernel_rfl) (by kernel_rfl) (by kernel_rfl) trivial ?_
      refine rg_det rfl rfl rfl (fun K hK => ?_)
      go_big_quiet_op
      refine hK _ ?_; clear hK K
      refine rg_det rfl rfl rfl (fun K hK => ?_)
      go_big_quiet_op
      refine hK _ ?_; clear hK K
      refine rg_det rfl rfl rfl (fun K hK => ?_)
      go_big_quiet_op
      refine hK _ ?_; clear hK K
      refine rg_det rfl rfl rfl (fun K hK => ?_)
      go_big_quiet_op
      refine hK _ ?_; clear hK K
      refine rg_det rfl rfl rfl (fun K hK => ?_)
      go_big_quiet_op
      refine hK _ ?_; clear hK K
      refine rg_det rfl rfl rfl (fun K hK => ?_)
      go_big_quiet_op
      refine hK _ ?_; clear hK K
      refine rg_det rfl rfl rfl (fun K hK => ?_)
      go_big_quiet_op
      refine hK _ ?_; clear hK K
      refine rg_det rfl rfl rfl (fun K hK => ?_)
      go_big_quiet_op
      refine hK _ ?_; clear hK K
      refine rg_det rfl rfl rfl (fun K hK => ?_)
      go_big_quiet_op
      refine hK _ ?_; clear hK K
      refine rg_det rfl rfl rfl (fun K hK => ?_)
      go_big_quiet_op
      refine hK _ ?_; clear hK K
      refine rg_det rfl rfl rfl (fun K hK => ?_)
      go_big_quiet_op
      refine hK _ ?_; clear hK K
      refine rg_det rfl rfl rfl (fun K hK => ?_)
      go_big_quiet_op
      refine hK _ ?_; clear hK K
      refine rg_det rfl rfl rfl (fun K hK => ?_)
      go_big_quiet_op
      refine hK _ ?_; clear hK K
      refine rg_det rfl rfl rfl (fun K hK => ?_)
      go_big_quiet_op
      refine hK _ ?_; clear hK K
      refine rg_det rfl rfl rfl (fun K hK => ?_)
      go_big_quiet_op
      refine hK _ ?_; clear hK K
      refine rg_det rfl rfl rfl (fun K hK => ?_)
      go_big_quiet_op
      refine hK _ ?_; clear hK K
      refine rg_val rfl rfl (fun W1 hW1 hF => step_cut rfl rfl rfl HC.out) ?_
      intro a' ha
      simp only [Act.put, List.setIfInBounds_toArray, List.set_cons_succ, List.set_cons_zero] at ha
      subst ha
      refine rg_val rfl rfl (fun W1 hW1 hF => step_callv en_attestor_mle_Eval ((by rw [← HMV.out]; exact gEval tk (p.drop (k + 1)) (by rw [HDL.out]; exact HL6.out.trans HMm.out.symm) (by rw [HDL.out]; omega) _ _ _ _ _ _ W1 (Rd.keep t7 (grw_below hW1)) (Rd.keep hP7 (grw_below hW1)) (Nat.le_trans h47 (grw_below hW1).size))) rfl rfl) ?_
      intro a' ha
      simp only [Act.put, List.setIfInBounds_toArray, List.set_cons_succ, List.set_cons_zero] at ha
      subst ha
      refine rg_det rfl rfl rfl (fun K hK => ?_)
      go_big_quiet_op
      refine hK _ ?_; clear hK K
      refine rg_det rfl rfl rfl (fun K hK => ?_)
      go_big_quiet_op
      refine hK _ ?_; clear hK K
      refine rg_det rfl rfl rfl (fun K hK => ?_)
      go_big_quiet_op
      refine hK _ ?_; clear hK K
      refine rg_nil (fun w' hw' hF => ?_)
      obtain ⟨z, rfl⟩ := hw'
      simp only [List.drop_succ_cons, List.drop_zero]
      have tz := Rd.keep t7 z.h
      have bz := b7.gw z
      have Bz := B7.trans (z.h.mono B7.size)
      have hzs := z.h.size
      clear hF c1
      go_wp2_with fail
      refine ⟨⟨k + 1, A6, cap6, by omega, by go_num, by rw [← hdq.out, HMm.out], ?_, bz, Bz⟩, by simp [intOf]; omega⟩
      rw [HTK.out]
      exact tz.wide (Nat.zero_le _) (by omega)
    · obtain rfl : k = p.length := by omega
      rw [List.take_of_length_le (Nat.le_refl _), evalL_mev HTL.out, ← HY.out, Nat.sub_self, Nat.pow_zero] at hv
      rw [Nat.sub_self, Nat.pow_zero]
      obtain ⟨g2, o2, c2, hv2, -, -, -, p4, p5⟩ := exts_cells hv (Nat.succ_pos _)
      cases hv2
      obtain ⟨d1, d2⟩ := p5 0 y rfl
      rw [Nat.zero_mul, Nat.add_zero] at d1 d2
      have f1 := gw_cell p4 d1
      have f2 := gw_cell p4 d2
      have f3 := gw_blk bk
      clear p5 d1 d2 hv
      go_wp2_with fail
      refine wp_region_rg 13 [] (by kernel_rfl) (by kernel_rfl) (by kernel_rfl) trivial ?_
      refine rg_det rfl rfl rfl (fun K hK => ?_)
      go_big_quiet_op
      refine hK _ ?_; clear hK K
      refine rg_det rfl rfl rfl (fun K hK => ?_)
      go_big_quiet_op
      refine hK _ ?_; clear hK K
      refine rg_det rfl rfl rfl (fun K hK => ?_)
      go_big_quiet_op
      refine hK _ ?_; clear hK K
      refine rg_det rfl rfl rfl (fun K hK => ?_)
      go_big_quiet_op
      refine hK _ ?_; clear hK K
      refine rg_det rfl rfl rfl (fun K hK => ?_)
      go_big_quiet_op
      refine hK _ ?_; clear hK K
      refine rg_det rfl rfl rfl (fun K hK => ?_)
      go_big_quiet_op
      refine hK _ ?_; clear hK K
      refine rg_det rfl rfl rfl (fun K hK => ?_)
      go_big_quiet_op
      refine hK _ ?_; clear hK K
      refine rg_det rfl rfl rfl (fun K hK => ?_)
      go_big_quiet_op
      refine hK _ ?_; clear hK K
      refine rg_det rfl rfl rfl (fun K hK => ?_)
      go_big_quiet_op
      refine hK _ ?_; clear hK K
      refine rg_det rfl rfl rfl (fun K hK => ?_)
      go_big_quiet_op
      refine hK _ ?_; clear hK K
      refine rg_det rfl rfl rfl (fun K hK => ?_)
      go_big_quiet_op
      refine hK _ ?_; clear hK K
      refine rg_det rfl rfl rfl (fun K hK => ?_)
      go_big_quiet_op
      refine hK _ ?_; clear hK K
      refine rg_det rfl rfl rfl (fun K hK => ?_)
      go_big_quiet_op
      refine hK _ ?_; clear hK K
      refine rg_nil (fun w' hw' hF => ?_)
      obtain ⟨z, rfl⟩ := hw'
      simp only [List.drop_succ_cons, List.drop_zero]
      clear hF
      go_wp2_with fail
      go_ret
      have B9 := hB.trans (z.h.mono hB.size)
      exact ⟨rfl, hB4.trans (B9.mono hB4.size)⟩
end Go.Proofs.YtphokpkigbonlaaDoor
