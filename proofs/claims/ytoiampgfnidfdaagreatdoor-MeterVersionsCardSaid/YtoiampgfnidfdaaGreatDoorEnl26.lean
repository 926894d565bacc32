/-
  The reference's SameEpoch and Same of meters, by contract.
  The reference's Same of meters, by contract.
  How long an encoding is; two new variables in a drawn region.
-/
import Derived.Test.YtoiampgfnidfdaaGreatDoorVsm26
import Derived.Test.YtoiampgfnidfdaaGreatDoorSpd26
namespace Go.Proofs.YtoiampgfnidfdaaGreatDoor
open Go.RowKit

theorem en_attestor_attestorref26_SameEpoch : ∀ args w, (callFunc 37 args).run Tryz.prog w = .ok (.enter 37 args) w := enters_of Tryz.func37 (by kernel_rfl) rfl
theorem en_attestor_attestorref26_Same : ∀ args w, (callFunc 20 args).run Tryz.prog w = .ok (.enter 20 args) w := enters_of Tryz.func20 (by kernel_rfl) rfl
theorem pts_snoc_eq {xs ys : List Pt} {k : Nat} {x : Pt} (hx : xs[k]? = some x) (hy : ys[k]? = some x) (h : xs.take k = ys.take k) : xs.take (k + 1) = ys.take (k + 1) := by
  rw [List.take_add_one, List.take_add_one, hx, hy, h]
theorem pts_ne {xs ys : List Pt} {k : Nat} {x y : Pt} (hx : xs[k]? = some x) (hy : ys[k]? = some y) (h : x ≠ y) : xs ≠ ys := fun e => by
  subst e
  rw [hx] at hy
  exact h (Option.some.inj hy)
attribute [local irreducible] wpRg
set_option maxRecDepth 100000 in
set_option maxHeartbeats 8000000 in
theorem rSameEp (a b : Ep) (hH : Hd a b) (ua ub : EpW) (w : World) (ha : EpIn w ua a) (hb : EpIn w ub b) : Calls Tryz.prog 37 #[.agg (epc ua).toArray, .agg (epc ub).toArray] w (Ret (.bool (decide (a = b))) w) := by
  obtain ⟨R, hR⟩ : ∃ R, R = decide (a = b) := ⟨_, rfl⟩
  rw [← hR]
  obtain ⟨l1, c1, f1, p1, k1⟩ := a
  obtain ⟨l2, c2, f2, p2, k2⟩ := b
  obtain ⟨l1', c1', f1', u1, x1⟩ := ua
  obtain ⟨l2', c2', f2', u2, x2⟩ := ub
  obtain ⟨⟨e1, e2, e3⟩, hp1, hk1⟩ := ha
  obtain ⟨⟨e4, e5, e6⟩, hp2, hk2⟩ := hb
  dsimp only at e1 e2 e3 e4 e5 e6 hp1 hp2 hk1 hk2
  subst e1 e2 e3 e4 e5 e6
  obtain ⟨A1, cp1, rfl⟩ := hp1.len
  obtain ⟨A2, cp2, rfl⟩ := hp2.len
  obtain ⟨B1, cq1, rfl⟩ := hk1.len
  obtain ⟨B2, cq2, rfl⟩ := hk2.len
  have hs1 := hp1.small
  have hs2 := hp2.small
  obtain ⟨n1, hn1⟩ : ∃ n, n = p1.length := ⟨_, rfl⟩
  obtain ⟨n2, hn2⟩ : ∃ n, n = p2.length := ⟨_, rfl⟩
  obtain ⟨d1, hd1⟩ : ∃ n, n = k1.length := ⟨_, rfl⟩
  obtain ⟨d2, hd2⟩ : ∃ n, n = k2.length := ⟨_, rfl⟩
  rw [← hn1] at hp1 hs1 ⊢
  rw [← hn2] at hp2 hs2 ⊢
  rw [← hd1] at hk1 ⊢
  rw [← hd2] at hk2 ⊢
  have HN1 := Lib.hid hn1
  have HN2 := Lib.hid hn2
  have HK1 := Lib.hid hk1
  have HK2 := Lib.hid hk2
  have HP1 := Lib.hid hp1
  have HP2 := Lib.hid hp2
  have HH := Lib.hid hH
  have HR := Lib.hid hR
  unfold epc
  dsimp only
  clear hn1 hn2 hk1 hk2 hp1 hp2 hH hR hd1 hd2
  go_enter Tryz.func37, Tryz.ntmps37
  go_upto_region 1 with (fail)
  refine wp_stk2 fun W hB hz b2 b3 => ?_
  have c20 := (b2.cell 0).trans rfl
  have c21 := (b2.cell 1).trans rfl
  have c22 := (b2.cell 2).trans rfl
  have c23 := (b2.cell 3).trans rfl
  have c24 := (b2.cell 4).trans rfl
  have c30 := (b3.cell 0).trans rfl
  have c31 := (b3.cell 1).trans rfl
  have c32 := (b3.cell 2).trans rfl
  have c33 := (b3.cell 3).trans rfl
  have c34 := (b3.cell 4).trans rfl
  have l2w := b2.lt
  have l3w := b3.lt
  clear hz
  by_cases hl : l1' = l2'
  rotate_left 1
  · have hb : R = false := by rw [HR.out]; exact decide_eq_false fun e => hl (congrArg Ep.log e)
    have hne : ((l1' : Int) != (l2' : Int)) = true := by rw [bne_iff_ne]; omega
    subst hb
    go_wp2_with fail
    go_ret
    exact ⟨rfl, hB⟩
  subst hl
  by_cases hc : c1' = c2'
  rotate_left 1
  · have hb : R = false := by rw [HR.out]; exact decide_eq_false fun e => hc (congrArg Ep.count e)
    have hne : ((c1' : Int) != (c2' : Int)) = true := by rw [bne_iff_ne]; omega
    subst hb
    go_wp2_with fail
    go_ret
    exact ⟨rfl, hB⟩
  subst hc
  by_cases hf : f1' = f2'
  rotate_left 1
  · have hb : R = false := by rw [HR.out]; exact decide_eq_false fun e => hf (congrArg Ep.closed e)
    have hne : (f1' != f2') = true := by rw [bne_iff_ne]; exact hf
    subst hb
    go_wp2_with fail
    go_ret
    exact ⟨rfl, hB⟩
  subst hf
  by_cases hn : n1 = n2
  rotate_left 1
  · have hb : R = false := by rw [HR.out]; exact decide_eq_false fun e => hn (by rw [HN1.out, HN2.out]; exact congrArg (fun x : Ep => x.pts.length) e)
    have hne : ((n1 : Int) != (n2 : Int)) = true := by rw [bne_iff_ne]; omega
    subst hb
    go_wp2_with fail
    go_ret
    exact ⟨rfl, hB⟩
  subst hn
  have hkk : k1 = k2 := HH.out rfl rfl rfl (HN1.out.symm.trans HN2.out)
  subst hkk
  go_wp2_with fail
  refine (rSameD k1 _ _ W (HK1.out.keep hB) (HK2.out.keep hB)).mono ?_
  rintro e w1 ⟨rfl, hb⟩
  have hB1 := hB.trans (hb.mono hB.size)
  have b2' := b2.keep hb
  have b3' := b3.keep hb
  have HP1' := Lib.hid (HP1.out.keep hB1)
  have HP2' := Lib.hid (HP2.out.keep hB1)
  clear c20 c21 c22 c23 c24 c30 c31 c32 c33 c34 l2w l3w b2 b3
  have c23 := (b2'.cell 3).trans rfl
  have c33 := (b3'.cell 3).trans rfl
  have l2w := b2'.lt
  have l3w := b3'.lt
  have HB2 := Lib.hid b2'
  have HB3 := Lib.hid b3'
  have HBW := Lib.hid hB1
  clear hb hB1 b2' b3' hB
  go_upto_region 4 with (fail)
  go_loopw [5] (fun i wr => ∃ k : Nat, k ≤ n1 ∧ i = .int .i64 k ∧ Hid (p1.take k = p2.take k) ∧ Below w1.heap.size w1 wr) (fun i _ => n1 - (intOf i).toNat)
  case atStart => exact ⟨0, Nat.zero_le _, rfl, Lib.hid rfl, Below.refl _ _⟩
  case round =>
    obtain ⟨k, hk, rfl, HTk, hBr⟩ := hrel
    clear c23 c33 l2w l3w
    have c23 := ((HB2.out.keep hBr).cell 3).trans rfl
    have c33 := ((HB3.out.keep hBr).cell 3).trans rfl
    have l2w := (HB2.out.keep hBr).lt
    have l3w := (HB3.out.keep hBr).lt
    by_cases hlt : k < n1
    rotate_left 1
    · obtain rfl : k = n1 := by omega
      have hb : R = true := by
        have := HTk.out
        rw [List.take_of_length_le (by rw [← HN1.out]; exact Nat.le_refl _), List.take_of_length_le (by rw [← HN2.out]; exact Nat.le_refl _)] at this
        rw [HR.out]
        exact decide_eq_true (by rw [this])
      subst hb
      have hBz := HBW.out.trans (hBr.mono HBW.out.size)
      clear hBr
      go_wp2_with fail
      go_ret
      exact ⟨rfl, hBz⟩
    obtain ⟨p, hp⟩ : ∃ p, p1[k]? = some p := ⟨_, List.getElem?_eq_getElem (by rw [← HN1.out]; exact hlt)⟩
    obtain ⟨q, hq⟩ : ∃ p, p2[k]? = some p := ⟨_, List.getElem?_eq_getElem (by rw [← HN2.out]; exact hlt)⟩
    obtain ⟨ga, oa, ca, ra, va, hv, -, hga, y0, y1, y2, hRa, hVa⟩ := (HP1'.out.keep hBr).at hp
    rw [← HN1.out] at hv
    cases hv
    obtain ⟨gc, oc, cc, rc, vc, hv, -, hgc, z0, z1, z2, hRc, hVc⟩ := (HP2'.out.keep hBr).at hq
    rw [← HN2.out] at hv
    cases hv
    have f2 := gw_cell (W := wr) l2w c23
    have f3 := gw_cell (W := wr) l3w c33
    have g0 := gw_cell (W := wr) hga y0
    have g1 := gw_cell (W := wr) hga y1
    have g2 := gw_cell (W := wr) hga y2
    have h0 := gw_cell (W := wr) hgc z0
    have h1 := gw_cell (W := wr) hgc z1
    have h2 := gw_cell (W := wr) hgc z2
    obtain ⟨R1, V1, U1⟩ := p
    obtain ⟨R2, V2, U2⟩ := q
    dsimp only at hRa hVa hRc hVc g2 h2
    have SR := Lib.hid (fun W1 (hW : Below wr.heap.size wr W1) => rSame2 R1 R2 _ _ _ _ _ _ W1 (RdA.keep hRa hW) (RdA.keep hRc hW))
    have SV := Lib.hid (fun W1 (hW : Below wr.heap.size wr W1) => rSame2 V1 V2 _ _ _ _ _ _ W1 (RdA.keep hVa hW) (RdA.keep hVc hW))
    have HPk := Lib.hid hp
    have HQk := Lib.hid hq
    have hBz := HBW.out.trans (hBr.mono HBW.out.size)
    have HBZ := Lib.hid hBz
    have HBr := Lib.hid hBr
    clear y0 y1 y2 z0 z1 z2 hRa hVa hRc hVc hp hq hBz hBr
    go_upto_region 6 with (fail)
    by_cases hr : R1 = R2
    rotate_left 1
    · have hb : R = false := by rw [HR.out]; exact decide_eq_false fun e => pts_ne HPk.out HQk.out (fun e => hr (congrArg Pt.R e)) (congrArg Ep.pts e)
      subst hb
      have SR2 := Lib.hid (fun W1 hW => by have := SR.out W1 hW; rwa [decide_eq_false hr] at this)
      refine wp_region_rg 45 [(12, Spec.val (.bool false))] (by kernel_rfl) (by kernel_rfl) (by kernel_rfl) trivial ?_
      iterate 12 (refine rg_det rfl rfl rfl (fun K hK => ?_); go_big_quiet_op; refine hK _ ?_; clear hK K)
      refine rg_val rfl rfl (fun W1 hW1 hF => step_callv en_attestor_attestorref02_Same (SR2.out W1 (grw_below hW1)) rfl rfl) ?_
      intro a' ha
      simp only [Act.put, List.setIfInBounds_toArray, List.set_cons_succ, List.set_cons_zero] at ha
      subst ha
      iterate 2 (refine rg_det rfl rfl rfl (fun K hK => ?_); go_big_quiet_op; refine hK _ ?_; clear hK K)
      iterate 14 (refine rg_skip (by kernel_rfl) ?_; intro a' ha; simp only [Act.put, List.setIfInBounds_toArray, List.set_cons_succ, List.set_cons_zero] at ha; subst ha)
      iterate 2 (refine rg_det rfl rfl rfl (fun K hK => ?_); go_big_quiet_op; refine hK _ ?_; clear hK K)
      iterate 13 (refine rg_skip (by kernel_rfl) ?_; intro a' ha; simp only [Act.put, List.setIfInBounds_toArray, List.set_cons_succ, List.set_cons_zero] at ha; subst ha)
      refine rg_det rfl rfl rfl (fun K hK => ?_)
      go_big_quiet_op
      refine hK _ ?_; clear hK K
      refine rg_nil (fun w' hw' hF => ?_)
      obtain ⟨z, rfl⟩ := hw'
      simp only [List.drop_succ_cons, List.drop_zero]
      clear hF
      go_wp2_with fail
      go_ret
      exact ⟨rfl, HBZ.out.trans (z.h.mono HBZ.out.size)⟩
    have SR2 := Lib.hid (fun W1 hW => by have := SR.out W1 hW; rwa [decide_eq_true hr] at this)
    by_cases hv : V1 = V2
    rotate_left 1
    · have hb : R = false := by rw [HR.out]; exact decide_eq_false fun e => pts_ne HPk.out HQk.out (fun e => hv (congrArg Pt.V e)) (congrArg Ep.pts e)
      subst hb
      have SV2 := Lib.hid (fun W1 hW => by have := SV.out W1 hW; rwa [decide_eq_false hv] at this)
      refine wp_region_rg 45 [(12, Spec.val (.bool true)), (27, Spec.val (.bool false))] (by kernel_rfl) (by kernel_rfl) (by kernel_rfl) trivial ?_
      iterate 12 (refine rg_det rfl rfl rfl (fun K hK => ?_); go_big_quiet_op; refine hK _ ?_; clear hK K)
      refine rg_val rfl rfl (fun W1 hW1 hF => step_callv en_attestor_attestorref02_Same (SR2.out W1 (grw_below hW1)) rfl rfl) ?_
      intro a' ha
      simp only [Act.put, List.setIfInBounds_toArray, List.set_cons_succ, List.set_cons_zero] at ha
      subst ha
      iterate 14 (refine rg_det rfl rfl rfl (fun K hK => ?_); go_big_quiet_op; refine hK _ ?_; clear hK K)
      refine rg_val rfl rfl (fun W1 hW1 hF => step_callv en_attestor_attestorref02_Same (SV2.out W1 (grw_below hW1)) rfl rfl) ?_
      intro a' ha
      simp only [Act.put, List.setIfInBounds_toArray, List.set_cons_succ, List.set_cons_zero] at ha
      subst ha
      iterate 3 (refine rg_det rfl rfl rfl (fun K hK => ?_); go_big_quiet_op; refine hK _ ?_; clear hK K)
      iterate 13 (refine rg_skip (by kernel_rfl) ?_; intro a' ha; simp only [Act.put, List.setIfInBounds_toArray, List.set_cons_succ, List.set_cons_zero] at ha; subst ha)
      refine rg_det rfl rfl rfl (fun K hK => ?_)
      go_big_quiet_op
      refine hK _ ?_; clear hK K
      refine rg_nil (fun w' hw' hF => ?_)
      obtain ⟨z, rfl⟩ := hw'
      simp only [List.drop_succ_cons, List.drop_zero]
      clear hF
      go_wp2_with fail
      go_ret
      exact ⟨rfl, HBZ.out.trans (z.h.mono HBZ.out.size)⟩
    have SV2 := Lib.hid (fun W1 hW => by have := SV.out W1 hW; rwa [decide_eq_true hv] at this)
    by_cases hu : U1 = U2
    rotate_left 1
    · have hb : R = false := by rw [HR.out]; exact decide_eq_false fun e => pts_ne HPk.out HQk.out (fun e => hu (congrArg Pt.used e)) (congrArg Ep.pts e)
      subst hb
      obtain ⟨rfl, rfl⟩ | ⟨rfl, rfl⟩ : (U1 = true ∧ U2 = false) ∨ (U1 = false ∧ U2 = true) := by
        cases U1 <;> cases U2
        · exact absurd rfl hu
        · exact .inr ⟨rfl, rfl⟩
        · exact .inl ⟨rfl, rfl⟩
        · exact absurd rfl hu
      all_goals
        refine wp_region_rg 45 [(12, Spec.val (.bool true)), (27, Spec.val (.bool true))] (by kernel_rfl) (by kernel_rfl) (by kernel_rfl) trivial ?_
        iterate 12 (refine rg_det rfl rfl rfl (fun K hK => ?_); go_big_quiet_op; refine hK _ ?_; clear hK K)
        refine rg_val rfl rfl (fun W1 hW1 hF => step_callv en_attestor_attestorref02_Same (SR2.out W1 (grw_below hW1)) rfl rfl) ?_
        intro a' ha
        simp only [Act.put, List.setIfInBounds_toArray, List.set_cons_succ, List.set_cons_zero] at ha
        subst ha
        iterate 14 (refine rg_det rfl rfl rfl (fun K hK => ?_); go_big_quiet_op; refine hK _ ?_; clear hK K)
        refine rg_val rfl rfl (fun W1 hW1 hF => step_callv en_attestor_attestorref02_Same (SV2.out W1 (grw_below hW1)) rfl rfl) ?_
        intro a' ha
        simp only [Act.put, List.setIfInBounds_toArray, List.set_cons_succ, List.set_cons_zero] at ha
        subst ha
        iterate 17 (refine rg_det rfl rfl rfl (fun K hK => ?_); go_big_quiet_op; refine hK _ ?_; clear hK K)
        refine rg_nil (fun w' hw' hF => ?_)
        obtain ⟨z, rfl⟩ := hw'
        simp only [List.drop_succ_cons, List.drop_zero]
        clear hF
        go_wp2_with fail
        go_ret
        exact ⟨rfl, HBZ.out.trans (z.h.mono HBZ.out.size)⟩
    subst hr hv hu
    refine wp_region_rg 45 [(12, Spec.val (.bool true)), (27, Spec.val (.bool true))] (by kernel_rfl) (by kernel_rfl) (by kernel_rfl) trivial ?_
    iterate 12 (refine rg_det rfl rfl rfl (fun K hK => ?_); go_big_quiet_op; refine hK _ ?_; clear hK K)
    refine rg_val rfl rfl (fun W1 hW1 hF => step_callv en_attestor_attestorref02_Same (SR2.out W1 (grw_below hW1)) rfl rfl) ?_
    intro a' ha
    simp only [Act.put, List.setIfInBounds_toArray, List.set_cons_succ, List.set_cons_zero] at ha
    subst ha
    iterate 14 (refine rg_det rfl rfl rfl (fun K hK => ?_); go_big_quiet_op; refine hK _ ?_; clear hK K)
    refine rg_val rfl rfl (fun W1 hW1 hF => step_callv en_attestor_attestorref02_Same (SV2.out W1 (grw_below hW1)) rfl rfl) ?_
    intro a' ha
    simp only [Act.put, List.setIfInBounds_toArray, List.set_cons_succ, List.set_cons_zero] at ha
    subst ha
    iterate 17 (refine rg_det rfl rfl rfl (fun K hK => ?_); go_big_quiet_op; refine hK _ ?_; clear hK K)
    refine rg_nil (fun w' hw' hF => ?_)
    obtain ⟨z, rfl⟩ := hw'
    simp only [List.drop_succ_cons, List.drop_zero]
    clear hF
    go_wp2_with fail
    exact ⟨⟨k + 1, by omega, by go_num, Lib.hid (pts_snoc_eq HPk.out HQk.out HTk.out), HBr.out.trans (z.h.mono HBr.out.size)⟩, by simp [intOf]; omega⟩
end Go.Proofs.YtoiampgfnidfdaaGreatDoor
namespace Go.Proofs.YtoiampgfnidfdaaGreatDoor
open Go.RowKit

attribute [local irreducible] wpRg keyD sha leafD pairD
set_option maxRecDepth 100000 in
set_option maxHeartbeats 8000000 in
theorem rSameM (m : Mt) (hs : DgOk m.seed) (v1 v2 : Value) (w : World) (h1 : EpsA w v1 m.eps) (h2 : EpsA w v2 m.eps) : Calls Tryz.prog 20 #[mtV m v1, mtV m v2] w (Ret (.bool true) w) := by
  obtain ⟨A1, cp1, rfl⟩ := h1.len
  obtain ⟨A2, cp2, rfl⟩ := h2.len
  have hsm := h1.small
  have hsl : m.seed.length = 32 := hs.1
  obtain ⟨n, hn⟩ : ∃ n, n = m.eps.length := ⟨_, rfl⟩
  rw [← hn] at h1 h2 hsm ⊢
  have HN := Lib.hid hn
  have H1 := Lib.hid h1
  have H2 := Lib.hid h2
  obtain ⟨S1, hS1⟩ : ∃ S, S = mtV m (.slice A1 n cp1) := ⟨_, rfl⟩
  obtain ⟨S2, hS2⟩ : ∃ S, S = mtV m (.slice A2 n cp2) := ⟨_, rfl⟩
  rw [← hS1, ← hS2]
  clear hn h1 h2 hs
  go_enter Tryz.func20, Tryz.ntmps20
  go_upto_region 1 with (fail)
  refine wp_stk2 fun W hB hz b2 b3 => ?_
  have b2' : Blk W w.heap.size 35 (mtc m (.slice A1 n cp1)).toArray := by first | exact b2 | (rw [hS1] at b2; exact b2)
  have b3' : Blk W (w.heap.size + 1) 35 (mtc m (.slice A2 n cp2)).toArray := by first | exact b3 | (rw [hS2] at b3; exact b3)
  clear b2 b3 hz hS1 hS2
  have c20 := mt_cell0 b2'
  have c30 := mt_cell0 b3'
  have c23 := mt_cell b2' hsl
  have c33 := mt_cell b3' hsl
  have l2 := b2'.lt
  have l3 := b3'.lt
  have HB2 := Lib.hid b2'
  have HB3 := Lib.hid b3'
  go_upto_region 1 with (fail)
  refine wp_region_lit ?_
  iterate 6 (refine wpList_plain rfl fun K hK => ?_; go_big_op; refine hK _ _ ?_; clear hK K)
  refine wpList_step fun K2 hK2 => ?_
  rw [if_pos (by rfl)]
  go_big_op
  refine hK2 _ _ ?_
  clear hK2 K2
  try simp only [Act.put, List.setIfInBounds_toArray, List.set_cons_succ, List.set_cons_zero]
  refine wpList_step fun K3 hK3 => ?_
  rw [if_pos (by rfl)]
  refine wp_of_step (stepAt_mono (fun v13 w13 hh => ?_) (step_loadR0 (cs := byc m.seed) b32_under rfl (by rw [b32_size, byc_length, hsl]) rfl rfl (mt_seed b2')))
  obtain ⟨rfl, rfl⟩ := hh
  refine hK3 _ _ ?_
  clear hK3 K3
  try simp only [Act.put, List.setIfInBounds_toArray, List.set_cons_succ, List.set_cons_zero]
  refine wpList_step fun K4 hK4 => ?_
  rw [if_pos (by rfl)]
  go_big_op
  refine hK4 _ _ ?_
  clear hK4 K4
  try simp only [Act.put, List.setIfInBounds_toArray, List.set_cons_succ, List.set_cons_zero]
  refine wpList_step fun K5 hK5 => ?_
  rw [if_pos (by rfl)]
  refine wp_of_step (stepAt_mono (fun v15 w15 hh => ?_) (step_loadR0 (cs := byc m.seed) b32_under rfl (by rw [b32_size, byc_length, hsl]) rfl rfl (mt_seed b3')))
  obtain ⟨rfl, rfl⟩ := hh
  refine hK5 _ _ ?_
  clear hK5 K5
  try simp only [Act.put, List.setIfInBounds_toArray, List.set_cons_succ, List.set_cons_zero]
  refine wpList_step fun K6 hK6 => ?_
  rw [if_pos (by rfl)]
  refine wp_of_step (stepAt_mono (fun v16 w16 hh => ?_) (step_neD (d := m.seed) rfl rfl rfl hsl))
  obtain ⟨rfl, rfl⟩ := hh
  refine hK6 _ _ ?_
  clear hK6 K6
  try simp only [Act.put, List.setIfInBounds_toArray, List.set_cons_succ, List.set_cons_zero]
  iterate 2 (refine wpList_plain rfl fun K hK => ?_; go_big_op; refine hK _ _ ?_; clear hK K)
  clear b2' b3'
  try simp only [Act.put, List.setIfInBounds_toArray, List.set_cons_succ, List.set_cons_zero]
  go_upto_region 4 with (fail)
  clear c20 c30 c23 c33 l2 l3
  have HBW := Lib.hid hB
  clear hB
  go_loopw [5] (fun i wr => ∃ k : Nat, k ≤ n ∧ i = .int .i64 k ∧ Below w16.heap.size w16 wr) (fun i _ => n - (intOf i).toNat)
  case atStart => exact ⟨0, Nat.zero_le _, rfl, Below.refl _ _⟩
  case round =>
    obtain ⟨k, hk, rfl, hBr⟩ := hrel
    have b2 := HB2.out.keep hBr
    have b3 := HB3.out.keep hBr
    have c23 := mt_cell b2 hsl
    have c33 := mt_cell b3 hsl
    have l2 := b2.lt
    have l3 := b3.lt
    have hBz := HBW.out.trans (hBr.mono HBW.out.size)
    by_cases hlt : k < n
    rotate_left 1
    · obtain rfl : k = n := by omega
      clear hBr b2 b3
      go_wp2_with fail
      go_ret
      exact ⟨rfl, hBz⟩
    obtain ⟨us, hr, ha⟩ := EpsA.keep H1.out hBz
    obtain ⟨u, e, hu, he, hin⟩ := ha.get (k := k) (by rw [← HN.out]; exact hlt)
    obtain ⟨g, off, cap', hv, hcp, hg, hcs⟩ := RdA.at epc_len hr hu
    rw [ha.1, ← HN.out] at hv hcp
    cases hv
    have hrg : wr.rangeAt g (off + k * 5) (epc u) := fun j x hj => by rw [Nat.add_assoc]; exact hcs j x hj
    obtain ⟨us2, hr2, ha2⟩ := EpsA.keep H2.out hBz
    obtain ⟨u2, e2, hu2, he2, hin2⟩ := ha2.get (k := k) (by rw [← HN.out]; exact hlt)
    obtain rfl : e2 = e := Option.some.inj (he2.symm.trans he)
    obtain ⟨g', off', cap'', hv, hcp2, hg2, hcs2⟩ := RdA.at epc_len hr2 hu2
    rw [ha2.1, ← HN.out] at hv hcp2
    cases hv
    have hrg2 : wr.rangeAt g' (off' + k * 5) (epc u2) := fun j x hj => by rw [Nat.add_assoc]; exact hcs2 j x hj
    have f2 := gw_cell (W := wr) l2 c23
    have f3 := gw_cell (W := wr) l3 c33
    have HSE := Lib.hid (show ∀ W1, Below wr.heap.size wr W1 → Calls Tryz.prog 37 #[.agg (epc u).toArray, .agg (epc u2).toArray] W1 (Ret (.bool true) W1) from fun W1 hW => by
      have := rSameEp e2 e2 (fun _ _ _ _ => rfl) u u2 W1 (hin.keep hW) (hin2.keep hW)
      rwa [decide_eq_true rfl] at this)
    have HBR := Lib.hid hBr
    have HG := Lib.hid hrg
    have HG2 := Lib.hid hrg2
    clear hr ha hu he hcs hr2 ha2 hu2 he2 hcs2 hin hin2 hrg hrg2 hBr hBz b2 b3
    go_upto_region 6 with (fail)
    refine wp_region_rg 12 [(4, Spec.val (.agg (epc u).toArray)), (9, Spec.val (.agg (epc u2).toArray)), (10, Spec.val (.bool true))] (by kernel_rfl) (by kernel_rfl) (by kernel_rfl) trivial ?_
    iterate 4 (refine rg_det rfl rfl rfl (fun K hK => ?_); go_big_quiet_op; refine hK _ ?_; clear hK K)
    refine rg_val rfl rfl (fun W1 hW1 hF => step_loadR (cs := epc u) ep_under rfl ep_size rfl rfl (range_keep HG.out hg (grw_below hW1))) ?_
    intro a' ha
    simp only [Act.put, List.setIfInBounds_toArray, List.set_cons_succ, List.set_cons_zero] at ha
    subst ha
    iterate 4 (refine rg_det rfl rfl rfl (fun K hK => ?_); go_big_quiet_op; refine hK _ ?_; clear hK K)
    refine rg_val rfl rfl (fun W1 hW1 hF => step_loadR (cs := epc u2) ep_under rfl ep_size rfl rfl (range_keep HG2.out hg2 (grw_below hW1))) ?_
    intro a' ha
    simp only [Act.put, List.setIfInBounds_toArray, List.set_cons_succ, List.set_cons_zero] at ha
    subst ha
    refine rg_val rfl rfl (fun W1 hW1 hF => step_callv en_attestor_attestorref26_SameEpoch (HSE.out W1 (grw_below hW1)) rfl rfl) ?_
    intro a' ha
    simp only [Act.put, List.setIfInBounds_toArray, List.set_cons_succ, List.set_cons_zero] at ha
    subst ha
    refine rg_det rfl rfl rfl (fun K hK => ?_)
    go_big_quiet_op
    refine hK _ ?_; clear hK K
    refine rg_nil (fun w' hw' hF => ?_)
    obtain ⟨z, rfl⟩ := hw'
    simp only [List.drop_succ_cons, List.drop_zero]
    clear hF
    go_wp2_with fail
    exact ⟨⟨k + 1, by omega, by go_num, HBR.out.trans (z.h.mono HBR.out.size)⟩, by simp [intOf]; omega⟩
end Go.Proofs.YtoiampgfnidfdaaGreatDoor
namespace Go.Proofs.YtoiampgfnidfdaaGreatDoor
open Go.RowKit

theorem flat_le {α : Type} (f : α → List Nat) (B : Nat) : ∀ l : List α, (∀ x ∈ l, (f x).length ≤ B) → (l.flatMap f).length ≤ l.length * B
  | [], _ => by simp
  | x :: l, h => by
    rw [List.flatMap_cons, List.length_append, List.length_cons, Nat.succ_mul]
    have h1 := h x (List.mem_cons_self ..)
    have h2 := flat_le f B l fun y hy => h y (List.mem_cons_of_mem _ hy)
    omega
theorem enc_small {s : St26} {k : Nat} (h : StOk26 k s) (hk : k ≤ 100) (hp : ∀ (i : Nat) e, s.1.eps[i]? = some e → ∀ d ∈ e.peaks, DgOk d) : (encM s.1).length ≤ 900000 := by
  have h1 : (s.1.eps.flatMap epB).length ≤ s.1.eps.length * 1000 := by
    refine flat_le _ _ _ fun e he => ?_
    obtain ⟨i, hi⟩ := List.getElem?_of_mem he
    obtain ⟨l, _, hE⟩ := h.epk hi
    have h2 : (e.pts.flatMap ptB).length ≤ e.pts.length * 81 := by
      refine flat_le _ _ _ fun p hp => ?_
      obtain ⟨j, hj⟩ := List.getElem?_of_mem hp
      have hv := (hE.pt j p hj).2.1
      have h3 : (p.V.flatMap extB).length ≤ p.V.length * 16 := flat_le _ _ _ fun x _ => by simp [extB, leB]
      have h4 : p.V.length = 5 := by rw [hv]; simp [valsM]
      rw [ptB, List.length_cons]
      omega
    have h5 : (e.peaks.flatMap id).length ≤ e.peaks.length * 32 := flat_le _ _ _ fun d hd => by rw [show (id d : List Nat) = d from rfl, (hp i e hi d hd).1]; exact Nat.le_refl _
    have h6 := hE.pkl
    have h7 := (ones8 ⟨e.count, by omega⟩).1
    dsimp only at h7
    have h8 := hE.p4
    have h9 : e.peaks.flatten.length ≤ e.peaks.length * 32 := by rw [← List.flatMap_id]; exact h5
    simp only [epB, List.length_cons, List.length_append, List.length_nil, leB, List.length_map, List.length_range]
    omega
  have h2 := h.eps
  have h3 := h.seed.1
  simp only [encM, List.length_cons, List.length_append, leB, List.length_map, List.length_range]
  omega
theorem peaks_ok {v : Value} {es : List Ep} {w : World} (h : EpsA w v es) : ∀ (i : Nat) e, es[i]? = some e → ∀ d ∈ e.peaks, DgOk d := fun i e he => by
  obtain ⟨us, h1, h2⟩ := h
  obtain ⟨u, e', _, he', hR⟩ := h2.get (List.getElem?_eq_some_iff.1 he).1
  obtain rfl : e' = e := Option.some.inj (he'.symm.trans he)
  exact hR.2.2.2
theorem yields_load {P : Program} {ops : Array Oper} {S : World → Prop} {o : Oper} {a : Act} {t : TypeId} {x : Operand} {g i : Nat} {cs : List Value} {d : TypeDesc} (hgd : o.guard = none) (hu : P.underlying t = some d) (hd : d.isRow = true) (hi : (P.info? t).map (·.size) = some cs.length) (ho : o.op = .load t x) (hx : a.eval x = .pointer (some ⟨g, i, none⟩)) (hc : ∀ w, S w → w.rangeAt g i cs) : YieldsIf P ops S o (.agg cs.toArray) a :=
  .inl ⟨by simp [Region.wanted, hgd], fun w hS => by
    have h2 := run_loadAt_mid (P := P) w g i t cs d (hc w hS) hu hd hi
    unfold execOp
    simp only [ho, hx, Sem.run_bind, h2, Result.andThen_ok]
    rfl⟩
theorem step_newB {P : Program} {o : Oper} {a : Act} {w : World} {e : TypeId} {ie : TypeInfo} {z : Value} (hie : P.info? e = some ie) (hz : ie.zero = some z) (ho : o.op = .alloc e) :
    stepAt P o a w (fun v w' => ∃ g, v = .pointer (some ⟨g, 0, none⟩) ∧ w.heap.size = g ∧ Blk w' g e z.cells ∧ Below g w w') :=
  stepAt_mono (fun v w' h => by
    obtain ⟨h1, rfl⟩ := h
    exact ⟨_, h1, rfl, World.alloc_heap_new w _, (Below.refl _ w).alloc (Nat.le_refl _) _⟩) (step_new0 hie hz ho)
theorem join2n {A : Prop} {M : Nat → Nat → World → Prop} (Q : Nat → Nat → World → Prop) (h : (∀ a b X, Q a b X → M a b X) → A) (k : ∀ a b X, Q a b X → M a b X) : A := h k
end Go.Proofs.YtoiampgfnidfdaaGreatDoor
