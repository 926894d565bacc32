/-
  The reference's Close, by contract.
-/
import Derived.Test.YtoiampgfnidfdaaGreatDoorVsm26
set_option maxRecDepth 100000
set_option maxHeartbeats 8000000
namespace Go.Proofs.YtoiampgfnidfdaaGreatDoor
open Go.RowKit
section
open Go.RowKit

theorem J52 : En Tryz.prog 37 := enters_of Tryz.func37 (by kernel_rfl) rfl
theorem J1d : En Tryz.prog 20 := enters_of Tryz.func20 (by kernel_rfl) rfl
theorem Jfe {xs ys : List Pt} {k : Nat} {x : Pt} (hx : xs[k]? = some x) (hy : ys[k]? = some x) (h : xs.take k = ys.take k) : xs.take (k + 1) = ys.take (k + 1) := by
 rw [List.take_add_one, List.take_add_one, hx, hy, h]
theorem pts_ne {xs ys : List Pt} {k : Nat} {x y : Pt} (hx : xs[k]? = some x) (hy : ys[k]? = some y) (h : x ≠ y) : xs ≠ ys := fun e => by
 subst e
 rw [hx] at hy
 exact h (Option.some.inj hy)
attribute [local irreducible] wpRg
theorem rSameEp (a b : Ep) (hH : Hd a b) (ua ub : EpW) (w : World) (ha : EpIn w ua a) (hb : EpIn w ub b) : Calls Tryz.prog 37 #[.agg (epc ua).toArray, .agg (epc ub).toArray] w (Ret (.bool (decide (a = b))) w) := by
 obtain ⟨R, hR⟩ : ∃ R, R = decide (a = b) := ⟨_, rfl⟩
 rw [← hR]
 obtain ⟨l1, c1, f1, p1, k1⟩ := a
 obtain ⟨l2, c2, f2, p2, k2⟩ := b
 obtain ⟨l1', c1', f1', u1, x1⟩ := ua
 obtain ⟨l2', c2', f2', u2, x2⟩ := ub
 obtain ⟨⟨e1, e2, e3⟩, hp1, hk1⟩ := ha
 obtain ⟨⟨e4, e5, e6⟩, hp2, hk2⟩ := hb
 dsimp only at e1 e2 e3 e4 e5 e6 hp1 hp2 hk1 hk2
 subst e1 e2 e3 e4 e5 e6
 obtain ⟨A1, cp1, rfl⟩ := hp1.len
 obtain ⟨A2, cp2, rfl⟩ := hp2.len
 obtain ⟨B1, cq1, rfl⟩ := hk1.len
 obtain ⟨B2, cq2, rfl⟩ := hk2.len
 have hs1 := hp1.small
 have hs2 := hp2.small
 obtain ⟨n1, hn1⟩ : ∃ n, n = p1.length := ⟨_, rfl⟩
 obtain ⟨n2, hn2⟩ : ∃ n, n = p2.length := ⟨_, rfl⟩
 obtain ⟨d1, hd1⟩ : ∃ n, n = k1.length := ⟨_, rfl⟩
 obtain ⟨d2, hd2⟩ : ∃ n, n = k2.length := ⟨_, rfl⟩
 rw [← hn1] at hp1 hs1 ⊢
 rw [← hn2] at hp2 hs2 ⊢
 rw [← hd1] at hk1 ⊢
 rw [← hd2] at hk2 ⊢
 have HN1 := Lib.hid hn1
 have HN2 := Lib.hid hn2
 have HK1 := Lib.hid hk1
 have HK2 := Lib.hid hk2
 have HP1 := Lib.hid hp1
 have HP2 := Lib.hid hp2
 have HH := Lib.hid hH
 have HR := Lib.hid hR
 unfold epc
 dsimp only
 clear hn1 hn2 hk1 hk2 hp1 hp2 hH hR hd1 hd2
 go_enter Tryz.func37, Tryz.ntmps37
 go_upto_region 1 with (fail)
 refine J1h fun W hB hz b2 b3 => ?_
 have c20 := (b2.cell 0).trans rfl
 have c21 := (b2.cell 1).trans rfl
 have c22 := (b2.cell 2).trans rfl
 have c23 := (b2.cell 3).trans rfl
 have c24 := (b2.cell 4).trans rfl
 have c30 := (b3.cell 0).trans rfl
 have c31 := (b3.cell 1).trans rfl
 have c32 := (b3.cell 2).trans rfl
 have c33 := (b3.cell 3).trans rfl
 have c34 := (b3.cell 4).trans rfl
 have l2w := b2.lt
 have l3w := b3.lt
 clear hz
 by_cases hl : l1' = l2'
 rotate_left 1
 ·
  have hb : R = false := by rw [HR.out]; exact decide_eq_false fun e => hl (congrArg Ep.log e)
  have hne : ((l1' : Int) != (l2' : Int)) = true := by rw [bne_iff_ne]; omega
  subst hb
  go_wp2_with fail
  go_ret
  exact ⟨rfl, hB⟩
 subst hl
 by_cases hc : c1' = c2'
 rotate_left 1
 ·
  have hb : R = false := by rw [HR.out]; exact decide_eq_false fun e => hc (congrArg Ep.count e)
  have hne : ((c1' : Int) != (c2' : Int)) = true := by rw [bne_iff_ne]; omega
  subst hb
  go_wp2_with fail
  go_ret
  exact ⟨rfl, hB⟩
 subst hc
 by_cases hf : f1' = f2'
 rotate_left 1
 ·
  have hb : R = false := by rw [HR.out]; exact decide_eq_false fun e => hf (congrArg Ep.closed e)
  have hne : (f1' != f2') = true := by rw [bne_iff_ne]; exact hf
  subst hb
  go_wp2_with fail
  go_ret
  exact ⟨rfl, hB⟩
 subst hf
 by_cases hn : n1 = n2
 rotate_left 1
 ·
  have hb : R = false := by rw [HR.out]; exact decide_eq_false fun e => hn (by rw [HN1.out, HN2.out]; exact congrArg (fun x : Ep => x.pts.length) e)
  have hne : ((n1 : Int) != (n2 : Int)) = true := by rw [bne_iff_ne]; omega
  subst hb
  go_wp2_with fail
  go_ret
  exact ⟨rfl, hB⟩
 subst hn
 have hkk : k1 = k2 := HH.out rfl rfl rfl (HN1.out.symm.trans HN2.out)
 subst hkk
 go_wp2_with fail
 refine (rSameD k1 _ _ W (HK1.out.keep hB) (HK2.out.keep hB)).mono ?_
 rintro e w1 ⟨rfl, hb⟩
 have hB1 := hB.trans (hb.mono hB.size)
 have b2' := b2.keep hb
 have b3' := b3.keep hb
 have HP1' := Lib.hid (HP1.out.keep hB1)
 have HP2' := Lib.hid (HP2.out.keep hB1)
 clear c20 c21 c22 c23 c24 c30 c31 c32 c33 c34 l2w l3w b2 b3
 have c23 := (b2'.cell 3).trans rfl
 have c33 := (b3'.cell 3).trans rfl
 have l2w := b2'.lt
 have l3w := b3'.lt
 have HB2 := Lib.hid b2'
 have HB3 := Lib.hid b3'
 have HBW := Lib.hid hB1
 clear hb hB1 b2' b3' hB
 go_upto_region 4 with (fail)
 go_loopw [5] (fun i wr => ∃ k : Nat, k ≤ n1 ∧ i = .int .i64 k ∧ Hid (p1.take k = p2.take k) ∧ Below w1.heap.size w1 wr) (fun i _ => n1 - (intOf i).toNat)
 case atStart => exact ⟨0, Nat.zero_le _, rfl, Lib.hid rfl, Below.refl _ _⟩
 case round =>
  obtain ⟨k, hk, rfl, HTk, hBr⟩ := hrel
  clear c23 c33 l2w l3w
  have c23 := ((HB2.out.keep hBr).cell 3).trans rfl
  have c33 := ((HB3.out.keep hBr).cell 3).trans rfl
  have l2w := (HB2.out.keep hBr).lt
  have l3w := (HB3.out.keep hBr).lt
  by_cases hlt : k < n1
  rotate_left 1
  ·
   obtain rfl : k = n1 := by omega
   have hb : R = true := by
    have := HTk.out
    rw [List.take_of_length_le (by rw [← HN1.out]; exact Nat.le_refl _), List.take_of_length_le (by rw [← HN2.out]; exact Nat.le_refl _)] at this
    rw [HR.out]
    exact decide_eq_true (by rw [this])
   subst hb
   have hBz := HBW.out.trans (hBr.mono HBW.out.size)
   clear hBr
   go_wp2_with fail
   go_ret
   exact ⟨rfl, hBz⟩
  obtain ⟨p, hp⟩ : ∃ p, p1[k]? = some p := ⟨_, List.getElem?_eq_getElem (by rw [← HN1.out]; exact hlt)⟩
  obtain ⟨q, hq⟩ : ∃ p, p2[k]? = some p := ⟨_, List.getElem?_eq_getElem (by rw [← HN2.out]; exact hlt)⟩
  obtain ⟨ga, oa, ca, ra, va, hv, -, hga, y0, y1, y2, hRa, hVa⟩ := (HP1'.out.keep hBr).at hp
  rw [← HN1.out] at hv
  cases hv
  obtain ⟨gc, oc, cc, rc, vc, hv, -, hgc, z0, z1, z2, hRc, hVc⟩ := (HP2'.out.keep hBr).at hq
  rw [← HN2.out] at hv
  cases hv
  have f2 := Je (W := wr) l2w c23
  have f3 := Je (W := wr) l3w c33
  have g0 := Je (W := wr) hga y0
  have g1 := Je (W := wr) hga y1
  have g2 := Je (W := wr) hga y2
  have h0 := Je (W := wr) hgc z0
  have h1 := Je (W := wr) hgc z1
  have h2 := Je (W := wr) hgc z2
  obtain ⟨R1, V1, U1⟩ := p
  obtain ⟨R2, V2, U2⟩ := q
  dsimp only at hRa hVa hRc hVc g2 h2
  have SR := Lib.hid (fun W1 (hW : Below wr.heap.size wr W1) => rSame2 R1 R2 _ _ _ _ _ _ W1 (RdA.keep hRa hW) (RdA.keep hRc hW))
  have SV := Lib.hid (fun W1 (hW : Below wr.heap.size wr W1) => rSame2 V1 V2 _ _ _ _ _ _ W1 (RdA.keep hVa hW) (RdA.keep hVc hW))
  have HPk := Lib.hid hp
  have HQk := Lib.hid hq
  have hBz := HBW.out.trans (hBr.mono HBW.out.size)
  have HBZ := Lib.hid hBz
  have HBr := Lib.hid hBr
  clear y0 y1 y2 z0 z1 z2 hRa hVa hRc hVc hp hq hBz hBr
  go_upto_region 6 with (fail)
  by_cases hr : R1 = R2
  rotate_left 1
  ·
   have hb : R = false := by rw [HR.out]; exact decide_eq_false fun e => pts_ne HPk.out HQk.out (fun e => hr (congrArg Pt.R e)) (congrArg Ep.pts e)
   subst hb
   have SR2 := Lib.hid (fun W1 hW => by have := SR.out W1 hW; rwa [decide_eq_false hr] at this)
   refine Jd 45 [(12, Spec.val (.bool false))] (by kernel_rfl) (by kernel_rfl) (by kernel_rfl) trivial ?_
   iterate 12 (refine rg_det rfl rfl rfl (fun K hK => ?_); go_big_quiet_op; refine hK _ ?_; clear hK K)
   refine rg_val rfl rfl (fun W1 hW1 hF => J7 J18 (SR2.out W1 (J8 hW1)) rfl rfl) ?_
   intro a' ha
   simp only [PutS] at ha
   subst ha
   iterate 2 (refine rg_det rfl rfl rfl (fun K hK => ?_); go_big_quiet_op; refine hK _ ?_; clear hK K)
   iterate 14 (refine J5r (by kernel_rfl) ?_; intro a' ha; simp only [PutS] at ha; subst ha)
   iterate 2 (refine rg_det rfl rfl rfl (fun K hK => ?_); go_big_quiet_op; refine hK _ ?_; clear hK K)
   iterate 13 (refine J5r (by kernel_rfl) ?_; intro a' ha; simp only [PutS] at ha; subst ha)
   refine rg_det rfl rfl rfl (fun K hK => ?_)
   go_big_quiet_op
   refine hK _ ?_; clear hK K
   refine rg_nil (fun w' hw' hF => ?_)
   obtain ⟨z, rfl⟩ := hw'
   simp only [List.drop_succ_cons, List.drop_zero]
   clear hF
   go_wp2_with fail
   go_ret
   exact ⟨rfl, HBZ.out.trans (z.h.mono HBZ.out.size)⟩
  have SR2 := Lib.hid (fun W1 hW => by have := SR.out W1 hW; rwa [decide_eq_true hr] at this)
  by_cases hv : V1 = V2
  rotate_left 1
  ·
   have hb : R = false := by rw [HR.out]; exact decide_eq_false fun e => pts_ne HPk.out HQk.out (fun e => hv (congrArg Pt.V e)) (congrArg Ep.pts e)
   subst hb
   have SV2 := Lib.hid (fun W1 hW => by have := SV.out W1 hW; rwa [decide_eq_false hv] at this)
   refine Jd 45 [(12, Spec.val (.bool true)), (27, Spec.val (.bool false))] (by kernel_rfl) (by kernel_rfl) (by kernel_rfl) trivial ?_
   iterate 12 (refine rg_det rfl rfl rfl (fun K hK => ?_); go_big_quiet_op; refine hK _ ?_; clear hK K)
   refine rg_val rfl rfl (fun W1 hW1 hF => J7 J18 (SR2.out W1 (J8 hW1)) rfl rfl) ?_
   intro a' ha
   simp only [PutS] at ha
   subst ha
   iterate 14 (refine rg_det rfl rfl rfl (fun K hK => ?_); go_big_quiet_op; refine hK _ ?_; clear hK K)
   refine rg_val rfl rfl (fun W1 hW1 hF => J7 J18 (SV2.out W1 (J8 hW1)) rfl rfl) ?_
   intro a' ha
   simp only [PutS] at ha
   subst ha
   iterate 3 (refine rg_det rfl rfl rfl (fun K hK => ?_); go_big_quiet_op; refine hK _ ?_; clear hK K)
   iterate 13 (refine J5r (by kernel_rfl) ?_; intro a' ha; simp only [PutS] at ha; subst ha)
   refine rg_det rfl rfl rfl (fun K hK => ?_)
   go_big_quiet_op
   refine hK _ ?_; clear hK K
   refine rg_nil (fun w' hw' hF => ?_)
   obtain ⟨z, rfl⟩ := hw'
   simp only [List.drop_succ_cons, List.drop_zero]
   clear hF
   go_wp2_with fail
   go_ret
   exact ⟨rfl, HBZ.out.trans (z.h.mono HBZ.out.size)⟩
  have SV2 := Lib.hid (fun W1 hW => by have := SV.out W1 hW; rwa [decide_eq_true hv] at this)
  by_cases hu : U1 = U2
  rotate_left 1
  ·
   have hb : R = false := by rw [HR.out]; exact decide_eq_false fun e => pts_ne HPk.out HQk.out (fun e => hu (congrArg Pt.used e)) (congrArg Ep.pts e)
   subst hb
   obtain ⟨rfl, rfl⟩ | ⟨rfl, rfl⟩ : (U1 = true ∧ U2 = false) ∨ (U1 = false ∧ U2 = true) := by
    cases U1 <;> cases U2
    · exact absurd rfl hu
    · exact .inr ⟨rfl, rfl⟩
    · exact .inl ⟨rfl, rfl⟩
    · exact absurd rfl hu
   all_goals
    refine Jd 45 [(12, Spec.val (.bool true)), (27, Spec.val (.bool true))] (by kernel_rfl) (by kernel_rfl) (by kernel_rfl) trivial ?_
    iterate 12 (refine rg_det rfl rfl rfl (fun K hK => ?_); go_big_quiet_op; refine hK _ ?_; clear hK K)
    refine rg_val rfl rfl (fun W1 hW1 hF => J7 J18 (SR2.out W1 (J8 hW1)) rfl rfl) ?_
    intro a' ha
    simp only [PutS] at ha
    subst ha
    iterate 14 (refine rg_det rfl rfl rfl (fun K hK => ?_); go_big_quiet_op; refine hK _ ?_; clear hK K)
    refine rg_val rfl rfl (fun W1 hW1 hF => J7 J18 (SV2.out W1 (J8 hW1)) rfl rfl) ?_
    intro a' ha
    simp only [PutS] at ha
    subst ha
    iterate 17 (refine rg_det rfl rfl rfl (fun K hK => ?_); go_big_quiet_op; refine hK _ ?_; clear hK K)
    refine rg_nil (fun w' hw' hF => ?_)
    obtain ⟨z, rfl⟩ := hw'
    simp only [List.drop_succ_cons, List.drop_zero]
    clear hF
    go_wp2_with fail
    go_ret
    exact ⟨rfl, HBZ.out.trans (z.h.mono HBZ.out.size)⟩
  subst hr hv hu
  refine Jd 45 [(12, Spec.val (.bool true)), (27, Spec.val (.bool true))] (by kernel_rfl) (by kernel_rfl) (by kernel_rfl) trivial ?_
  iterate 12 (refine rg_det rfl rfl rfl (fun K hK => ?_); go_big_quiet_op; refine hK _ ?_; clear hK K)
  refine rg_val rfl rfl (fun W1 hW1 hF => J7 J18 (SR2.out W1 (J8 hW1)) rfl rfl) ?_
  intro a' ha
  simp only [PutS] at ha
  subst ha
  iterate 14 (refine rg_det rfl rfl rfl (fun K hK => ?_); go_big_quiet_op; refine hK _ ?_; clear hK K)
  refine rg_val rfl rfl (fun W1 hW1 hF => J7 J18 (SV2.out W1 (J8 hW1)) rfl rfl) ?_
  intro a' ha
  simp only [PutS] at ha
  subst ha
  iterate 17 (refine rg_det rfl rfl rfl (fun K hK => ?_); go_big_quiet_op; refine hK _ ?_; clear hK K)
  refine rg_nil (fun w' hw' hF => ?_)
  obtain ⟨z, rfl⟩ := hw'
  simp only [List.drop_succ_cons, List.drop_zero]
  clear hF
  go_wp2_with fail
  exact ⟨⟨k + 1, by omega, by go_num, Lib.hid (Jfe HPk.out HQk.out HTk.out), HBr.out.trans (z.h.mono HBr.out.size)⟩, by simp [intOf]; omega⟩
end
section
open Go.RowKit

attribute [local irreducible] wpRg keyD sha leafD pairD
theorem rSameM (m : Mt) (hs : DgOk m.seed) (v1 v2 : Value) (w : World) (h1 : EpsA w v1 m.eps) (h2 : EpsA w v2 m.eps) : Calls Tryz.prog 20 #[mtV m v1, mtV m v2] w (Ret (.bool true) w) := by
 obtain ⟨A1, cp1, rfl⟩ := h1.len
 obtain ⟨A2, cp2, rfl⟩ := h2.len
 have hsm := h1.small
 have hsl : m.seed.length = 32 := hs.1
 obtain ⟨n, hn⟩ : ∃ n, n = m.eps.length := ⟨_, rfl⟩
 rw [← hn] at h1 h2 hsm ⊢
 have HN := Lib.hid hn
 have H1 := Lib.hid h1
 have H2 := Lib.hid h2
 obtain ⟨S1, hS1⟩ : ∃ S, S = mtV m (.slice A1 n cp1) := ⟨_, rfl⟩
 obtain ⟨S2, hS2⟩ : ∃ S, S = mtV m (.slice A2 n cp2) := ⟨_, rfl⟩
 rw [← hS1, ← hS2]
 clear hn h1 h2 hs
 go_enter Tryz.func20, Tryz.ntmps20
 go_upto_region 1 with (fail)
 refine J1h fun W hB hz b2 b3 => ?_
 have b2' : Blk W w.heap.size 35 (mtc m (.slice A1 n cp1)).toArray := by first | exact b2 | (rw [hS1] at b2; exact b2)
 have b3' : Blk W (w.heap.size + 1) 35 (mtc m (.slice A2 n cp2)).toArray := by first | exact b3 | (rw [hS2] at b3; exact b3)
 clear b2 b3 hz hS1 hS2
 have c20 := J4r b2'
 have c30 := J4r b3'
 have c23 := J11 b2' hsl
 have c33 := J11 b3' hsl
 have l2 := b2'.lt
 have l3 := b3'.lt
 have HB2 := Lib.hid b2'
 have HB3 := Lib.hid b3'
 go_upto_region 1 with (fail)
 refine wp_region_lit ?_
 iterate 6 (refine wpList_plain rfl fun K hK => ?_; go_big_op; refine hK _ _ ?_; clear hK K)
 refine wpList_step fun K2 hK2 => ?_
 rw [if_pos (by rfl)]
 go_big_op
 refine hK2 _ _ ?_
 clear hK2 K2
 try simp only [PutS]
 refine wpList_step fun K3 hK3 => ?_
 rw [if_pos (by rfl)]
 refine Jn (Jb (fun v13 w13 hh => ?_) (J1 (cs := byc m.seed) Jg rfl (by rw [Jc, J3, hsl]) rfl rfl (J5v b2')))
 obtain ⟨rfl, rfl⟩ := hh
 refine hK3 _ _ ?_
 clear hK3 K3
 try simp only [PutS]
 refine wpList_step fun K4 hK4 => ?_
 rw [if_pos (by rfl)]
 go_big_op
 refine hK4 _ _ ?_
 clear hK4 K4
 try simp only [PutS]
 refine wpList_step fun K5 hK5 => ?_
 rw [if_pos (by rfl)]
 refine Jn (Jb (fun v15 w15 hh => ?_) (J1 (cs := byc m.seed) Jg rfl (by rw [Jc, J3, hsl]) rfl rfl (J5v b3')))
 obtain ⟨rfl, rfl⟩ := hh
 refine hK5 _ _ ?_
 clear hK5 K5
 try simp only [PutS]
 refine wpList_step fun K6 hK6 => ?_
 rw [if_pos (by rfl)]
 refine Jn (Jb (fun v16 w16 hh => ?_) (Jer (d := m.seed) rfl rfl rfl hsl))
 obtain ⟨rfl, rfl⟩ := hh
 refine hK6 _ _ ?_
 clear hK6 K6
 try simp only [PutS]
 iterate 2 (refine wpList_plain rfl fun K hK => ?_; go_big_op; refine hK _ _ ?_; clear hK K)
 clear b2' b3'
 try simp only [PutS]
 go_upto_region 4 with (fail)
 clear c20 c30 c23 c33 l2 l3
 have HBW := Lib.hid hB
 clear hB
 go_loopw [5] (fun i wr => ∃ k : Nat, k ≤ n ∧ i = .int .i64 k ∧ Below w16.heap.size w16 wr) (fun i _ => n - (intOf i).toNat)
 case atStart => exact ⟨0, Nat.zero_le _, rfl, Below.refl _ _⟩
 case round =>
  obtain ⟨k, hk, rfl, hBr⟩ := hrel
  have b2 := HB2.out.keep hBr
  have b3 := HB3.out.keep hBr
  have c23 := J11 b2 hsl
  have c33 := J11 b3 hsl
  have l2 := b2.lt
  have l3 := b3.lt
  have hBz := HBW.out.trans (hBr.mono HBW.out.size)
  by_cases hlt : k < n
  rotate_left 1
  ·
   obtain rfl : k = n := by omega
   clear hBr b2 b3
   go_wp2_with fail
   go_ret
   exact ⟨rfl, hBz⟩
  obtain ⟨us, hr, ha⟩ := EpsA.keep H1.out hBz
  obtain ⟨u, e, hu, he, hin⟩ := ha.get (k := k) (by rw [← HN.out]; exact hlt)
  obtain ⟨g, off, cap', hv, hcp, hg, hcs⟩ := RdA.at J16 hr hu
  rw [ha.1, ← HN.out] at hv hcp
  cases hv
  have hrg : wr.rangeAt g (off + k * 5) (epc u) := fun j x hj => by rw [Nat.add_assoc]; exact hcs j x hj
  obtain ⟨us2, hr2, ha2⟩ := EpsA.keep H2.out hBz
  obtain ⟨u2, e2, hu2, he2, hin2⟩ := ha2.get (k := k) (by rw [← HN.out]; exact hlt)
  obtain rfl : e2 = e := Option.some.inj (he2.symm.trans he)
  obtain ⟨g', off', cap'', hv, hcp2, hg2, hcs2⟩ := RdA.at J16 hr2 hu2
  rw [ha2.1, ← HN.out] at hv hcp2
  cases hv
  have hrg2 : wr.rangeAt g' (off' + k * 5) (epc u2) := fun j x hj => by rw [Nat.add_assoc]; exact hcs2 j x hj
  have f2 := Je (W := wr) l2 c23
  have f3 := Je (W := wr) l3 c33
  have HSE := Lib.hid (show ∀ W1, Below wr.heap.size wr W1 → Calls Tryz.prog 37 #[.agg (epc u).toArray, .agg (epc u2).toArray] W1 (Ret (.bool true) W1) from fun W1 hW => by
   have := rSameEp e2 e2 (fun _ _ _ _ => rfl) u u2 W1 (hin.keep hW) (hin2.keep hW)
   rwa [decide_eq_true rfl] at this)
  have HBR := Lib.hid hBr
  have HG := Lib.hid hrg
  have HG2 := Lib.hid hrg2
  clear hr ha hu he hcs hr2 ha2 hu2 he2 hcs2 hin hin2 hrg hrg2 hBr hBz b2 b3
  go_upto_region 6 with (fail)
  refine Jd 12 [(4, Spec.val (.agg (epc u).toArray)), (9, Spec.val (.agg (epc u2).toArray)), (10, Spec.val (.bool true))] (by kernel_rfl) (by kernel_rfl) (by kernel_rfl) trivial ?_
  iterate 4 (refine rg_det rfl rfl rfl (fun K hK => ?_); go_big_quiet_op; refine hK _ ?_; clear hK K)
  refine rg_val rfl rfl (fun W1 hW1 hF => Jf (cs := epc u) J1o rfl J1b rfl rfl (Jr HG.out hg (J8 hW1))) ?_
  intro a' ha
  simp only [PutS] at ha
  subst ha
  iterate 4 (refine rg_det rfl rfl rfl (fun K hK => ?_); go_big_quiet_op; refine hK _ ?_; clear hK K)
  refine rg_val rfl rfl (fun W1 hW1 hF => Jf (cs := epc u2) J1o rfl J1b rfl rfl (Jr HG2.out hg2 (J8 hW1))) ?_
  intro a' ha
  simp only [PutS] at ha
  subst ha
  refine rg_val rfl rfl (fun W1 hW1 hF => J7 J52 (HSE.out W1 (J8 hW1)) rfl rfl) ?_
  intro a' ha
  simp only [PutS] at ha
  subst ha
  refine rg_det rfl rfl rfl (fun K hK => ?_)
  go_big_quiet_op
  refine hK _ ?_; clear hK K
  refine rg_nil (fun w' hw' hF => ?_)
  obtain ⟨z, rfl⟩ := hw'
  simp only [List.drop_succ_cons, List.drop_zero]
  clear hF
  go_wp2_with fail
  exact ⟨⟨k + 1, by omega, by go_num, HBR.out.trans (z.h.mono HBR.out.size)⟩, by simp [intOf]; omega⟩
end
section
open Go.RowKit

theorem J1u : En Tryz.prog 54 := enters_of Tryz.func54 (by kernel_rfl) rfl
theorem J40 : En Tryz.prog 76 := enters_of Tryz.func76 (by kernel_rfl) rfl
theorem J63 : En Tryz.prog 27 := enters_of Tryz.func27 (by kernel_rfl) rfl
theorem J69 : En Tryz.prog 25 := enters_of Tryz.func25 (by kernel_rfl) rfl
theorem J57 : En Tryz.prog 21 := enters_of Tryz.func21 (by kernel_rfl) rfl
attribute [local irreducible] wpRg
theorem rNew26 (seed : Dg) (hs : DgOk seed) (w : World) : Calls Tryz.prog 32 #[dgv seed] w (Ret (mtV ⟨0, seed, []⟩ (.slice none 0 0)) w) := by
 obtain ⟨S, hS⟩ : ∃ S, S = dgv seed := ⟨_, rfl⟩
 rw [← hS]
 have HS := Lib.hid hs
 go_enter Tryz.func32, Tryz.ntmps32
 go_upto_region 1 with (fail)
 refine J1h fun W hB hz b1 b2 => ?_
 have b1' : Blk W w.heap.size 23 (byc seed).toArray := by first | exact b1 | (rw [hS] at b1; exact b1)
 obtain ⟨cs0, hcs0, b2'⟩ : ∃ cs : Array Value, cs.size = 34 ∧ Blk W (w.heap.size + 1) 35 cs := ⟨_, rfl, b2⟩
 clear b1 b2 hz hS
 refine wp_region_lit ?_
 refine wpSk rfl (J1 (cs := byc seed) Jg rfl (by rw [Jc, J3, HS.out.1]) rfl rfl (J4 b1')) fun v3 w3 hh => ?_
 obtain ⟨rfl, rfl⟩ := hh
 try simp only [PutS]
 refine wpSk rfl (Jaz HS.out.1 rfl rfl) fun v4 w4 hh => ?_
 obtain ⟨rfl, rfl⟩ := hh
 try simp only [PutS]
 refine J6 rfl 35 (.tmp 2) (.tmp 4) rfl rfl (cells := mtc ⟨0, seed, []⟩ (.slice none 0 0)) rfl b2' (by rw [hcs0, J0 _ _ HS.out.1]; exact Nat.le_refl 34) (by rw [J5, J0 _ _ HS.out.1]) (Ji _ _ rfl) (Ja _ _ (by rw [hcs0, J0 _ _ HS.out.1])) fun X hX bX => ?_
 have hBX := J2 hB hX (by omega)
 clear b1' b2' hX
 try simp only [PutS]
 go_wp2_with fail
 exact bodyPost_ret (v := mtV ⟨0, seed, []⟩ (.slice none 0 0)) (Jv (g := w.heap.size + 1) rfl rfl J9 rfl (by rw [J5, J0 _ _ HS.out.1]) bX) rfl ⟨rfl, hBX⟩
theorem rOpn26 (m : Mt) (hN : MtN m) (vE : Value) (w : World) (hE : EpsA w vE m.eps) : Calls Tryz.prog 54 #[mtV m vE] w (Ret (.bool m.isOpen) w) := by
 obtain ⟨S, hS⟩ : ∃ S, S = mtV m vE := ⟨_, rfl⟩
 rw [← hS]
 have HN := Lib.hid hN
 have HE := Lib.hid hE
 obtain ⟨A, cap, rfl⟩ := hE.len
 have hml := hN.eps
 clear hN hE
 go_enter Tryz.func54, Tryz.ntmps54
 go_upto_region 1 with (fail)
 refine J13 fun W hB hz b1 => ?_
 have b1' : Blk W w.heap.size 35 (mtc m (.slice A m.eps.length cap)).toArray := by first | exact b1 | (rw [hS] at b1; exact b1)
 have c33 := J11 b1' HN.out.seed.1
 have hbl := b1'.lt
 clear b1 hz hS
 rcases Nat.eq_zero_or_pos m.eps.length with h0 | h0
 ·
  have HO := Lib.hid (Jax h0)
  rw [h0] at c33
  go_wp2_with fail
  exact bodyPost_ret (v := .bool false) (by simp [results, Tryz.results54, go_sem]) rfl ⟨by rw [HO.out], hB⟩
 ·
  have hO := Jaw h0
  obtain ⟨n, hn⟩ : ∃ n, n = m.eps.length - 1 := ⟨_, rfl⟩
  have hnl : m.eps.length = n + 1 := by omega
  rw [← hn] at hO
  obtain ⟨g, off, cap', p, d, hv, hc, hg, e0, e1, e2, e3, e4, -, -⟩ := (HE.out.keep hB).at (at_get m n (by omega))
  cases hv
  have HO := Lib.hid hO
  rw [hnl] at c33 hc
  have hn1 : n ≤ 1000 := by omega
  clear hn hnl h0 hml HE HN hO
  generalize (m.at n).closed = cl at *
  have hw1 : wrap64 ((n : Int) + 1 - 1) = (n : Int) := by unfold wrap64; omega
  clear e0 e1 e3 e4 b1'
  go_wp2_with fail
  exact bodyPost_ret (v := .bool (!cl)) (by simp [results, Tryz.results54, go_sem]) rfl ⟨by rw [HO.out], hB⟩
theorem rBit26 (b : Bool) (w : World) : Calls Tryz.prog 76 #[.bool b] w (Ret (.int .u8 ((flB b : Nat) : Int)) w) := by
 cases b
 all_goals
  go_enter Tryz.func76, Tryz.ntmps76
  go_wp2_with fail
  go_ret
  exact ⟨rfl, Below.refl _ _⟩
theorem rInts26 (l : List Nat) (v1 v2 : Value) (w : World) (h1 : RdA 1 w v1 l.length (intc l)) (h2 : RdA 1 w v2 l.length (intc l)) : Calls Tryz.prog 21 #[v1, v2] w (Ret (.bool true) w) := by
 obtain ⟨A1, cap1, rfl⟩ := Rd.len h1
 obtain ⟨A2, cap2, rfl⟩ := Rd.len h2
 have hlen := h1.2.1
 obtain ⟨n, hn⟩ : ∃ n, n = l.length := ⟨_, rfl⟩
 rw [← hn] at h1 h2 hlen
 rw [← hn]
 have H1 := Lib.hid h1
 have H2 := Lib.hid h2
 have Hn := Lib.hid hn
 clear h1 h2 hn
 have hnn : (((n : Int) != (n : Int))) = false := by simp
 go_enter Tryz.func21, Tryz.ntmps21
 go_wp2
 go_loopw [5] (fun i wr => ∃ k : Nat, k ≤ n ∧ i = .int .i64 k ∧ Below w.heap.size w wr) (fun i _ => n - (intOf i).toNat)
 case atStart => exact ⟨0, Nat.zero_le _, rfl, Below.refl _ _⟩
 case round =>
  obtain ⟨k, hk, rfl, hB⟩ := hrel
  by_cases hlt : k < n
  ·
   obtain ⟨g, off, cap', hv, q1, q4, q5⟩ := J9r H1.out (by omega)
   cases hv
   obtain ⟨g', off', cap'', hv, r1, r4, r5⟩ := J9r H2.out (by omega)
   cases hv
   obtain ⟨x, hx⟩ : ∃ x, l[k]? = some x := ⟨_, List.getElem?_eq_getElem (by rw [← Hn.out]; exact hlt)⟩
   have hb : (intc l)[k]? = some (.int .i64 (x : Int)) := by unfold intc; rw [List.getElem?_map, hx]; rfl
   have c1 := Je (W := wr) (Nat.lt_of_lt_of_le q4 hB.size) ((hB.cell (p := ⟨g, off + k, none⟩) q4).trans (q5 k _ hb))
   have c3 := Je (W := wr) (Nat.lt_of_lt_of_le r4 hB.size) ((hB.cell (p := ⟨g', off' + k, none⟩) r4).trans (r5 k _ hb))
   clear q5 r5 hb hx
   have hnx : (((x : Int) != (x : Int))) = false := by simp
   go_wp2
   refine Jd 9 [] (by kernel_rfl) (by kernel_rfl) (by kernel_rfl) trivial ?_
   iterate 9 (refine rg_det rfl rfl rfl (fun K hK => ?_); go_big_quiet_op; refine hK _ ?_; clear hK K)
   refine rg_nil (fun w' hw' hF => ?_)
   obtain ⟨z, rfl⟩ := hw'
   simp only [List.drop_succ_cons, List.drop_zero]
   go_wp2
   exact ⟨⟨k + 1, by omega, by go_num, hB.trans (z.h.mono hB.size)⟩, by simp [intOf]; omega⟩
  ·
   obtain rfl : k = n := by omega
   go_wp2
   go_ret
   exact ⟨rfl, hB⟩
theorem rWords26 (m : Mt) (hN : MtN m) (vE : Value) (w : World) (hE : EpsA w vE m.eps) : Calls Tryz.prog 27 #[mtV m vE] w (Ret (.int .i64 (wordsM m : Nat)) w) := by
 obtain ⟨S, hS⟩ : ∃ S, S = mtV m vE := ⟨_, rfl⟩
 rw [← hS]
 have HN := Lib.hid hN
 have HE := Lib.hid hE
 obtain ⟨A, cap, rfl⟩ := hE.len
 have hml := hN.eps
 clear hN hE
 go_enter Tryz.func27, Tryz.ntmps27
 go_upto_region 1 with (fail)
 refine J13 fun W hB hz b1 => ?_
 have b1' : Blk W w.heap.size 35 (mtc m (.slice A m.eps.length cap)).toArray := by first | exact b1 | (rw [hS] at b1; exact b1)
 have hsl := HN.out.seed.1
 clear b1 hz hS
 have HB1 := Lib.hid b1'
 have HBW := Lib.hid hB
 clear b1' hB
 go_upto_region 3 with (fail)
 go_loopw [3, 4] (fun q i wr => ∃ k s : Nat, k ≤ m.eps.length ∧ i = .int .i64 k ∧ q = .int .i64 s ∧ Hid (s = wrdK m k) ∧ Below W.heap.size W wr) (fun _ i _ => m.eps.length - (intOf i).toNat)
 case atStart => exact ⟨0, 5, Nat.zero_le _, rfl, rfl, Lib.hid (by simp [wrdK]), Below.refl _ _⟩
 case round =>
  obtain ⟨k, s, hk, rfl, rfl, HS, hBr⟩ := hrel
  have b1 := HB1.out.keep hBr
  have c33 := J11 b1 hsl
  have l1 := b1.lt
  have hBz := HBW.out.trans (hBr.mono HBW.out.size)
  by_cases hkl : k < m.eps.length
  rotate_left 1
  ·
   obtain rfl : k = m.eps.length := by omega
   have HS2 := Lib.hid (show s = wordsM m by rw [HS.out, Jem])
   clear hBr b1
   go_wp2_with fail
   exact bodyPost_ret (v := .int .i64 (s : Nat)) (by simp [results, Tryz.results27, go_sem]) rfl ⟨by rw [HS2.out], hBz⟩
  obtain ⟨e, he⟩ : ∃ e, m.eps[k]? = some e := ⟨_, List.getElem?_eq_getElem hkl⟩
  obtain ⟨g, off, cap', p, d, hv, hc, hg, e0, e1, e2, e3, e4, hp, hd⟩ := (HE.out.keep hBz).at he
  cases hv
  obtain ⟨Ap, cp, rfl⟩ := hp.len
  obtain ⟨Ad, cd, rfl⟩ := hd.len
  have hN2 := HN.out.ep _ _ he
  have hwl := Jgc m HN.out k (by omega)
  have HW := Lib.hid (Jaa m k e he)
  rw [← HS.out] at hwl
  obtain ⟨pn, hpn⟩ : ∃ x, x = e.pts.length := ⟨_, rfl⟩
  obtain ⟨dn, hdn⟩ : ∃ x, x = e.peaks.length := ⟨_, rfl⟩
  rw [← hpn] at e3 hN2
  rw [← hdn] at e4 hN2
  have f33 := Je (W := wr) l1 c33
  have f3 := Je (W := wr) hg e3
  have f4 := Je (W := wr) hg e4
  have HPN := Lib.hid hpn
  have HDN := Lib.hid hdn
  have HBR := Lib.hid hBr
  obtain ⟨hq1, -, -, hq2⟩ := hN2
  clear e0 e1 e2 e3 e4 hp hd he hpn hdn hBr b1
  go_upto_region 5 with (fail)
  refine Jd 20 [] (by kernel_rfl) (by kernel_rfl) (by kernel_rfl) trivial ?_
  iterate 20 (refine rg_det rfl rfl rfl (fun K hK => ?_); go_big_quiet_op; refine hK _ ?_; clear hK K)
  refine rg_nil (fun w' hw' hF => ?_)
  obtain ⟨z, rfl⟩ := hw'
  simp only [List.drop_succ_cons, List.drop_zero]
  clear hF
  go_wp2_with fail
  exact ⟨⟨k + 1, s + (3 + 4 * dn + 11 * pn), by omega, by go_num, congrArg (Value.int .i64) (by omega), Lib.hid (by rw [HW.out, ← HS.out, HPN.out, HDN.out]), HBR.out.trans (z.h.mono HBR.out.size)⟩, by simp [intOf]; omega⟩
end
section
open Go.RowKit

theorem J19 : En Tryz.prog 55 := enters_of Tryz.func55 (by kernel_rfl) rfl
def repE (es : List Ep) (i : Nat) (e : Ep) : List Ep := if i = es.length then es ++ [e] else es.set i e
def repM (m : Mt) (i : Nat) (e : Ep) : Mt := ⟨m.ver + 1, m.seed, repE m.eps i e⟩
theorem J89 {m : Mt} {i : Nat} {e : Ep} (h : i < m.eps.length) : repM m i e = m.put i e := by
 unfold repM repE Mt.put
 rw [if_neg (by omega)]
theorem Jks {m : Mt} {e : Ep} : repM m m.eps.length e = ⟨m.ver + 1, m.seed, m.eps ++ [e]⟩ := by
 unfold repM repE
 rw [if_pos rfl]
theorem spl_ep (us : List EpW) (rest : List Value) (k : Nat) (x : EpW) (hk : k < us.length) : spl (us.flatMap epc ++ rest).toArray (k * 5) (epc x) = ((us.set k x).flatMap epc ++ rest).toArray := by
 have h1 : us = us.take k ++ us[k] :: us.drop (k + 1) := by rw [List.getElem_cons_drop, List.take_append_drop]
 have h2 : us.set k x = us.take k ++ x :: us.drop (k + 1) := List.set_eq_take_append_cons_drop.trans (by rw [if_pos hk])
 have h3 : ((us.take k).flatMap epc).length = k * 5 := by rw [Jz J16, List.length_take, Nat.min_eq_left (by omega)]
 have h4 : us.flatMap epc ++ rest = (us.take k).flatMap epc ++ (epc us[k] ++ ((us.drop (k + 1)).flatMap epc ++ rest)) := by
  conv => lhs; rw [h1]
  simp only [List.flatMap_append, List.flatMap_cons, List.append_assoc]
 have h5 : (us.set k x).flatMap epc ++ rest = (us.take k).flatMap epc ++ (epc x ++ ((us.drop (k + 1)).flatMap epc ++ rest)) := by
  rw [h2]
  simp only [List.flatMap_append, List.flatMap_cons, List.append_assoc]
 rw [h4, h5, ← h3]
 exact Jam (epc x) _ (epc us[k]) _ rfl
theorem Jdf {w : World} {N n : Nat} {v : Value} {us : List EpW} (h : w.ownsRow N 75 5 v n (us.flatMap epc)) (hn : us.length = n) (h0 : 0 < n) : ∃ g cap rest, v = .slice (some ⟨g, 0, none⟩) n cap ∧ n ≤ cap ∧ N ≤ g ∧ Blk w g 75 (us.flatMap epc ++ rest).toArray := by
 obtain ⟨h1, h2⟩ := h
 rcases h2 with ⟨_, h2⟩ | ⟨g, cap, cur, rfl, r1, r2, r3, r4, r5, r6⟩
 · omega
 ·
  refine ⟨g, cap, cur.toList.drop (n * 5), rfl, r3, r1, ?_⟩
  rw [← r6, List.take_append_drop]
  exact r2
theorem Jmx {b : Bse} {us : List EpW} {es : List Ep} (h : Al (EpIB b) us es) : ∀ v ∈ us.flatMap epc, v.oneCell' = true := by
 intro v hv
 obtain ⟨u, hu, hv⟩ := List.mem_flatMap.1 hv
 obtain ⟨k, hk⟩ := List.getElem?_of_mem hu
 have hlt : k < es.length := by rw [← h.1]; exact (List.getElem?_eq_some_iff.1 hk).1
 exact ((h.2 k u _ hk (List.getElem?_eq_getElem hlt)).old b.ok_self).one v hv
theorem Jih : ∀ (cs : List Value) (x : Int) (A : Option Addr) (n cap : Nat), cs.length = 32 → Tryz.prog.built 35 [(0, .int .u64 x), (1, .agg cs.toArray), (2, .slice A n cap)] = some (Value.int .u64 x :: (cs ++ [Value.slice A n cap])).toArray
 | [a0, a1, a2, a3, a4, a5, a6, a7, a8, a9, a10, a11, a12, a13, a14, a15, a16, a17, a18, a19, a20, a21, a22, a23, a24, a25, a26, a27, a28, a29, a30, a31], _, _, _, _, _ => by kernel_rfl
theorem Jaf {o : Oper} {a : Act} {w : World} {x y z : Operand} (m : Mt) {A : Option Addr} {n cap : Nat} (hs : m.seed.length = 32) (ho : o.op = .build 35 #[(0, x), (1, y), (2, z)]) (hx : a.eval x = .int .u64 (m.ver : Int)) (hy : a.eval y = dgv m.seed) (hz : a.eval z = .slice A n cap) : stepAt Tryz.prog o a w fun v w' => v = .agg (mtc m (.slice A n cap)).toArray ∧ w' = w := by
 have hr := run_build (P := Tryz.prog) w 35 #[(0, .int .u64 (m.ver : Int)), (1, dgv m.seed), (2, .slice A n cap)] _ (Jih (byc m.seed) _ A n cap (by rw [J3]; exact hs))
 unfold stepAt execOp
 simp only [ho, Sem.run_bind, List.map_toArray, List.map_cons, List.map_nil, hx, hy, hz, hr, Result.andThen_ok]
 exact ⟨rfl, rfl⟩
attribute [local irreducible] wpRg keyD sha leafD pairD
theorem rRepl26 (m : Mt) (hN : MtN m) (vE : Value) (i : Nat) (hi : i ≤ m.eps.length) (u : EpW) (e : Ep) (bs : Bse) (w : World) (hw : bs.ok w) (hE : EpsB bs vE m.eps) (he : EpIB bs u e) : Calls Tryz.prog 55 #[mtV m vE, .int .i64 (i : Int), .agg (epc u).toArray] w fun r W2 => ∃ vE', r = .returned (mtV (repM m i e) vE') ∧ EpsB (bs.new w W2) vE' (repE m.eps i e) ∧ Below w.heap.size w W2 := by
 have HW := Lib.hid hw
 have HU := Lib.hid he
 obtain ⟨us, hr, ha⟩ := hE
 have hul := ha.1
 have HR := Lib.hid hr
 have HA := Lib.hid ha
 obtain ⟨A, cap, rfl⟩ := Rd.len (hr w hw)
 obtain ⟨n, hn⟩ : ∃ n, n = us.length := ⟨_, rfl⟩
 have hn1 : n ≤ 1000 := by rw [hn, hul]; exact hN.eps
 have hi2 : i ≤ n := by rw [hn, hul]; exact hi
 have hsl : m.seed.length = 32 := hN.seed.1
 have hver := hN.ver
 have hone := (he.old hw).one
 rw [← hn] at HR ⊢
 have HNN := Lib.hid hn
 have HNM := Lib.hid (show m.eps.length = n by rw [hn, hul])
 obtain ⟨S, hS⟩ : ∃ S, S = mtV m (.slice A n cap) := ⟨_, rfl⟩
 obtain ⟨S2, hS2⟩ : ∃ S, S = Value.agg (epc u).toArray := ⟨_, rfl⟩
 rw [← hS, ← hS2]
 obtain ⟨iE, hiE, iE0, iE1, iE2⟩ := info_parts J49
 clear hw he hr ha hN hul hn hi
 go_enter Tryz.func55, Tryz.ntmps55
 go_upto_region 1 with (fail)
 refine J26 fun W hB hz b1 b2 b3 => ?_
 have b1' : Blk W w.heap.size 35 (mtc m (.slice A n cap)).toArray := by first | exact b1 | (rw [hS] at b1; exact b1)
 have b2' : Blk W (w.heap.size + 1) 75 (epc u).toArray := by first | exact b2 | (rw [hS2] at b2; exact b2)
 obtain ⟨cs0, hcs0, b3'⟩ : ∃ cs : Array Value, cs.size = 34 ∧ Blk W (w.heap.size + 1 + 1) 35 cs := ⟨_, rfl, b3⟩
 clear b1 b2 b3 hz hS hS2
 have hlw := b3'.lt
 refine wp_region_lit ?_
 refine wpSk rfl (J2w J5z hiE iE0 rfl) fun v0 w1 hh => ?_
 obtain ⟨⟨rfl, hl1, bl1⟩, B1⟩ := hh
 try simp only [PutS]
 have c33 := J11 (b1'.keep B1) hsl
 iterate 2 (refine wpList_plain rfl fun K hK => ?_; go_big_op; refine hK _ _ ?_; clear hK K)
 refine J21 rfl _ _ rfl J5z hiE iE0 iE1 iE2 rfl (by decide) (cl := us.flatMap epc) (base := W.heap.size) (cs := []) (k := 0) (Jmx HA.out) rfl rfl (HR.out w1 (HW.out.below (hB.trans (B1.mono hB.size)))) ⟨rfl, .inr ⟨W.heap.size, 0, #[], rfl, Nat.le_refl _, bl1, Nat.le_refl _, Nat.zero_le _, rfl, rfl⟩⟩ (by unfold maxLen; omega) (by omega) B1.size fun v3 w3 o3 _ B3 => ?_
 rw [Nat.zero_add, List.nil_append] at o3
 have B4 := B1.trans B3
 obtain ⟨A3, c3, rfl⟩ := Jy o3
 have hB3 := hB.trans (B4.mono hB.size)
 have b1x := b1'.keep B4
 have b2x := b2'.keep B4
 have b3x := b3'.keep B4
 have HO := Lib.hid o3
 have hWs3 := B4.size
 clear o3 B1 B3 B4 bl1 hl1 b1' b2' b3' hB c33
 try simp only [PutS]
 have hWsz := hB3.size
 by_cases hin : i = n
 ·
  subst hin
  go_upto_region 3 with (fail)
  refine wp_region_lit ?_
  refine wpList_plain rfl fun K hK => ?_; go_big_op; refine hK _ _ ?_; clear hK K
  refine wpSk rfl (J1 (cs := epc u) J1o rfl J1b rfl rfl (J4 b2x)) fun v17 w17 hh => ?_
  obtain ⟨rfl, rfl⟩ := hh
  try simp only [PutS]
  refine wpSk rfl (J15 (cs := (epc u).toArray) J5z hiE iE0 iE1 (by decide) (by decide) rfl rfl rfl) fun v18 w18 hh => ?_
  obtain ⟨⟨rfl, hl18, b18⟩, B18⟩ := hh
  try simp only [PutS]
  have o1 := Jq HO.out (Nat.le_refl _) B18
  have h18 := B18.size
  refine J29 (u := .slice A3 i c3) (base := W.heap.size) (n := w17.heap.size) (cl := epc u) (cs := us.flatMap epc) rfl (.tmp 16) (.tmp 18) rfl J5z hiE iE0 iE1 iE2 rfl (by decide) rfl hone rfl rfl o1 b18 (by unfold maxLen; omega) (by omega) (by omega) fun v19 w19 own19 gr19 B19 hat19 => ?_
  have o2 : w19.ownsRow W.heap.size 75 5 v19 (i + 1) ((us ++ [u]).flatMap epc) := by rw [List.flatMap_append]; simpa using own19
  obtain ⟨A4, c4, rfl⟩ := Jy o2
  have B20 := (B18.mono (by omega)).trans B19
  have HO := Lib.hid o2
  have b1x := b1x.below B20 (by omega)
  have b2x := b2x.below B20 (by omega)
  have b3x := b3x.below B20 (by omega)
  have hBx := hB3.trans (B20.mono (by omega))
  have hul : us.length = i := HNN.out.symm
  have hus : (us ++ [u]).length = i + 1 := by simp [hul]
  clear o1 o2 own19 gr19 B19 hat19 b18 hl18 B18 B20
  try simp only [PutS]
  obtain ⟨gr, cr, rest, hvr, hcr, hgr, br⟩ := Jdf HO.out hus (by omega)
  cases hvr
  have hone2 := hone
  go_upto_region 4 with (fail)
  refine wp_region_lit ?_
  iterate 2 (refine wpList_plain rfl fun K hK => ?_; go_big_op; refine hK _ _ ?_; clear hK K)
  refine wpSk rfl (J1 (cs := epc u) J1o rfl J1b rfl rfl (J4 b2x)) fun v22 w22 hh => ?_
  obtain ⟨rfl, rfl⟩ := hh
  try simp only [PutS]
  refine wpList_plain rfl fun K hK => ?_; go_big_op; refine hK _ _ ?_; clear hK K
  refine J6 rfl 75 (.tmp 23) (.tmp 22) rfl rfl (cells := epc u) rfl br (by have hf := Jz J16 (us ++ [u]); simp only [List.size_toArray, List.length_append, J16]; omega) J1b (List.all_eq_true.2 hone2) (spl_ep (us ++ [u]) rest i u (by omega)) fun Y hY bY => ?_
  have hBY := J2 hBx hY (by omega)
  have b1y := hY.blk b1x (by omega)
  have b3y := hY.blk b3x (by omega)
  have c0 := J4r b1y
  clear hY br b1x b2x b3x hBx
  try simp only [PutS]
  go_upto_region 5 with (fail)
  refine wp_region_lit ?_
  iterate 4 (refine wpList_plain rfl fun K hK => ?_; go_big_op; refine hK _ _ ?_; clear hK K)
  refine wpSk rfl (J1 (cs := byc m.seed) Jg rfl (by rw [Jc, J3, hsl]) rfl rfl (J5v b1y)) fun v28 w28 hh => ?_
  obtain ⟨rfl, rfl⟩ := hh
  try simp only [PutS]
  refine wpList_plain rfl fun K hK => ?_; go_big_op; refine hK _ _ ?_; clear hK K
  refine wpSk rfl (Jaf (repM m i e) hsl rfl rfl rfl rfl) fun v30 w30 hh => ?_
  obtain ⟨rfl, rfl⟩ := hh
  try simp only [PutS]
  refine J6 rfl 35 (.tmp 6) (.tmp 30) rfl rfl (cells := mtc (repM m i e) (.slice (some ⟨gr, 0, none⟩) (i + 1) c4)) rfl b3y (by rw [J0 (repM m i e) _ hsl, hcs0]; exact Nat.le_refl _) (by rw [J5, J0 (repM m i e) _ hsl]) (Ji _ _ rfl) (Ja _ _ (by rw [hcs0, J0 (repM m i e) _ hsl])) fun V hV bV => ?_
  have hBV := J2 hBY hV (by omega)
  have brV := hV.blk bY (by omega)
  have HBR := Lib.hid brV
  clear hBY hV bY b1y b3y c0 brV
  try simp only [PutS]
  go_wp2_with fail
  refine bodyPost_ret (v := mtV (repM m i e) (.slice (some ⟨gr, 0, none⟩) (i + 1) c4)) (Jv (g := w.heap.size + 1 + 1) rfl rfl J9 rfl (by rw [J5, J0 (repM m i e) _ hsl]) bV) rfl ⟨_, rfl, ?_, hBV⟩
  have hok := HW.out.below hBV
  refine ⟨((us ++ [u])).set i u, fun X hX => ?_, ?_⟩
  ·
   have hset : (us ++ [u]).set i u = us ++ [u] := by rw [← hul]; simp
   rw [hset]
   have := eps_rd (rest := rest) (cap := c4) (by have := (hX.2 gr ⟨.inr (by omega), HBR.out.lt⟩).trans HBR.out; rw [hset] at this; exact this) (by rw [hus]; omega) (by rw [hus]; exact hcr)
   rw [hus] at this ⊢
   exact this
  ·
   have hset : (us ++ [u]).set i u = us ++ [u] := by rw [← hul]; simp
   rw [hset]
   unfold repE
   rw [if_pos HNM.out.symm]
   exact (HA.out.mono fun _ _ h => h.le (Bse.le_new hok)).snoc (HU.out.le (Bse.le_new hok))
 ·
  have hlt : i < n := by omega
  have hBx := hB3
  have hul : us.length = n := HNN.out.symm
  obtain ⟨gr, cr, rest, hvr, hcr, hgr, br⟩ := Jdf HO.out hul (by omega)
  cases hvr
  have hone2 := hone
  go_upto_region 4 with (fail)
  refine wp_region_lit ?_
  iterate 2 (refine wpList_plain rfl fun K hK => ?_; go_big_op; refine hK _ _ ?_; clear hK K)
  refine wpSk rfl (J1 (cs := epc u) J1o rfl J1b rfl rfl (J4 b2x)) fun v22 w22 hh => ?_
  obtain ⟨rfl, rfl⟩ := hh
  try simp only [PutS]
  refine wpList_plain rfl fun K hK => ?_; go_big_op; refine hK _ _ ?_; clear hK K
  refine J6 rfl 75 (.tmp 23) (.tmp 22) rfl rfl (cells := epc u) rfl br (by have hf := Jz J16 us; simp only [List.size_toArray, List.length_append, J16]; omega) J1b (List.all_eq_true.2 hone2) (spl_ep us rest i u (by omega)) fun Y hY bY => ?_
  have hBY := J2 hBx hY (by omega)
  have b1y := hY.blk b1x (by omega)
  have b3y := hY.blk b3x (by omega)
  have c0 := J4r b1y
  clear hY br b1x b2x b3x hBx
  try simp only [PutS]
  go_upto_region 5 with (fail)
  refine wp_region_lit ?_
  iterate 4 (refine wpList_plain rfl fun K hK => ?_; go_big_op; refine hK _ _ ?_; clear hK K)
  refine wpSk rfl (J1 (cs := byc m.seed) Jg rfl (by rw [Jc, J3, hsl]) rfl rfl (J5v b1y)) fun v28 w28 hh => ?_
  obtain ⟨rfl, rfl⟩ := hh
  try simp only [PutS]
  refine wpList_plain rfl fun K hK => ?_; go_big_op; refine hK _ _ ?_; clear hK K
  refine wpSk rfl (Jaf (repM m i e) hsl rfl rfl rfl rfl) fun v30 w30 hh => ?_
  obtain ⟨rfl, rfl⟩ := hh
  try simp only [PutS]
  refine J6 rfl 35 (.tmp 6) (.tmp 30) rfl rfl (cells := mtc (repM m i e) (.slice (some ⟨gr, 0, none⟩) n c3)) rfl b3y (by rw [J0 (repM m i e) _ hsl, hcs0]; exact Nat.le_refl _) (by rw [J5, J0 (repM m i e) _ hsl]) (Ji _ _ rfl) (Ja _ _ (by rw [hcs0, J0 (repM m i e) _ hsl])) fun V hV bV => ?_
  have hBV := J2 hBY hV (by omega)
  have brV := hV.blk bY (by omega)
  have HBR := Lib.hid brV
  clear hBY hV bY b1y b3y c0 brV
  try simp only [PutS]
  go_wp2_with fail
  refine bodyPost_ret (v := mtV (repM m i e) (.slice (some ⟨gr, 0, none⟩) n c3)) (Jv (g := w.heap.size + 1 + 1) rfl rfl J9 rfl (by rw [J5, J0 (repM m i e) _ hsl]) bV) rfl ⟨_, rfl, ?_, hBV⟩
  have hok := HW.out.below hBV
  refine ⟨(us).set i u, fun X hX => ?_, ?_⟩
  ·
   have hsl2 : (us.set i u).length = n := by rw [List.length_set]; exact hul
   have := eps_rd (us := us.set i u) (rest := rest) (cap := c3) ((hX.2 gr ⟨.inr (by omega), HBR.out.lt⟩).trans HBR.out) (by rw [hsl2]; omega) (by rw [hsl2]; exact hcr)
   rw [hsl2] at this
   rw [hsl2]
   exact this
  ·
   unfold repE
   rw [if_neg (by rw [HNM.out]; exact hin)]
   exact (HA.out.mono fun _ _ h => h.le (Bse.le_new hok)).set (HU.out.le (Bse.le_new hok))
end
section
open Go.RowKit

theorem J3g : En Tryz.prog 13 := enters_of Tryz.func13 (by kernel_rfl) rfl
theorem EpsB.at_ {b : Bse} {v : Value} {es : List Ep} (h : EpsB b v es) {k : Nat} (hk : k < es.length) : ∃ (us : List EpW) (u : EpW) (e : Ep), us.length = es.length ∧ us[k]? = some u ∧ es[k]? = some e ∧ EpIB b u e ∧ RdB b 5 v us.length (us.flatMap epc) := by
 obtain ⟨us, h1, h2⟩ := h
 obtain ⟨u, e, hu, he, hin⟩ := h2.get hk
 exact ⟨us, u, e, h2.1, hu, he, hin, h1⟩
attribute [local irreducible] wpRg keyD sha leafD pairD
theorem rClose26 (m : Mt) (hN : MtN m) (vE : Value) (bs : Bse) (w : World) (hw : bs.ok w) (hE : EpsB bs vE m.eps) : Calls Tryz.prog 13 #[mtV m vE] w (MRes bs (closeM m) w) := by
 have HW := Lib.hid hw
 clear hw
 obtain ⟨S, hS⟩ : ∃ S, S = mtV m vE := ⟨_, rfl⟩
 rw [← hS]
 have HN := Lib.hid hN
 have HE := Lib.hid hE
 obtain ⟨A, cap, rfl⟩ := hE.len
 have hml := hN.eps
 clear hN hE
 go_enter Tryz.func13, Tryz.ntmps13
 go_upto_region 1 with (fail)
 refine J1h fun W hB hz b1 b2 => ?_
 have b1' : Blk W w.heap.size 35 (mtc m (.slice A m.eps.length cap)).toArray := by first | exact b1 | (rw [hS] at b1; exact b1)
 obtain ⟨cs0, hcs0, b2'⟩ : ∃ cs : Array Value, cs.size = 34 ∧ Blk W (w.heap.size + 1) 35 cs := ⟨_, rfl, b2⟩
 have hsl := HN.out.seed.1
 clear b1 b2 hz hS
 refine wp_region_lit ?_
 refine wpSk rfl (J1 (cs := mtc m (.slice A m.eps.length cap)) J9 rfl (by rw [J5, J0 _ _ hsl]) rfl rfl (J4 b1')) fun v5 w5 hh => ?_
 obtain ⟨rfl, rfl⟩ := hh
 try simp only [PutS]
 refine wpSk rfl (J7 J1u (rOpn26 m HN.out (.slice A m.eps.length cap) w5 (HE.out.old (HW.out.below hB))) rfl rfl) fun v6 w6 hh => ?_
 obtain ⟨rfl, B6⟩ := hh
 try simp only [PutS]
 have b1w := b1'.keep B6
 have b2w := b2'.keep B6
 have hBw := hB.trans (B6.mono hB.size)
 clear b1' b2' hB B6
 cases ho : m.isOpen with
 | false =>
  have HO := Lib.hid ho
  clear ho
  try simp only [PutS]
  go_upto_region 2 with (fail)
  refine wp_region_lit ?_
  refine wpSk rfl (J1 (cs := mtc m (.slice A m.eps.length cap)) J9 rfl (by rw [J5, J0 _ _ hsl]) rfl rfl (J4 b1w)) fun v8 w8 hh => ?_
  obtain ⟨rfl, rfl⟩ := hh
  try simp only [PutS]
  refine J6 rfl 35 (.tmp 2) (.tmp 8) rfl rfl (cells := mtc m (.slice A m.eps.length cap)) rfl b2w (by rw [hcs0, J0 (m) _ hsl]; exact Nat.le_refl _) (by rw [J5, J0 (m) _ hsl]) (Ji _ _ rfl) (Ja _ _ (by rw [hcs0, J0 (m) _ hsl])) fun X hX bX => ?_
  have hBX := J2 hBw hX (Nat.le_succ _)
  clear b1w b2w hX
  try simp only [PutS]
  go_wp2_with fail
  refine bodyPost_ret (v := .tuple #[.agg (mtc m (.slice A m.eps.length cap)).toArray, .int .i64 260]) (res_mt (g1 := w.heap.size + 1) rfl rfl rfl J9 rfl (by rw [J5, J0 _ _ hsl]) bX) rfl ?_
  have hc : closeM m = (m, 260) := by unfold closeM; rw [HO.out]; rfl
  rw [hc]
  exact ⟨_, rfl, HE.out.le (Bse.le_new (HW.out.below hBX)), hBX⟩
 | true =>
  obtain ⟨h0, hcl⟩ := J36 ho
  have hc : closeM m = (m.put m.last { m.at m.last with closed := true }, 0) := by unfold closeM; rw [ho]; rfl
  have HC := Lib.hid hc
  have hll : m.last < m.eps.length := by unfold Mt.last; omega
  have hnl : m.eps.length = m.last + 1 := by unfold Mt.last; omega
  generalize m.last = n at *
  obtain ⟨us, u, e, hul, hu, he, hin, hrd⟩ := HE.out.at_ hll
  obtain ⟨g, off, cap', hv, hcp, hg, hcs⟩ := RdA.at J16 (hrd w6 (HW.out.below hBw)) hu
  rw [hul] at hv hcp
  cases hv
  have hrg : w6.rangeAt g (off + n * 5) (epc u) := fun j x hj => by rw [Nat.add_assoc]; exact hcs j x hj
  have hat : m.at n = e := by have := at_get m n hll; rw [he] at this; exact (Option.some.inj this).symm
  have c33 := J11 b1w hsl
  have l1 := b1w.lt
  rw [hnl] at c33 hcp
  have hn1 : n ≤ 1000 := by omega
  have hw1 : wrap64 ((n : Int) + 1 - 1) = (n : Int) := by unfold wrap64; omega
  have hone := (hin.old HW.out).one
  obtain ⟨iE, hiE, iE0, iE1, iE2⟩ := info_parts J49
  have HIN := Lib.hid hin
  have HNL := Lib.hid hnl
  have HAT := Lib.hid hat
  have HLL := Lib.hid hll
  clear ho hcl h0 hc hul hu he hin hrd hcs hnl hat hll
  try simp only [PutS]
  go_upto_region 3 with (fail)
  refine wp_region_lit ?_
  iterate 7 (refine wpList_plain rfl fun K hK => ?_; go_big_op; refine hK _ _ ?_; clear hK K)
  refine wpSk rfl (J1 (cs := epc u) J1o rfl J1b rfl rfl hrg) fun v16 w16 hh => ?_
  obtain ⟨rfl, rfl⟩ := hh
  try simp only [PutS]
  refine wpSk rfl (Jl hiE iE0 rfl) fun v4 w4 hh => ?_
  obtain ⟨rfl, rfl⟩ := hh
  try simp only [PutS]
  have b4 : Blk (w16.alloc (.cells (Value.agg #[.int .i64 0, .int .i64 0, .bool false, .slice none 0 0, .slice none 0 0]).cells 75)) w16.heap.size 75 #[.int .i64 0, .int .i64 0, .bool false, .slice none 0 0, .slice none 0 0] := World.alloc_heap_new w16 _
  have B4 := (Below.refl _ w16).alloc (Nat.le_refl _) (.cells (Value.agg #[.int .i64 0, .int .i64 0, .bool false, .slice none 0 0, .slice none 0 0]).cells 75)
  generalize w16.alloc (.cells (Value.agg #[.int .i64 0, .int .i64 0, .bool false, .slice none 0 0, .slice none 0 0]).cells 75) = w4 at *
  refine J6 rfl 75 (.tmp 4) (.tmp 16) rfl rfl (cells := epc u) rfl b4 (by rw [J16]; exact Nat.le_refl _) J1b (List.all_eq_true.2 hone) rfl fun Y hY bY => ?_
  have BY : Below w16.heap.size w16 Y := J2 B4 hY (Nat.le_refl _)
  have b4Y : Blk Y w16.heap.size 75 (epc u).toArray := bY
  have b1Y := b1w.keep BY
  have b2Y := b2w.keep BY
  have hBY := hBw.trans (BY.mono hBw.size)
  obtain ⟨g4, hg4⟩ : ∃ g, g = w16.heap.size := ⟨_, rfl⟩
  rw [← hg4] at b4Y ⊢
  have hg4w : w.heap.size + 1 < g4 := by have := b2w.lt; omega
  clear b4 B4 hY bY BY hg4 hrg b1w b2w hBw c33 l1 hg
  have c42 : Y.cell? ⟨g4, 2, none⟩ = some (.bool u.closed) := (b4Y.cell 2).trans rfl
  have f4 := b4Y.frozen
  have l4 := b4Y.lt
  try simp only [PutS]
  go_upto_region 5 with (fail)
  refine set1 (M := fun W => Code.wp _ _ _ _ W) b4Y fun Z hZ bZ => ?_
  have b4Z : Blk Z g4 75 (epc { u with closed := true }).toArray := bZ
  have b1Z := hZ.blk b1Y (by omega)
  have b2w := hZ.blk b2Y (by omega)
  have hBw := J2 hBY hZ (by omega)
  have c33 := J11 b1Z hsl
  have l1 := b1Z.lt
  rw [HNL.out] at c33
  clear c42 f4 l4 b4Y hZ bZ b1Y b2Y hBY
  obtain ⟨e', he'⟩ : ∃ e' : Ep, e' = { m.at n with closed := true } := ⟨_, rfl⟩
  have hin' : EpIB bs { u with closed := true } e' := by
   rw [he', HAT.out]
   exact ⟨⟨HIN.out.1.1, HIN.out.1.2.1, rfl⟩, HIN.out.2.1, HIN.out.2.2⟩
  have HIN' := Lib.hid hin'
  have HEE := Lib.hid he'
  clear hin' he'
  refine wp_region_lit ?_
  refine wpSk rfl (J1 (cs := mtc m (.slice (some ⟨g, off, none⟩) m.eps.length cap)) J9 rfl (by rw [J5, J0 _ _ hsl]) rfl rfl (J4 b1Z)) fun v18 w18 hh => ?_
  obtain ⟨rfl, rfl⟩ := hh
  try simp only [PutS]
  iterate 4 (refine wpList_plain rfl fun K hK => ?_; go_big_op; refine hK _ _ ?_; clear hK K)
  refine wpSk rfl (J1 (cs := epc { u with closed := true }) J1o rfl J1b rfl rfl (J4 b4Z)) fun v23 w23 hh => ?_
  obtain ⟨rfl, rfl⟩ := hh
  try simp only [PutS]
  refine wpSk rfl (Jm (R := fun v W2 => ∃ vE', v = mtV (repM m (n) (e')) vE' ∧ EpsB (bs.new (w23) W2) vE' (repE m.eps (n) (e')) ∧ Below (w23).heap.size (w23) W2) J19 ((rRepl26 m HN.out _ (n) ((by have := HLL.out; omega)) ({ u with closed := true }) (e') bs (w23) (HW.out.below hBw) HE.out (HIN'.out)).mono fun r W2 ⟨vE', h1, h2⟩ => ⟨_, h1, vE', rfl, h2⟩) rfl rfl) fun v24 w24 hh => ?_
  obtain ⟨vE', rfl, hE', B24⟩ := hh
  try simp only [PutS]
  obtain ⟨AE, cE, hvE⟩ := hE'.len
  have b2y := b2w.keep B24
  have hBy := hBw.trans (B24.mono hBw.size)
  have hlb := b2w.lt
  refine J6 rfl 35 (.tmp 2) (.tmp 24) rfl rfl (cells := mtc (repM m (n) (e')) vE') rfl b2y (by rw [hcs0, J0 (repM m (n) (e')) _ hsl]; exact Nat.le_refl _) (by rw [J5, J0 (repM m (n) (e')) _ hsl]) (Ji _ _ (by rw [hvE]; rfl)) (Ja _ _ (by rw [hcs0, J0 (repM m (n) (e')) _ hsl])) fun X hX bX => ?_
  have hEX : EpsB (bs.new w X) vE' (repE m.eps (n) (e')) := hE'.out hX HW.out (by omega) (by omega) (by omega)
  have hBX := J2 hBy hX (by omega)
  clear b1Z b4Z b2y hX B24 hE' hBy hlb b2w hBw c33
  try simp only [PutS]
  go_wp2_with fail
  refine bodyPost_ret (v := .tuple #[.agg (mtc (repM m n e') vE').toArray, .int .i64 0]) (res_mt (g1 := w.heap.size + 1) rfl rfl rfl J9 rfl (by rw [J5, J0 (repM m n e') _ hsl]) bX) rfl ?_
  rw [HC.out, ← HEE.out, ← J89 HLL.out]
  exact ⟨_, rfl, hEX, hBX⟩
end
end Go.Proofs.YtoiampgfnidfdaaGreatDoor
