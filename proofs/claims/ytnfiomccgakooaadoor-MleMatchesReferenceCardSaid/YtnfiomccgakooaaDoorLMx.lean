/-
  MleMatchesReference: the walk.
-/
import Derived.Test.YtnfiomccgakooaaDoorLay5
import Derived.Test.YtnfiomccgakooaaDoorMm7
namespace Go.Proofs.YtnfiomccgakooaaDoor
open Go.RowKit

theorem rd_blk5 {W : World} {g size : Nat} {t : TypeId} {cs : List Value} {n lo hi : Nat} (h : Blk W g t cs.toArray) (hn : cs.length = n * size) (hb : n ≤ 1000000) (hlo : lo ≤ g) (hhi : g < hi) : Rd lo hi size W (.slice (some ⟨g, 0, none⟩) n n) n cs := by
  refine ⟨hn, by omega, some ⟨g, 0, none⟩, n, rfl, Nat.le_refl _, fun _ => ⟨g, 0, rfl, hlo, hhi, h.lt, fun j u hu => ?_⟩⟩
  rw [Nat.zero_add, h.cell]
  simpa using hu
theorem dot_mev (t p : List E) (h : t.length = 2 ^ p.length) : dotE t p t.length = mev t p := by
  rw [mev_sum t p h, h]; rfl
attribute [local irreducible] wpRg
set_option maxRecDepth 100000 in
set_option maxHeartbeats 16000000 in
theorem wkMleMatches (q : Q5) (vT vP vQ : Value) (r : Raw) (zi : Int) (w : World) (h : Q5S w.heap.size w q vT vP vQ) (hr : Word r.1 ∧ Word r.2) (hzi : 0 ≤ zi ∧ zi < 256) (hL : Laid w) :
    Calls Tryd.prog 3 #[qv5 vT vP vQ q, .agg #[.int .u64 r.1, .int .u64 r.2], .int .u8 zi] w (Ret (.bool true) w) := by
  obtain ⟨i0, hi0, iz0, iz1, iz2⟩ := info_parts ext_info
  obtain ⟨hzi0, hzi1⟩ := hzi
  obtain ⟨zi, rfl⟩ := Int.eq_ofNat_of_zero_le hzi0
  obtain ⟨AT, capT, rfl⟩ := h.T.1.len
  unfold qv5
  go_enter Tryd.func3, Tryd.ntmps3
  go_wp2_with fail
  refine calls_stk2 fun W1 hB1 hz1 b1 b2 => ?_
  refine (lSanity5 W1 (hL.keep hB1)).mono ?_
  rintro e w2 ⟨rfl, hb2⟩
  have hB2 := hB1.trans (hb2.mono hB1.size)
  have b12 := b1.keep hb2
  have b22 := b2.keep hb2
  have e1 := b12.cell
  go_wp2_with fail
  refine (gValid q.T _ 0 w.heap.size w2 (h.keep hB2).T).mono ?_
  rintro e w3 ⟨v3, rfl, ⟨n1, c1, rfl, vr1⟩, hb3⟩
  have hB3 := hB2.trans (hb3.mono hB2.size)
  have b13 := b12.keep hb3
  have b23 := b22.keep hb3
  replace e1 := b13.cell
  go_wp2_with fail
  refine (rValid5 q.T _ 0 w.heap.size w3 (h.keep hB3).T).mono ?_
  rintro e w4 ⟨v4, rfl, ⟨n2, c2, rfl, vr2⟩, hb4⟩
  obtain ⟨rfl, rfl⟩ := vr_unique vr1 vr2
  have hB4 := hB3.trans (hb4.mono hB3.size)
  have b14 := b13.keep hb4
  have b24 := b23.keep hb4
  replace e1 := b14.cell
  clear vr1 vr2 b1 b2 b12 b22 b13 b23
  by_cases h300 : q.T.length ≤ 300
  all_goals
    go_wp2_with fail
    refine (lMade5 q (.slice AT q.T.length capT) vP vQ w.heap.size w4 (h.keep hB4) hB4.size).mono ?_
    rintro e w5 ⟨a, b, c, nt, mt, np, mp, ns, ms, rfl, ot, op, os, ⟨lt1, lp1, ls1, lt2, lp2, ls2⟩, -, hb5⟩
    obtain ⟨Aa, capa, rfl⟩ := ot.1.len
    obtain ⟨Ab, capb, rfl⟩ := op.1.len
    obtain ⟨Ac, capc, rfl⟩ := os.1.len
    have hB5 := hB4.trans (hb5.mono hB4.size)
    have Ly := lay_made5 ot op os lt2 lp2 ls2 (hL.keep hB5)
    have b25 := b24.keep hb5
    clear ot op os lt1 lp1 ls1 lt2 lp2 ls2
    generalize q.t = t at *
    generalize q.p = p at *
    generalize q.s = s at *
    have ht64 := Ly.t64
    have ht0 := Ly.t0
    have hpl := Ly.pl
    obtain ⟨k, hk⟩ : ∃ k, k = zi % t.length := ⟨_, rfl⟩
    have hm1 : Int.tmod (zi : Int) (t.length : Int) = (k : Int) := by rw [hk]; rfl
    have hm2 : (zi : Int) % (t.length : Int) = (k : Int) := by rw [hk]; rfl
    have hk1 : k < t.length := by rw [hk]; exact Nat.mod_lt _ ht0
    have hN0 : t.length ≠ 0 := by omega
    clear hk
    have c1 := gw_blk b25
    go_wp2_with fail
    refine wp_region_late 8 [2,3,4,5,6] [(1, Spec.val (.agg #[.int .u64 (fv (em r.1 r.2).a), .int .u64 (fv (em r.1 r.2).b)])), (7, Spec.rel (New 27 #[.int .u64 0, .int .u64 0]) (NewF))] (by kernel_rfl) (by kernel_rfl) (by kernel_rfl) (by kernel_rfl) (by intro _ _ d _ _ h; cases d <;> exact h) ⟨fit_new, trivial⟩ ?_
    refine rg_det rfl rfl rfl (fun K hK => ?_)
    go_big_quiet_op
    refine hK _ ?_; clear hK K
    refine rg_val rfl rfl (fun W1 hW1 hF => step_callv en_attestor_attestorref02_Made (xMade r.1 r.2 hr.1.1 hr.1.2 hr.2.1 hr.2.2 W1) rfl rfl) ?_
    intro a' ha
    simp only [Act.put, List.setIfInBounds_toArray, List.set_cons_succ, List.set_cons_zero] at ha
    subst ha
    refine rg_det rfl rfl rfl (fun K hK => ?_)
    go_big_quiet_op
    refine hK _ ?_; clear hK K
    refine rg_det rfl rfl rfl (fun K hK => ?_)
    go_big_quiet_op
    refine hK _ ?_; clear hK K
    refine rg_det rfl rfl rfl (fun K hK => ?_)
    go_big_quiet_op
    refine hK _ ?_; clear hK K
    refine rg_det rfl rfl rfl (fun K hK => ?_)
    go_big_quiet_op
    refine hK _ ?_; clear hK K
    refine rg_det rfl rfl rfl (fun K hK => ?_)
    go_big_quiet_op
    refine hK _ ?_; clear hK K
    refine rg_rel rfl rfl (fun W1 hW1 hF => step_new hi0 iz0 rfl) ?_
    intro n7 m7 v7 hn7 hm7 hd7 hf7 a' ha
    simp only [Act.put, List.setIfInBounds_toArray, List.set_cons_succ, List.set_cons_zero] at ha
    subst ha
    obtain rfl := hf7
    refine rg_nil (fun w' hw' hF => ?_)
    obtain ⟨z, rfl⟩ := hw'
    simp only [List.drop_succ_cons, List.drop_zero]
    obtain ⟨-, -, l7, b7⟩ := end_last hF
    generalize em r.1 r.2 = x at *
    refine wpListC_put (cells := [.int .u64 (fv x.a), .int .u64 (fv x.b)]) (new := #[.int .u64 (fv x.a), .int .u64 (fv x.b)]) rfl _ _ _ rfl rfl rfl b7 (Nat.le_refl _) (by kernel_rfl) rfl rfl ⟨z, rfl⟩ hn7 fun X p1 w1 g1 => ?_
    refine wpListC_assignU (.int .i64 k) rfl _ rfl g1 rfl ?_
    intro a' ha
    simp only [Act.put, List.setIfInBounds_toArray, List.set_cons_succ, List.set_cons_zero] at ha
    subst ha
    refine wpListC_nil ?_
    clear hF hm1 hm2 b7 p1
    have B6 := hB5.trans ((grw_below g1).mono hB5.size)
    have LX := Ly.keep (grw_below g1)
    have c2 := gw_blk w1
    have H300 := Lib.hid h300
    clear h300 b24 b25 b14 e1 c1 h hB1 hb2 hB2 hb3 hB3 hb4 hB4 hb5 Ly z hL g1 hB5
    by_cases hp0 : 0 < p.length
    · obtain ⟨n, hn⟩ : ∃ n, n = 2 ^ (p.length - 1) := ⟨_, rfl⟩
      have htn : t.length = 2 * n := by rw [LX.tl, hn, ← Nat.pow_succ']; congr 1; omega
      have hn0 : 0 < n := by rw [hn]; exact Nat.two_pow_pos _
      have hn32 : n ≤ 1000 := by omega
      have hn33 : n ≤ 100000 := by omega
      have HTN := Lib.hid htn
      clear htn hn
      go_wp2_with fail
      refine wp_region_rg 13 [(6, Spec.rel (ExtA (bindL t x)) (SlF (bindL t x).length)), (9, Spec.rel (ExtA (bindL t x)) (SlF (bindL t x).length)), (10, Spec.val (.bool true))] (by kernel_rfl) (by kernel_rfl) (by kernel_rfl) ⟨fit_ext, fit_ext, trivial⟩ ?_
      refine rg_det rfl rfl rfl (fun K hK => ?_)
      go_big_quiet_op
      refine hK _ ?_; clear hK K
      refine rg_det rfl rfl rfl (fun K hK => ?_)
      go_big_quiet_op
      refine hK _ ?_; clear hK K
      refine rg_det rfl rfl rfl (fun K hK => ?_)
      go_big_quiet_op
      refine hK _ ?_; clear hK K
      refine rg_det rfl rfl rfl (fun K hK => ?_)
      go_big_quiet_op
      refine hK _ ?_; clear hK K
      refine rg_det rfl rfl rfl (fun K hK => ?_)
      go_big_quiet_op
      refine hK _ ?_; clear hK K
      refine rg_det rfl rfl rfl (fun K hK => ?_)
      go_big_quiet_op
      refine hK _ ?_; clear hK K
      refine rg_rel rfl rfl (fun W1 hW1 hF => step_callr en_attestor_mle_Bind (gBind t x n HTN.out hn33 hn0 _ _ _ W1 (LX.grw hW1).ht) rfl rfl) ?_
      intro n6 m6 v6 hn6 hm6 hd6 hf6 a' ha
      simp only [Act.put, List.setIfInBounds_toArray, List.set_cons_succ, List.set_cons_zero] at ha
      subst ha
      obtain ⟨A6, cap6, rfl⟩ := hf6
      refine rg_det rfl rfl rfl (fun K hK => ?_)
      go_big_quiet_op
      refine hK _ ?_; clear hK K
      refine rg_det rfl rfl rfl (fun K hK => ?_)
      go_big_quiet_op
      refine hK _ ?_; clear hK K
      refine rg_rel rfl rfl (fun W1 hW1 hF => step_callr en_attestor_attestorref05_Bind (rBind t x n HTN.out hn32 _ _ _ W1 (LX.grw hW1).ht) rfl rfl) ?_
      intro n9 m9 v9 hn9 hm9 hd9 hf9 a' ha
      simp only [Act.put, List.setIfInBounds_toArray, List.set_cons_succ, List.set_cons_zero] at ha
      subst ha
      obtain ⟨A9, cap9, rfl⟩ := hf9
      refine rg_val rfl rfl (fun W1 hW1 hF => step_callv en_attestor_attestorref02_Same (xSame (bindL t x) _ _ _ _ _ _ W1 (pick_last (pick_init hF) (by kernel_rfl)).2 (pick_last hF (by kernel_rfl)).2) rfl rfl) ?_
      intro a' ha
      simp only [Act.put, List.setIfInBounds_toArray, List.set_cons_succ, List.set_cons_zero] at ha
      subst ha
      refine rg_det rfl rfl rfl (fun K hK => ?_)
      go_big_quiet_op
      refine hK _ ?_; clear hK K
      refine rg_det rfl rfl rfl (fun K hK => ?_)
      go_big_quiet_op
      refine hK _ ?_; clear hK K
      refine rg_nil (fun w' hw' hF => ?_)
      obtain ⟨z8, rfl⟩ := hw'
      simp only [List.drop_succ_cons, List.drop_zero]
      obtain ⟨Z, hZ⟩ : ∃ Z, Z = z8.w := ⟨_, rfl⟩
      have LZ := LX.keep z8.h
      have bZ := w1.keep z8.h
      have BZ := B6.trans (z8.h.mono B6.size)
      rw [← hZ] at LZ bZ BZ ⊢
      clear hF hZ z8 c2 w1 LX
      obtain ⟨gT, oT, cT, hv, -, -, -, q4, q5⟩ := exts_cells LZ.ht ht0
      cases hv
      obtain ⟨y, hy, hyd⟩ := get_of hk1
      obtain ⟨d1, d2⟩ := q5 k y hy
      have F := Below.refl Z.heap.size Z
      have e1 := bZ.cell
      have e2 := (F.cell (p := ⟨gT, oT + k * 2, none⟩) q4).trans d1
      have e3 := (F.cell (p := ⟨gT, oT + k * 2 + 1, none⟩) q4).trans d2
      obtain ⟨y1, hy1⟩ : ∃ y1, y1 = mev t p := ⟨_, rfl⟩
      obtain ⟨y2, hy2⟩ : ∃ y2, y2 = pfac p s p.length := ⟨_, rfl⟩
      obtain ⟨y3, hy3⟩ : ∃ y3, y3 = eqi k p := ⟨_, rfl⟩
      obtain ⟨y4, hy4⟩ : ∃ y4, y4 = x + y * eqi k p := ⟨_, rfl⟩
      have E1 : ∀ W', Below Z.heap.size Z W' → Calls Tryd.prog 12 #[.slice (some ⟨gT, oT, none⟩) t.length capa, .slice Ab p.length capb] W' (Ret (ev y1) W') := fun W' hW => by rw [hy1]; exact (LZ.keep hW).eval
      have E2 : ∀ W', Below Z.heap.size Z W' → Calls Tryd.prog 13 #[.slice (some ⟨gT, oT, none⟩) t.length capa, .slice Ab p.length capb] W' (Ret (ev y1) W') := fun W' hW => by rw [hy1, ← dot_mev t p LZ.tl]; exact rEval t p (by omega) (by omega) _ _ _ _ _ _ W' (LZ.keep hW).ht (LZ.keep hW).hp
      have E3 : ∀ W', Below Z.heap.size Z W' → Calls Tryd.prog 14 #[.slice Ab p.length capb, .slice Ac s.length capc] W' (Ret (ev y2) W') := fun W' hW => by rw [hy2]; exact gEq p s LZ.sl _ _ _ _ _ _ W' (LZ.keep hW).hp (LZ.keep hW).hs (LZ.keep hW).laid
      have E4 : ∀ W', Below Z.heap.size Z W' → Calls Tryd.prog 15 #[.slice Ab p.length capb, .slice Ac s.length capc] W' (Ret (ev y2) W') := fun W' hW => by rw [hy2]; exact mEqR p s LZ.sl _ _ _ _ _ _ W' (LZ.keep hW).hp (LZ.keep hW).hs
      have E5 : ∀ W', Below Z.heap.size Z W' → Calls Tryd.prog 16 #[.int .i64 k, .slice Ab p.length capb] W' (Ret (ev y3) W') := fun W' hW => by rw [hy3]; exact gEqIndex k p (by omega) (by omega) _ _ _ W' (LZ.keep hW).hp (Nat.le_refl _) (LZ.keep hW).laid
      have E6 : ∀ W', Below Z.heap.size Z W' → Calls Tryd.prog 17 #[.int .i64 k, .slice Ab p.length capb] W' (Ret (ev y3) W') := fun W' hW => by rw [hy3]; exact mEqIndexR k p (by omega) (by omega) _ _ _ W' (LZ.keep hW).hp
      have E7 : ∀ W', Below Z.heap.size Z W' → Calls Tryd.prog 18 #[.slice Ab p.length capb] W' (RetR (ExtA (tabE p)) W') := fun W' hW => wEqTable p _ _ _ W' (LZ.keep hW).hp (Nat.le_refl _) (LZ.keep hW).laid (by omega)
      have E8 : ∀ W', Below Z.heap.size Z W' → Calls Tryd.prog 19 #[.slice Ab p.length capb] W' (RetR (ExtA (tabE p)) W') := fun W' hW => rEqTable p (by omega) _ _ _ W' (LZ.keep hW).hp
      have E9 : ∀ W', Below Z.heap.size Z W' → Calls Tryd.prog 20 #[ev x, .int .i64 k, ev y, .slice Ab p.length capb] W' (Ret (ev y4) W') := fun W' hW => by rw [hy4]; exact gAccumulate x y k p (by omega) (by omega) _ _ _ W' (LZ.keep hW).hp (Nat.le_refl _) (LZ.keep hW).laid
      have E10 : ∀ W', Below Z.heap.size Z W' → Calls Tryd.prog 21 #[ev x, .int .i64 k, ev y, .slice Ab p.length capb] W' (Ret (ev y4) W') := fun W' hW => by rw [hy4]; exact rAccumulate x y k p (by omega) (by omega) _ _ _ W' (LZ.keep hW).hp
      have E11 : ∀ W', Below Z.heap.size Z W' → Calls Tryd.prog 22 #[.slice Ab p.length capb, .slice Ac s.length capc, ev x] W' (RetR (ExtA (lineE p s x p.length)) W') := fun W' hW => gLine p s x LZ.sl (by omega) _ _ _ _ _ _ W' (LZ.keep hW).hp (LZ.keep hW).hs
      have E12 : ∀ W', Below Z.heap.size Z W' → Calls Tryd.prog 23 #[.slice Ab p.length capb, .slice Ac s.length capc, ev x] W' (RetR (ExtA (lineE p s x p.length)) W') := fun W' hW => rLine p s x LZ.sl (by omega) _ _ _ _ _ _ W' (LZ.keep hW).hp (LZ.keep hW).hs
      generalize lineE p s x p.length = ln at *
      try simp only [hp0] at E1 E2 E3 E4 E5 E6 E7 E8 E9 E10 E11 E12
      replace E1 := Lib.hid E1
      replace E2 := Lib.hid E2
      replace E3 := Lib.hid E3
      replace E4 := Lib.hid E4
      replace E5 := Lib.hid E5
      replace E6 := Lib.hid E6
      replace E7 := Lib.hid E7
      replace E8 := Lib.hid E8
      replace E9 := Lib.hid E9
      replace E10 := Lib.hid E10
      replace E11 := Lib.hid E11
      replace E12 := Lib.hid E12
      generalize tabE p = tb at *
      clear q5 hy hyd hy1 hy2 hy3 hy4 LZ
      obtain ⟨u0, hu0, uz0, uz1, uz2⟩ := info_parts u64_info
      have f1 := gw_blk bZ
      have f2 := gw_cell q4 d1
      have f3 := gw_cell q4 d2
      have hxa := fv_lo x.a
      have hxb := fv_lo x.b
      have hya := fv_hi x.a
      have hyb := fv_hi x.b
      have HZs : Hid (∀ z ∈ [fv x.a, fv x.b], 0 ≤ z ∧ z < 18446744069414584321) := Lib.hid fun z hz => by
        rcases List.mem_cons.1 hz with rfl | hz
        · exact ⟨hxa, hya⟩
        · rw [List.mem_singleton.1 hz]; exact ⟨hxb, hyb⟩
      have HL1 := Lib.hid (fun W' v lo hi h => gLift [fv x.a, fv x.b] (by simp) v lo hi W' h HZs.out)
      have HL2 := Lib.hid (fun W' v lo hi h => rLift [fv x.a, fv x.b] (by simp) v lo hi W' h HZs.out)
      generalize liftE [fv x.a, fv x.b] = lf at *
      clear e1 e2 e3 hxa hxb hya hyb d1 d2
      go_wp2_with fail
      refine wp_region_rg 80 [(2, Spec.val (.agg #[.int .u64 (fv (y1).a), .int .u64 (fv (y1).b)])), (5, Spec.val (.agg #[.int .u64 (fv (y1).a), .int .u64 (fv (y1).b)])), (10, Spec.val (.agg #[.int .u64 (fv (y2).a), .int .u64 (fv (y2).b)])), (13, Spec.val (.agg #[.int .u64 (fv (y2).a), .int .u64 (fv (y2).b)])), (19, Spec.val (.agg #[.int .u64 (fv (y3).a), .int .u64 (fv (y3).b)])), (22, Spec.val (.agg #[.int .u64 (fv (y3).a), .int .u64 (fv (y3).b)])), (27, Spec.rel (ExtA tb) (SlF tb.length)), (29, Spec.rel (ExtA tb) (SlF tb.length)), (30, Spec.val (.bool true)), (40, Spec.val (.agg #[.int .u64 (fv (y4).a), .int .u64 (fv (y4).b)])), (48, Spec.val (.agg #[.int .u64 (fv (y4).a), .int .u64 (fv (y4).b)])), (55, Spec.rel (ExtA ln) (SlF ln.length)), (59, Spec.rel (ExtA ln) (SlF ln.length)), (60, Spec.val (.bool true)), (67, Spec.rel (Lit 25 2 #[.int .u64 (fv x.a), .int .u64 (fv x.b)]) (LitF 2)), (68, Spec.rel (ExtA lf) (SlF lf.length)), (73, Spec.rel (Lit 25 2 #[.int .u64 (fv x.a), .int .u64 (fv x.b)]) (LitF 2)), (74, Spec.rel (ExtA lf) (SlF lf.length)), (75, Spec.val (.bool true))] (by kernel_rfl) (by kernel_rfl) (by kernel_rfl) ⟨fit_ext, fit_ext, fit_ext, fit_ext, fit_lit, fit_ext, fit_lit, fit_ext, trivial⟩ ?_
      refine rg_det rfl rfl rfl (fun K hK => ?_)
      go_big_quiet_op
      refine hK _ ?_; clear hK K
      refine rg_det rfl rfl rfl (fun K hK => ?_)
      go_big_quiet_op
      refine hK _ ?_; clear hK K
      refine rg_val rfl rfl (fun W1 hW1 hF => step_callv en_attestor_mle_Eval (E1.out W1 (grw_below hW1)) rfl rfl) ?_
      intro a' ha
      simp only [Act.put, List.setIfInBounds_toArray, List.set_cons_succ, List.set_cons_zero] at ha
      subst ha
      refine rg_det rfl rfl rfl (fun K hK => ?_)
      go_big_quiet_op
      refine hK _ ?_; clear hK K
      refine rg_det rfl rfl rfl (fun K hK => ?_)
      go_big_quiet_op
      refine hK _ ?_; clear hK K
      refine rg_val rfl rfl (fun W1 hW1 hF => step_callv en_attestor_attestorref05_Eval (E2.out W1 (grw_below hW1)) rfl rfl) ?_
      intro a' ha
      simp only [Act.put, List.setIfInBounds_toArray, List.set_cons_succ, List.set_cons_zero] at ha
      subst ha
      refine rg_det rfl rfl rfl (fun K hK => ?_)
      go_big_quiet_op
      refine hK _ ?_; clear hK K
      refine rg_det rfl rfl rfl (fun K hK => ?_)
      go_big_quiet_op
      refine hK _ ?_; clear hK K
      refine rg_det rfl rfl rfl (fun K hK => ?_)
      go_big_quiet_op
      refine hK _ ?_; clear hK K
      refine rg_det rfl rfl rfl (fun K hK => ?_)
      go_big_quiet_op
      refine hK _ ?_; clear hK K
      refine rg_val rfl rfl (fun W1 hW1 hF => step_callv en_attestor_mle_Eq (E3.out W1 (grw_below hW1)) rfl rfl) ?_
      intro a' ha
      simp only [Act.put, List.setIfInBounds_toArray, List.set_cons_succ, List.set_cons_zero] at ha
      subst ha
      refine rg_det rfl rfl rfl (fun K hK => ?_)
      go_big_quiet_op
      refine hK _ ?_; clear hK K
      refine rg_det rfl rfl rfl (fun K hK => ?_)
      go_big_quiet_op
      refine hK _ ?_; clear hK K
      refine rg_val rfl rfl (fun W1 hW1 hF => step_callv en_attestor_attestorref05_Eq (E4.out W1 (grw_below hW1)) rfl rfl) ?_
      intro a' ha
      simp only [Act.put, List.setIfInBounds_toArray, List.set_cons_succ, List.set_cons_zero] at ha
      subst ha
      refine rg_det rfl rfl rfl (fun K hK => ?_)
      go_big_quiet_op
      refine hK _ ?_; clear hK K
      refine rg_det rfl rfl rfl (fun K hK => ?_)
      go_big_quiet_op
      refine hK _ ?_; clear hK K
      refine rg_det rfl rfl rfl (fun K hK => ?_)
      go_big_quiet_op
      refine hK _ ?_; clear hK K
      refine rg_det rfl rfl rfl (fun K hK => ?_)
      go_big_quiet_op
      refine hK _ ?_; clear hK K
      refine rg_det rfl rfl rfl (fun K hK => ?_)
      go_big_quiet_op
      refine hK _ ?_; clear hK K
      refine rg_val rfl rfl (fun W1 hW1 hF => step_callv en_attestor_mle_EqIndex (E5.out W1 (grw_below hW1)) rfl rfl) ?_
      intro a' ha
      simp only [Act.put, List.setIfInBounds_toArray, List.set_cons_succ, List.set_cons_zero] at ha
      subst ha
      refine rg_det rfl rfl rfl (fun K hK => ?_)
      go_big_quiet_op
      refine hK _ ?_; clear hK K
      refine rg_det rfl rfl rfl (fun K hK => ?_)
      go_big_quiet_op
      refine hK _ ?_; clear hK K
      refine rg_val rfl rfl (fun W1 hW1 hF => step_callv en_attestor_attestorref05_EqIndex (E6.out W1 (grw_below hW1)) rfl rfl) ?_
      intro a' ha
      simp only [Act.put, List.setIfInBounds_toArray, List.set_cons_succ, List.set_cons_zero] at ha
      subst ha
      refine rg_det rfl rfl rfl (fun K hK => ?_)
      go_big_quiet_op
      refine hK _ ?_; clear hK K
      refine rg_det rfl rfl rfl (fun K hK => ?_)
      go_big_quiet_op
      refine hK _ ?_; clear hK K
      refine rg_det rfl rfl rfl (fun K hK => ?_)
      go_big_quiet_op
      refine hK _ ?_; clear hK K
      refine rg_det rfl rfl rfl (fun K hK => ?_)
      go_big_quiet_op
      refine hK _ ?_; clear hK K
      refine rg_rel rfl rfl (fun W1 hW1 hF => step_callr en_attestor_mle_EqTable (E7.out W1 (grw_below hW1)) rfl rfl) ?_
      intro nt27 mt27 vt27 hnt27 hmt27 hdt27 hft27 a' ha
      simp only [Act.put, List.setIfInBounds_toArray, List.set_cons_succ, List.set_cons_zero] at ha
      subst ha
      obtain ⟨At27, capt27, rfl⟩ := hft27
      refine rg_det rfl rfl rfl (fun K hK => ?_)
      go_big_quiet_op
      refine hK _ ?_; clear hK K
      refine rg_rel rfl rfl (fun W1 hW1 hF => step_callr en_attestor_attestorref05_EqTable (E8.out W1 (grw_below hW1)) rfl rfl) ?_
      intro nt29 mt29 vt29 hnt29 hmt29 hdt29 hft29 a' ha
      simp only [Act.put, List.setIfInBounds_toArray, List.set_cons_succ, List.set_cons_zero] at ha
      subst ha
      obtain ⟨At29, capt29, rfl⟩ := hft29
      refine rg_val rfl rfl (fun W1 hW1 hF => step_callv en_attestor_attestorref02_Same (xSame tb _ _ _ _ _ _ W1 (pick_last (pick_init hF) (by kernel_rfl)).2 (pick_last hF (by kernel_rfl)).2) rfl rfl) ?_
      intro a' ha
      simp only [Act.put, List.setIfInBounds_toArray, List.set_cons_succ, List.set_cons_zero] at ha
      subst ha
      refine rg_det rfl rfl rfl (fun K hK => ?_)
      go_big_quiet_op
      refine hK _ ?_; clear hK K
      refine rg_det rfl rfl rfl (fun K hK => ?_)
      go_big_quiet_op
      refine hK _ ?_; clear hK K
      refine rg_det rfl rfl rfl (fun K hK => ?_)
      go_big_quiet_op
      refine hK _ ?_; clear hK K
      refine rg_det rfl rfl rfl (fun K hK => ?_)
      go_big_quiet_op
      refine hK _ ?_; clear hK K
      refine rg_det rfl rfl rfl (fun K hK => ?_)
      go_big_quiet_op
      refine hK _ ?_; clear hK K
      refine rg_det rfl rfl rfl (fun K hK => ?_)
      go_big_quiet_op
      refine hK _ ?_; clear hK K
      refine rg_det rfl rfl rfl (fun K hK => ?_)
      go_big_quiet_op
      refine hK _ ?_; clear hK K
      refine rg_det rfl rfl rfl (fun K hK => ?_)
      go_big_quiet_op
      refine hK _ ?_; clear hK K
      refine rg_det rfl rfl rfl (fun K hK => ?_)
      go_big_quiet_op
      refine hK _ ?_; clear hK K
      refine rg_val rfl rfl (fun W1 hW1 hF => step_callv en_attestor_mle_Accumulate (E9.out W1 (grw_below hW1)) rfl rfl) ?_
      intro a' ha
      simp only [Act.put, List.setIfInBounds_toArray, List.set_cons_succ, List.set_cons_zero] at ha
      subst ha
      refine rg_det rfl rfl rfl (fun K hK => ?_)
      go_big_quiet_op
      refine hK _ ?_; clear hK K
      refine rg_det rfl rfl rfl (fun K hK => ?_)
      go_big_quiet_op
      refine hK _ ?_; clear hK K
      refine rg_det rfl rfl rfl (fun K hK => ?_)
      go_big_quiet_op
      refine hK _ ?_; clear hK K
      refine rg_det rfl rfl rfl (fun K hK => ?_)
      go_big_quiet_op
      refine hK _ ?_; clear hK K
      refine rg_det rfl rfl rfl (fun K hK => ?_)
      go_big_quiet_op
      refine hK _ ?_; clear hK K
      refine rg_det rfl rfl rfl (fun K hK => ?_)
      go_big_quiet_op
      refine hK _ ?_; clear hK K
      refine rg_det rfl rfl rfl (fun K hK => ?_)
      go_big_quiet_op
      refine hK _ ?_; clear hK K
      refine rg_val rfl rfl (fun W1 hW1 hF => step_callv en_attestor_attestorref05_Accumulate (E10.out W1 (grw_below hW1)) rfl rfl) ?_
      intro a' ha
      simp only [Act.put, List.setIfInBounds_toArray, List.set_cons_succ, List.set_cons_zero] at ha
      subst ha
      refine rg_det rfl rfl rfl (fun K hK => ?_)
      go_big_quiet_op
      refine hK _ ?_; clear hK K
      refine rg_det rfl rfl rfl (fun K hK => ?_)
      go_big_quiet_op
      refine hK _ ?_; clear hK K
      refine rg_det rfl rfl rfl (fun K hK => ?_)
      go_big_quiet_op
      refine hK _ ?_; clear hK K
      refine rg_det rfl rfl rfl (fun K hK => ?_)
      go_big_quiet_op
      refine hK _ ?_; clear hK K
      refine rg_det rfl rfl rfl (fun K hK => ?_)
      go_big_quiet_op
      refine hK _ ?_; clear hK K
      refine rg_det rfl rfl rfl (fun K hK => ?_)
      go_big_quiet_op
      refine hK _ ?_; clear hK K
      refine rg_rel rfl rfl (fun W1 hW1 hF => step_callr en_attestor_mle_Line (E11.out W1 (grw_below hW1)) rfl rfl) ?_
      intro nt55 mt55 vt55 hnt55 hmt55 hdt55 hft55 a' ha
      simp only [Act.put, List.setIfInBounds_toArray, List.set_cons_succ, List.set_cons_zero] at ha
      subst ha
      obtain ⟨At55, capt55, rfl⟩ := hft55
      refine rg_det rfl rfl rfl (fun K hK => ?_)
      go_big_quiet_op
      refine hK _ ?_; clear hK K
      refine rg_det rfl rfl rfl (fun K hK => ?_)
      go_big_quiet_op
      refine hK _ ?_; clear hK K
      refine rg_det rfl rfl rfl (fun K hK => ?_)
      go_big_quiet_op
      refine hK _ ?_; clear hK K
      refine rg_rel rfl rfl (fun W1 hW1 hF => step_callr en_attestor_attestorref05_Line (E12.out W1 (grw_below hW1)) rfl rfl) ?_
      intro nt59 mt59 vt59 hnt59 hmt59 hdt59 hft59 a' ha
      simp only [Act.put, List.setIfInBounds_toArray, List.set_cons_succ, List.set_cons_zero] at ha
      subst ha
      obtain ⟨At59, capt59, rfl⟩ := hft59
      refine rg_val rfl rfl (fun W1 hW1 hF => step_callv en_attestor_attestorref02_Same (xSame ln _ _ _ _ _ _ W1 (pick_last (pick_init hF) (by kernel_rfl)).2 (pick_last hF (by kernel_rfl)).2) rfl rfl) ?_
      intro a' ha
      simp only [Act.put, List.setIfInBounds_toArray, List.set_cons_succ, List.set_cons_zero] at ha
      subst ha
      refine rg_det rfl rfl rfl (fun K hK => ?_)
      go_big_quiet_op
      refine hK _ ?_; clear hK K
      refine rg_det rfl rfl rfl (fun K hK => ?_)
      go_big_quiet_op
      refine hK _ ?_; clear hK K
      refine rg_det rfl rfl rfl (fun K hK => ?_)
      go_big_quiet_op
      refine hK _ ?_; clear hK K
      refine rg_det rfl rfl rfl (fun K hK => ?_)
      go_big_quiet_op
      refine hK _ ?_; clear hK K
      refine rg_det rfl rfl rfl (fun K hK => ?_)
      go_big_quiet_op
      refine hK _ ?_; clear hK K
      refine rg_det rfl rfl rfl (fun K hK => ?_)
      go_big_quiet_op
      refine hK _ ?_; clear hK K
      refine rg_rel rfl rfl (fun W1 hW1 hF => step_litF (parts := [(0, Operand.tmp 134), (1, Operand.tmp 136)]) (vs := [.int .u64 (fv x.a), .int .u64 (fv x.b)]) Tryd.underlying42 hu0 uz0 uz1 rfl (by decide) (by decide) rfl rfl (by simp [Value.cells])) ?_
      intro nt67 mt67 vt67 hnt67 hmt67 hdt67 hft67 a' ha
      simp only [Act.put, List.setIfInBounds_toArray, List.set_cons_succ, List.set_cons_zero] at ha
      subst ha
      obtain rfl := hft67
      refine rg_rel rfl rfl (fun W1 hW1 hF => step_callr en_attestor_mle_Lift (HL1.out W1 _ 0 W1.heap.size (rd_blk5 (pick_last hF (by kernel_rfl)).2.2.2 rfl (by simp) (Nat.zero_le _) (pick_last hF (by kernel_rfl)).2.2.2.lt)) rfl rfl) ?_
      intro nt68 mt68 vt68 hnt68 hmt68 hdt68 hft68 a' ha
      simp only [Act.put, List.setIfInBounds_toArray, List.set_cons_succ, List.set_cons_zero] at ha
      subst ha
      obtain ⟨At68, capt68, rfl⟩ := hft68
      refine rg_det rfl rfl rfl (fun K hK => ?_)
      go_big_quiet_op
      refine hK _ ?_; clear hK K
      refine rg_det rfl rfl rfl (fun K hK => ?_)
      go_big_quiet_op
      refine hK _ ?_; clear hK K
      refine rg_det rfl rfl rfl (fun K hK => ?_)
      go_big_quiet_op
      refine hK _ ?_; clear hK K
      refine rg_det rfl rfl rfl (fun K hK => ?_)
      go_big_quiet_op
      refine hK _ ?_; clear hK K
      refine rg_rel rfl rfl (fun W1 hW1 hF => step_litF (parts := [(0, Operand.tmp 140), (1, Operand.tmp 142)]) (vs := [.int .u64 (fv x.a), .int .u64 (fv x.b)]) Tryd.underlying42 hu0 uz0 uz1 rfl (by decide) (by decide) rfl rfl (by simp [Value.cells])) ?_
      intro nt73 mt73 vt73 hnt73 hmt73 hdt73 hft73 a' ha
      simp only [Act.put, List.setIfInBounds_toArray, List.set_cons_succ, List.set_cons_zero] at ha
      subst ha
      obtain rfl := hft73
      refine rg_rel rfl rfl (fun W1 hW1 hF => step_callr en_attestor_attestorref05_Lift (HL2.out W1 _ 0 W1.heap.size (rd_blk5 (pick_last hF (by kernel_rfl)).2.2.2 rfl (by simp) (Nat.zero_le _) (pick_last hF (by kernel_rfl)).2.2.2.lt)) rfl rfl) ?_
      intro nt74 mt74 vt74 hnt74 hmt74 hdt74 hft74 a' ha
      simp only [Act.put, List.setIfInBounds_toArray, List.set_cons_succ, List.set_cons_zero] at ha
      subst ha
      obtain ⟨At74, capt74, rfl⟩ := hft74
      refine rg_val rfl rfl (fun W1 hW1 hF => step_callv en_attestor_attestorref02_Same (xSame lf _ _ _ _ _ _ W1 (pick_last (pick_init (pick_init hF)) (by kernel_rfl)).2 (pick_last hF (by kernel_rfl)).2) rfl rfl) ?_
      intro a' ha
      simp only [Act.put, List.setIfInBounds_toArray, List.set_cons_succ, List.set_cons_zero] at ha
      subst ha
      refine rg_det rfl rfl rfl (fun K hK => ?_)
      go_big_quiet_op
      refine hK _ ?_; clear hK K
      refine rg_det rfl rfl rfl (fun K hK => ?_)
      go_big_quiet_op
      refine hK _ ?_; clear hK K
      refine rg_det rfl rfl rfl (fun K hK => ?_)
      go_big_quiet_op
      refine hK _ ?_; clear hK K
      refine rg_det rfl rfl rfl (fun K hK => ?_)
      go_big_quiet_op
      refine hK _ ?_; clear hK K
      refine rg_nil (fun w' hw' hF => ?_)
      obtain ⟨zt, rfl⟩ := hw'
      simp only [List.append_eq, List.cons_append, List.nil_append, List.drop_succ_cons, List.drop_zero]
      clear hF f1 f2 f3
      go_wp2_with fail
      go_ret
      exact ⟨rfl, BZ.trans (zt.h.mono BZ.size)⟩
    · have hp0 : p.length = 0 := by omega
      rw [hp0]
      have HP0 := Lib.hid hp0
      clear hp0
      go_wp2_with fail
      refine wp_region_rg 13 [] (by kernel_rfl) (by kernel_rfl) (by kernel_rfl) trivial ?_
      refine rg_det rfl rfl rfl (fun K hK => ?_)
      go_big_quiet_op
      refine hK _ ?_; clear hK K
      refine rg_det rfl rfl rfl (fun K hK => ?_)
      go_big_quiet_op
      refine hK _ ?_; clear hK K
      refine rg_det rfl rfl rfl (fun K hK => ?_)
      go_big_quiet_op
      refine hK _ ?_; clear hK K
      refine rg_det rfl rfl rfl (fun K hK => ?_)
      go_big_quiet_op
      refine hK _ ?_; clear hK K
      refine rg_skip (by kernel_rfl) ?_
      intro a' ha
      simp only [Act.put, List.setIfInBounds_toArray, List.set_cons_succ, List.set_cons_zero] at ha
      subst ha
      refine rg_skip (by kernel_rfl) ?_
      intro a' ha
      simp only [Act.put, List.setIfInBounds_toArray, List.set_cons_succ, List.set_cons_zero] at ha
      subst ha
      refine rg_skip (by kernel_rfl) ?_
      intro a' ha
      simp only [Act.put, List.setIfInBounds_toArray, List.set_cons_succ, List.set_cons_zero] at ha
      subst ha
      refine rg_skip (by kernel_rfl) ?_
      intro a' ha
      simp only [Act.put, List.setIfInBounds_toArray, List.set_cons_succ, List.set_cons_zero] at ha
      subst ha
      refine rg_skip (by kernel_rfl) ?_
      intro a' ha
      simp only [Act.put, List.setIfInBounds_toArray, List.set_cons_succ, List.set_cons_zero] at ha
      subst ha
      refine rg_skip (by kernel_rfl) ?_
      intro a' ha
      simp only [Act.put, List.setIfInBounds_toArray, List.set_cons_succ, List.set_cons_zero] at ha
      subst ha
      refine rg_skip (by kernel_rfl) ?_
      intro a' ha
      simp only [Act.put, List.setIfInBounds_toArray, List.set_cons_succ, List.set_cons_zero] at ha
      subst ha
      refine rg_skip (by kernel_rfl) ?_
      intro a' ha
      simp only [Act.put, List.setIfInBounds_toArray, List.set_cons_succ, List.set_cons_zero] at ha
      subst ha
      refine rg_det rfl rfl rfl (fun K hK => ?_)
      go_big_quiet_op
      refine hK _ ?_; clear hK K
      refine rg_nil (fun w' hw' hF => ?_)
      obtain ⟨z8, rfl⟩ := hw'
      simp only [List.drop_succ_cons, List.drop_zero]
      have hp0 := HP0.out
      obtain ⟨Z, hZ⟩ : ∃ Z, Z = z8.w := ⟨_, rfl⟩
      have LZ := LX.keep z8.h
      have bZ := w1.keep z8.h
      have BZ := B6.trans (z8.h.mono B6.size)
      rw [← hZ] at LZ bZ BZ ⊢
      clear hF hZ z8 c2 w1 LX
      obtain ⟨gT, oT, cT, hv, -, -, -, q4, q5⟩ := exts_cells LZ.ht ht0
      cases hv
      obtain ⟨y, hy, hyd⟩ := get_of hk1
      obtain ⟨d1, d2⟩ := q5 k y hy
      have F := Below.refl Z.heap.size Z
      have e1 := bZ.cell
      have e2 := (F.cell (p := ⟨gT, oT + k * 2, none⟩) q4).trans d1
      have e3 := (F.cell (p := ⟨gT, oT + k * 2 + 1, none⟩) q4).trans d2
      obtain ⟨y1, hy1⟩ : ∃ y1, y1 = mev t p := ⟨_, rfl⟩
      obtain ⟨y2, hy2⟩ : ∃ y2, y2 = pfac p s p.length := ⟨_, rfl⟩
      obtain ⟨y3, hy3⟩ : ∃ y3, y3 = eqi k p := ⟨_, rfl⟩
      obtain ⟨y4, hy4⟩ : ∃ y4, y4 = x + y * eqi k p := ⟨_, rfl⟩
      have E1 : ∀ W', Below Z.heap.size Z W' → Calls Tryd.prog 12 #[.slice (some ⟨gT, oT, none⟩) t.length capa, .slice Ab p.length capb] W' (Ret (ev y1) W') := fun W' hW => by rw [hy1]; exact (LZ.keep hW).eval
      have E2 : ∀ W', Below Z.heap.size Z W' → Calls Tryd.prog 13 #[.slice (some ⟨gT, oT, none⟩) t.length capa, .slice Ab p.length capb] W' (Ret (ev y1) W') := fun W' hW => by rw [hy1, ← dot_mev t p LZ.tl]; exact rEval t p (by omega) (by omega) _ _ _ _ _ _ W' (LZ.keep hW).ht (LZ.keep hW).hp
      have E3 : ∀ W', Below Z.heap.size Z W' → Calls Tryd.prog 14 #[.slice Ab p.length capb, .slice Ac s.length capc] W' (Ret (ev y2) W') := fun W' hW => by rw [hy2]; exact gEq p s LZ.sl _ _ _ _ _ _ W' (LZ.keep hW).hp (LZ.keep hW).hs (LZ.keep hW).laid
      have E4 : ∀ W', Below Z.heap.size Z W' → Calls Tryd.prog 15 #[.slice Ab p.length capb, .slice Ac s.length capc] W' (Ret (ev y2) W') := fun W' hW => by rw [hy2]; exact mEqR p s LZ.sl _ _ _ _ _ _ W' (LZ.keep hW).hp (LZ.keep hW).hs
      have E5 : ∀ W', Below Z.heap.size Z W' → Calls Tryd.prog 16 #[.int .i64 k, .slice Ab p.length capb] W' (Ret (ev y3) W') := fun W' hW => by rw [hy3]; exact gEqIndex k p (by omega) (by omega) _ _ _ W' (LZ.keep hW).hp (Nat.le_refl _) (LZ.keep hW).laid
      have E6 : ∀ W', Below Z.heap.size Z W' → Calls Tryd.prog 17 #[.int .i64 k, .slice Ab p.length capb] W' (Ret (ev y3) W') := fun W' hW => by rw [hy3]; exact mEqIndexR k p (by omega) (by omega) _ _ _ W' (LZ.keep hW).hp
      have E7 : ∀ W', Below Z.heap.size Z W' → Calls Tryd.prog 18 #[.slice Ab p.length capb] W' (RetR (ExtA (tabE p)) W') := fun W' hW => wEqTable p _ _ _ W' (LZ.keep hW).hp (Nat.le_refl _) (LZ.keep hW).laid (by omega)
      have E8 : ∀ W', Below Z.heap.size Z W' → Calls Tryd.prog 19 #[.slice Ab p.length capb] W' (RetR (ExtA (tabE p)) W') := fun W' hW => rEqTable p (by omega) _ _ _ W' (LZ.keep hW).hp
      have E9 : ∀ W', Below Z.heap.size Z W' → Calls Tryd.prog 20 #[ev x, .int .i64 k, ev y, .slice Ab p.length capb] W' (Ret (ev y4) W') := fun W' hW => by rw [hy4]; exact gAccumulate x y k p (by omega) (by omega) _ _ _ W' (LZ.keep hW).hp (Nat.le_refl _) (LZ.keep hW).laid
      have E10 : ∀ W', Below Z.heap.size Z W' → Calls Tryd.prog 21 #[ev x, .int .i64 k, ev y, .slice Ab p.length capb] W' (Ret (ev y4) W') := fun W' hW => by rw [hy4]; exact rAccumulate x y k p (by omega) (by omega) _ _ _ W' (LZ.keep hW).hp
      have E11 : ∀ W', Below Z.heap.size Z W' → Calls Tryd.prog 22 #[.slice Ab p.length capb, .slice Ac s.length capc, ev x] W' (RetR (ExtA (lineE p s x p.length)) W') := fun W' hW => gLine p s x LZ.sl (by omega) _ _ _ _ _ _ W' (LZ.keep hW).hp (LZ.keep hW).hs
      have E12 : ∀ W', Below Z.heap.size Z W' → Calls Tryd.prog 23 #[.slice Ab p.length capb, .slice Ac s.length capc, ev x] W' (RetR (ExtA (lineE p s x p.length)) W') := fun W' hW => rLine p s x LZ.sl (by omega) _ _ _ _ _ _ W' (LZ.keep hW).hp (LZ.keep hW).hs
      generalize lineE p s x p.length = ln at *
      try simp only [hp0] at E1 E2 E3 E4 E5 E6 E7 E8 E9 E10 E11 E12
      replace E1 := Lib.hid E1
      replace E2 := Lib.hid E2
      replace E3 := Lib.hid E3
      replace E4 := Lib.hid E4
      replace E5 := Lib.hid E5
      replace E6 := Lib.hid E6
      replace E7 := Lib.hid E7
      replace E8 := Lib.hid E8
      replace E9 := Lib.hid E9
      replace E10 := Lib.hid E10
      replace E11 := Lib.hid E11
      replace E12 := Lib.hid E12
      generalize tabE p = tb at *
      clear q5 hy hyd hy1 hy2 hy3 hy4 LZ
      obtain ⟨u0, hu0, uz0, uz1, uz2⟩ := info_parts u64_info
      have f1 := gw_blk bZ
      have f2 := gw_cell q4 d1
      have f3 := gw_cell q4 d2
      have hxa := fv_lo x.a
      have hxb := fv_lo x.b
      have hya := fv_hi x.a
      have hyb := fv_hi x.b
      have HZs : Hid (∀ z ∈ [fv x.a, fv x.b], 0 ≤ z ∧ z < 18446744069414584321) := Lib.hid fun z hz => by
        rcases List.mem_cons.1 hz with rfl | hz
        · exact ⟨hxa, hya⟩
        · rw [List.mem_singleton.1 hz]; exact ⟨hxb, hyb⟩
      have HL1 := Lib.hid (fun W' v lo hi h => gLift [fv x.a, fv x.b] (by simp) v lo hi W' h HZs.out)
      have HL2 := Lib.hid (fun W' v lo hi h => rLift [fv x.a, fv x.b] (by simp) v lo hi W' h HZs.out)
      generalize liftE [fv x.a, fv x.b] = lf at *
      clear e1 e2 e3 hxa hxb hya hyb d1 d2
      go_wp2_with fail
      refine wp_region_rg 80 [(2, Spec.val (.agg #[.int .u64 (fv (y1).a), .int .u64 (fv (y1).b)])), (5, Spec.val (.agg #[.int .u64 (fv (y1).a), .int .u64 (fv (y1).b)])), (10, Spec.val (.agg #[.int .u64 (fv (y2).a), .int .u64 (fv (y2).b)])), (13, Spec.val (.agg #[.int .u64 (fv (y2).a), .int .u64 (fv (y2).b)])), (19, Spec.val (.agg #[.int .u64 (fv (y3).a), .int .u64 (fv (y3).b)])), (22, Spec.val (.agg #[.int .u64 (fv (y3).a), .int .u64 (fv (y3).b)])), (27, Spec.rel (ExtA tb) (SlF tb.length)), (29, Spec.rel (ExtA tb) (SlF tb.length)), (30, Spec.val (.bool true)), (40, Spec.val (.agg #[.int .u64 (fv (y4).a), .int .u64 (fv (y4).b)])), (48, Spec.val (.agg #[.int .u64 (fv (y4).a), .int .u64 (fv (y4).b)])), (55, Spec.rel (ExtA ln) (SlF ln.length)), (59, Spec.rel (ExtA ln) (SlF ln.length)), (60, Spec.val (.bool true)), (67, Spec.rel (Lit 25 2 #[.int .u64 (fv x.a), .int .u64 (fv x.b)]) (LitF 2)), (68, Spec.rel (ExtA lf) (SlF lf.length)), (73, Spec.rel (Lit 25 2 #[.int .u64 (fv x.a), .int .u64 (fv x.b)]) (LitF 2)), (74, Spec.rel (ExtA lf) (SlF lf.length)), (75, Spec.val (.bool true))] (by kernel_rfl) (by kernel_rfl) (by kernel_rfl) ⟨fit_ext, fit_ext, fit_ext, fit_ext, fit_lit, fit_ext, fit_lit, fit_ext, trivial⟩ ?_
      refine rg_det rfl rfl rfl (fun K hK => ?_)
      go_big_quiet_op
      refine hK _ ?_; clear hK K
      refine rg_det rfl rfl rfl (fun K hK => ?_)
      go_big_quiet_op
      refine hK _ ?_; clear hK K
      refine rg_val rfl rfl (fun W1 hW1 hF => step_callv en_attestor_mle_Eval (E1.out W1 (grw_below hW1)) rfl rfl) ?_
      intro a' ha
      simp only [Act.put, List.setIfInBounds_toArray, List.set_cons_succ, List.set_cons_zero] at ha
      subst ha
      refine rg_det rfl rfl rfl (fun K hK => ?_)
      go_big_quiet_op
      refine hK _ ?_; clear hK K
      refine rg_det rfl rfl rfl (fun K hK => ?_)
      go_big_quiet_op
      refine hK _ ?_; clear hK K
      refine rg_val rfl rfl (fun W1 hW1 hF => step_callv en_attestor_attestorref05_Eval (E2.out W1 (grw_below hW1)) rfl rfl) ?_
      intro a' ha
      simp only [Act.put, List.setIfInBounds_toArray, List.set_cons_succ, List.set_cons_zero] at ha
      subst ha
      refine rg_det rfl rfl rfl (fun K hK => ?_)
      go_big_quiet_op
      refine hK _ ?_; clear hK K
      refine rg_det rfl rfl rfl (fun K hK => ?_)
      go_big_quiet_op
      refine hK _ ?_; clear hK K
      refine rg_det rfl rfl rfl (fun K hK => ?_)
      go_big_quiet_op
      refine hK _ ?_; clear hK K
      refine rg_det rfl rfl rfl (fun K hK => ?_)
      go_big_quiet_op
      refine hK _ ?_; clear hK K
      refine rg_val rfl rfl (fun W1 hW1 hF => step_callv en_attestor_mle_Eq (E3.out W1 (grw_below hW1)) rfl rfl) ?_
      intro a' ha
      simp only [Act.put, List.setIfInBounds_toArray, List.set_cons_succ, List.set_cons_zero] at ha
      subst ha
      refine rg_det rfl rfl rfl (fun K hK => ?_)
      go_big_quiet_op
      refine hK _ ?_; clear hK K
      refine rg_det rfl rfl rfl (fun K hK => ?_)
      go_big_quiet_op
      refine hK _ ?_; clear hK K
      refine rg_val rfl rfl (fun W1 hW1 hF => step_callv en_attestor_attestorref05_Eq (E4.out W1 (grw_below hW1)) rfl rfl) ?_
      intro a' ha
      simp only [Act.put, List.setIfInBounds_toArray, List.set_cons_succ, List.set_cons_zero] at ha
      subst ha
      refine rg_det rfl rfl rfl (fun K hK => ?_)
      go_big_quiet_op
      refine hK _ ?_; clear hK K
      refine rg_det rfl rfl rfl (fun K hK => ?_)
      go_big_quiet_op
      refine hK _ ?_; clear hK K
      refine rg_det rfl rfl rfl (fun K hK => ?_)
      go_big_quiet_op
      refine hK _ ?_; clear hK K
      refine rg_det rfl rfl rfl (fun K hK => ?_)
      go_big_quiet_op
      refine hK _ ?_; clear hK K
      refine rg_det rfl rfl rfl (fun K hK => ?_)
      go_big_quiet_op
      refine hK _ ?_; clear hK K
      refine rg_val rfl rfl (fun W1 hW1 hF => step_callv en_attestor_mle_EqIndex (E5.out W1 (grw_below hW1)) rfl rfl) ?_
      intro a' ha
      simp only [Act.put, List.setIfInBounds_toArray, List.set_cons_succ, List.set_cons_zero] at ha
      subst ha
      refine rg_det rfl rfl rfl (fun K hK => ?_)
      go_big_quiet_op
      refine hK _ ?_; clear hK K
      refine rg_det rfl rfl rfl (fun K hK => ?_)
      go_big_quiet_op
      refine hK _ ?_; clear hK K
      refine rg_val rfl rfl (fun W1 hW1 hF => step_callv en_attestor_attestorref05_EqIndex (E6.out W1 (grw_below hW1)) rfl rfl) ?_
      intro a' ha
      simp only [Act.put, List.setIfInBounds_toArray, List.set_cons_succ, List.set_cons_zero] at ha
      subst ha
      refine rg_det rfl rfl rfl (fun K hK => ?_)
      go_big_quiet_op
      refine hK _ ?_; clear hK K
      refine rg_det rfl rfl rfl (fun K hK => ?_)
      go_big_quiet_op
      refine hK _ ?_; clear hK K
      refine rg_det rfl rfl rfl (fun K hK => ?_)
      go_big_quiet_op
      refine hK _ ?_; clear hK K
      refine rg_det rfl rfl rfl (fun K hK => ?_)
      go_big_quiet_op
      refine hK _ ?_; clear hK K
      refine rg_rel rfl rfl (fun W1 hW1 hF => step_callr en_attestor_mle_EqTable (E7.out W1 (grw_below hW1)) rfl rfl) ?_
      intro nt27 mt27 vt27 hnt27 hmt27 hdt27 hft27 a' ha
      simp only [Act.put, List.setIfInBounds_toArray, List.set_cons_succ, List.set_cons_zero] at ha
      subst ha
      obtain ⟨At27, capt27, rfl⟩ := hft27
      refine rg_det rfl rfl rfl (fun K hK => ?_)
      go_big_quiet_op
      refine hK _ ?_; clear hK K
      refine rg_rel rfl rfl (fun W1 hW1 hF => step_callr en_attestor_attestorref05_EqTable (E8.out W1 (grw_below hW1)) rfl rfl) ?_
      intro nt29 mt29 vt29 hnt29 hmt29 hdt29 hft29 a' ha
      simp only [Act.put, List.setIfInBounds_toArray, List.set_cons_succ, List.set_cons_zero] at ha
      subst ha
      obtain ⟨At29, capt29, rfl⟩ := hft29
      refine rg_val rfl rfl (fun W1 hW1 hF => step_callv en_attestor_attestorref02_Same (xSame tb _ _ _ _ _ _ W1 (pick_last (pick_init hF) (by kernel_rfl)).2 (pick_last hF (by kernel_rfl)).2) rfl rfl) ?_
      intro a' ha
      simp only [Act.put, List.setIfInBounds_toArray, List.set_cons_succ, List.set_cons_zero] at ha
      subst ha
      refine rg_det rfl rfl rfl (fun K hK => ?_)
      go_big_quiet_op
      refine hK _ ?_; clear hK K
      refine rg_det rfl rfl rfl (fun K hK => ?_)
      go_big_quiet_op
      refine hK _ ?_; clear hK K
      refine rg_det rfl rfl rfl (fun K hK => ?_)
      go_big_quiet_op
      refine hK _ ?_; clear hK K
      refine rg_det rfl rfl rfl (fun K hK => ?_)
      go_big_quiet_op
      refine hK _ ?_; clear hK K
      refine rg_det rfl rfl rfl (fun K hK => ?_)
      go_big_quiet_op
      refine hK _ ?_; clear hK K
      refine rg_det rfl rfl rfl (fun K hK => ?_)
      go_big_quiet_op
      refine hK _ ?_; clear hK K
      refine rg_det rfl rfl rfl (fun K hK => ?_)
      go_big_quiet_op
      refine hK _ ?_; clear hK K
      refine rg_det rfl rfl rfl (fun K hK => ?_)
      go_big_quiet_op
      refine hK _ ?_; clear hK K
      refine rg_det rfl rfl rfl (fun K hK => ?_)
      go_big_quiet_op
      refine hK _ ?_; clear hK K
      refine rg_val rfl rfl (fun W1 hW1 hF => step_callv en_attestor_mle_Accumulate (E9.out W1 (grw_below hW1)) rfl rfl) ?_
      intro a' ha
      simp only [Act.put, List.setIfInBounds_toArray, List.set_cons_succ, List.set_cons_zero] at ha
      subst ha
      refine rg_det rfl rfl rfl (fun K hK => ?_)
      go_big_quiet_op
      refine hK _ ?_; clear hK K
      refine rg_det rfl rfl rfl (fun K hK => ?_)
      go_big_quiet_op
      refine hK _ ?_; clear hK K
      refine rg_det rfl rfl rfl (fun K hK => ?_)
      go_big_quiet_op
      refine hK _ ?_; clear hK K
      refine rg_det rfl rfl rfl (fun K hK => ?_)
      go_big_quiet_op
      refine hK _ ?_; clear hK K
      refine rg_det rfl rfl rfl (fun K hK => ?_)
      go_big_quiet_op
      refine hK _ ?_; clear hK K
      refine rg_det rfl rfl rfl (fun K hK => ?_)
      go_big_quiet_op
      refine hK _ ?_; clear hK K
      refine rg_det rfl rfl rfl (fun K hK => ?_)
      go_big_quiet_op
      refine hK _ ?_; clear hK K
      refine rg_val rfl rfl (fun W1 hW1 hF => step_callv en_attestor_attestorref05_Accumulate (E10.out W1 (grw_below hW1)) rfl rfl) ?_
      intro a' ha
      simp only [Act.put, List.setIfInBounds_toArray, List.set_cons_succ, List.set_cons_zero] at ha
      subst ha
      refine rg_det rfl rfl rfl (fun K hK => ?_)
      go_big_quiet_op
      refine hK _ ?_; clear hK K
      refine rg_det rfl rfl rfl (fun K hK => ?_)
      go_big_quiet_op
      refine hK _ ?_; clear hK K
      refine rg_det rfl rfl rfl (fun K hK => ?_)
      go_big_quiet_op
      refine hK _ ?_; clear hK K
      refine rg_det rfl rfl rfl (fun K hK => ?_)
      go_big_quiet_op
      refine hK _ ?_; clear hK K
      refine rg_det rfl rfl rfl (fun K hK => ?_)
      go_big_quiet_op
      refine hK _ ?_; clear hK K
      refine rg_det rfl rfl rfl (fun K hK => ?_)
      go_big_quiet_op
      refine hK _ ?_; clear hK K
      refine rg_rel rfl rfl (fun W1 hW1 hF => step_callr en_attestor_mle_Line (E11.out W1 (grw_below hW1)) rfl rfl) ?_
      intro nt55 mt55 vt55 hnt55 hmt55 hdt55 hft55 a' ha
      simp only [Act.put, List.setIfInBounds_toArray, List.set_cons_succ, List.set_cons_zero] at ha
      subst ha
      obtain ⟨At55, capt55, rfl⟩ := hft55
      refine rg_det rfl rfl rfl (fun K hK => ?_)
      go_big_quiet_op
      refine hK _ ?_; clear hK K
      refine rg_det rfl rfl rfl (fun K hK => ?_)
      go_big_quiet_op
      refine hK _ ?_; clear hK K
      refine rg_det rfl rfl rfl (fun K hK => ?_)
      go_big_quiet_op
      refine hK _ ?_; clear hK K
      refine rg_rel rfl rfl (fun W1 hW1 hF => step_callr en_attestor_attestorref05_Line (E12.out W1 (grw_below hW1)) rfl rfl) ?_
      intro nt59 mt59 vt59 hnt59 hmt59 hdt59 hft59 a' ha
      simp only [Act.put, List.setIfInBounds_toArray, List.set_cons_succ, List.set_cons_zero] at ha
      subst ha
      obtain ⟨At59, capt59, rfl⟩ := hft59
      refine rg_val rfl rfl (fun W1 hW1 hF => step_callv en_attestor_attestorref02_Same (xSame ln _ _ _ _ _ _ W1 (pick_last (pick_init hF) (by kernel_rfl)).2 (pick_last hF (by kernel_rfl)).2) rfl rfl) ?_
      intro a' ha
      simp only [Act.put, List.setIfInBounds_toArray, List.set_cons_succ, List.set_cons_zero] at ha
      subst ha
      refine rg_det rfl rfl rfl (fun K hK => ?_)
      go_big_quiet_op
      refine hK _ ?_; clear hK K
      refine rg_det rfl rfl rfl (fun K hK => ?_)
      go_big_quiet_op
      refine hK _ ?_; clear hK K
      refine rg_det rfl rfl rfl (fun K hK => ?_)
      go_big_quiet_op
      refine hK _ ?_; clear hK K
      refine rg_det rfl rfl rfl (fun K hK => ?_)
      go_big_quiet_op
      refine hK _ ?_; clear hK K
      refine rg_det rfl rfl rfl (fun K hK => ?_)
      go_big_quiet_op
      refine hK _ ?_; clear hK K
      refine rg_det rfl rfl rfl (fun K hK => ?_)
      go_big_quiet_op
      refine hK _ ?_; clear hK K
      refine rg_rel rfl rfl (fun W1 hW1 hF => step_litF (parts := [(0, Operand.tmp 134), (1, Operand.tmp 136)]) (vs := [.int .u64 (fv x.a), .int .u64 (fv x.b)]) Tryd.underlying42 hu0 uz0 uz1 rfl (by decide) (by decide) rfl rfl (by simp [Value.cells])) ?_
      intro nt67 mt67 vt67 hnt67 hmt67 hdt67 hft67 a' ha
      simp only [Act.put, List.setIfInBounds_toArray, List.set_cons_succ, List.set_cons_zero] at ha
      subst ha
      obtain rfl := hft67
      refine rg_rel rfl rfl (fun W1 hW1 hF => step_callr en_attestor_mle_Lift (HL1.out W1 _ 0 W1.heap.size (rd_blk5 (pick_last hF (by kernel_rfl)).2.2.2 rfl (by simp) (Nat.zero_le _) (pick_last hF (by kernel_rfl)).2.2.2.lt)) rfl rfl) ?_
      intro nt68 mt68 vt68 hnt68 hmt68 hdt68 hft68 a' ha
      simp only [Act.put, List.setIfInBounds_toArray, List.set_cons_succ, List.set_cons_zero] at ha
      subst ha
      obtain ⟨At68, capt68, rfl⟩ := hft68
      refine rg_det rfl rfl rfl (fun K hK => ?_)
      go_big_quiet_op
      refine hK _ ?_; clear hK K
      refine rg_det rfl rfl rfl (fun K hK => ?_)
      go_big_quiet_op
      refine hK _ ?_; clear hK K
      refine rg_det rfl rfl rfl (fun K hK => ?_)
      go_big_quiet_op
      refine hK _ ?_; clear hK K
      refine rg_det rfl rfl rfl (fun K hK => ?_)
      go_big_quiet_op
      refine hK _ ?_; clear hK K
      refine rg_rel rfl rfl (fun W1 hW1 hF => step_litF (parts := [(0, Operand.tmp 140), (1, Operand.tmp 142)]) (vs := [.int .u64 (fv x.a), .int .u64 (fv x.b)]) Tryd.underlying42 hu0 uz0 uz1 rfl (by decide) (by decide) rfl rfl (by simp [Value.cells])) ?_
      intro nt73 mt73 vt73 hnt73 hmt73 hdt73 hft73 a' ha
      simp only [Act.put, List.setIfInBounds_toArray, List.set_cons_succ, List.set_cons_zero] at ha
      subst ha
      obtain rfl := hft73
      refine rg_rel rfl rfl (fun W1 hW1 hF => step_callr en_attestor_attestorref05_Lift (HL2.out W1 _ 0 W1.heap.size (rd_blk5 (pick_last hF (by kernel_rfl)).2.2.2 rfl (by simp) (Nat.zero_le _) (pick_last hF (by kernel_rfl)).2.2.2.lt)) rfl rfl) ?_
      intro nt74 mt74 vt74 hnt74 hmt74 hdt74 hft74 a' ha
      simp only [Act.put, List.setIfInBounds_toArray, List.set_cons_succ, List.set_cons_zero] at ha
      subst ha
      obtain ⟨At74, capt74, rfl⟩ := hft74
      refine rg_val rfl rfl (fun W1 hW1 hF => step_callv en_attestor_attestorref02_Same (xSame lf _ _ _ _ _ _ W1 (pick_last (pick_init (pick_init hF)) (by kernel_rfl)).2 (pick_last hF (by kernel_rfl)).2) rfl rfl) ?_
      intro a' ha
      simp only [Act.put, List.setIfInBounds_toArray, List.set_cons_succ, List.set_cons_zero] at ha
      subst ha
      refine rg_det rfl rfl rfl (fun K hK => ?_)
      go_big_quiet_op
      refine hK _ ?_; clear hK K
      refine rg_det rfl rfl rfl (fun K hK => ?_)
      go_big_quiet_op
      refine hK _ ?_; clear hK K
      refine rg_det rfl rfl rfl (fun K hK => ?_)
      go_big_quiet_op
      refine hK _ ?_; clear hK K
      refine rg_det rfl rfl rfl (fun K hK => ?_)
      go_big_quiet_op
      refine hK _ ?_; clear hK K
      refine rg_nil (fun w' hw' hF => ?_)
      obtain ⟨zt, rfl⟩ := hw'
      simp only [List.append_eq, List.cons_append, List.nil_append, List.drop_succ_cons, List.drop_zero]
      clear hF f1 f2 f3
      go_wp2_with fail
      go_ret
      exact ⟨rfl, BZ.trans (zt.h.mono BZ.size)⟩
end Go.Proofs.YtnfiomccgakooaaDoor
