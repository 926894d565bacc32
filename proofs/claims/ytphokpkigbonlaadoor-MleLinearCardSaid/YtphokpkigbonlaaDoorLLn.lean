/-
  MleLinear: the walk.
-/
import Derived.Test.YtphokpkigbonlaaDoorLay5
namespace Go.Proofs.YtphokpkigbonlaaDoor
open Go.RowKit

set_option maxRecDepth 100000 in
set_option maxHeartbeats 8000000 in
theorem wkMleLinear (q : Q5) (vT vP vQ vO : Value) (O : List Raw) (r : Raw) (w : World) (h : Q5S w.heap.size w q vT vP vQ) (hO : RawS 0 w.heap.size w vO O) (hr : Word r.1 ∧ Word r.2) (hL : Laid w) :
    Calls Tryd.prog 6 #[qv5 vT vP vQ q, vO, .agg #[.int .u64 r.1, .int .u64 r.2]] w (Ret (.bool true) w) := by
  obtain ⟨i0, hi0, iz0, iz1, iz2⟩ := info_parts ext_info
  unfold qv5
  go_enter Tryd.func6, Tryd.ntmps6
  go_wp2_with fail
  refine calls_stk2 fun W1 hB1 hz1 b1 b2 => ?_
  refine (lSanity5 W1 (hL.keep hB1)).mono ?_
  rintro e w2 ⟨rfl, hb2⟩
  have hB2 := hB1.trans (hb2.mono hB1.size)
  have e1 := (b1.keep hb2).cell
  go_wp2_with fail
  refine (lMade5 q vT vP vQ w.heap.size w2 (h.keep hB2) hB2.size).mono ?_
  rintro e w3 ⟨a, b, c, nt, mt, np, mp, ns, ms, rfl, ot, op, os, ⟨lt1, lp1, ls1, lt2, lp2, ls2⟩, ⟨dtp, dts, dps⟩, hb3⟩
  obtain ⟨Aa, capa, rfl⟩ := ot.1.len
  obtain ⟨Ab, capb, rfl⟩ := op.1.len
  obtain ⟨Ac, capc, rfl⟩ := os.1.len
  have hB3 := hB2.trans (hb3.mono hB2.size)
  have Ly := lay_made5 ot op os lt2 lp2 ls2 (hL.keep hB3)
  clear e1 h
  generalize q.t = t at *
  generalize q.p = p at *
  generalize q.s = s at *
  have b2' := (b2.keep hb2).keep hb3
  have hO3 := RawS.keep5 hO hB3
  go_wp2_with fail
  have hpl := Ly.pl
  have ht64 := Ly.t64
  have c1 := gw_blk b2'
  have hNW := hB3.size
  have hp8 : p.length ≤ 8 := by omega
  refine wp_region_swap 9 6 undef [(3, Spec.rel (ExtA (mdT O (2 ^ p.length))) (SlF (mdT O (2 ^ p.length)).length)), (5, Spec.val (.agg #[.int .u64 (fv (em r.1 r.2).a), .int .u64 (fv (em r.1 r.2).b)])), (6, Spec.rel (Lit 27 0 #[]) (LitF 0)), (7, Spec.rel (New 27 #[.int .u64 0, .int .u64 0]) (NewF))] (by kernel_rfl) (by kernel_rfl) (by kernel_rfl) rfl rfl rfl rfl ⟨fit_ext, fit_lit, fit_new, trivial⟩ ?_ ?_
  refine rg_det rfl rfl rfl (fun K hK => ?_)
  go_big_quiet_op
  refine hK _ ?_; clear hK K
  refine rg_det rfl rfl rfl (fun K hK => ?_)
  go_big_quiet_op
  refine hK _ ?_; clear hK K
  refine rg_det rfl rfl rfl (fun K hK => ?_)
  go_big_quiet_op
  refine hK _ ?_; clear hK K
  refine rg_rel rfl rfl (fun W1 hW1 hF => step_callr en_attestor_attestorref05_Made (rMade O p.length hp8 vO w.heap.size W1 (RawS.keep5 hO3 (grw_below hW1)) (Nat.le_trans hNW (grw_below hW1).size)) rfl rfl) ?_
  intro n3 m3 v3 hn3 hm3 hd3 hf3 a' ha
  simp only [Act.put, List.setIfInBounds_toArray, List.set_cons_succ, List.set_cons_zero] at ha
  subst ha
  obtain ⟨A3, cap3, rfl⟩ := hf3
  refine rg_det rfl rfl rfl (fun K hK => ?_)
  go_big_quiet_op
  refine hK _ ?_; clear hK K
  refine rg_val rfl rfl (fun W1 hW1 hF => step_callv en_attestor_attestorref02_Made (xMade r.1 r.2 hr.1.1 hr.1.2 hr.2.1 hr.2.2 W1) rfl rfl) ?_
  intro a' ha
  simp only [Act.put, List.setIfInBounds_toArray, List.set_cons_succ, List.set_cons_zero] at ha
  subst ha
  refine rg_rel rfl rfl (fun W1 hW1 hF => step_lit0 Tryd.underlying22 hi0 iz0 rfl) ?_
  intro n6 m6 v6 hn6 hm6 hd6 hf6 a' ha
  simp only [Act.put, List.setIfInBounds_toArray, List.set_cons_succ, List.set_cons_zero] at ha
  subst ha
  obtain rfl := hf6
  refine rg_rel rfl rfl (fun W1 hW1 hF => step_new hi0 iz0 rfl) ?_
  intro n7 m7 v7 hn7 hm7 hd7 hf7 a' ha
  simp only [Act.put, List.setIfInBounds_toArray, List.set_cons_succ, List.set_cons_zero] at ha
  subst ha
  obtain rfl := hf7
  refine rg_det rfl rfl rfl (fun K hK => ?_)
  go_big_quiet_op
  refine hK _ ?_; clear hK K
  refine rg_nil (fun w' hw' hF => ?_)
  obtain ⟨z, rfl⟩ := hw'
  simp only [List.drop_succ_cons, List.drop_zero]
  rotate_left 1
  refine rg_det rfl rfl rfl (fun K hK => ?_)
  go_big_quiet_op
  refine hK _ ?_; clear hK K
  refine rg_det rfl rfl rfl (fun K hK => ?_)
  go_big_quiet_op
  refine hK _ ?_; clear hK K
  refine rg_det rfl rfl rfl (fun K hK => ?_)
  go_big_quiet_op
  refine hK _ ?_; clear hK K
  refine rg_rel rfl rfl (fun W1 hW1 hF => step_callr en_attestor_attestorref05_Made (rMade O p.length hp8 vO w.heap.size W1 (RawS.keep5 hO3 (grw_below hW1)) (Nat.le_trans hNW (grw_below hW1).size)) rfl rfl) ?_
  intro n3 m3 v3 hn3 hm3 hd3 hf3 a' ha
  simp only [Act.put, List.setIfInBounds_toArray, List.set_cons_succ, List.set_cons_zero] at ha
  subst ha
  obtain ⟨A3, cap3, rfl⟩ := hf3
  refine rg_det rfl rfl rfl (fun K hK => ?_)
  go_big_quiet_op
  refine hK _ ?_; clear hK K
  refine rg_val rfl rfl (fun W1 hW1 hF => step_callv en_attestor_attestorref02_Made (xMade r.1 r.2 hr.1.1 hr.1.2 hr.2.1 hr.2.2 W1) rfl rfl) ?_
  intro a' ha
  simp only [Act.put, List.setIfInBounds_toArray, List.set_cons_succ, List.set_cons_zero] at ha
  subst ha
  refine rg_pass rfl rfl ?_
  intro a' ha
  simp only [Act.put, List.setIfInBounds_toArray, List.set_cons_succ, List.set_cons_zero] at ha
  subst ha
  refine rg_rel rfl rfl (fun W1 hW1 hF => step_new hi0 iz0 rfl) ?_
  intro n7 m7 v7 hn7 hm7 hd7 hf7 a' ha
  simp only [Act.put, List.setIfInBounds_toArray, List.set_cons_succ, List.set_cons_zero] at ha
  subst ha
  obtain rfl := hf7
  refine rg_det rfl rfl rfl (fun K hK => ?_)
  go_big_quiet_op
  refine hK _ ?_; clear hK K
  refine rg_nil (fun w' hw' hF => ?_)
  obtain ⟨z, rfl⟩ := hw'
  simp only [List.drop_succ_cons, List.drop_zero]
  refine wpList_putS ?_
  intro a' ha
  simp only [Act.put, List.setIfInBounds_toArray, List.set_cons_succ, List.set_cons_zero] at ha
  subst ha
  rotate_right 1
  obtain ⟨hm7, -, hl7, b7⟩ := end_last hF
  obtain ⟨hm6, -, hl6, b6⟩ := end_last (end_init hF)
  obtain ⟨hm3, t3⟩ := end_last (end_init (end_init hF))
  have d63 := hd6 (n3, m3) (by simp)
  have d73 := hd7 (n3, m3) (by simp)
  have d76 := hd7 (n6, m6) (by simp)
  simp only at d63 d73 d76
  rotate_left 1
  obtain ⟨hm7, -, hl7, b7⟩ := end_last hF
  obtain ⟨hm3, t3⟩ := end_last (end_init hF)
  have d73 := hd7 (n3, m3) (by simp)
  simp only at d73
  rotate_right 1
  all_goals
    clear hF c1 hd3 hd7
    have hvl : (mdT O (2 ^ p.length)).length = t.length := by rw [mdT_length, Ly.tl]
    generalize mdT O (2 ^ p.length) = vs at *
    generalize em r.1 r.2 = f at *
    have e2 := b7.frozen
    have e3 := b7.cell
    have szz := z.h.size
    go_wp2_with fail
  refine set2 (M := fun W => Code.wp _ _ _ _ W) b7 fun X hX bX => ?_
  have bX : Blk X n7 27 #[.int .u64 (fv f.a), .int .u64 (fv f.b)] := bX
  have bX6 := hX.blk b6 (by omega)
  have tX : ExtS n3 m3 X _ vs := hX.rd t3 (by omega)
  have hBX : Below w3.heap.size w3 X := below_put z.h hX hn7
  have hXs := hX.size
  have hm3X : m3 ≤ X.heap.size := by omega
  have hne67 : n6 ≠ n7 := by omega
  have hne63 : n6 < n3 ∨ m3 ≤ n6 := by omega
  have h7X : n7 < X.heap.size := by omega
  have h6X : n6 < X.heap.size := by omega
  clear d76 d63 hd6 hl6 hm6 b6 b7 t3 hX hl7 hm7 d73 e2 e3 hm3 szz hXs
  rotate_left 1
  refine set2 (M := fun W => Code.wp _ _ _ _ (W.alloc (Obj.cells #[] 27))) b7 fun X0 hX bX => ?_
  have bX : Blk X0 n7 27 #[.int .u64 (fv f.a), .int .u64 (fv f.b)] := bX
  have tX : ExtS n3 m3 X0 _ vs := hX.rd t3 (by omega)
  have hBX : Below w3.heap.size w3 X0 := below_put z.h hX hn7
  have hXs := hX.size
  rw [← hXs]
  refine wp_stk1 fun X hB0 hz0 bX6 => ?_
  have bX := bX.keep hB0
  have tX : ExtS n3 m3 X _ vs := Rd.keep tX hB0
  have hBX := hBX.trans (hB0.mono (by omega))
  have hs0 : X.heap.size = X0.heap.size + 1 := hz0.out
  obtain ⟨n6, hn6e⟩ : ∃ n6, n6 = X0.heap.size := ⟨_, rfl⟩
  rw [← hn6e] at bX6 ⊢
  have hn6 : w3.heap.size ≤ n6 := by omega
  have hm3X : m3 ≤ X.heap.size := by omega
  have hne67 : n6 ≠ n7 := by omega
  have hne63 : n6 < n3 ∨ m3 ≤ n6 := by omega
  have h7X : n7 < X.heap.size := by omega
  have h6X : n6 < X.heap.size := by omega
  clear hs0 hn6e hB0 hz0 hXs hX b7 t3 hl7 hm7 d73 e2 e3 hm3 szz
  rotate_right 1
  all_goals
    have HVL := Lib.hid hvl
    clear hvl ot op os dtp dts dps
    go_loopw [13, 14] (fun v i wr => ∃ j : Nat, j ≤ t.length ∧ i = .int .i64 j ∧ wr.ownsRow w3.heap.size 27 2 v j (sumCells t vs f j) ∧ OwnAt X n6 v ∧ X.grownBy wr (some n6)) (fun _ i _ => t.length - (intOf i).toNat)
    case atStart => exact ⟨0, Nat.zero_le _, rfl, ⟨by simp [sumCells], .inr ⟨n6, 0, #[], rfl, hn6, bX6, Nat.le_refl _, Nat.zero_le _, rfl, by simp [sumCells]⟩⟩, ownAt_first, grown_refl _ _⟩
    case round =>
      obtain ⟨j, hj, rfl, hown, hat, hgr⟩ := hrel
      have hB3r : Below w3.heap.size w3 wr := grown_b hBX hgr hBX.size hn6
      have hrs := hgr.size
      have br7 := grown_blk hgr bX (by simp; omega)
      have tr : ExtS n3 m3 wr _ vs := grown_rd hgr tX hne63
      have hBwr := hB3.trans (hB3r.mono hB3.size)
      have hbase : w3.heap.size ≤ wr.heap.size := Nat.le_trans hBX.size hrs
      by_cases hlt : j < t.length
      · have hV := HVL.out
        obtain ⟨g', off', cap'', hv, p1, p2, p3, p4, p5⟩ := exts_cells (Ly.keep hB3r).ht (by omega)
        cases hv
        obtain ⟨g, off, cap', hv, q1, q2, q3, q4, q5⟩ := exts_cells tr (by omega)
        cases hv
        obtain ⟨u, hu⟩ : ∃ u, t[j]? = some u := ⟨t[j], List.getElem?_eq_getElem (by omega)⟩
        obtain ⟨v, hv⟩ : ∃ v, vs[j]? = some v := ⟨vs[j], List.getElem?_eq_getElem (by omega)⟩
        obtain ⟨k1, k2⟩ := p5 j u hu
        obtain ⟨d1, d2⟩ := q5 j v hv
        have hjv : j < vs.length := by omega
        have x1 := gw_cell p4 k1
        have x2 := gw_cell p4 k2
        have x3 := gw_cell q4 d1
        have x4 := gw_cell q4 d2
        have x5 := gw_blk br7
        have HF := Lib.hid (sumV_get (f := f) hu hv)
        clear hV p5 q5 Ly tX hu hv k1 k2 d1 d2
        go_wp2_with fail
        refine wp_region_rg 13 [(10, Spec.val (.agg #[.int .u64 (fv (f * v).a), .int .u64 (fv (f * v).b)])), (11, Spec.val (.agg #[.int .u64 (fv (u + f * v).a), .int .u64 (fv (u + f * v).b)])), (12, Spec.rel (Lit 27 1 #[.int .u64 (fv (u + f * v).a), .int .u64 (fv (u + f * v).b)]) AnyV)] (by kernel_rfl) (by kernel_rfl) (by kernel_rfl) ⟨fit_of (stable_lit), trivial⟩ ?_
        refine rg_det rfl rfl rfl (fun K hK => ?_)
        go_big_quiet_op
        refine hK _ ?_; clear hK K
        refine rg_det rfl rfl rfl (fun K hK => ?_)
        go_big_quiet_op
        refine hK _ ?_; clear hK K
        refine rg_det rfl rfl rfl (fun K hK => ?_)
        go_big_quiet_op
        refine hK _ ?_; clear hK K
        refine rg_det rfl rfl rfl (fun K hK => ?_)
        go_big_quiet_op
        refine hK _ ?_; clear hK K
        refine rg_det rfl rfl rfl (fun K hK => ?_)
        go_big_quiet_op
        refine hK _ ?_; clear hK K
        refine rg_det rfl rfl rfl (fun K hK => ?_)
        go_big_quiet_op
        refine hK _ ?_; clear hK K
        refine rg_det rfl rfl rfl (fun K hK => ?_)
        go_big_quiet_op
        refine hK _ ?_; clear hK K
        refine rg_det rfl rfl rfl (fun K hK => ?_)
        go_big_quiet_op
        refine hK _ ?_; clear hK K
        refine rg_det rfl rfl rfl (fun K hK => ?_)
        go_big_quiet_op
        refine hK _ ?_; clear hK K
        refine rg_det rfl rfl rfl (fun K hK => ?_)
        go_big_quiet_op
        refine hK _ ?_; clear hK K
        refine rg_val rfl rfl (fun W1 hW1 hF => step_callv en_attestor_ext_Mul (eMul f v W1) rfl rfl) ?_
        intro a' ha
        simp only [Act.put, List.setIfInBounds_toArray, List.set_cons_succ, List.set_cons_zero] at ha
        subst ha
        refine rg_val rfl rfl (fun W1 hW1 hF => step_callv en_attestor_ext_Add (eAdd u (f * v) W1) rfl rfl) ?_
        intro a' ha
        simp only [Act.put, List.setIfInBounds_toArray, List.set_cons_succ, List.set_cons_zero] at ha
        subst ha
        refine rg_rel rfl rfl (fun W1 hW1 hF => step_lit1 Tryd.underlying22 hi0 iz0 iz1 (by decide) (by decide) rfl rfl rfl) ?_
        intro n12 m12 v12 hn12 hm12 hd12 hf12 a' ha
        simp only [Act.put, List.setIfInBounds_toArray, List.set_cons_succ, List.set_cons_zero] at ha
        subst ha
        refine rg_nil (fun w' hw' hF => ?_)
        obtain ⟨z2, rfl⟩ := hw'
        simp only [List.drop_succ_cons, List.drop_zero]
        obtain ⟨hm, rfl, hlt', bl⟩ := end_last hF
        clear hF x1 x2 x3 x4 x5
        go_wp2_with (at_builtin; refine wpList_app2 rfl _ _ rfl Tryd.underlying22 hi0 iz0 iz1 iz2 rfl (by decide) (cl := ec (u + f * v)) rfl (ec_one _) rfl rfl (own_below hown (Nat.le_refl _) z2.h) hat (grown_below hgr z2.h) ?hsrc ?h63 ?hby ?hbase ?_)
        case hsrc => exact bl
        case h63 => unfold maxLen; omega
        case hby => omega
        case hbase => exact Nat.le_trans hbase z2.h.size
        intro v1 w4 hown4 hat4 hgr4
        go_wp2
        exact ⟨⟨j + 1, by omega, by go_num, by rw [HF.out]; exact hown4, hat4, hgr4⟩, by simp [intOf]; omega⟩
      · obtain rfl : j = t.length := by omega
        have hS : (sumV t vs f).length = t.length := sumV_len HVL.out
        have gS : ExtS w3.heap.size wr.heap.size wr u13 (sumV t vs f) := by
          unfold sumCells at hown
          rw [List.take_of_length_le (Nat.le_of_eq hS)] at hown
          exact exts_of_own hown hS (by omega) (Nat.le_refl _)
        have Lr := Ly.keep hB3r
        have HS := Lib.hid (hS.trans Lr.tl)
        have HV2 := Lib.hid (HVL.out.trans Lr.tl)
        have HM := Lib.hid (sumV_mev t vs p f Lr.tl HVL.out)
        clear hown Ly tX hS
        generalize sumV t vs f = sv at *
        go_wp2_with fail
        have c4 := gw_blk br7
        refine wp_region_rg 16 [(2, Spec.val (.agg #[.int .u64 (fv (mev t p + f * mev vs p).a), .int .u64 (fv (mev t p + f * mev vs p).b)])), (5, Spec.val (.agg #[.int .u64 (fv (mev t p).a), .int .u64 (fv (mev t p).b)])), (9, Spec.val (.agg #[.int .u64 (fv (mev vs p).a), .int .u64 (fv (mev vs p).b)])), (10, Spec.val (.agg #[.int .u64 (fv (f * mev vs p).a), .int .u64 (fv (f * mev vs p).b)])), (11, Spec.val (.agg #[.int .u64 (fv (mev t p + f * mev vs p).a), .int .u64 (fv (mev t p + f * mev vs p).b)]))] (by kernel_rfl) (by kernel_rfl) (by kernel_rfl) trivial ?_
        refine rg_det rfl rfl rfl (fun K hK => ?_)
        go_big_quiet_op
        refine hK _ ?_; clear hK K
        refine rg_det rfl rfl rfl (fun K hK => ?_)
        go_big_quiet_op
        refine hK _ ?_; clear hK K
        refine rg_val rfl rfl (fun W1 hW1 hF => step_callv en_attestor_mle_Eval ((by rw [← HM.out]; exact (Lr.grw hW1).evalT (Rd.keep gS (grw_below hW1)) HS.out)) rfl rfl) ?_
        intro a' ha
        simp only [Act.put, List.setIfInBounds_toArray, List.set_cons_succ, List.set_cons_zero] at ha
        subst ha
        refine rg_det rfl rfl rfl (fun K hK => ?_)
        go_big_quiet_op
        refine hK _ ?_; clear hK K
        refine rg_det rfl rfl rfl (fun K hK => ?_)
        go_big_quiet_op
        refine hK _ ?_; clear hK K
        refine rg_val rfl rfl (fun W1 hW1 hF => step_callv en_attestor_mle_Eval ((Lr.grw hW1).eval) rfl rfl) ?_
        intro a' ha
        simp only [Act.put, List.setIfInBounds_toArray, List.set_cons_succ, List.set_cons_zero] at ha
        subst ha
        refine rg_det rfl rfl rfl (fun K hK => ?_)
        go_big_quiet_op
        refine hK _ ?_; clear hK K
        refine rg_det rfl rfl rfl (fun K hK => ?_)
        go_big_quiet_op
        refine hK _ ?_; clear hK K
        refine rg_det rfl rfl rfl (fun K hK => ?_)
        go_big_quiet_op
        refine hK _ ?_; clear hK K
        refine rg_val rfl rfl (fun W1 hW1 hF => step_callv en_attestor_mle_Eval ((Lr.grw hW1).evalT (Rd.keep tr (grw_below hW1)) HV2.out) rfl rfl) ?_
        intro a' ha
        simp only [Act.put, List.setIfInBounds_toArray, List.set_cons_succ, List.set_cons_zero] at ha
        subst ha
        refine rg_val rfl rfl (fun W1 hW1 hF => step_callv en_attestor_ext_Mul (eMul f (mev vs p) W1) rfl rfl) ?_
        intro a' ha
        simp only [Act.put, List.setIfInBounds_toArray, List.set_cons_succ, List.set_cons_zero] at ha
        subst ha
        refine rg_val rfl rfl (fun W1 hW1 hF => step_callv en_attestor_ext_Add (eAdd (mev t p) (f * mev vs p) W1) rfl rfl) ?_
        intro a' ha
        simp only [Act.put, List.setIfInBounds_toArray, List.set_cons_succ, List.set_cons_zero] at ha
        subst ha
        refine rg_det rfl rfl rfl (fun K hK => ?_)
        go_big_quiet_op
        refine hK _ ?_; clear hK K
        refine rg_det rfl rfl rfl (fun K hK => ?_)
        go_big_quiet_op
        refine hK _ ?_; clear hK K
        refine rg_det rfl rfl rfl (fun K hK => ?_)
        go_big_quiet_op
        refine hK _ ?_; clear hK K
        refine rg_det rfl rfl rfl (fun K hK => ?_)
        go_big_quiet_op
        refine hK _ ?_; clear hK K
        refine rg_nil (fun w' hw' hF => ?_)
        obtain ⟨z2, rfl⟩ := hw'
        simp only [List.drop_succ_cons, List.drop_zero]
        clear hF c4
        go_wp2_with fail
        go_ret
        exact ⟨rfl, hBwr.trans (z2.h.mono hBwr.size)⟩
end Go.Proofs.YtphokpkigbonlaaDoor
