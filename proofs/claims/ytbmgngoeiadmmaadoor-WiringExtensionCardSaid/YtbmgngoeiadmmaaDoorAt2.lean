/-
  Coefficients and Point.
-/
import Derived.Test.YtbmgngoeiadmmaaDoorAt
namespace Go.Proofs.YtbmgngoeiadmmaaDoor
open Go.RowKit

set_option maxRecDepth 100000 in
set_option maxHeartbeats 2000000 in
theorem wCoef (gs : List Gt) (us p q : List E) (x y : E) (vl vu vL vR : Value) (lo1 hi1 lo2 hi2 lo3 hi3 lo4 hi4 : Nat) (w : World) (hl : GateS lo1 hi1 w vl gs) (hu : ExtS lo2 hi2 w vu us) (hp : ExtS lo3 hi3 w vL p) (hq : ExtS lo4 hi4 w vR q)
    (hh1 : hi1 ≤ w.heap.size) (hh2 : hi2 ≤ w.heap.size) (hh3 : hi3 ≤ w.heap.size) (hh4 : hi4 ≤ w.heap.size) (hlaid : Laid w)
    (hlen : gs.length ≤ us.length) (hok : ∀ g ∈ gs, g.L < 2 ^ p.length ∧ g.R < 2 ^ q.length) (hpl : p.length ≤ 18) (hql : q.length ≤ 18) :
    Calls Tryd.prog 16 #[vl, vu, endsV vL vR x y] w (RetR (ExtA (coefs p q gs us)) w) := by
  have hsv : sv (coefs p q gs us) = .agg #[.int .u64 (fv (coef p q gs us 0).a), .int .u64 (fv (coef p q gs us 0).b), .int .u64 (fv (coef p q gs us 1).a), .int .u64 (fv (coef p q gs us 1).b), .int .u64 (fv (coef p q gs us 2).a), .int .u64 (fv (coef p q gs us 2).b), .int .u64 (fv (coef p q gs us 3).a), .int .u64 (fv (coef p q gs us 3).b)] := rfl
  have hsx : ((coefs p q gs us).flatMap ec).toArray = #[.int .u64 (fv (coef p q gs us 0).a), .int .u64 (fv (coef p q gs us 0).b), .int .u64 (fv (coef p q gs us 1).a), .int .u64 (fv (coef p q gs us 1).b), .int .u64 (fv (coef p q gs us 2).a), .int .u64 (fv (coef p q gs us 2).b), .int .u64 (fv (coef p q gs us 3).a), .int .u64 (fv (coef p q gs us 3).b)] := rfl
  have HX := Lib.hid hsx
  clear hsx
  unfold endsV
  go_enter Tryd.func16, Tryd.ntmps16
  go_wp2_with fail
  refine calls_stk1 fun W hB hz b1 => ?_
  refine (gAt gs us p q x y vl vu vL vR lo1 hi1 lo2 hi2 lo3 hi3 lo4 hi4 W (hl.keep hB) (hu.keep hB) (hp.keep hB) (hq.keep hB) (Nat.le_trans hh1 hB.size) (Nat.le_trans hh2 hB.size) (Nat.le_trans hh3 hB.size) (Nat.le_trans hh4 hB.size) (hlaid.keep hB) hlen hok hpl hql).mono ?_
  rintro e w2 ⟨rfl, hb2⟩
  rw [hsv]
  go_wp2_with fail
  go_ret
  refine ⟨_, rfl, ?_, (hB.trans (hb2.mono hB.size)).alloc (Nat.le_trans hB.size hb2.size) _⟩
  have hblk : Blk (w2.alloc (.cells #[.int .u64 (fv (coef p q gs us 0).a), .int .u64 (fv (coef p q gs us 0).b), .int .u64 (fv (coef p q gs us 1).a), .int .u64 (fv (coef p q gs us 1).b), .int .u64 (fv (coef p q gs us 2).a), .int .u64 (fv (coef p q gs us 2).b), .int .u64 (fv (coef p q gs us 3).a), .int .u64 (fv (coef p q gs us 3).b)] 70)) w2.heap.size 70 ((coefs p q gs us).flatMap ec).toArray := by rw [HX.out]; exact Blk.new _ _ _
  exact exts_of_blk hblk (by simp [coefs]) (by decide) (Nat.le_trans hB.size hb2.size) (by simp)
set_option maxRecDepth 100000 in
set_option maxHeartbeats 2000000 in
theorem wPoint (gs : List Gt) (us p q : List E) (x y : E) (vl vu vL vR : Value) (lo1 hi1 lo2 hi2 lo3 hi3 lo4 hi4 : Nat) (w : World) (hl : GateS lo1 hi1 w vl gs) (hu : ExtS lo2 hi2 w vu us) (hp : ExtS lo3 hi3 w vL p) (hq : ExtS lo4 hi4 w vR q)
    (hh1 : hi1 ≤ w.heap.size) (hh2 : hi2 ≤ w.heap.size) (hh3 : hi3 ≤ w.heap.size) (hh4 : hi4 ≤ w.heap.size) (hlaid : Laid w)
    (hlen : gs.length ≤ us.length) (hok : ∀ g ∈ gs, g.L < 2 ^ p.length ∧ g.R < 2 ^ q.length) (hpl : p.length ≤ 18) (hql : q.length ≤ 18) :
    Calls Tryd.prog 18 #[vl, vu, endsV vL vR x y] w (Ret (ev (point p q gs us x y)) w) := by
  have hsv : sv (coefs p q gs us) = .agg #[.int .u64 (fv (coef p q gs us 0).a), .int .u64 (fv (coef p q gs us 0).b), .int .u64 (fv (coef p q gs us 1).a), .int .u64 (fv (coef p q gs us 1).b), .int .u64 (fv (coef p q gs us 2).a), .int .u64 (fv (coef p q gs us 2).b), .int .u64 (fv (coef p q gs us 3).a), .int .u64 (fv (coef p q gs us 3).b)] := rfl
  have hpt : point p q gs us x y = (coef p q gs us 0 * y + coef p q gs us 1) * x + (coef p q gs us 2 * y + coef p q gs us 3) := by
    unfold point poly
    rw [E.add_mul, E.mul_assoc, E.mul_comm y x]
  rw [hpt]
  clear hpt
  unfold endsV ev
  go_enter Tryd.func18, Tryd.ntmps18
  go_wp2_with fail
  refine calls_stk2 fun W hB hz b1 b2 => ?_
  refine (gAt gs us p q x y vl vu vL vR lo1 hi1 lo2 hi2 lo3 hi3 lo4 hi4 W (hl.keep hB) (hu.keep hB) (hp.keep hB) (hq.keep hB) (Nat.le_trans hh1 hB.size) (Nat.le_trans hh2 hB.size) (Nat.le_trans hh3 hB.size) (Nat.le_trans hh4 hB.size) (hlaid.keep hB) hlen hok hpl hql).mono ?_
  rintro e w2 ⟨rfl, hb2⟩
  rw [hsv]
  have b1' := b1.keep hb2
  have b2' := b2.keep hb2
  have hB2 := hB.trans (hb2.mono hB.size)
  have hs2 : w.heap.size + 1 < w2.heap.size := b2'.lt
  obtain ⟨i0, hi0, hz0, hz1, hz2⟩ := info_parts ext_info
  clear hsv hl hu hp hq hok hlaid
  generalize coef p q gs us 0 = s0 at *
  generalize coef p q gs us 1 = s1 at *
  generalize coef p q gs us 2 = s2 at *
  generalize coef p q gs us 3 = s3 at *
  go_wp2_with fail
  refine wp_stk1 fun V hBV hzV b3 => ?_
  have b1V := b1'.keep hBV
  have b2V := b2'.keep hBV
  have c1 := gw_blk b1V
  have c3 := gw_blk b3
  refine wp_region_rg 12 [(4, Spec.val (.agg #[.int .u64 (fv (s0 * y).a), .int .u64 (fv (s0 * y).b)])), (7, Spec.val (.agg #[.int .u64 (fv (s0 * y + s1).a), .int .u64 (fv (s0 * y + s1).b)])), (10, Spec.val (.agg #[.int .u64 (fv ((s0 * y + s1) * x).a), .int .u64 (fv ((s0 * y + s1) * x).b)])), (11, Spec.rel (New 27 #[.int .u64 0, .int .u64 0]) (NewF))] (by kernel_rfl) (by kernel_rfl) (by kernel_rfl) ⟨fit_new, trivial⟩ ?_
  refine rg_det rfl rfl rfl (fun K hK => ?_)
  go_big_quiet_op
  refine hK _ ?_; clear hK K
  refine rg_det rfl rfl rfl (fun K hK => ?_)
  go_big_quiet_op
  refine hK _ ?_; clear hK K
  refine rg_det rfl rfl rfl (fun K hK => ?_)
  go_big_quiet_op
  refine hK _ ?_; clear hK K
  refine rg_det rfl rfl rfl (fun K hK => ?_)
  go_big_quiet_op
  refine hK _ ?_; clear hK K
  refine rg_val rfl rfl (fun W1 hW1 hF => step_callv en_attestor_ext_Mul (eMul s0 y W1) rfl rfl) ?_
  intro a' ha
  simp only [Act.put, List.setIfInBounds_toArray, List.set_cons_succ, List.set_cons_zero] at ha
  subst ha
  refine rg_det rfl rfl rfl (fun K hK => ?_)
  go_big_quiet_op
  refine hK _ ?_; clear hK K
  refine rg_det rfl rfl rfl (fun K hK => ?_)
  go_big_quiet_op
  refine hK _ ?_; clear hK K
  refine rg_val rfl rfl (fun W1 hW1 hF => step_callv en_attestor_ext_Add (eAdd (s0 * y) s1 W1) rfl rfl) ?_
  intro a' ha
  simp only [Act.put, List.setIfInBounds_toArray, List.set_cons_succ, List.set_cons_zero] at ha
  subst ha
  refine rg_det rfl rfl rfl (fun K hK => ?_)
  go_big_quiet_op
  refine hK _ ?_; clear hK K
  refine rg_det rfl rfl rfl (fun K hK => ?_)
  go_big_quiet_op
  refine hK _ ?_; clear hK K
  refine rg_val rfl rfl (fun W1 hW1 hF => step_callv en_attestor_ext_Mul (eMul (s0 * y + s1) x W1) rfl rfl) ?_
  intro a' ha
  simp only [Act.put, List.setIfInBounds_toArray, List.set_cons_succ, List.set_cons_zero] at ha
  subst ha
  refine rg_rel rfl rfl (fun W1 hW1 hF => step_new hi0 hz0 rfl) ?_
  intro n11 m11 v11 hn11 hm11 hd11 hf11 a' ha
  simp only [Act.put, List.setIfInBounds_toArray, List.set_cons_succ, List.set_cons_zero] at ha
  subst ha
  obtain rfl := hf11
  refine rg_nil (fun w' hw' hF => ?_)
  obtain ⟨z1, rfl⟩ := hw'
  simp only [List.drop_succ_cons, List.drop_zero]
  obtain ⟨hm, -, hlt', b4⟩ := end_last hF
  have e1 := b4.cell
  have e2 := b4.frozen
  clear hF c1 c3 hd11
  have d1 := b1V.gw z1
  have d2 := b2V.gw z1
  have d3 := b3.gw z1
  have hVs := b3.lt
  have hVb := hBV.size
  go_wp2_with fail
  obtain ⟨Y, hY⟩ : ∃ Y, (z1.w.setCell ⟨n11, 0, none⟩ (.int .u64 (fv ((s0 * y + s1) * x).a))).setCell ⟨n11, 1, none⟩ (.int .u64 (fv ((s0 * y + s1) * x).b)) = Y := ⟨_, rfl⟩
  rw [hY]
  have g1 : Blk Y w.heap.size 33 #[vL, vR, .int .u64 (fv x.a), .int .u64 (fv x.b), .int .u64 (fv y.a), .int .u64 (fv y.b)] := by rw [← hY]; exact blk_far2 d1 (by omega)
  have g2 : Blk Y (w.heap.size + 1) 27 #[.int .u64 0, .int .u64 0] := by rw [← hY]; exact blk_far2 d2 (by omega)
  have g3 : Blk Y w2.heap.size 70 #[.int .u64 (fv s0.a), .int .u64 (fv s0.b), .int .u64 (fv s1.a), .int .u64 (fv s1.b), .int .u64 (fv s2.a), .int .u64 (fv s2.b), .int .u64 (fv s3.a), .int .u64 (fv s3.b)] := by rw [← hY]; exact blk_far2 d3 (by omega)
  have g4 : Blk Y n11 27 #[.int .u64 (fv ((s0 * y + s1) * x).a), .int .u64 (fv ((s0 * y + s1) * x).b)] := by rw [← hY]; exact blk_set2 b4
  have hBY : Below w.heap.size w Y := by rw [← hY]; exact below_set2 ((hB2.trans (hBV.mono hB2.size)).trans (z1.h.mono (by omega))) (by omega)
  clear hY e1 e2 d1 d2 d3 b4 b3 b1V b2V
  have c1 := gw_blk g1
  have c3 := gw_blk g3
  have c4 := gw_blk g4
  refine wp_region_rg 10 [(5, Spec.val (.agg #[.int .u64 (fv (s2 * y).a), .int .u64 (fv (s2 * y).b)])), (8, Spec.val (.agg #[.int .u64 (fv (s2 * y + s3).a), .int .u64 (fv (s2 * y + s3).b)])), (9, Spec.val (.agg #[.int .u64 (fv ((s0 * y + s1) * x + (s2 * y + s3)).a), .int .u64 (fv ((s0 * y + s1) * x + (s2 * y + s3)).b)]))] (by kernel_rfl) (by kernel_rfl) (by kernel_rfl) trivial ?_
  refine rg_det rfl rfl rfl (fun K hK => ?_)
  go_big_quiet_op
  refine hK _ ?_; clear hK K
  refine rg_det rfl rfl rfl (fun K hK => ?_)
  go_big_quiet_op
  refine hK _ ?_; clear hK K
  refine rg_det rfl rfl rfl (fun K hK => ?_)
  go_big_quiet_op
  refine hK _ ?_; clear hK K
  refine rg_det rfl rfl rfl (fun K hK => ?_)
  go_big_quiet_op
  refine hK _ ?_; clear hK K
  refine rg_det rfl rfl rfl (fun K hK => ?_)
  go_big_quiet_op
  refine hK _ ?_; clear hK K
  refine rg_val rfl rfl (fun W1 hW1 hF => step_callv en_attestor_ext_Mul (eMul s2 y W1) rfl rfl) ?_
  intro a' ha
  simp only [Act.put, List.setIfInBounds_toArray, List.set_cons_succ, List.set_cons_zero] at ha
  subst ha
  refine rg_det rfl rfl rfl (fun K hK => ?_)
  go_big_quiet_op
  refine hK _ ?_; clear hK K
  refine rg_det rfl rfl rfl (fun K hK => ?_)
  go_big_quiet_op
  refine hK _ ?_; clear hK K
  refine rg_val rfl rfl (fun W1 hW1 hF => step_callv en_attestor_ext_Add (eAdd (s2 * y) s3 W1) rfl rfl) ?_
  intro a' ha
  simp only [Act.put, List.setIfInBounds_toArray, List.set_cons_succ, List.set_cons_zero] at ha
  subst ha
  refine rg_val rfl rfl (fun W1 hW1 hF => step_callv en_attestor_ext_Add (eAdd ((s0 * y + s1) * x) (s2 * y + s3) W1) rfl rfl) ?_
  intro a' ha
  simp only [Act.put, List.setIfInBounds_toArray, List.set_cons_succ, List.set_cons_zero] at ha
  subst ha
  refine rg_nil (fun w' hw' hF => ?_)
  obtain ⟨z, rfl⟩ := hw'
  simp only [List.drop_succ_cons, List.drop_zero]
  have e1 := (g2.gw z).cell
  have e2 := (g2.gw z).frozen
  go_wp2
  refine bodyPost_ret (v := .agg #[.int .u64 (fv ((s0 * y + s1) * x + (s2 * y + s3)).a), .int .u64 (fv ((s0 * y + s1) * x + (s2 * y + s3)).b)]) (by simp [results, Tryd.results18, go_sem, e1]) rfl ⟨rfl, ?_⟩
  exact below_set2 (hBY.trans (z.h.mono hBY.size)) (Nat.le_succ _)
end Go.Proofs.YtbmgngoeiadmmaaDoor
