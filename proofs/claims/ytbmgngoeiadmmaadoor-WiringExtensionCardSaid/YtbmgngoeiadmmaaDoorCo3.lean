/-
  The reference's Point: the polynomial with the coefficients.
-/
import Derived.Test.YtbmgngoeiadmmaaDoorCo2
namespace Go.Proofs.YtbmgngoeiadmmaaDoor
open Go.RowKit

def point (p q : List E) (gs : List Gt) (us : List E) (x y : E) : E := poly (coef p q gs us 0) (coef p q gs us 1) (coef p q gs us 2) (coef p q gs us 3) x y
set_option maxRecDepth 100000 in
set_option maxHeartbeats 1000000 in
theorem rPoint (gs : List Gt) (us p q : List E) (x y : E) (vl vu vL vR : Value) (lo1 hi1 lo2 hi2 lo3 hi3 lo4 hi4 : Nat) (w : World) (hl : GateS lo1 hi1 w vl gs) (hu : ExtS lo2 hi2 w vu us) (hp : ExtS lo3 hi3 w vL p) (hq : ExtS lo4 hi4 w vR q)
    (hlen : gs.length ≤ us.length) (hok : ∀ g ∈ gs, g.L ≤ 1000000 ∧ g.R ≤ 1000000) (hpl : p.length ≤ 60) (hql : q.length ≤ 60) :
    Calls Tryd.prog 19 #[vl, vu, endsV vL vR x y] w (Ret (ev (point p q gs us x y)) w) := by
  unfold endsV
  go_enter Tryd.func19, Tryd.ntmps19
  go_wp2
  refine wp_stk2 fun W hB hz b1 b2 => ?_
  have c1 := gw_blk b1
  have hl' := hl.keep hB
  have hu' := hu.keep hB
  have hp' := hp.keep hB
  have hq' := hq.keep hB
  refine wp_region_rg 9 [(3, Spec.rel (ExtA (coefs p q gs us)) AnyV), (8, Spec.val (.agg #[.int .u64 (fv (point p q gs us x y).a), .int .u64 (fv (point p q gs us x y).b)]))] (by kernel_rfl) (by kernel_rfl) (by kernel_rfl) ⟨fit_of (fit_ext.st), trivial⟩ ?_
  refine rg_det rfl rfl rfl (fun K hK => ?_)
  go_big_quiet_op
  refine hK _ ?_; clear hK K
  refine rg_det rfl rfl rfl (fun K hK => ?_)
  go_big_quiet_op
  refine hK _ ?_; clear hK K
  refine rg_det rfl rfl rfl (fun K hK => ?_)
  go_big_quiet_op
  refine hK _ ?_; clear hK K
  refine rg_rel rfl rfl (fun W1 hW1 hF => step_callr en_attestor_attestorref17_Coefficients (rCoef gs us p q x y vl vu vL vR _ _ _ _ _ _ _ _ W1 (hl'.keep (grw_below hW1)) (hu'.keep (grw_below hW1)) (hp'.keep (grw_below hW1)) (hq'.keep (grw_below hW1)) hlen hok hpl hql) rfl rfl) ?_
  intro n3 m3 v3 hn3 hm3 hd3 hf3 a' ha
  simp only [Act.put, List.setIfInBounds_toArray, List.set_cons_succ, List.set_cons_zero] at ha
  subst ha
  refine rg_det rfl rfl rfl (fun K hK => ?_)
  go_big_quiet_op
  refine hK _ ?_; clear hK K
  refine rg_det rfl rfl rfl (fun K hK => ?_)
  go_big_quiet_op
  refine hK _ ?_; clear hK K
  refine rg_det rfl rfl rfl (fun K hK => ?_)
  go_big_quiet_op
  refine hK _ ?_; clear hK K
  refine rg_det rfl rfl rfl (fun K hK => ?_)
  go_big_quiet_op
  refine hK _ ?_; clear hK K
  refine rg_val rfl rfl (fun W1 hW1 hF => step_callv en_attestor_attestorref17_Value (gValue (coef p q gs us 0) (coef p q gs us 1) (coef p q gs us 2) (coef p q gs us 3) x y v3 _ _ W1 (pick_last hF (by kernel_rfl)).2) rfl rfl) ?_
  intro a' ha
  simp only [Act.put, List.setIfInBounds_toArray, List.set_cons_succ, List.set_cons_zero] at ha
  subst ha
  refine rg_nil (fun w' hw' hF => ?_)
  obtain ⟨z, rfl⟩ := hw'
  simp only [List.drop_succ_cons, List.drop_zero]
  unfold ev
  have e1 := (b2.gw z).cell
  have e2 := (b2.gw z).frozen
  go_wp2
  refine bodyPost_ret (v := .agg #[.int .u64 (fv (point p q gs us x y).a), .int .u64 (fv (point p q gs us x y).b)]) (by simp [results, Tryd.results19, go_sem, e1]) rfl ⟨rfl, ?_⟩
  exact ((hB.trans (z.h.mono hB.size)).setCell (by show w.heap.size ≤ w.heap.size + 1; omega) _).setCell (by show w.heap.size ≤ w.heap.size + 1; omega) _
end Go.Proofs.YtbmgngoeiadmmaaDoor
