/-
  The functions of package mle: agree, Eq, Line, Lift, by contract.
-/
import Derived.Test.YtipaecageimnnaaDoorMr1
namespace Go.Proofs.YtipaecageimnnaaDoor
open Go.RowKit
attribute [local go_sem] Oper.semAt_some

theorem agree_fac (x y : E) : x * y + x * y + 1 - (x + y) = fac x y := by
  unfold fac
  apply E.ext_ <;> simp only [mul_a, mul_b, add_a, add_b, sub_a, sub_b, one_a, one_b] <;> grind
set_option maxRecDepth 100000 in
set_option maxHeartbeats 1000000 in
theorem gAgree (x y : E) (w : World) (hL : Laid w) : Calls Tryd.prog 67 #[ev x, ev y] w (Ret (ev (fac x y)) w) := by
  rw [← agree_fac]
  unfold ev
  go_enter Tryd.func67, Tryd.ntmps67
  go_wp2_with fail
  refine calls_stk3 fun W hB hz b1 b2 b3 => ?_
  refine (eMul x y _).mono ?_
  rintro e w2 ⟨he, hb⟩
  unfold ev at he
  subst he
  go_wp2
  refine wp_stk1 fun W3 hB3 hz3 b5 => ?_
  have hb3 := hb.trans (hB3.mono hb.size)
  have d1 := b1.keep hb3
  have d2 := b2.keep hb3
  have d3 := b3.keep hb3
  have hB4 := (hB.trans (hb3.mono hB.size))
  have HL := hL.keep hB4
  have c1 := gw_blk d1
  have c2 := gw_blk d2
  have c5 := gw_blk b5
  have g1 := gw_cell HL.2.2 HL.1
  have g2 := gw_cell HL.2.2 HL.2.1
  refine wp_region_rg 9 [(2, Spec.val (.agg #[.int .u64 (fv (x * y + x * y).a), .int .u64 (fv (x * y + x * y).b)])), (4, Spec.val (.agg #[.int .u64 (fv (x * y + x * y + 1).a), .int .u64 (fv (x * y + x * y + 1).b)])), (7, Spec.val (.agg #[.int .u64 (fv (x + y).a), .int .u64 (fv (x + y).b)])), (8, Spec.val (.agg #[.int .u64 (fv (x * y + x * y + 1 - (x + y)).a), .int .u64 (fv (x * y + x * y + 1 - (x + y)).b)]))] (by kernel_rfl) (by kernel_rfl) (by kernel_rfl) trivial ?_
  refine rg_det rfl rfl rfl (fun K hK => ?_)
  go_big_quiet_op
  refine hK _ ?_; clear hK K
  refine rg_det rfl rfl rfl (fun K hK => ?_)
  go_big_quiet_op
  refine hK _ ?_; clear hK K
  refine rg_val rfl rfl (fun W1 hW1 hF => step_callv en_attestor_ext_Add (eAdd (x * y) (x * y) W1) rfl rfl) ?_
  intro a' ha
  simp only [Act.put, List.setIfInBounds_toArray, List.set_cons_succ, List.set_cons_zero] at ha
  subst ha
  refine rg_det rfl rfl rfl (fun K hK => ?_)
  go_big_quiet_op
  refine hK _ ?_; clear hK K
  refine rg_val rfl rfl (fun W1 hW1 hF => step_callv en_attestor_ext_Add (eAdd (x * y + x * y) 1 W1) rfl rfl) ?_
  intro a' ha
  simp only [Act.put, List.setIfInBounds_toArray, List.set_cons_succ, List.set_cons_zero] at ha
  subst ha
  refine rg_det rfl rfl rfl (fun K hK => ?_)
  go_big_quiet_op
  refine hK _ ?_; clear hK K
  refine rg_det rfl rfl rfl (fun K hK => ?_)
  go_big_quiet_op
  refine hK _ ?_; clear hK K
  refine rg_val rfl rfl (fun W1 hW1 hF => step_callv en_attestor_ext_Add (eAdd x y W1) rfl rfl) ?_
  intro a' ha
  simp only [Act.put, List.setIfInBounds_toArray, List.set_cons_succ, List.set_cons_zero] at ha
  subst ha
  refine rg_val rfl rfl (fun W1 hW1 hF => step_callv en_attestor_ext_Sub (eSub (x * y + x * y + 1) (x + y) W1) rfl rfl) ?_
  intro a' ha
  simp only [Act.put, List.setIfInBounds_toArray, List.set_cons_succ, List.set_cons_zero] at ha
  subst ha
  refine rg_nil (fun w' hw' hF => ?_)
  obtain ⟨z, rfl⟩ := hw'
  simp only [List.drop_succ_cons, List.drop_zero]
  have e1 := (d3.gw z).cell
  have e2 := (d3.gw z).frozen
  go_wp2
  refine bodyPost_ret (v := .agg #[.int .u64 (fv (x * y + x * y + 1 - (x + y)).a), .int .u64 (fv (x * y + x * y + 1 - (x + y)).b)]) (by simp [results, Tryd.results67, go_sem, e1]) rfl ⟨rfl, ?_⟩
  exact ((hB4.trans (z.h.mono hB4.size)).setCell (by show w.heap.size ≤ w.heap.size + 1 + 1; omega) _).setCell (by show w.heap.size ≤ w.heap.size + 1 + 1; omega) _

set_option maxRecDepth 100000 in
set_option maxHeartbeats 1000000 in
theorem gEq (p q : List E) (hpq : q.length = p.length) (v1 v2 : Value) (lo1 hi1 lo2 hi2 : Nat) (w : World) (h1 : ExtS lo1 hi1 w v1 p) (h2 : ExtS lo2 hi2 w v2 q) (hL : Laid w) :
    Calls Tryd.prog 46 #[v1, v2] w (Ret (ev (pfac p q p.length)) w) := by
  obtain ⟨A1, cap1, rfl⟩ := h1.len
  obtain ⟨A2, cap2, rfl⟩ := h2.len
  have hlen := h1.2.1
  have HPQ := Lib.hid hpq
  clear hpq
  unfold ev
  go_enter Tryd.func46, Tryd.ntmps46
  have g1 := hL.1
  have g2 := hL.2.1
  have g3 : w.heap.size ≠ 0 := by have := hL.2.2; omega
  have g4 : 0 < w.heap.size := hL.2.2
  go_wp2
  refine wp_stk2 fun W3 hB3 hz3 d1 b5 => ?_
  have hne : w.heap.size ≠ w.heap.size + 1 := by omega
  clear g1 g2 g3 g4
  go_loopw [11] (fun i wr => ∃ k : Nat, k ≤ p.length ∧ i = .int .i64 k ∧ Blk wr (w.heap.size + 1) 26 #[.int .u64 (fv (pfac p q k).a), .int .u64 (fv (pfac p q k).b)] ∧ Blk wr w.heap.size 26 #[.int .u64 0, .int .u64 0] ∧ Below w.heap.size w wr) (fun i _ => p.length - (intOf i).toNat)
  case atStart => exact ⟨0, Nat.zero_le _, rfl, b5, d1, hB3⟩
  case round =>
    obtain ⟨k, hk, rfl, bk, br, hB⟩ := hrel
    clear b5 d1 hB3
    by_cases hlt : k < p.length
    · have hlt2 : k < q.length := by rw [HPQ.out]; exact hlt
      obtain ⟨g, off, cap', hv, q1, q2, q3, q4, q5⟩ := exts_cells (Rd.keep h1 hB) (by omega)
      cases hv
      obtain ⟨g', off', cap'', hv, r1, r2, r3, r4, r5⟩ := exts_cells (Rd.keep h2 hB) (by omega)
      cases hv
      obtain ⟨x, hx, hxd⟩ := get_of hlt
      obtain ⟨y, hy, hyd⟩ := get_of hlt2
      obtain ⟨d1, d2⟩ := q5 k x hx
      obtain ⟨d3, d4⟩ := r5 k y hy
      have HF := Lib.hid (show pfac p q k * fac x y = pfac p q (k + 1) by rw [pfac, hxd, hyd])
      have hLr := hL.keep hB
      have hwr := hB.size
      clear q5 r5 hx hy hxd hyd h1 h2
      generalize pfac p q k = m at *
      go_wp2
      refine wp_stk1 fun W5 hB5 hz5 b7 => ?_
      have c3 := gw_cell (W := W5) (Nat.lt_of_lt_of_le r4 hB5.size) ((hB5.cell (p := ⟨g', off' + k * 2, none⟩) r4).trans d3)
      have c4 := gw_cell (W := W5) (Nat.lt_of_lt_of_le r4 hB5.size) ((hB5.cell (p := ⟨g', off' + k * 2 + 1, none⟩) r4).trans d4)
      have bk5 := bk.keep hB5
      have br5 := br.keep hB5
      have c5 := gw_blk bk5
      have c7 := gw_blk b7
      have L5 := hLr.keep hB5
      have hB6 := hB.trans (hB5.mono hwr)
      have h6 := hB6.size
      clear d1 d2 d3 d4
      refine wp_region_rg 8 [(6, Spec.val (.agg #[.int .u64 (fv (fac x y).a), .int .u64 (fv (fac x y).b)])), (7, Spec.val (.agg #[.int .u64 (fv (m * fac x y).a), .int .u64 (fv (m * fac x y).b)]))] (by kernel_rfl) (by kernel_rfl) (by kernel_rfl) trivial ?_
      refine rg_det rfl rfl rfl (fun K hK => ?_)
      go_big_quiet_op
      refine hK _ ?_; clear hK K
      refine rg_det rfl rfl rfl (fun K hK => ?_)
      go_big_quiet_op
      refine hK _ ?_; clear hK K
      refine rg_det rfl rfl rfl (fun K hK => ?_)
      go_big_quiet_op
      refine hK _ ?_; clear hK K
      refine rg_det rfl rfl rfl (fun K hK => ?_)
      go_big_quiet_op
      refine hK _ ?_; clear hK K
      refine rg_det rfl rfl rfl (fun K hK => ?_)
      go_big_quiet_op
      refine hK _ ?_; clear hK K
      refine rg_det rfl rfl rfl (fun K hK => ?_)
      go_big_quiet_op
      refine hK _ ?_; clear hK K
      refine rg_val rfl rfl (fun W1 hW1 hF => step_callv en_attestor_mle_agree (gAgree x y W1 (L5.keep (grw_below hW1))) rfl rfl) ?_
      intro a' ha
      simp only [Act.put, List.setIfInBounds_toArray, List.set_cons_succ, List.set_cons_zero] at ha
      subst ha
      refine rg_val rfl rfl (fun W1 hW1 hF => step_callv en_attestor_ext_Mul (eMul m (fac x y) W1) rfl rfl) ?_
      intro a' ha
      simp only [Act.put, List.setIfInBounds_toArray, List.set_cons_succ, List.set_cons_zero] at ha
      subst ha
      refine rg_nil (fun w' hw' hF => ?_)
      obtain ⟨z, rfl⟩ := hw'
      simp only [List.drop_succ_cons, List.drop_zero]
      have e1 := (bk5.gw z).cell
      have e2 := (bk5.gw z).frozen
      clear hF c3 c4 c5 c7
      go_wp2
      exact ⟨⟨k + 1, by omega, by go_num, by rw [← HF.out]; exact blk_set2 (bk5.gw z), blk_far2 (br5.gw z) hne, below_set2 (hB6.trans (z.h.mono h6)) (by omega)⟩, by simp [intOf]; omega⟩
    · obtain rfl : k = p.length := by omega
      have e1 := bk.cell
      have e3 := br.cell
      have e4 := br.frozen
      go_wp2
      refine bodyPost_ret (v := .agg #[.int .u64 (fv (pfac p q p.length).a), .int .u64 (fv (pfac p q p.length).b)]) (by simp [results, Tryd.results46, go_sem, e3]) rfl ⟨rfl, ?_⟩
      exact below_set2 hB (Nat.le_refl _)
end Go.Proofs.YtipaecageimnnaaDoor
