/-
  The reference of package mle: equality of points, vertices.
-/
import Derived.Test.YtnfiomccgakooaaDoorSl
namespace Go.Proofs.YtnfiomccgakooaaDoor
open Go.RowKit

set_option maxRecDepth 100000 in
set_option maxHeartbeats 400000 in
theorem mFactor (x y : E) (w : World) : Calls Tryd.prog 44 #[ev x, ev y] w (Ret (ev (fac x y)) w) := by
  unfold ev fac
  go_enter Tryd.func44, Tryd.ntmps44
  go_wp2_with fail
  refine calls_stk3 fun W hB hz b1 b2 b3 => ?_
  refine (xOne _).mono ?_
  rintro e w2 ⟨he, hb⟩
  unfold ev at he
  subst he
  go_wp2
  refine wp_stk1 fun W3 hB3 hz3 b5 => ?_
  have hb3 := hb.trans (hB3.mono hb.size)
  have d1 := b1.keep hb3
  have d2 := b2.keep hb3
  have d3 := b3.keep hb3
  have c1 := gw_blk d1
  have c2 := gw_blk d2
  have c5 := gw_blk b5
  refine wp_region_rg 11 [(2, Spec.val (.agg #[.int .u64 (fv (x * y).a), .int .u64 (fv (x * y).b)])), (5, Spec.val (.agg #[.int .u64 (fv (1 - x).a), .int .u64 (fv (1 - x).b)])), (8, Spec.val (.agg #[.int .u64 (fv (1 - y).a), .int .u64 (fv (1 - y).b)])), (9, Spec.val (.agg #[.int .u64 (fv ((1 - x) * (1 - y)).a), .int .u64 (fv ((1 - x) * (1 - y)).b)])), (10, Spec.val (.agg #[.int .u64 (fv (x * y + (1 - x) * (1 - y)).a), .int .u64 (fv (x * y + (1 - x) * (1 - y)).b)]))] (by kernel_rfl) (by kernel_rfl) (by kernel_rfl) trivial ?_
  refine rg_det rfl rfl rfl (fun K hK => ?_)
  go_big_quiet_op
  refine hK _ ?_; clear hK K
  refine rg_det rfl rfl rfl (fun K hK => ?_)
  go_big_quiet_op
  refine hK _ ?_; clear hK K
  refine rg_val rfl rfl (fun W1 hW1 hF => step_callv en_attestor_attestorref02_Mul (xMul x y W1) rfl rfl) ?_
  intro a' ha
  simp only [Act.put, List.setIfInBounds_toArray, List.set_cons_succ, List.set_cons_zero] at ha
  subst ha
  refine rg_det rfl rfl rfl (fun K hK => ?_)
  go_big_quiet_op
  refine hK _ ?_; clear hK K
  refine rg_det rfl rfl rfl (fun K hK => ?_)
  go_big_quiet_op
  refine hK _ ?_; clear hK K
  refine rg_val rfl rfl (fun W1 hW1 hF => step_callv en_attestor_attestorref02_Sub (xSub 1 x W1) rfl rfl) ?_
  intro a' ha
  simp only [Act.put, List.setIfInBounds_toArray, List.set_cons_succ, List.set_cons_zero] at ha
  subst ha
  refine rg_det rfl rfl rfl (fun K hK => ?_)
  go_big_quiet_op
  refine hK _ ?_; clear hK K
  refine rg_det rfl rfl rfl (fun K hK => ?_)
  go_big_quiet_op
  refine hK _ ?_; clear hK K
  refine rg_val rfl rfl (fun W1 hW1 hF => step_callv en_attestor_attestorref02_Sub (xSub 1 y W1) rfl rfl) ?_
  intro a' ha
  simp only [Act.put, List.setIfInBounds_toArray, List.set_cons_succ, List.set_cons_zero] at ha
  subst ha
  refine rg_val rfl rfl (fun W1 hW1 hF => step_callv en_attestor_attestorref02_Mul (xMul (1 - x) (1 - y) W1) rfl rfl) ?_
  intro a' ha
  simp only [Act.put, List.setIfInBounds_toArray, List.set_cons_succ, List.set_cons_zero] at ha
  subst ha
  refine rg_val rfl rfl (fun W1 hW1 hF => step_callv en_attestor_attestorref02_Add (xAdd (x * y) ((1 - x) * (1 - y)) W1) rfl rfl) ?_
  intro a' ha
  simp only [Act.put, List.setIfInBounds_toArray, List.set_cons_succ, List.set_cons_zero] at ha
  subst ha
  refine rg_nil (fun w' hw' hF => ?_)
  obtain ⟨z, rfl⟩ := hw'
  simp only [List.drop_succ_cons, List.drop_zero]
  have e1 := (d3.gw z).cell
  have e2 := (d3.gw z).frozen
  go_wp2
  refine bodyPost_ret (v := .agg #[.int .u64 (fv (x * y + (1 - x) * (1 - y)).a), .int .u64 (fv (x * y + (1 - x) * (1 - y)).b)]) (by simp [results, Tryd.results44, go_sem, e1]) rfl ⟨rfl, ?_⟩
  have hB4 := (hB.trans (hb3.mono hB.size))
  exact ((hB4.trans (z.h.mono hB4.size)).setCell (by show w.heap.size ≤ w.heap.size + 1 + 1; omega) _).setCell (by show w.heap.size ≤ w.heap.size + 1 + 1; omega) _
set_option maxRecDepth 100000 in
set_option maxHeartbeats 1000000 in
theorem mEqR (p q : List E) (hpq : q.length = p.length) (v1 v2 : Value) (lo1 hi1 lo2 hi2 : Nat) (w : World) (h1 : ExtS lo1 hi1 w v1 p) (h2 : ExtS lo2 hi2 w v2 q) :
    Calls Tryd.prog 15 #[v1, v2] w (Ret (ev (pfac p q p.length)) w) := by
  obtain ⟨A1, cap1, rfl⟩ := h1.len
  obtain ⟨A2, cap2, rfl⟩ := h2.len
  have hlen := h1.2.1
  have HPQ := Lib.hid hpq
  clear hpq
  unfold ev
  go_enter Tryd.func15, Tryd.ntmps15
  go_wp2_with fail
  refine calls_stk1 fun W hB hz b1 => ?_
  refine (xOne _).mono ?_
  rintro e w2 ⟨he, hb⟩
  unfold ev at he
  subst he
  go_wp2
  refine wp_stk1 fun W3 hB3 hz3 b5 => ?_
  have hb3 := hb.trans (hB3.mono hb.size)
  have d1 := b1.keep hb3
  have hB4 := hB.trans (hb3.mono hB.size)
  have hlt5 : w.heap.size < w2.heap.size := (b1.keep hb).lt
  clear hz hz3 hB3 hb hb3 b1 hB
  generalize w2.heap.size = n5 at *
  have hne : w.heap.size ≠ n5 := by omega
  go_loopw [6] (fun i wr => ∃ k : Nat, k ≤ p.length ∧ i = .int .i64 k ∧ Blk wr n5 27 #[.int .u64 (fv (pfac p q k).a), .int .u64 (fv (pfac p q k).b)] ∧ Blk wr w.heap.size 27 #[.int .u64 0, .int .u64 0] ∧ Below w.heap.size w wr) (fun i _ => p.length - (intOf i).toNat)
  case atStart => exact ⟨0, Nat.zero_le _, rfl, b5, d1, hB4⟩
  case round =>
    obtain ⟨k, hk, rfl, bk, br, hB⟩ := hrel
    clear b5 d1 hB4
    by_cases hlt : k < p.length
    · have hlt2 : k < q.length := by rw [HPQ.out]; exact hlt
      obtain ⟨g, off, cap', hv, q1, q2, q3, q4, q5⟩ := exts_cells h1 (by omega)
      cases hv
      obtain ⟨g', off', cap'', hv, r1, r2, r3, r4, r5⟩ := exts_cells h2 (by omega)
      cases hv
      obtain ⟨x, hx, hxd⟩ := get_of hlt
      obtain ⟨y, hy, hyd⟩ := get_of hlt2
      obtain ⟨d1, d2⟩ := q5 k x hx
      obtain ⟨d3, d4⟩ := r5 k y hy
      have c1 := gw_cell (W := wr) (Nat.lt_of_lt_of_le q4 hB.size) ((hB.cell (p := ⟨g, off + k * 2, none⟩) q4).trans d1)
      have c2 := gw_cell (W := wr) (Nat.lt_of_lt_of_le q4 hB.size) ((hB.cell (p := ⟨g, off + k * 2 + 1, none⟩) q4).trans d2)
      have c3 := gw_cell (W := wr) (Nat.lt_of_lt_of_le r4 hB.size) ((hB.cell (p := ⟨g', off' + k * 2, none⟩) r4).trans d3)
      have c4 := gw_cell (W := wr) (Nat.lt_of_lt_of_le r4 hB.size) ((hB.cell (p := ⟨g', off' + k * 2 + 1, none⟩) r4).trans d4)
      have c5 := gw_blk bk
      have hf : pfac p q k * fac x y = pfac p q (k + 1) := by rw [pfac, hxd, hyd]
      have HF := Lib.hid hf
      clear q5 r5 d1 d2 d3 d4 hx hy hxd hyd h1 h2 hf
      generalize pfac p q k = m at *
      go_wp2
      refine wp_region_rg 11 [(9, Spec.val (.agg #[.int .u64 (fv (fac x y).a), .int .u64 (fv (fac x y).b)])), (10, Spec.val (.agg #[.int .u64 (fv (m * fac x y).a), .int .u64 (fv (m * fac x y).b)]))] (by kernel_rfl) (by kernel_rfl) (by kernel_rfl) trivial ?_
      refine rg_det rfl rfl rfl (fun K hK => ?_)
      go_big_quiet_op
      refine hK _ ?_; clear hK K
      refine rg_det rfl rfl rfl (fun K hK => ?_)
      go_big_quiet_op
      refine hK _ ?_; clear hK K
      refine rg_det rfl rfl rfl (fun K hK => ?_)
      go_big_quiet_op
      refine hK _ ?_; clear hK K
      refine rg_det rfl rfl rfl (fun K hK => ?_)
      go_big_quiet_op
      refine hK _ ?_; clear hK K
      refine rg_det rfl rfl rfl (fun K hK => ?_)
      go_big_quiet_op
      refine hK _ ?_; clear hK K
      refine rg_det rfl rfl rfl (fun K hK => ?_)
      go_big_quiet_op
      refine hK _ ?_; clear hK K
      refine rg_det rfl rfl rfl (fun K hK => ?_)
      go_big_quiet_op
      refine hK _ ?_; clear hK K
      refine rg_det rfl rfl rfl (fun K hK => ?_)
      go_big_quiet_op
      refine hK _ ?_; clear hK K
      refine rg_det rfl rfl rfl (fun K hK => ?_)
      go_big_quiet_op
      refine hK _ ?_; clear hK K
      refine rg_val rfl rfl (fun W1 hW1 hF => step_callv en_attestor_attestorref05_factor (mFactor x y W1) rfl rfl) ?_
      intro a' ha
      simp only [Act.put, List.setIfInBounds_toArray, List.set_cons_succ, List.set_cons_zero] at ha
      subst ha
      refine rg_val rfl rfl (fun W1 hW1 hF => step_callv en_attestor_attestorref02_Mul (xMul m (fac x y) W1) rfl rfl) ?_
      intro a' ha
      simp only [Act.put, List.setIfInBounds_toArray, List.set_cons_succ, List.set_cons_zero] at ha
      subst ha
      refine rg_nil (fun w' hw' hF => ?_)
      obtain ⟨z, rfl⟩ := hw'
      simp only [List.drop_succ_cons, List.drop_zero]
      have e1 := (bk.gw z).cell
      have e2 := (bk.gw z).frozen
      go_wp2
      exact ⟨⟨k + 1, by omega, by go_num, by rw [← HF.out]; exact blk_set2 (bk.gw z), blk_far2 (br.gw z) hne, below_set2 (hB.trans (z.h.mono hB.size)) (by omega)⟩, by simp [intOf]; omega⟩
    · obtain rfl : k = p.length := by omega
      have e1 := bk.cell
      have e3 := br.cell
      have e4 := br.frozen
      go_wp2
      refine bodyPost_ret (v := .agg #[.int .u64 (fv (pfac p q p.length).a), .int .u64 (fv (pfac p q p.length).b)]) (by simp [results, Tryd.results15, go_sem, e3]) rfl ⟨rfl, ?_⟩
      exact below_set2 hB (Nat.le_refl _)
end Go.Proofs.YtnfiomccgakooaaDoor
