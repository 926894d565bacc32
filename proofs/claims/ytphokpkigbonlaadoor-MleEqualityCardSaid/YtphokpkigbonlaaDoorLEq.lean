/-
  MleEquality: the walk.
-/
import Derived.Test.YtphokpkigbonlaaDoorLay5
namespace Go.Proofs.YtphokpkigbonlaaDoor
open Go.RowKit

set_option maxRecDepth 100000 in
set_option maxHeartbeats 8000000 in
theorem wkMleEquality (q : Q5) (vT vP vQ : Value) (zi zk : Int) (w : World) (h : Q5S w.heap.size w q vT vP vQ) (hzi : 0 ≤ zi ∧ zi < 256) (hzk : 0 ≤ zk ∧ zk < 256) (hL : Laid w) :
    Calls Tryd.prog 8 #[qv5 vT vP vQ q, .int .u8 zi, .int .u8 zk] w (Ret (.bool true) w) := by
  obtain ⟨hzi0, hzi1⟩ := hzi
  obtain ⟨hzk0, hzk1⟩ := hzk
  obtain ⟨zi, rfl⟩ := Int.eq_ofNat_of_zero_le hzi0
  obtain ⟨zk, rfl⟩ := Int.eq_ofNat_of_zero_le hzk0
  unfold qv5
  go_enter Tryd.func8, Tryd.ntmps8
  go_wp2_with fail
  refine calls_stk1 fun W1 hB1 hz1 b1 => ?_
  refine (lSanity5 W1 (hL.keep hB1)).mono ?_
  rintro e w2 ⟨rfl, hb2⟩
  have hB2 := hB1.trans (hb2.mono hB1.size)
  have e1 := (b1.keep hb2).cell
  go_wp2_with fail
  refine (lMade5 q vT vP vQ w.heap.size w2 (h.keep hB2) hB2.size).mono ?_
  rintro e w3 ⟨a, b, c, nt, mt, np, mp, ns, ms, rfl, ot, op, os, ⟨lt1, lp1, ls1, lt2, lp2, ls2⟩, ⟨dtp, dts, dps⟩, hb3⟩
  obtain ⟨Aa, capa, rfl⟩ := ot.1.len
  obtain ⟨Ab, capb, rfl⟩ := op.1.len
  obtain ⟨Ac, capc, rfl⟩ := os.1.len
  have hB3 := hB2.trans (hb3.mono hB2.size)
  have Ly := lay_made5 ot op os lt2 lp2 ls2 (hL.keep hB3)
  clear e1 h
  generalize q.t = t at *
  generalize q.p = p at *
  generalize q.s = s at *
  have hpl := Ly.pl
  obtain ⟨N, hN⟩ : ∃ N, N = 2 ^ p.length := ⟨_, rfl⟩
  have hN1 : N ≤ 64 := by rw [hN]; exact Nat.le_trans (Nat.pow_le_pow_right (Nat.succ_pos _) hpl) (Nat.le_refl _)
  have hN0 : 0 < N := by rw [hN]; exact Nat.two_pow_pos _
  have hw64 : wrap64 ((2 : Int) ^ p.length) = (N : Int) := by
    rw [show (2 : Int) ^ p.length = (N : Int) by rw [hN]; simp]
    simp only [wrap64]; omega
  obtain ⟨a, ha⟩ : ∃ a, a = zi % N := ⟨_, rfl⟩
  obtain ⟨b, hb⟩ : ∃ b, b = zk % N := ⟨_, rfl⟩
  have hm1 : Int.tmod (zi : Int) (N : Int) = (a : Int) := by rw [ha]; rfl
  have hm2 : (zi : Int) % (N : Int) = (a : Int) := by rw [ha]; rfl
  have hm3 : Int.tmod (zk : Int) (N : Int) = (b : Int) := by rw [hb]; rfl
  have hm4 : (zk : Int) % (N : Int) = (b : Int) := by rw [hb]; rfl
  have haN : a < N := by rw [ha]; exact Nat.mod_lt _ hN0
  have hbN : b < N := by rw [hb]; exact Nat.mod_lt _ hN0
  have HN := Lib.hid hN
  have hN00 : N ≠ 0 := Nat.ne_of_gt hN0
  clear ha hb hN
  go_wp2_with fail
  refine wp_region_rg 12 [] (by kernel_rfl) (by kernel_rfl) (by kernel_rfl) trivial ?_
  refine rg_det rfl rfl rfl (fun K hK => ?_)
  go_big_quiet_op
  refine hK _ ?_; clear hK K
  refine rg_det rfl rfl rfl (fun K hK => ?_)
  go_big_quiet_op
  refine hK _ ?_; clear hK K
  refine rg_det rfl rfl rfl (fun K hK => ?_)
  go_big_quiet_op
  refine hK _ ?_; clear hK K
  refine rg_det rfl rfl rfl (fun K hK => ?_)
  go_big_quiet_op
  refine hK _ ?_; clear hK K
  refine rg_det rfl rfl rfl (fun K hK => ?_)
  go_big_quiet_op
  refine hK _ ?_; clear hK K
  refine rg_det rfl rfl rfl (fun K hK => ?_)
  go_big_quiet_op
  refine hK _ ?_; clear hK K
  refine rg_det rfl rfl rfl (fun K hK => ?_)
  go_big_quiet_op
  refine hK _ ?_; clear hK K
  refine rg_det rfl rfl rfl (fun K hK => ?_)
  go_big_quiet_op
  refine hK _ ?_; clear hK K
  refine rg_det rfl rfl rfl (fun K hK => ?_)
  go_big_quiet_op
  refine hK _ ?_; clear hK K
  refine rg_det rfl rfl rfl (fun K hK => ?_)
  go_big_quiet_op
  refine hK _ ?_; clear hK K
  refine rg_det rfl rfl rfl (fun K hK => ?_)
  go_big_quiet_op
  refine hK _ ?_; clear hK K
  refine rg_det rfl rfl rfl (fun K hK => ?_)
  go_big_quiet_op
  refine hK _ ?_; clear hK K
  refine rg_nil (fun w' hw' hF => ?_)
  obtain ⟨z, rfl⟩ := hw'
  simp only [List.drop_succ_cons, List.drop_zero]
  clear hm1 hm2 hm3 hm4 hF hw64 hN0
  have Lz := Ly.keep z.h
  have hBz := hB3.trans (z.h.mono hB3.size)
  have hp1 := Lib.hid (pfac_comm s p p.length)
  have hp2 := Lib.hid (pfac_mev p s Ly.sl)
  have hp3 := Lib.hid (pfac_vertices a b p.length (by rw [← HN.out]; exact haN) (by rw [← HN.out]; exact hbN))
  have hp4 : pfac (vertex a p.length) s p.length = eqi a s := by have := pfac_eqi a s; rwa [Ly.sl] at this
  have HP4 := Lib.hid hp4
  have HSl := Lib.hid Ly.sl
  have HVa := Lib.hid (vertex_length a p.length)
  have HVb := Lib.hid (vertex_length b p.length)
  have HTb := Lib.hid (show (tabE p).length = 2 ^ s.length by rw [tabE_len, Ly.sl])
  have hs16 := Lib.hid (show s.length ≤ 16 by have := Ly.sl; omega)
  have ha6 : a ≤ 1000000 := by omega
  have hb6 : b ≤ 1000000 := by omega
  have hp60 : p.length ≤ 60 := by omega
  have hp18 : p.length ≤ 18 := by omega
  have hs60 := Lib.hid (show s.length ≤ 60 by have := Ly.sl; omega)
  clear Ly hp4 ot op os dtp dts dps
  obtain ⟨y, hy⟩ : ∃ y, y = pfac p s p.length := ⟨_, rfl⟩
  have HY := Lib.hid hy
  clear hy
  have E1 : ∀ W1, Below z.w.heap.size z.w W1 → Calls Tryd.prog 22 #[.slice Ab p.length capb, .slice Ac s.length capc] W1 (Ret (ev y) W1) := fun W1 h => by
    rw [HY.out]; exact gEq p s HSl.out _ _ _ _ _ _ W1 (Lz.keep h).hp (Lz.keep h).hs (Lz.keep h).laid
  have E2 : ∀ W1, Below z.w.heap.size z.w W1 → Calls Tryd.prog 22 #[.slice Ac s.length capc, .slice Ab p.length capb] W1 (Ret (ev y) W1) := fun W1 h => by
    rw [HY.out, ← hp1.out]
    have := gEq s p HSl.out.symm _ _ _ _ _ _ W1 (Lz.keep h).hs (Lz.keep h).hp (Lz.keep h).laid
    rwa [HSl.out] at this ⊢
  have E3 : ∀ W1, Below z.w.heap.size z.w W1 → Calls Tryd.prog 26 #[.slice Ab p.length capb] W1 (RetR (ExtA (tabE p)) W1) := fun W1 h => wEqTable p _ _ _ W1 (Lz.keep h).hp (Nat.le_refl _) (Lz.keep h).laid hp18
  have E4 : ∀ W1 v lo hi, Below z.w.heap.size z.w W1 → ExtS lo hi W1 v (tabE p) → Calls Tryd.prog 20 #[v, .slice Ac s.length capc] W1 (Ret (ev y) W1) := fun W1 v lo hi h k => by
    rw [HY.out, hp2.out]
    exact gEval (tabE p) s HTb.out hs16.out _ _ _ _ _ _ W1 k (Lz.keep h).hs (Nat.le_refl _)
  have E5 : ∀ W1 v1 v2 lo1 hi1 lo2 hi2, Below z.w.heap.size z.w W1 → ExtS lo1 hi1 W1 v1 (vertex a p.length) → ExtS lo2 hi2 W1 v2 (vertex b p.length) → Calls Tryd.prog 22 #[v1, v2] W1 (Ret (ev (if a = b then 1 else 0)) W1) := fun W1 v1 v2 lo1 hi1 lo2 hi2 h k1 k2 => by
    rw [← hp3.out]
    have := gEq (vertex a p.length) (vertex b p.length) (HVb.out.trans HVa.out.symm) _ _ _ _ _ _ W1 k1 k2 (Lz.keep h).laid
    rwa [HVa.out] at this
  have E6 : ∀ W1 v1 lo1 hi1, Below z.w.heap.size z.w W1 → ExtS lo1 hi1 W1 v1 (vertex a p.length) → Calls Tryd.prog 22 #[v1, .slice Ac s.length capc] W1 (Ret (ev (eqi a s)) W1) := fun W1 v1 lo1 hi1 h k1 => by
    rw [← HP4.out]
    have := gEq (vertex a p.length) s (HSl.out.trans HVa.out.symm) _ _ _ _ _ _ W1 k1 (Lz.keep h).hs (Lz.keep h).laid
    rwa [HVa.out] at this
  have E7 : ∀ W1, Below z.w.heap.size z.w W1 → Calls Tryd.prog 24 #[.int .i64 a, .slice Ac s.length capc] W1 (Ret (ev (eqi a s)) W1) := fun W1 h => gEqIndex a s ha6 hs60.out _ _ _ W1 (Lz.keep h).hs (Nat.le_refl _) (Lz.keep h).laid
  replace E1 := Lib.hid E1
  replace E2 := Lib.hid E2
  replace E3 := Lib.hid E3
  replace E4 := Lib.hid E4
  replace E5 := Lib.hid E5
  replace E6 := Lib.hid E6
  replace E7 := Lib.hid E7
  have HT := Lib.hid (tabE_len p)
  clear Lz
  by_cases hab : a = b
  · have hb1 : ((a : Int) == (b : Int)) = true := by rw [beq_iff_eq]; omega
    rw [if_pos hab] at E5
    clear hab
    go_wp2_with fail
    refine calls_stk1 fun W5 hB5 hz5 b5 => ?_
    refine (xOne _).mono ?_
    rintro e w6 ⟨he, hb6'⟩
    unfold ev at he
    subst he
    have b6 := b5.keep hb6'
    have B6 := hB5.trans (hb6'.mono hB5.size)
    have e1 := b6.cell
    have e2 := b6.frozen
    clear hb1
    go_wp2_with fail
    refine set2 (M := fun W => Code.wp _ _ _ _ W) b6 fun X hX bX => ?_
    have bX : Blk X z.w.heap.size 27 #[.int .u64 (fv (1 : E).a), .int .u64 (fv (1 : E).b)] := bX
    have BX := below_put B6 hX (Nat.le_refl _)
    clear e1 e2 b6 hX
    obtain ⟨want, hwant⟩ : ∃ want, want = (1 : E) := ⟨_, rfl⟩
    rw [← hwant] at E5 bX
    clear hwant
    have f1 := gw_blk bX
    refine wp_region_rg 42 [(2, Spec.val (.agg #[.int .u64 (fv (y).a), .int .u64 (fv (y).b)])), (5, Spec.val (.agg #[.int .u64 (fv (y).a), .int .u64 (fv (y).b)])), (10, Spec.val (.agg #[.int .u64 (fv (y).a), .int .u64 (fv (y).b)])), (12, Spec.rel (ExtA (tabE p)) (SlF (tabE p).length)), (14, Spec.val (.agg #[.int .u64 (fv (y).a), .int .u64 (fv (y).b)])), (20, Spec.rel (ExtA (vertex a p.length)) (SlF (vertex a p.length).length)), (23, Spec.rel (ExtA (vertex b p.length)) (SlF (vertex b p.length).length)), (24, Spec.val (.agg #[.int .u64 (fv (want).a), .int .u64 (fv (want).b)])), (31, Spec.rel (ExtA (vertex a p.length)) (SlF (vertex a p.length).length)), (33, Spec.val (.agg #[.int .u64 (fv (eqi a s).a), .int .u64 (fv (eqi a s).b)])), (36, Spec.val (.agg #[.int .u64 (fv (eqi a s).a), .int .u64 (fv (eqi a s).b)]))] (by kernel_rfl) (by kernel_rfl) (by kernel_rfl) ⟨fit_ext, fit_ext, fit_ext, fit_ext, trivial⟩ ?_
    refine rg_det rfl rfl rfl (fun K hK => ?_)
    go_big_quiet_op
    refine hK _ ?_; clear hK K
    refine rg_det rfl rfl rfl (fun K hK => ?_)
    go_big_quiet_op
    refine hK _ ?_; clear hK K
    refine rg_val rfl rfl (fun W1 hW1 hF => step_callv en_attestor_mle_Eq (E1.out W1 (BX.trans ((grw_below hW1).mono BX.size))) rfl rfl) ?_
    intro a' ha
    simp only [Act.put, List.setIfInBounds_toArray, List.set_cons_succ, List.set_cons_zero] at ha
    subst ha
    refine rg_det rfl rfl rfl (fun K hK => ?_)
    go_big_quiet_op
    refine hK _ ?_; clear hK K
    refine rg_det rfl rfl rfl (fun K hK => ?_)
    go_big_quiet_op
    refine hK _ ?_; clear hK K
    refine rg_val rfl rfl (fun W1 hW1 hF => step_callv en_attestor_mle_Eq (E2.out W1 (BX.trans ((grw_below hW1).mono BX.size))) rfl rfl) ?_
    intro a' ha
    simp only [Act.put, List.setIfInBounds_toArray, List.set_cons_succ, List.set_cons_zero] at ha
    subst ha
    refine rg_det rfl rfl rfl (fun K hK => ?_)
    go_big_quiet_op
    refine hK _ ?_; clear hK K
    refine rg_det rfl rfl rfl (fun K hK => ?_)
    go_big_quiet_op
    refine hK _ ?_; clear hK K
    refine rg_det rfl rfl rfl (fun K hK => ?_)
    go_big_quiet_op
    refine hK _ ?_; clear hK K
    refine rg_det rfl rfl rfl (fun K hK => ?_)
    go_big_quiet_op
    refine hK _ ?_; clear hK K
    refine rg_val rfl rfl (fun W1 hW1 hF => step_callv en_attestor_mle_Eq (E1.out W1 (BX.trans ((grw_below hW1).mono BX.size))) rfl rfl) ?_
    intro a' ha
    simp only [Act.put, List.setIfInBounds_toArray, List.set_cons_succ, List.set_cons_zero] at ha
    subst ha
    refine rg_det rfl rfl rfl (fun K hK => ?_)
    go_big_quiet_op
    refine hK _ ?_; clear hK K
    refine rg_rel rfl rfl (fun W1 hW1 hF => step_callr en_attestor_mle_EqTable (E3.out W1 (BX.trans ((grw_below hW1).mono BX.size))) rfl rfl) ?_
    intro n12 m12 v12 hn12 hm12 hd12 hf12 a' ha
    simp only [Act.put, List.setIfInBounds_toArray, List.set_cons_succ, List.set_cons_zero] at ha
    subst ha
    obtain ⟨A12, cap12, rfl⟩ := hf12
    refine rg_det rfl rfl rfl (fun K hK => ?_)
    go_big_quiet_op
    refine hK _ ?_; clear hK K
    refine rg_val rfl rfl (fun W1 hW1 hF => step_callv en_attestor_mle_Eval (E4.out W1 _ _ _ (BX.trans ((grw_below hW1).mono BX.size)) (pick_last hF (by kernel_rfl)).2) rfl rfl) ?_
    intro a' ha
    simp only [Act.put, List.setIfInBounds_toArray, List.set_cons_succ, List.set_cons_zero] at ha
    subst ha
    refine rg_det rfl rfl rfl (fun K hK => ?_)
    go_big_quiet_op
    refine hK _ ?_; clear hK K
    refine rg_det rfl rfl rfl (fun K hK => ?_)
    go_big_quiet_op
    refine hK _ ?_; clear hK K
    refine rg_det rfl rfl rfl (fun K hK => ?_)
    go_big_quiet_op
    refine hK _ ?_; clear hK K
    refine rg_det rfl rfl rfl (fun K hK => ?_)
    go_big_quiet_op
    refine hK _ ?_; clear hK K
    refine rg_det rfl rfl rfl (fun K hK => ?_)
    go_big_quiet_op
    refine hK _ ?_; clear hK K
    refine rg_rel rfl rfl (fun W1 hW1 hF => step_callr en_attestor_attestorref05_Vertex (mVertex a p.length ha6 hp60 W1) rfl rfl) ?_
    intro n20 m20 v20 hn20 hm20 hd20 hf20 a' ha
    simp only [Act.put, List.setIfInBounds_toArray, List.set_cons_succ, List.set_cons_zero] at ha
    subst ha
    obtain ⟨A20, cap20, rfl⟩ := hf20
    refine rg_det rfl rfl rfl (fun K hK => ?_)
    go_big_quiet_op
    refine hK _ ?_; clear hK K
    refine rg_det rfl rfl rfl (fun K hK => ?_)
    go_big_quiet_op
    refine hK _ ?_; clear hK K
    refine rg_rel rfl rfl (fun W1 hW1 hF => step_callr en_attestor_attestorref05_Vertex (mVertex b p.length hb6 hp60 W1) rfl rfl) ?_
    intro n23 m23 v23 hn23 hm23 hd23 hf23 a' ha
    simp only [Act.put, List.setIfInBounds_toArray, List.set_cons_succ, List.set_cons_zero] at ha
    subst ha
    obtain ⟨A23, cap23, rfl⟩ := hf23
    refine rg_val rfl rfl (fun W1 hW1 hF => step_callv en_attestor_mle_Eq (E5.out W1 _ _ _ _ _ _ (BX.trans ((grw_below hW1).mono BX.size)) (pick_last (pick_init hF) (by kernel_rfl)).2 (pick_last hF (by kernel_rfl)).2) rfl rfl) ?_
    intro a' ha
    simp only [Act.put, List.setIfInBounds_toArray, List.set_cons_succ, List.set_cons_zero] at ha
    subst ha
    refine rg_det rfl rfl rfl (fun K hK => ?_)
    go_big_quiet_op
    refine hK _ ?_; clear hK K
    refine rg_det rfl rfl rfl (fun K hK => ?_)
    go_big_quiet_op
    refine hK _ ?_; clear hK K
    refine rg_det rfl rfl rfl (fun K hK => ?_)
    go_big_quiet_op
    refine hK _ ?_; clear hK K
    refine rg_det rfl rfl rfl (fun K hK => ?_)
    go_big_quiet_op
    refine hK _ ?_; clear hK K
    refine rg_det rfl rfl rfl (fun K hK => ?_)
    go_big_quiet_op
    refine hK _ ?_; clear hK K
    refine rg_det rfl rfl rfl (fun K hK => ?_)
    go_big_quiet_op
    refine hK _ ?_; clear hK K
    refine rg_rel rfl rfl (fun W1 hW1 hF => step_callr en_attestor_attestorref05_Vertex (mVertex a p.length ha6 hp60 W1) rfl rfl) ?_
    intro n31 m31 v31 hn31 hm31 hd31 hf31 a' ha
    simp only [Act.put, List.setIfInBounds_toArray, List.set_cons_succ, List.set_cons_zero] at ha
    subst ha
    obtain ⟨A31, cap31, rfl⟩ := hf31
    refine rg_det rfl rfl rfl (fun K hK => ?_)
    go_big_quiet_op
    refine hK _ ?_; clear hK K
    refine rg_val rfl rfl (fun W1 hW1 hF => step_callv en_attestor_mle_Eq (E6.out W1 _ _ _ (BX.trans ((grw_below hW1).mono BX.size)) (pick_last hF (by kernel_rfl)).2) rfl rfl) ?_
    intro a' ha
    simp only [Act.put, List.setIfInBounds_toArray, List.set_cons_succ, List.set_cons_zero] at ha
    subst ha
    refine rg_det rfl rfl rfl (fun K hK => ?_)
    go_big_quiet_op
    refine hK _ ?_; clear hK K
    refine rg_det rfl rfl rfl (fun K hK => ?_)
    go_big_quiet_op
    refine hK _ ?_; clear hK K
    refine rg_val rfl rfl (fun W1 hW1 hF => step_callv en_attestor_mle_EqIndex (E7.out W1 (BX.trans ((grw_below hW1).mono BX.size))) rfl rfl) ?_
    intro a' ha
    simp only [Act.put, List.setIfInBounds_toArray, List.set_cons_succ, List.set_cons_zero] at ha
    subst ha
    refine rg_det rfl rfl rfl (fun K hK => ?_)
    go_big_quiet_op
    refine hK _ ?_; clear hK K
    refine rg_det rfl rfl rfl (fun K hK => ?_)
    go_big_quiet_op
    refine hK _ ?_; clear hK K
    refine rg_det rfl rfl rfl (fun K hK => ?_)
    go_big_quiet_op
    refine hK _ ?_; clear hK K
    refine rg_det rfl rfl rfl (fun K hK => ?_)
    go_big_quiet_op
    refine hK _ ?_; clear hK K
    refine rg_det rfl rfl rfl (fun K hK => ?_)
    go_big_quiet_op
    refine hK _ ?_; clear hK K
    refine rg_nil (fun w' hw' hF => ?_)
    obtain ⟨z2, rfl⟩ := hw'
    simp only [List.drop_succ_cons, List.drop_zero]
    clear hF f1
    go_wp2_with fail
    go_ret
    exact ⟨rfl, hBz.trans ((BX.trans (z2.h.mono BX.size)).mono hBz.size)⟩
  · have hb1 : ((a : Int) == (b : Int)) = false := by rw [beq_eq_false_iff_ne]; omega
    rw [if_neg hab] at E5
    clear hab
    go_wp2_with fail
    refine wp_stk1 fun X BX hz5 bX => ?_
    have bX : Blk X z.w.heap.size 27 #[.int .u64 (fv (0 : E).a), .int .u64 (fv (0 : E).b)] := bX
    clear hb1 hz5
    obtain ⟨want, hwant⟩ : ∃ want, want = (0 : E) := ⟨_, rfl⟩
    rw [← hwant] at E5 bX
    clear hwant
    have f1 := gw_blk bX
    refine wp_region_rg 42 [(2, Spec.val (.agg #[.int .u64 (fv (y).a), .int .u64 (fv (y).b)])), (5, Spec.val (.agg #[.int .u64 (fv (y).a), .int .u64 (fv (y).b)])), (10, Spec.val (.agg #[.int .u64 (fv (y).a), .int .u64 (fv (y).b)])), (12, Spec.rel (ExtA (tabE p)) (SlF (tabE p).length)), (14, Spec.val (.agg #[.int .u64 (fv (y).a), .int .u64 (fv (y).b)])), (20, Spec.rel (ExtA (vertex a p.length)) (SlF (vertex a p.length).length)), (23, Spec.rel (ExtA (vertex b p.length)) (SlF (vertex b p.length).length)), (24, Spec.val (.agg #[.int .u64 (fv (want).a), .int .u64 (fv (want).b)])), (31, Spec.rel (ExtA (vertex a p.length)) (SlF (vertex a p.length).length)), (33, Spec.val (.agg #[.int .u64 (fv (eqi a s).a), .int .u64 (fv (eqi a s).b)])), (36, Spec.val (.agg #[.int .u64 (fv (eqi a s).a), .int .u64 (fv (eqi a s).b)]))] (by kernel_rfl) (by kernel_rfl) (by kernel_rfl) ⟨fit_ext, fit_ext, fit_ext, fit_ext, trivial⟩ ?_
    refine rg_det rfl rfl rfl (fun K hK => ?_)
    go_big_quiet_op
    refine hK _ ?_; clear hK K
    refine rg_det rfl rfl rfl (fun K hK => ?_)
    go_big_quiet_op
    refine hK _ ?_; clear hK K
    refine rg_val rfl rfl (fun W1 hW1 hF => step_callv en_attestor_mle_Eq (E1.out W1 (BX.trans ((grw_below hW1).mono BX.size))) rfl rfl) ?_
    intro a' ha
    simp only [Act.put, List.setIfInBounds_toArray, List.set_cons_succ, List.set_cons_zero] at ha
    subst ha
    refine rg_det rfl rfl rfl (fun K hK => ?_)
    go_big_quiet_op
    refine hK _ ?_; clear hK K
    refine rg_det rfl rfl rfl (fun K hK => ?_)
    go_big_quiet_op
    refine hK _ ?_; clear hK K
    refine rg_val rfl rfl (fun W1 hW1 hF => step_callv en_attestor_mle_Eq (E2.out W1 (BX.trans ((grw_below hW1).mono BX.size))) rfl rfl) ?_
    intro a' ha
    simp only [Act.put, List.setIfInBounds_toArray, List.set_cons_succ, List.set_cons_zero] at ha
    subst ha
    refine rg_det rfl rfl rfl (fun K hK => ?_)
    go_big_quiet_op
    refine hK _ ?_; clear hK K
    refine rg_det rfl rfl rfl (fun K hK => ?_)
    go_big_quiet_op
    refine hK _ ?_; clear hK K
    refine rg_det rfl rfl rfl (fun K hK => ?_)
    go_big_quiet_op
    refine hK _ ?_; clear hK K
    refine rg_det rfl rfl rfl (fun K hK => ?_)
    go_big_quiet_op
    refine hK _ ?_; clear hK K
    refine rg_val rfl rfl (fun W1 hW1 hF => step_callv en_attestor_mle_Eq (E1.out W1 (BX.trans ((grw_below hW1).mono BX.size))) rfl rfl) ?_
    intro a' ha
    simp only [Act.put, List.setIfInBounds_toArray, List.set_cons_succ, List.set_cons_zero] at ha
    subst ha
    refine rg_det rfl rfl rfl (fun K hK => ?_)
    go_big_quiet_op
    refine hK _ ?_; clear hK K
    refine rg_rel rfl rfl (fun W1 hW1 hF => step_callr en_attestor_mle_EqTable (E3.out W1 (BX.trans ((grw_below hW1).mono BX.size))) rfl rfl) ?_
    intro n12 m12 v12 hn12 hm12 hd12 hf12 a' ha
    simp only [Act.put, List.setIfInBounds_toArray, List.set_cons_succ, List.set_cons_zero] at ha
    subst ha
    obtain ⟨A12, cap12, rfl⟩ := hf12
    refine rg_det rfl rfl rfl (fun K hK => ?_)
    go_big_quiet_op
    refine hK _ ?_; clear hK K
    refine rg_val rfl rfl (fun W1 hW1 hF => step_callv en_attestor_mle_Eval (E4.out W1 _ _ _ (BX.trans ((grw_below hW1).mono BX.size)) (pick_last hF (by kernel_rfl)).2) rfl rfl) ?_
    intro a' ha
    simp only [Act.put, List.setIfInBounds_toArray, List.set_cons_succ, List.set_cons_zero] at ha
    subst ha
    refine rg_det rfl rfl rfl (fun K hK => ?_)
    go_big_quiet_op
    refine hK _ ?_; clear hK K
    refine rg_det rfl rfl rfl (fun K hK => ?_)
    go_big_quiet_op
    refine hK _ ?_; clear hK K
    refine rg_det rfl rfl rfl (fun K hK => ?_)
    go_big_quiet_op
    refine hK _ ?_; clear hK K
    refine rg_det rfl rfl rfl (fun K hK => ?_)
    go_big_quiet_op
    refine hK _ ?_; clear hK K
    refine rg_det rfl rfl rfl (fun K hK => ?_)
    go_big_quiet_op
    refine hK _ ?_; clear hK K
    refine rg_rel rfl rfl (fun W1 hW1 hF => step_callr en_attestor_attestorref05_Vertex (mVertex a p.length ha6 hp60 W1) rfl rfl) ?_
    intro n20 m20 v20 hn20 hm20 hd20 hf20 a' ha
    simp only [Act.put, List.setIfInBounds_toArray, List.set_cons_succ, List.set_cons_zero] at ha
    subst ha
    obtain ⟨A20, cap20, rfl⟩ := hf20
    refine rg_det rfl rfl rfl (fun K hK => ?_)
    go_big_quiet_op
    refine hK _ ?_; clear hK K
    refine rg_det rfl rfl rfl (fun K hK => ?_)
    go_big_quiet_op
    refine hK _ ?_; clear hK K
    refine rg_rel rfl rfl (fun W1 hW1 hF => step_callr en_attestor_attestorref05_Vertex (mVertex b p.length hb6 hp60 W1) rfl rfl) ?_
    intro n23 m23 v23 hn23 hm23 hd23 hf23 a' ha
    simp only [Act.put, List.setIfInBounds_toArray, List.set_cons_succ, List.set_cons_zero] at ha
    subst ha
    obtain ⟨A23, cap23, rfl⟩ := hf23
    refine rg_val rfl rfl (fun W1 hW1 hF => step_callv en_attestor_mle_Eq (E5.out W1 _ _ _ _ _ _ (BX.trans ((grw_below hW1).mono BX.size)) (pick_last (pick_init hF) (by kernel_rfl)).2 (pick_last hF (by kernel_rfl)).2) rfl rfl) ?_
    intro a' ha
    simp only [Act.put, List.setIfInBounds_toArray, List.set_cons_succ, List.set_cons_zero] at ha
    subst ha
    refine rg_det rfl rfl rfl (fun K hK => ?_)
    go_big_quiet_op
    refine hK _ ?_; clear hK K
    refine rg_det rfl rfl rfl (fun K hK => ?_)
    go_big_quiet_op
    refine hK _ ?_; clear hK K
    refine rg_det rfl rfl rfl (fun K hK => ?_)
    go_big_quiet_op
    refine hK _ ?_; clear hK K
    refine rg_det rfl rfl rfl (fun K hK => ?_)
    go_big_quiet_op
    refine hK _ ?_; clear hK K
    refine rg_det rfl rfl rfl (fun K hK => ?_)
    go_big_quiet_op
    refine hK _ ?_; clear hK K
    refine rg_det rfl rfl rfl (fun K hK => ?_)
    go_big_quiet_op
    refine hK _ ?_; clear hK K
    refine rg_rel rfl rfl (fun W1 hW1 hF => step_callr en_attestor_attestorref05_Vertex (mVertex a p.length ha6 hp60 W1) rfl rfl) ?_
    intro n31 m31 v31 hn31 hm31 hd31 hf31 a' ha
    simp only [Act.put, List.setIfInBounds_toArray, List.set_cons_succ, List.set_cons_zero] at ha
    subst ha
    obtain ⟨A31, cap31, rfl⟩ := hf31
    refine rg_det rfl rfl rfl (fun K hK => ?_)
    go_big_quiet_op
    refine hK _ ?_; clear hK K
    refine rg_val rfl rfl (fun W1 hW1 hF => step_callv en_attestor_mle_Eq (E6.out W1 _ _ _ (BX.trans ((grw_below hW1).mono BX.size)) (pick_last hF (by kernel_rfl)).2) rfl rfl) ?_
    intro a' ha
    simp only [Act.put, List.setIfInBounds_toArray, List.set_cons_succ, List.set_cons_zero] at ha
    subst ha
    refine rg_det rfl rfl rfl (fun K hK => ?_)
    go_big_quiet_op
    refine hK _ ?_; clear hK K
    refine rg_det rfl rfl rfl (fun K hK => ?_)
    go_big_quiet_op
    refine hK _ ?_; clear hK K
    refine rg_val rfl rfl (fun W1 hW1 hF => step_callv en_attestor_mle_EqIndex (E7.out W1 (BX.trans ((grw_below hW1).mono BX.size))) rfl rfl) ?_
    intro a' ha
    simp only [Act.put, List.setIfInBounds_toArray, List.set_cons_succ, List.set_cons_zero] at ha
    subst ha
    refine rg_det rfl rfl rfl (fun K hK => ?_)
    go_big_quiet_op
    refine hK _ ?_; clear hK K
    refine rg_det rfl rfl rfl (fun K hK => ?_)
    go_big_quiet_op
    refine hK _ ?_; clear hK K
    refine rg_det rfl rfl rfl (fun K hK => ?_)
    go_big_quiet_op
    refine hK _ ?_; clear hK K
    refine rg_det rfl rfl rfl (fun K hK => ?_)
    go_big_quiet_op
    refine hK _ ?_; clear hK K
    refine rg_det rfl rfl rfl (fun K hK => ?_)
    go_big_quiet_op
    refine hK _ ?_; clear hK K
    refine rg_nil (fun w' hw' hF => ?_)
    obtain ⟨z2, rfl⟩ := hw'
    simp only [List.drop_succ_cons, List.drop_zero]
    clear hF f1
    go_wp2_with fail
    go_ret
    exact ⟨rfl, hBz.trans ((BX.trans (z2.h.mono BX.size)).mono hBz.size)⟩
end Go.Proofs.YtphokpkigbonlaaDoor
