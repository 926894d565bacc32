/-
  BatchWeights: the walk.
-/
import Derived.Test.YtipaecageimnnaaDoorQ21
import Derived.Test.YtipaecageimnnaaDoorRs6
namespace Go.Proofs.YtipaecageimnnaaDoor
open Go.RowKit

attribute [local irreducible] wpRg
set_option maxRecDepth 100000 in
set_option maxHeartbeats 4000000 in
theorem wkBatchWeights (q : Q21) (vT vL vC : Value) (w : World) (h : Q21S w.heap.size w q vT vL vC) (hL : Laid w) :
    Calls Tryd.prog 6 #[qv21 vT vL vC q] w (Ret (.bool true) w) := by
  have HQ := Lib.hid (fun W (hW : Below w.heap.size w W) => gProblem q vT vL vC W (h.keep hW))
  have HL := Lib.hid (fun W (hW : Below w.heap.size w W) => hL.keep hW)
  have hk4 := q.hk
  have HT := Lib.hid q.ht
  have HC := Lib.hid q.hc
  have HU := Lib.hid (fun us => @Q21.us q us)
  have hp4 : 2 ^ q.k ≤ 2 ^ 4 := Nat.pow_le_pow_right (by decide) hk4
  have hp0 : 0 < 2 ^ q.k := Nat.two_pow_pos _
  unfold qv21 at *
  clear h hL
  go_enter Tryd.func6, Tryd.ntmps6
  go_wp2_with fail
  refine calls_stk1 fun W1 hB1 hz1 b1 => ?_
  refine (lSanity21 W1 (HL.out _ hB1)).mono ?_
  rintro e w1 ⟨rfl, hb1⟩
  have h1 := hB1.trans (hb1.mono hB1.size)
  have f1 := (b1.keep hb1).cell
  go_wp2_with fail
  refine (HQ.out w1 h1).mono ?_
  rintro e w2 ⟨v1, v2, AC, cc, us, rfl, T2, U2, hus, C2, hb2⟩
  obtain ⟨hup, hun⟩ := HU.out us hus
  have h2 := h1.trans (hb2.mono h1.size)
  clear f1 HQ HU hus
  generalize q.t = T at *
  generalize q.c = co at *
  generalize q.r = r at *
  generalize q.k = k at *
  obtain ⟨AT, cT, rfl⟩ := Rd.len T2
  obtain ⟨AU, cU, rfl⟩ := U2.len
  go_upto_region 3 with (fail)
  refine wp_stk1 fun W3 hB3 hz3 b3 => ?_
  have h3 := h2.trans (hB3.mono h2.size)
  go_wp2_with fail
  refine (rTrue21 T us (.slice AT T.length cT) (.slice AU us.length cU) _ _ _ _ W3 (hB3.size) (Rd.keep T2 hB3) (U2.keep hB3) (by rw [HT.out]; omega) (by omega) (fun x hx => by rw [HT.out, hup x hx])).mono ?_
  rintro e w4 ⟨v4, rfl, U4, hb4⟩
  have hB4 := hB3.trans (hb4.mono hB3.size)
  have h4 := h2.trans (hB4.mono h2.size)
  have hn4 : (truB T us).length ≤ 5 := by rw [truB_length]; exact hun
  have hp4' := truB_p (T := T) hup
  have ht4 := truB_true T us
  generalize truB T us = cs at *
  obtain ⟨A4, c4, rfl⟩ := U4.len
  have T4 := Rd.keep T2 hB4
  have C4 := Rd.keep C2 hB4
  have f3 := (b3.keep hb4).cell
  go_wp2_with fail
  refine (gSumB T cs r (.slice AT T.length cT) (.slice A4 cs.length c4) _ _ _ _ w4 (Nat.le_refl _) hB4.size T4 U4 (by rw [HT.out]; exact hp0) (by rw [HT.out]; omega) (fun x hx => by rw [HT.out, hp4' x hx]) (HL.out _ h4)).mono ?_
  rintro e w5 ⟨v5, v6, rfl, S5, hb5⟩
  clear f3
  have hvb : cmbE (fun c => c.v) (pwL r 1 cs) = totE (tabB T cs r) trmB := by
    rw [totB_val T cs r fun x hx => by rw [HT.out, hp4' x hx]]
    exact cmbE_congr _ _ _ fun x hx => ht4 x.2 (pwL_mem r _ _ x hx)
  have hall : AllLen (tabB T cs r) T.length := tabB_all T cs r
  rw [hvb]
  have hB5 := hB4.trans (hb5.mono hB4.size)
  have h5 := h2.trans (hB5.mono h2.size)
  have hBb := hb4.trans (hb5.mono hb4.size)
  obtain ⟨AS, cS, hv⟩ := S5.ht.len
  replace hv : v5 = .slice AS 2 cS := hv
  subst hv
  obtain ⟨gs, os, rfl, ls, qs⟩ := tab_cell S5.ht (Nat.zero_lt_succ _)
  obtain ⟨AB, cB, z1, t1⟩ := qs 1 _ rfl
  have HW := Lib.hid (show ∀ W1, Below w5.heap.size w5 W1 → Calls Tryd.prog 24 #[.slice A4 cs.length c4, ev r, .slice AC co.length cc] W1 (Ret (ev (wgtC cs r co)) W1) from fun W1 hW =>
    gWeightB cs r co _ _ _ _ _ _ W1 (by have := hb5.size; have := hW.size; omega) ((U4.keep hb5).keep hW) (Rd.keep (Rd.keep C4 hb5) hW) (fun x hx => by rw [HC.out, hp4' x hx]) (HL.out _ (h5.trans (hW.mono h5.size))))
  have HE := Lib.hid (show ∀ W1, Below w5.heap.size w5 W1 → Calls Tryd.prog 12 #[.slice AB (accB T.length (pwL r 1 cs)).length cB, .slice AC co.length cc] W1 (Ret (ev (wgtC cs r co)) W1) from fun W1 hW => by
    have hl : (accB T.length (pwL r 1 cs)).length = 2 ^ co.length := by rw [accB_len, HT.out, HC.out]
    rw [← accB_mev cs r co (fun x hx => by rw [HC.out, hp4' x hx]), show 2 ^ co.length = T.length by rw [HC.out, HT.out], ← dotE_all _ co hl]
    exact rEval _ co (by rw [accB_len, HT.out]; omega) (by rw [HC.out]; omega) _ _ _ _ _ _ W1 (Rd.keep t1 hW) (Rd.keep (Rd.keep C4 hb5) hW))
  have HS := Lib.hid (show ∀ W1, Below w5.heap.size w5 W1 → Calls Tryd.prog 26 #[sv (.slice (some ⟨gs, os, none⟩) 2 cS) v6] W1 (Ret (ev (totE (tabB T cs r) trmB)) W1) from fun W1 hW =>
    rTotal (tabB T cs r) T.length _ _ trmB _ _ W1 (S5.keep hW) (Nat.zero_lt_succ _) (show 2 ≤ 1000 by decide) hall (by rw [HT.out]; omega))
  have hla : (accB T.length (pwL r 1 cs)).length = T.length := accB_len _ _
  rw [hla] at z1 HE
  obtain ⟨AP, cP, rfl⟩ := S5.hp.len
  generalize totE (tabB T cs r) trmB = s at *
  generalize wgtC cs r co = y at *
  clear T4 C4 U4 S5 U2 T2 C2 ht4 hp4' hup HT HC qs t1 hla hall hvb
  unfold sv ev at *
  have b5 := (b3.keep hBb)
  go_upto_region 5 with (fail)
  refine wp_stk2 fun W6 hB6 hz6 b8 b9 => ?_
  have h6 := h5.trans (hB6.mono h5.size)
  have e8 := b8.cell
  have ze := (hB6.cell (p := ⟨gs, os + 1, none⟩) ls).trans z1
  have ls6 := Nat.lt_of_lt_of_le ls hB6.size
  have b6 := b5.keep hB6
  clear b5 z1 ls
  go_upto_region 7 with (fail)
  clear e8
  have y3 := gw_blk b6
  have y8 := gw_blk b8
  have y9 := gw_blk b9
  have yz := gw_cell ls6 ze
  refine wp_region_rg 23 [(7, Spec.val (.agg #[.int .u64 (fv (y).a), .int .u64 (fv (y).b)])), (14, Spec.val (.agg #[.int .u64 (fv (y).a), .int .u64 (fv (y).b)])), (19, Spec.val (.agg #[.int .u64 (fv (s).a), .int .u64 (fv (s).b)]))] (by kernel_rfl) (by kernel_rfl) (by kernel_rfl) trivial ?_
  refine rg_det rfl rfl rfl (fun K hK => ?_)
  go_big_quiet_op
  refine hK _ ?_; clear hK K
  refine rg_det rfl rfl rfl (fun K hK => ?_)
  go_big_quiet_op
  refine hK _ ?_; clear hK K
  refine rg_det rfl rfl rfl (fun K hK => ?_)
  go_big_quiet_op
  refine hK _ ?_; clear hK K
  refine rg_det rfl rfl rfl (fun K hK => ?_)
  go_big_quiet_op
  refine hK _ ?_; clear hK K
  refine rg_det rfl rfl rfl (fun K hK => ?_)
  go_big_quiet_op
  refine hK _ ?_; clear hK K
  refine rg_det rfl rfl rfl (fun K hK => ?_)
  go_big_quiet_op
  refine hK _ ?_; clear hK K
  refine rg_det rfl rfl rfl (fun K hK => ?_)
  go_big_quiet_op
  refine hK _ ?_; clear hK K
  refine rg_val rfl rfl (fun W1 hW1 hF => step_callv en_attestor_batch_Weight (HW.out W1 (hB6.trans ((grw_below hW1).mono hB6.size))) rfl rfl) ?_
  intro a' ha
  simp only [Act.put, List.setIfInBounds_toArray, List.set_cons_succ, List.set_cons_zero] at ha
  subst ha
  refine rg_det rfl rfl rfl (fun K hK => ?_)
  go_big_quiet_op
  refine hK _ ?_; clear hK K
  refine rg_det rfl rfl rfl (fun K hK => ?_)
  go_big_quiet_op
  refine hK _ ?_; clear hK K
  refine rg_det rfl rfl rfl (fun K hK => ?_)
  go_big_quiet_op
  refine hK _ ?_; clear hK K
  refine rg_det rfl rfl rfl (fun K hK => ?_)
  go_big_quiet_op
  refine hK _ ?_; clear hK K
  refine rg_det rfl rfl rfl (fun K hK => ?_)
  go_big_quiet_op
  refine hK _ ?_; clear hK K
  refine rg_det rfl rfl rfl (fun K hK => ?_)
  go_big_quiet_op
  refine hK _ ?_; clear hK K
  refine rg_val rfl rfl (fun W1 hW1 hF => step_callv en_attestor_attestorref05_Eval (HE.out W1 (hB6.trans ((grw_below hW1).mono hB6.size))) rfl rfl) ?_
  intro a' ha
  simp only [Act.put, List.setIfInBounds_toArray, List.set_cons_succ, List.set_cons_zero] at ha
  subst ha
  refine rg_det rfl rfl rfl (fun K hK => ?_)
  go_big_quiet_op
  refine hK _ ?_; clear hK K
  refine rg_det rfl rfl rfl (fun K hK => ?_)
  go_big_quiet_op
  refine hK _ ?_; clear hK K
  refine rg_det rfl rfl rfl (fun K hK => ?_)
  go_big_quiet_op
  refine hK _ ?_; clear hK K
  refine rg_det rfl rfl rfl (fun K hK => ?_)
  go_big_quiet_op
  refine hK _ ?_; clear hK K
  refine rg_val rfl rfl (fun W1 hW1 hF => step_callv en_attestor_attestorref06_Total (HS.out W1 (hB6.trans ((grw_below hW1).mono hB6.size))) rfl rfl) ?_
  intro a' ha
  simp only [Act.put, List.setIfInBounds_toArray, List.set_cons_succ, List.set_cons_zero] at ha
  subst ha
  refine rg_det rfl rfl rfl (fun K hK => ?_)
  go_big_quiet_op
  refine hK _ ?_; clear hK K
  refine rg_det rfl rfl rfl (fun K hK => ?_)
  go_big_quiet_op
  refine hK _ ?_; clear hK K
  refine rg_det rfl rfl rfl (fun K hK => ?_)
  go_big_quiet_op
  refine hK _ ?_; clear hK K
  refine rg_nil (fun w' hw' hF => ?_)
  obtain ⟨z9, rfl⟩ := hw'
  simp only [List.drop_succ_cons, List.drop_zero]
  go_wp2_with fail
  go_ret
  exact ⟨rfl, h6.trans (z9.h.mono h6.size)⟩
end Go.Proofs.YtipaecageimnnaaDoor
