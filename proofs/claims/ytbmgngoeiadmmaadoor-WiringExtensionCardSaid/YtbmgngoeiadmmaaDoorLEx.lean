/-
  WiringExtension: the walk.
-/
import Derived.Test.YtbmgngoeiadmmaaDoorLay
import Derived.Test.YtbmgngoeiadmmaaDoorMlx
import Derived.Test.YtbmgngoeiadmmaaDoorMm2
namespace Go.Proofs.YtbmgngoeiadmmaaDoor
open Go.RowKit

theorem wpListC_assign {P : Program} {ops : Array Oper} {rest : List Oper} {o : Oper} {a : Act} {W0 w : World} {Q : Exit → Act → World → Prop} (hgd : o.guard = none) (x : Operand) (ho : o.op = .assign x) (hw : Grw W0 w) (h : wpListC P ops Q (Grw W0) rest (a.put o.dst (a.eval x)) w) : wpListC P ops Q (Grw W0) (o :: rest) a w :=
  ⟨hgd, wp_of_step (by unfold stepAt; rw [BigFrame.run_assign x ho]; exact ⟨hw, h⟩)⟩
theorem ec_ones (xs : List E) : ∀ u ∈ xs.flatMap ec, u.oneCell' = true := fun u hu => by obtain ⟨x, _, hx⟩ := List.mem_flatMap.1 hu; exact ec_one x u hx
theorem coefs_get (p q : List E) (gs : List Gt) (us : List E) (k : Nat) (h : k < 4) : (coefs p q gs us)[k]? = some (coef p q gs us k) := by
  unfold coefs
  rw [List.getElem?_map, List.getElem?_range h]; rfl
theorem coefs_len (p q : List E) (gs : List Gt) (us : List E) : (coefs p q gs us).length = 4 := by simp [coefs]
set_option maxRecDepth 100000 in
set_option maxHeartbeats 8000000 in
theorem wkExtension (q : Qy) (vL vU vP vQ : Value) (zi zj : Int) (w : World) (h : QyS w.heap.size w q vL vU vP vQ) (hzi : 0 ≤ zi ∧ zi < 256) (hzj : 0 ≤ zj ∧ zj < 256) (hL : Laid w) :
    Calls Tryd.prog 10 #[qv vL vU vP vQ q, .int .u8 zi, .int .u8 zj] w (Ret (.bool true) w) := by
  obtain ⟨hzi0, hzi1⟩ := hzi
  obtain ⟨hzj0, hzj1⟩ := hzj
  obtain ⟨zi, rfl⟩ := Int.eq_ofNat_of_zero_le hzi0
  obtain ⟨zj, rfl⟩ := Int.eq_ofNat_of_zero_le hzj0
  unfold qv
  obtain ⟨i0, hi0, iz0, iz1, iz2⟩ := info_parts ext_info
  have hgl := q.gs_len
  go_enter Tryd.func10, Tryd.ntmps10
  go_wp2_with fail
  refine calls_stk1 fun W1 hB1 hz1 b1 => ?_
  refine (lSanity W1 (hL.keep hB1)).mono ?_
  rintro e w2 ⟨rfl, hb2⟩
  have hB2 := hB1.trans (hb2.mono hB1.size)
  have e1 := (b1.keep hb2).cell
  go_wp2_with fail
  refine (lMade q vL vU vP vQ w.heap.size w2 (h.keep hB2) hB2.size).mono ?_
  rintro e w3 ⟨a, b, c, d, rfl, m1, m2, m3, m4, hb3⟩
  obtain ⟨Aa, capa, rfl⟩ := Rd.len m1
  obtain ⟨Ab, capb, rfl⟩ := Rd.len m2
  obtain ⟨Ac, capc, rfl⟩ := Rd.len m3
  obtain ⟨Ad, capd, rfl⟩ := Rd.len m4
  have hB3 := hB2.trans (hb3.mono hB2.size)
  have Ly := lay_made h.K.1 m1 m2 m3 m4 (hL.keep hB3)
  have hul := q.us_len
  have HUL := Lib.hid hul
  have hpq := q.p_len.trans q.q_len.symm
  have HPQ := Lib.hid hpq
  clear hul hpq e1 h m1 m2 m3 m4
  unfold endsV
  generalize q.gs = gs at *
  generalize q.us = us at *
  generalize q.p = pp at *
  generalize q.q = qq at *
  generalize q.x = x at *
  generalize q.y = y at *
  have hpl := Ly.pl
  have hHT : ∀ t ∈ gs.zip us, t.1.L < 2 ^ pp.length ∧ t.1.R < 2 ^ pp.length := fun t ht => by
    have := Ly.ok t.1 (List.of_mem_zip ht).1
    rwa [← HPQ.out] at this
  have HHT := Lib.hid hHT
  clear hHT
  go_wp2_with fail
  refine wp_stk1 fun W4 hB4 hz4 b4 => ?_
  have L4 := Ly.keep hB4
  have hBw4 := hB3.trans (hB4.mono hB3.size)
  have c1 := gw_blk b4
  refine wp_region_rg 8 [(3, Spec.rel (TabA (tabsT pp.length (gs.zip us))) (SlF 4)), (7, Spec.rel (ExtA (coefs pp qq gs us)) (SlF 4))] (by kernel_rfl) (by kernel_rfl) (by kernel_rfl) ⟨fit_tab, fit_ext, trivial⟩ ?_
  refine rg_det rfl rfl rfl (fun K hK => ?_)
  go_big_quiet_op
  refine hK _ ?_; clear hK K
  refine rg_det rfl rfl rfl (fun K hK => ?_)
  go_big_quiet_op
  refine hK _ ?_; clear hK K
  refine rg_det rfl rfl rfl (fun K hK => ?_)
  go_big_quiet_op
  refine hK _ ?_; clear hK K
  refine rg_rel rfl rfl (fun W1 hW1 hF => step_callr en_attestor_wiring_Tables ((L4.grw hW1).tables HPQ.out.symm) rfl rfl) ?_
  intro n3 m3 v3 hn3 hm3 hd3 hf3 a' ha
  simp only [Act.put, List.setIfInBounds_toArray, List.set_cons_succ, List.set_cons_zero] at ha
  subst ha
  obtain ⟨A3, cap3, rfl⟩ := hf3
  refine rg_det rfl rfl rfl (fun K hK => ?_)
  go_big_quiet_op
  refine hK _ ?_; clear hK K
  refine rg_det rfl rfl rfl (fun K hK => ?_)
  go_big_quiet_op
  refine hK _ ?_; clear hK K
  refine rg_det rfl rfl rfl (fun K hK => ?_)
  go_big_quiet_op
  refine hK _ ?_; clear hK K
  refine rg_rel rfl rfl (fun W1 hW1 hF => step_callr en_attestor_wiring_Coefficients ((L4.grw hW1).coef x y) rfl rfl) ?_
  intro n7 m7 v7 hn7 hm7 hd7 hf7 a' ha
  simp only [Act.put, List.setIfInBounds_toArray, List.set_cons_succ, List.set_cons_zero] at ha
  subst ha
  obtain ⟨A7, cap7, rfl⟩ := hf7
  refine rg_nil (fun w' hw' hF => ?_)
  obtain ⟨z, rfl⟩ := hw'
  simp only [List.drop_succ_cons, List.drop_zero]
  obtain ⟨hm7, t7⟩ := end_last hF
  obtain ⟨hm3, t3⟩ := end_last (end_init hF)
  have Lz := L4.keep z.h
  have b4z := b4.keep z.h
  have hBz := hBw4.trans (z.h.mono hBw4.size)
  clear hF c1 Ly L4
  obtain ⟨N, hN⟩ : ∃ N, N = 2 ^ pp.length := ⟨_, rfl⟩
  have hN0 : N ≠ 0 := by rw [hN]; exact Nat.pos_iff_ne_zero.1 (Nat.two_pow_pos _)
  have hN8 : N ≤ 8 := by rw [hN]; exact Nat.le_trans (Nat.pow_le_pow_right (by decide) hpl) (by decide)
  obtain ⟨a, ha⟩ : ∃ a, a = zi % N := ⟨_, rfl⟩
  obtain ⟨b, hb⟩ : ∃ b, b = zj % N := ⟨_, rfl⟩
  have hw : wrap64 ((2 : Int) ^ pp.length) = (N : Int) := by
    rw [show (2 : Int) ^ pp.length = (N : Int) by rw [hN]; simp]
    simp only [wrap64]; omega
  have ha1 : a < N := by rw [ha]; exact Nat.mod_lt _ (Nat.pos_of_ne_zero hN0)
  have hb1 : b < N := by rw [hb]; exact Nat.mod_lt _ (Nat.pos_of_ne_zero hN0)
  have hm1 : Int.tmod (zi : Int) (N : Int) = (a : Int) := by rw [ha]; rfl
  have hm2 : (zi : Int) % (N : Int) = (a : Int) := by rw [ha]; rfl
  have hm3 : Int.tmod (zj : Int) (N : Int) = (b : Int) := by rw [hb]; rfl
  have hm4 : (zj : Int) % (N : Int) = (b : Int) := by rw [hb]; rfl
  have HN := Lib.hid hN
  clear hN ha hb
  go_wp2_with fail
  refine wp_region_late 10 [5,6,7,8,9] [] (by kernel_rfl) (by kernel_rfl) (by kernel_rfl) (by kernel_rfl) (by intro _ _ d _ _ h; cases d <;> exact h) trivial ?_
  refine rg_det rfl rfl rfl (fun K hK => ?_)
  go_big_quiet_op
  refine hK _ ?_; clear hK K
  refine rg_det rfl rfl rfl (fun K hK => ?_)
  go_big_quiet_op
  refine hK _ ?_; clear hK K
  refine rg_det rfl rfl rfl (fun K hK => ?_)
  go_big_quiet_op
  refine hK _ ?_; clear hK K
  refine rg_det rfl rfl rfl (fun K hK => ?_)
  go_big_quiet_op
  refine hK _ ?_; clear hK K
  refine rg_det rfl rfl rfl (fun K hK => ?_)
  go_big_quiet_op
  refine hK _ ?_; clear hK K
  refine rg_det rfl rfl rfl (fun K hK => ?_)
  go_big_quiet_op
  refine hK _ ?_; clear hK K
  refine rg_det rfl rfl rfl (fun K hK => ?_)
  go_big_quiet_op
  refine hK _ ?_; clear hK K
  refine rg_det rfl rfl rfl (fun K hK => ?_)
  go_big_quiet_op
  refine hK _ ?_; clear hK K
  refine rg_det rfl rfl rfl (fun K hK => ?_)
  go_big_quiet_op
  refine hK _ ?_; clear hK K
  refine rg_det rfl rfl rfl (fun K hK => ?_)
  go_big_quiet_op
  refine hK _ ?_; clear hK K
  refine rg_nil (fun w' hw' hF => ?_)
  obtain ⟨z2, rfl⟩ := hw'
  simp only [List.drop_succ_cons, List.drop_zero]
  refine wpListC_assign rfl _ rfl ⟨z2, rfl⟩ (wpListC_assign rfl _ rfl ⟨z2, rfl⟩ (wpListC_nil ?_))
  have L2 := Lz.keep z2.h
  have c2 := b4z.keep z2.h
  have hB2z := hBz.trans (z2.h.mono hBz.size)
  have t7 := t7.keep z2.h
  have t3 := t3.keep z2.h
  clear hF hm1 hm2 hm3 hm4 hw
  have ha6 : a ≤ 1000000 := by omega
  have hb6 : b ≤ 1000000 := by omega
  have hp60 : pp.length ≤ 60 := by omega
  have hz2 := z2.h.size
  go_wp2_with fail
  refine (mVertex a pp.length ha6 hp60 _).mono ?_
  rintro e w6 ⟨vw6, rfl, tw6, hbw6⟩
  replace tw6 : ExtS _ _ w6 vw6 (vertex a pp.length) := tw6
  obtain ⟨Aw6, capw6, rfl⟩ := Rd.len tw6
  have hB6 := hB2z.trans (hbw6.mono hB2z.size)
  go_wp2_with fail
  refine (mVertex b pp.length hb6 hp60 _).mono ?_
  rintro e w7 ⟨vw7, rfl, tw7, hbw7⟩
  replace tw7 : ExtS _ _ w7 vw7 (vertex b pp.length) := tw7
  obtain ⟨Aw7, capw7, rfl⟩ := Rd.len tw7
  have hB7 := hB6.trans (hbw7.mono hB6.size)
  have B27 := hbw6.trans (hbw7.mono hbw6.size)
  have L7 := L2.keep B27
  have LV : Lay w7 gs us (vertex a pp.length) (vertex b pp.length) (.slice Aa gs.length capa) (.slice Ab us.length capb) (.slice Aw6 (vertex a pp.length).length capw6) (.slice Aw7 (vertex b pp.length).length capw7) :=
    ⟨L7.hl, L7.hu, (Rd.keep tw6 hbw7).wide (Nat.zero_le _) hbw7.size, tw7.wide (Nat.zero_le _) (Nat.le_refl _), L7.laid, L7.len, fun g hg => by
      have := L7.ok g hg
      rw [vertex_length, vertex_length]
      exact ⟨this.1, by rw [HPQ.out]; exact this.2⟩, by rw [vertex_length]; exact hpl, by rw [vertex_length]; exact hpl⟩
  have CV := LV.coef 0 0
  simp only [endsV, zero_a, zero_b, fv_zero] at CV
  go_wp2_with fail
  refine (CV).mono ?_
  rintro e w8 ⟨vw8, rfl, tw8, hbw8⟩
  replace tw8 : ExtS _ _ w8 vw8 (coefs (vertex a pp.length) (vertex b pp.length) gs us) := tw8
  obtain ⟨Aw8, capw8, rfl⟩ := Rd.len tw8
  have hB8 := hB7.trans (hbw8.mono hB7.size)
  rw [coefs_len] at tw8 ⊢
  have B28 := B27.trans (hbw8.mono B27.size)
  clear tw6 tw7 CV LV L7
  have c8 := c2.keep B28
  have e1 := c8.cell
  have hlt8 := c8.lt
  go_wp2_with (at_builtin; refine stop_in ?_)
  refine stop_out ?_
  refine stk1 (M := fun W => wpList _ _ _ _ _ W) fun W9 hB9 hz9 b9 => ?_
  have hs9 : W9.heap.size = w8.heap.size + 1 := hz9.out
  have L8 := L2.keep B28
  refine wpList_appB rfl _ _ rfl Tryd.underlying23 hi0 iz0 iz1 iz2 rfl (by decide) (cl := pp.flatMap ec) (base := w8.heap.size) (cs := []) (k := 0) (fun u hu => by obtain ⟨x, _, hx⟩ := List.mem_flatMap.1 hu; exact ec_one x u hx) rfl rfl (Rd.keep L8.hp hB9) ⟨rfl, .inr ⟨w8.heap.size, 0, #[], rfl, Nat.le_refl _, b9, Nat.le_refl _, Nat.zero_le _, rfl, rfl⟩⟩ (by unfold maxLen; omega) (by omega) (by omega) ?_
  intro v10 w10 hownw10 hgroww10 hBw10
  rw [Nat.zero_add, List.nil_append] at hownw10
  have B10 := hB9.trans hBw10
  replace e1 := (c8.keep B10).cell
  have L10 := L8.keep B10
  have hs10 := B10.size
  have hqq : qq.length ≤ 3 := L10.ql
  clear b9 hgroww10
  go_wp2_with (at_builtin; refine stop_in ?_)
  refine stop_out ?_
  refine wpList_appB rfl _ _ rfl Tryd.underlying23 hi0 iz0 iz1 iz2 rfl (by decide) (ec_ones qq) rfl rfl L10.hq hownw10 (by unfold maxLen; omega) (by omega) (by omega) ?_
  intro v11 w11 hown11 hgrow11 hBw11
  have B11 : Below w8.heap.size w8 w11 := B10.trans hBw11
  have jn : ExtS w8.heap.size w11.heap.size w11 v11 (pp ++ qq) := exts_of_own (n := pp.length + qq.length) (by rw [List.flatMap_append]; exact hown11) (by simp) (by omega) (Nat.le_refl _)
  obtain ⟨Aj, capj, rfl⟩ := Rd.len jn
  rw [List.length_append] at jn ⊢
  have B211 := B28.trans (B11.mono B28.size)
  have hBw11 := hB2z.trans (B211.mono hB2z.size)
  have T3 := TabS.keep t3 B211
  have T7 := Rd.keep t7 B211
  have T8 := Rd.keep tw8 B11
  have HM := Lib.hid (fun part => mev_tab pp.length part gs us pp qq rfl HPQ.out.symm HHT.out)
  have HV := Lib.hid (fun part => coef_vertex pp.length part a b gs us (by rw [← HN.out]; exact ha1) (by rw [← HN.out]; exact hb1) HHT.out)
  obtain ⟨gt, ot, capt, hv, -, -, -, p4, p5⟩ := tab_cells T3 (Nat.succ_pos _)
  cases hv
  clear hownw10 hown11 hgrow11 t3 t7 tw8 e1 T3 L8 L10 L2 Lz
  go_wp2_with fail
  go_loopw [18] (fun i wr => ∃ k : Nat, k ≤ 4 ∧ i = .int .i64 k ∧ Below w11.heap.size w11 wr) (fun i _ => 4 - (intOf i).toNat)
  case atStart => exact ⟨0, Nat.zero_le _, rfl, Below.refl _ _⟩
  case round =>
    obtain ⟨k, hk, rfl, hB⟩ := hrel
    have hBwr := hBw11.trans (hB.mono hBw11.size)
    by_cases hk4 : k < 4
    · obtain ⟨row, ca, sa⟩ := p5 k _ (tabsT_get _ _ k hk4)
      have ra := sa.keep hB
      have rj := Rd.keep jn hB
      have f1 := gw_cell (W := wr) (Nat.lt_of_lt_of_le p4 hB.size) ((hB.cell (p := ⟨gt, ot + k, none⟩) p4).trans ca)
      obtain ⟨M, hM⟩ : ∃ M, M = 2 ^ (2 * pp.length) := ⟨_, rfl⟩
      have htl : (tabT pp.length (gs.zip us) k).length = M := by rw [hM, tabT_len]
      have hM64 : M ≤ 64 := by rw [hM]; exact Nat.le_trans (Nat.pow_le_pow_right (by decide) (show 2 * pp.length ≤ 6 by omega)) (by decide)
      have hM0 : 0 < M := by rw [hM]; exact Nat.two_pow_pos _
      obtain ⟨gr, or, capr, hv, -, -, -, r4, r5⟩ := exts_cells (Rd.keep sa hB) (by rw [htl]; exact hM0)
      subst hv
      rw [htl] at f1
      have ra : ExtS n3 m3 wr (.slice (some ⟨gr, or, none⟩) M capr) (tabT pp.length (gs.zip us) k) := by rw [← htl]; exact ra
      obtain ⟨ix, hix⟩ : ∃ ix, ix = a + b * 2 ^ pp.length := ⟨_, rfl⟩
      have hixM : ix < M := by rw [hix, hM]; exact pair_lt (by rw [← HN.out]; exact ha1) (by rw [← HN.out]; exact hb1)
      obtain ⟨B, hBe⟩ : ∃ B, B = b * 2 ^ pp.length := ⟨_, rfl⟩
      have hB2 : (b : Int) * 2 ^ pp.length = (B : Int) := by rw [hBe]; simp
      have hii : (a : Int) + (B : Int) = (ix : Int) := by rw [hix, hBe]; simp
      have hwB : wrap64 (B : Int) = (B : Int) := by simp only [wrap64]; omega
      have hwx : wrap64 (ix : Int) = (ix : Int) := by simp only [wrap64]; omega
      have hw : wrap64 ((2 : Int) ^ (2 * pp.length)) = (M : Int) := by
        rw [show (2 : Int) ^ (2 * pp.length) = (M : Int) by rw [hM]; simp]
        simp only [wrap64]; omega
      obtain ⟨y0, hy0⟩ : ∃ y0, y0 = tcell pp.length (gs.zip us) ix k := ⟨_, rfl⟩
      obtain ⟨ck, hck⟩ : ∃ ck, ck = coef pp qq gs us k := ⟨_, rfl⟩
      have hcell : (tabT pp.length (gs.zip us) k)[ix]? = some y0 := by rw [hy0]; unfold tabT; rw [List.getElem?_map, List.getElem?_range (by rw [← hM]; exact hixM)]; rfl
      obtain ⟨s1, s2⟩ := r5 ix _ hcell
      obtain ⟨g7, o7, cap7', hv7, -, -, -, q4, q5⟩ := exts_cells (Rd.keep T7 hB) (by rw [coefs_len]; decide)
      obtain ⟨g8, o8, cap8', hv8, -, -, -, l4, l5⟩ := exts_cells (Rd.keep T8 hB) (by rw [coefs_len]; decide)
      rw [coefs_len] at hv7 hv8
      cases hv7
      cases hv8
      obtain ⟨k1, k2⟩ := q5 k ck (by rw [hck]; exact coefs_get _ _ _ _ k hk4)
      obtain ⟨k3, k4⟩ := l5 k y0 (by rw [hy0, hix, ← HV.out k]; exact coefs_get _ _ _ _ k hk4)
      have f2 := gw_cell r4 s1
      have f3 := gw_cell r4 s2
      have f4 := gw_cell q4 k1
      have f5 := gw_cell q4 k2
      have f6 := gw_cell l4 k3
      have f7 := gw_cell l4 k4
      have PE : ∀ W', Below wr.heap.size wr W' → Calls Tryd.prog 33 #[.slice (some ⟨gr, or, none⟩) M capr, .slice Aj (pp.length + qq.length) capj] W' (Ret (ev ck) W') := fun W' hW => by
        rw [hck, ← HM.out k]
        have hl : (pp ++ qq).length = 2 * pp.length := by rw [List.length_append, ← HPQ.out]; omega
        exact gEval _ _ (by rw [tabT_len, hl]) (by rw [hl]; omega) _ _ _ _ _ _ W' (Rd.keep ra hW) (Rd.keep rj hW) (Nat.le_trans hB.size hW.size)
      replace PE := Lib.hid PE
      clear hBe p5 q5 r5 l5 T7 T8 hcell s1 s2 k1 k2 k3 k4 hM htl hix hy0 hck ca sa ra rj jn t3
      go_wp2_with fail
      refine wp_region_rg 40 [(15, Spec.val (.agg #[.int .u64 (fv (ck).a), .int .u64 (fv (ck).b)]))] (by kernel_rfl) (by kernel_rfl) (by kernel_rfl) trivial ?_
      refine rg_det rfl rfl rfl (fun K hK => ?_)
      go_big_quiet_op
      refine hK _ ?_; clear hK K
      refine rg_det rfl rfl rfl (fun K hK => ?_)
      go_big_quiet_op
      refine hK _ ?_; clear hK K
      refine rg_det rfl rfl rfl (fun K hK => ?_)
      go_big_quiet_op
      refine hK _ ?_; clear hK K
      refine rg_det rfl rfl rfl (fun K hK => ?_)
      go_big_quiet_op
      refine hK _ ?_; clear hK K
      refine rg_det rfl rfl rfl (fun K hK => ?_)
      go_big_quiet_op
      refine hK _ ?_; clear hK K
      refine rg_det rfl rfl rfl (fun K hK => ?_)
      go_big_quiet_op
      refine hK _ ?_; clear hK K
      refine rg_det rfl rfl rfl (fun K hK => ?_)
      go_big_quiet_op
      refine hK _ ?_; clear hK K
      refine rg_det rfl rfl rfl (fun K hK => ?_)
      go_big_quiet_op
      refine hK _ ?_; clear hK K
      refine rg_det rfl rfl rfl (fun K hK => ?_)
      go_big_quiet_op
      refine hK _ ?_; clear hK K
      refine rg_det rfl rfl rfl (fun K hK => ?_)
      go_big_quiet_op
      refine hK _ ?_; clear hK K
      refine rg_det rfl rfl rfl (fun K hK => ?_)
      go_big_quiet_op
      refine hK _ ?_; clear hK K
      refine rg_det rfl rfl rfl (fun K hK => ?_)
      go_big_quiet_op
      refine hK _ ?_; clear hK K
      refine rg_det rfl rfl rfl (fun K hK => ?_)
      go_big_quiet_op
      refine hK _ ?_; clear hK K
      refine rg_det rfl rfl rfl (fun K hK => ?_)
      go_big_quiet_op
      refine hK _ ?_; clear hK K
      refine rg_det rfl rfl rfl (fun K hK => ?_)
      go_big_quiet_op
      refine hK _ ?_; clear hK K
      refine rg_val rfl rfl (fun W1 hW1 hF => step_callv en_attestor_mle_Eval (PE.out W1 (grw_below hW1)) rfl rfl) ?_
      intro a' ha
      simp only [Act.put, List.setIfInBounds_toArray, List.set_cons_succ, List.set_cons_zero] at ha
      subst ha
      refine rg_det rfl rfl rfl (fun K hK => ?_)
      go_big_quiet_op
      refine hK _ ?_; clear hK K
      refine rg_det rfl rfl rfl (fun K hK => ?_)
      go_big_quiet_op
      refine hK _ ?_; clear hK K
      refine rg_det rfl rfl rfl (fun K hK => ?_)
      go_big_quiet_op
      refine hK _ ?_; clear hK K
      refine rg_det rfl rfl rfl (fun K hK => ?_)
      go_big_quiet_op
      refine hK _ ?_; clear hK K
      refine rg_det rfl rfl rfl (fun K hK => ?_)
      go_big_quiet_op
      refine hK _ ?_; clear hK K
      refine rg_det rfl rfl rfl (fun K hK => ?_)
      go_big_quiet_op
      refine hK _ ?_; clear hK K
      refine rg_det rfl rfl rfl (fun K hK => ?_)
      go_big_quiet_op
      refine hK _ ?_; clear hK K
      refine rg_det rfl rfl rfl (fun K hK => ?_)
      go_big_quiet_op
      refine hK _ ?_; clear hK K
      refine rg_det rfl rfl rfl (fun K hK => ?_)
      go_big_quiet_op
      refine hK _ ?_; clear hK K
      refine rg_det rfl rfl rfl (fun K hK => ?_)
      go_big_quiet_op
      refine hK _ ?_; clear hK K
      refine rg_det rfl rfl rfl (fun K hK => ?_)
      go_big_quiet_op
      refine hK _ ?_; clear hK K
      refine rg_det rfl rfl rfl (fun K hK => ?_)
      go_big_quiet_op
      refine hK _ ?_; clear hK K
      refine rg_det rfl rfl rfl (fun K hK => ?_)
      go_big_quiet_op
      refine hK _ ?_; clear hK K
      refine rg_det rfl rfl rfl (fun K hK => ?_)
      go_big_quiet_op
      refine hK _ ?_; clear hK K
      refine rg_det rfl rfl rfl (fun K hK => ?_)
      go_big_quiet_op
      refine hK _ ?_; clear hK K
      refine rg_det rfl rfl rfl (fun K hK => ?_)
      go_big_quiet_op
      refine hK _ ?_; clear hK K
      refine rg_det rfl rfl rfl (fun K hK => ?_)
      go_big_quiet_op
      refine hK _ ?_; clear hK K
      refine rg_det rfl rfl rfl (fun K hK => ?_)
      go_big_quiet_op
      refine hK _ ?_; clear hK K
      refine rg_det rfl rfl rfl (fun K hK => ?_)
      go_big_quiet_op
      refine hK _ ?_; clear hK K
      refine rg_det rfl rfl rfl (fun K hK => ?_)
      go_big_quiet_op
      refine hK _ ?_; clear hK K
      refine rg_det rfl rfl rfl (fun K hK => ?_)
      go_big_quiet_op
      refine hK _ ?_; clear hK K
      refine rg_det rfl rfl rfl (fun K hK => ?_)
      go_big_quiet_op
      refine hK _ ?_; clear hK K
      refine rg_det rfl rfl rfl (fun K hK => ?_)
      go_big_quiet_op
      refine hK _ ?_; clear hK K
      refine rg_det rfl rfl rfl (fun K hK => ?_)
      go_big_quiet_op
      refine hK _ ?_; clear hK K
      refine rg_nil (fun w' hw' hF => ?_)
      obtain ⟨z4, rfl⟩ := hw'
      simp only [List.drop_succ_cons, List.drop_zero]
      clear hF
      go_wp2_with fail
      exact ⟨⟨k + 1, by omega, by go_num, hB.trans (z4.h.mono hB.size)⟩, by simp [intOf]; omega⟩
    · obtain rfl : k = 4 := by omega
      go_wp2
      go_ret
      exact ⟨rfl, hBwr⟩
end Go.Proofs.YtbmgngoeiadmmaaDoor
