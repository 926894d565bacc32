/-
  WiringLayers: the walk.
-/
import Derived.Test.YtbmgngoeiadmmaaDoorLay
import Derived.Test.YtbmgngoeiadmmaaDoorLym
import Derived.Test.YtbmgngoeiadmmaaDoorMr3
namespace Go.Proofs.YtbmgngoeiadmmaaDoor
open Go.RowKit

set_option maxRecDepth 100000 in
set_option maxHeartbeats 2000000 in
theorem lGate (g : Gt) (x y : E) (w : World) : Calls Tryd.prog 23 #[gv g, ev x, ev y] w (Ret (ev (gateV g x y)) w) := by
  unfold gv ev gateV
  go_enter Tryd.func23, Tryd.ntmps23
  go_wp2
  refine wp_stk4 fun W hB hz b1 b2 b3 b4 => ?_
  have c1 := gw_blk b1
  have c2 := gw_blk b2
  have c3 := gw_blk b3
  refine wp_region_rg 20 [(2, Spec.val (.agg #[.int .u64 (fv (x * y).a), .int .u64 (fv (x * y).b)])), (5, Spec.val (.agg #[.int .u64 (fv (x * y * eb g.c).a), .int .u64 (fv (x * y * eb g.c).b)])), (9, Spec.val (.agg #[.int .u64 (fv (x * eb g.a).a), .int .u64 (fv (x * eb g.a).b)])), (10, Spec.val (.agg #[.int .u64 (fv (x * y * eb g.c + x * eb g.a).a), .int .u64 (fv (x * y * eb g.c + x * eb g.a).b)])), (14, Spec.val (.agg #[.int .u64 (fv (y * eb g.b).a), .int .u64 (fv (y * eb g.b).b)])), (17, Spec.val (.agg #[.int .u64 (fv (eb g.d).a), .int .u64 (fv (eb g.d).b)])), (18, Spec.val (.agg #[.int .u64 (fv (y * eb g.b + eb g.d).a), .int .u64 (fv (y * eb g.b + eb g.d).b)])), (19, Spec.val (.agg #[.int .u64 (fv (x * y * eb g.c + x * eb g.a + (y * eb g.b + eb g.d)).a), .int .u64 (fv (x * y * eb g.c + x * eb g.a + (y * eb g.b + eb g.d)).b)]))] (by kernel_rfl) (by kernel_rfl) (by kernel_rfl) trivial ?_
  refine rg_det rfl rfl rfl (fun K hK => ?_)
  go_big_quiet_op
  refine hK _ ?_; clear hK K
  refine rg_det rfl rfl rfl (fun K hK => ?_)
  go_big_quiet_op
  refine hK _ ?_; clear hK K
  refine rg_val rfl rfl (fun W1 hW1 hF => step_callv en_attestor_attestorref02_Mul (xMul x y W1) rfl rfl) ?_
  intro a' ha
  simp only [Act.put, List.setIfInBounds_toArray, List.set_cons_succ, List.set_cons_zero] at ha
  subst ha
  refine rg_det rfl rfl rfl (fun K hK => ?_)
  go_big_quiet_op
  refine hK _ ?_; clear hK K
  refine rg_det rfl rfl rfl (fun K hK => ?_)
  go_big_quiet_op
  refine hK _ ?_; clear hK K
  refine rg_val rfl rfl (fun W1 hW1 hF => step_callv en_attestor_attestorref02_MulBase (xMulBase (x * y) g.c W1) rfl rfl) ?_
  intro a' ha
  simp only [Act.put, List.setIfInBounds_toArray, List.set_cons_succ, List.set_cons_zero] at ha
  subst ha
  refine rg_det rfl rfl rfl (fun K hK => ?_)
  go_big_quiet_op
  refine hK _ ?_; clear hK K
  refine rg_det rfl rfl rfl (fun K hK => ?_)
  go_big_quiet_op
  refine hK _ ?_; clear hK K
  refine rg_det rfl rfl rfl (fun K hK => ?_)
  go_big_quiet_op
  refine hK _ ?_; clear hK K
  refine rg_val rfl rfl (fun W1 hW1 hF => step_callv en_attestor_attestorref02_MulBase (xMulBase x g.a W1) rfl rfl) ?_
  intro a' ha
  simp only [Act.put, List.setIfInBounds_toArray, List.set_cons_succ, List.set_cons_zero] at ha
  subst ha
  refine rg_val rfl rfl (fun W1 hW1 hF => step_callv en_attestor_attestorref02_Add (xAdd (x * y * eb g.c) (x * eb g.a) W1) rfl rfl) ?_
  intro a' ha
  simp only [Act.put, List.setIfInBounds_toArray, List.set_cons_succ, List.set_cons_zero] at ha
  subst ha
  refine rg_det rfl rfl rfl (fun K hK => ?_)
  go_big_quiet_op
  refine hK _ ?_; clear hK K
  refine rg_det rfl rfl rfl (fun K hK => ?_)
  go_big_quiet_op
  refine hK _ ?_; clear hK K
  refine rg_det rfl rfl rfl (fun K hK => ?_)
  go_big_quiet_op
  refine hK _ ?_; clear hK K
  refine rg_val rfl rfl (fun W1 hW1 hF => step_callv en_attestor_attestorref02_MulBase (xMulBase y g.b W1) rfl rfl) ?_
  intro a' ha
  simp only [Act.put, List.setIfInBounds_toArray, List.set_cons_succ, List.set_cons_zero] at ha
  subst ha
  refine rg_det rfl rfl rfl (fun K hK => ?_)
  go_big_quiet_op
  refine hK _ ?_; clear hK K
  refine rg_det rfl rfl rfl (fun K hK => ?_)
  go_big_quiet_op
  refine hK _ ?_; clear hK K
  refine rg_val rfl rfl (fun W1 hW1 hF => step_callv en_attestor_attestorref02_FromBase (xFromBase g.d W1) rfl rfl) ?_
  intro a' ha
  simp only [Act.put, List.setIfInBounds_toArray, List.set_cons_succ, List.set_cons_zero] at ha
  subst ha
  refine rg_val rfl rfl (fun W1 hW1 hF => step_callv en_attestor_attestorref02_Add (xAdd (y * eb g.b) (eb g.d) W1) rfl rfl) ?_
  intro a' ha
  simp only [Act.put, List.setIfInBounds_toArray, List.set_cons_succ, List.set_cons_zero] at ha
  subst ha
  refine rg_val rfl rfl (fun W1 hW1 hF => step_callv en_attestor_attestorref02_Add (xAdd (x * y * eb g.c + x * eb g.a) (y * eb g.b + eb g.d) W1) rfl rfl) ?_
  intro a' ha
  simp only [Act.put, List.setIfInBounds_toArray, List.set_cons_succ, List.set_cons_zero] at ha
  subst ha
  refine rg_nil (fun w' hw' hF => ?_)
  obtain ⟨z, rfl⟩ := hw'
  simp only [List.drop_succ_cons, List.drop_zero]
  have e1 := (b4.gw z).cell
  have e2 := (b4.gw z).frozen
  go_wp2
  refine bodyPost_ret (v := .agg #[.int .u64 (fv (x * y * eb g.c + x * eb g.a + (y * eb g.b + eb g.d)).a), .int .u64 (fv (x * y * eb g.c + x * eb g.a + (y * eb g.b + eb g.d)).b)]) (by simp [results, Tryd.results23, go_sem, e1]) rfl ⟨rfl, ?_⟩
  exact ((hB.trans (z.h.mono hB.size)).setCell (by show w.heap.size ≤ w.heap.size + 1 + 1 + 1; omega) _).setCell (by show w.heap.size ≤ w.heap.size + 1 + 1 + 1; omega) _
theorem tab_get (k : Nat) (ts : List (Gt × E)) (part i : Nat) (h : i < 2 ^ (2 * k)) : (tabT k ts part)[i]? = some (tcell k ts i part) := by unfold tabT; rw [List.getElem?_map, List.getElem?_range h]; rfl
theorem index_lt {i j k : Nat} (hi : i < 2 ^ k) (hj : j < 2 ^ k) : i + j * 2 ^ k < 2 ^ (2 * k) := by
  rw [show 2 * k = k + k by omega, Nat.pow_add]
  have : j * 2 ^ k + 2 ^ k ≤ 2 ^ k * 2 ^ k := by
    rw [← Nat.succ_mul]; exact Nat.mul_le_mul_right _ hj
  omega
set_option maxRecDepth 100000 in
set_option maxHeartbeats 8000000 in
theorem wkLayers (q : Qy) (vL vU vP vQ vO : Value) (O : List Raw) (w : World) (h : QyS w.heap.size w q vL vU vP vQ) (hO : RawS 0 w.heap.size w vO O) (hL : Laid w) :
    Calls Tryd.prog 4 #[qv vL vU vP vQ q, vO] w (Ret (.bool true) w) := by
  unfold qv
  obtain ⟨i0, hi0, iz0, iz1, iz2⟩ := info_parts ext_info
  have hgl := q.gs_len
  go_enter Tryd.func4, Tryd.ntmps4
  go_wp2_with fail
  refine calls_stk1 fun W1 hB1 hz1 b1 => ?_
  refine (lSanity W1 (hL.keep hB1)).mono ?_
  rintro e w2 ⟨rfl, hb2⟩
  have hB2 := hB1.trans (hb2.mono hB1.size)
  have e1 := (b1.keep hb2).cell
  go_wp2_with fail
  refine (lMade q vL vU vP vQ w.heap.size w2 (h.keep hB2) hB2.size).mono ?_
  rintro e w3 ⟨a, b, c, d, rfl, m1, m2, m3, m4, hb3⟩
  obtain ⟨Aa, capa, rfl⟩ := Rd.len m1
  obtain ⟨Ab, capb, rfl⟩ := Rd.len m2
  obtain ⟨Ac, capc, rfl⟩ := Rd.len m3
  obtain ⟨Ad, capd, rfl⟩ := Rd.len m4
  have hB3 := hB2.trans (hb3.mono hB2.size)
  have Ly := lay_made h.K.1 m1 m2 m3 m4 (hL.keep hB3)
  have hul := q.us_len
  have HUL := Lib.hid hul
  have hpq := q.p_len.trans q.q_len.symm
  have HPQ := Lib.hid hpq
  clear hul hpq e1 h m1 m2 m3 m4
  unfold endsV
  generalize q.gs = gs at *
  generalize q.us = us at *
  generalize q.p = pp at *
  generalize q.q = qq at *
  generalize q.x = x at *
  generalize q.y = y at *
  have hO3 := RawS.keep hO hB3
  have hpl := Ly.pl
  have hNW := hB3.size
  go_wp2_with fail
  refine calls_stk1 fun W4 hB4 hz4 b4 => ?_
  have hBw4 := hB3.trans (hB4.mono hB3.size)
  refine (rMade O pp.length (by omega) vO w.heap.size W4 (RawS.keep hO3 hB4) (Nat.le_trans hNW hB4.size)).mono ?_
  rintro e w5 ⟨v5, rfl, t5, hb5⟩
  replace t5 : ExtS _ _ w5 v5 (mdT O (2 ^ pp.length)) := t5
  have hvl : (mdT O (2 ^ pp.length)).length = 2 ^ pp.length := mdT_length _ _
  have HVL := Lib.hid hvl
  clear hvl
  generalize mdT O (2 ^ pp.length) = vs at *
  obtain ⟨Av, capv, rfl⟩ := Rd.len t5
  have hB35 := hB4.trans (hb5.mono hB4.size)
  go_wp2_with fail
  refine ((Ly.keep hB35).tables HPQ.out.symm).mono ?_
  rintro e w6 ⟨v6, rfl, t6, hb6⟩
  replace t6 : TabS _ _ w6 v6 (tabsT pp.length (gs.zip us)) := t6
  obtain ⟨At, capt, rfl⟩ := TabS.len t6
  have hB6 := hBw4.trans ((hb5.trans (hb6.mono hb5.size)).mono hBw4.size)
  have hB36 := hB35.trans (hb6.mono hB35.size)
  have Lw := Ly.keep hB36
  have V6 : ExtS 0 w6.heap.size w6 _ vs := (Rd.keep t5 hb6).wide (Nat.zero_le _) hb6.size
  rw [show (tabsT pp.length (gs.zip us)).length = 4 by simp [tabsT]]
  obtain ⟨N, hN⟩ : ∃ N, N = vs.length := ⟨_, rfl⟩
  have hN2 : N = 2 ^ pp.length := hN.trans HVL.out
  have hN8 : N ≤ 8 ∧ 1 ≤ N := by rw [hN2]; exact ⟨Nat.le_trans (Nat.pow_le_pow_right (by decide) hpl) (by decide), Nat.two_pow_pos _⟩
  obtain ⟨hN8, hN1⟩ := hN8
  rw [← hN] at V6 ⊢
  have HN := Lib.hid hN
  have HN2 := Lib.hid hN2
  have HZ : ∀ (j : Nat) (g : Gt) (u : E), gs[j]? = some g → us[j]? = some u → (gs.zip us)[j]? = some (g, u) := fun j g u h1 h2 => by rw [List.getElem?_zip_eq_some]; exact ⟨h1, h2⟩
  have HZl : (gs.zip us).length = gs.length := by rw [List.length_zip, HUL.out, Nat.min_self]
  have HLT : ∀ t ∈ gs.zip us, t.1.L < 2 ^ pp.length ∧ t.1.R < 2 ^ pp.length := fun t ht => by
    have := Ly.ok t.1 (List.of_mem_zip ht).1
    rwa [← HPQ.out] at this
  have HLy := Lib.hid (layers pp.length vs (gs.zip us) HLT)
  replace HZ := Lib.hid HZ
  replace HZl := Lib.hid HZl
  have HOk := Lib.hid Ly.ok
  clear hN hN2 HLT Ly t5 hB35 hB36 hB4 hb5 hb6 hBw4
  generalize hts : gs.zip us = ts at *
  go_wp2_with fail
  refine wp_stk2 fun X hBX hzX b12 b13 => ?_
  clear hts hzX
  go_loopw [14] (fun i wr => ∃ j : Nat, j ≤ gs.length ∧ i = .int .i64 j ∧ Blk wr w6.heap.size 27 #[.int .u64 (fv (gateS ts vs j).a), .int .u64 (fv (gateS ts vs j).b)] ∧ Blk wr (w6.heap.size + 1) 27 #[.int .u64 0, .int .u64 0] ∧ Below w6.heap.size w6 wr) (fun i _ => gs.length - (intOf i).toNat)
  case atStart => exact ⟨0, Nat.zero_le _, rfl, b12, b13, hBX⟩
  case round =>
    obtain ⟨j, hj, rfl, bs, bp, hB⟩ := hrel
    clear b12 b13 hBX
    by_cases hlt : j < gs.length
    · have Lr := Lw.keep hB
      have hus : j < us.length := by rw [HUL.out]; exact hlt
      obtain ⟨b1g, o1, c1, hv, -, -, -, q4, q5⟩ := gates_cells Lr.hl (by omega)
      cases hv
      obtain ⟨b2g, o2, c2, hv, -, -, -, p4, p5⟩ := exts_cells Lr.hu (by omega)
      cases hv
      have Vr := Rd.keep V6 hB
      obtain ⟨b3g, o3, c3, hv, -, -, -, r4, r5⟩ := exts_cells Vr (by rw [← HN.out]; omega)
      rw [← HN.out] at hv
      cases hv
      obtain ⟨g, hg⟩ : ∃ g, gs[j]? = some g := ⟨gs[j], List.getElem?_eq_getElem hlt⟩
      obtain ⟨u, hu⟩ : ∃ u, us[j]? = some u := ⟨us[j], List.getElem?_eq_getElem hus⟩
      obtain ⟨hgL, hgR⟩ := HOk.out g (List.mem_of_getElem? hg)
      have hgL : g.L < N := by rw [HN2.out]; exact hgL
      have hgR : g.R < N := by rw [HN2.out, HPQ.out]; exact hgR
      obtain ⟨va, hva, hvad⟩ := get_of (l := vs) (k := g.L) (by rw [← HN.out]; exact hgL)
      obtain ⟨vb, hvb, hvbd⟩ := get_of (l := vs) (k := g.R) (by rw [← HN.out]; exact hgR)
      have hst := gateS_succ ts vs j (g, u) (HZ.out j g u hg hu)
      simp only [hvad, hvbd] at hst
      have HS := Lib.hid hst
      obtain ⟨d1, d2, d3, d4, d5, d6⟩ := q5 j g hg
      obtain ⟨k1, k2⟩ := p5 j u hu
      obtain ⟨l1, l2⟩ := r5 _ va hva
      obtain ⟨l3, l4⟩ := r5 _ vb hvb
      have f1 := gw_cell q4 d1
      have f2 := gw_cell q4 d2
      have f3 := gw_cell q4 d3
      have f4 := gw_cell q4 d4
      have f5 := gw_cell q4 d5
      have f6 := gw_cell q4 d6
      have f7 := gw_cell p4 k1
      have f8 := gw_cell p4 k2
      have f9 := gw_cell r4 l1
      have f10 := gw_cell r4 l2
      have f11 := gw_cell r4 l3
      have f12 := gw_cell r4 l4
      have f13 := gw_blk bs
      clear hst hg hu hva hvb hvad hvbd q5 p5 r5 d1 d2 d3 d4 d5 d6 k1 k2 l1 l2 l3 l4 Lr Vr Lw V6 t6
      generalize gateS ts vs j = m at *
      go_wp2_with fail
      refine wp_region_rg 28 [(25, Spec.val (.agg #[.int .u64 (fv (gateV g va vb).a), .int .u64 (fv (gateV g va vb).b)])), (26, Spec.val (.agg #[.int .u64 (fv (u * gateV g va vb).a), .int .u64 (fv (u * gateV g va vb).b)])), (27, Spec.val (.agg #[.int .u64 (fv (m + u * gateV g va vb).a), .int .u64 (fv (m + u * gateV g va vb).b)]))] (by kernel_rfl) (by kernel_rfl) (by kernel_rfl) trivial ?_
      refine rg_det rfl rfl rfl (fun K hK => ?_)
      go_big_quiet_op
      refine hK _ ?_; clear hK K
      refine rg_det rfl rfl rfl (fun K hK => ?_)
      go_big_quiet_op
      refine hK _ ?_; clear hK K
      refine rg_det rfl rfl rfl (fun K hK => ?_)
      go_big_quiet_op
      refine hK _ ?_; clear hK K
      refine rg_det rfl rfl rfl (fun K hK => ?_)
      go_big_quiet_op
      refine hK _ ?_; clear hK K
      refine rg_det rfl rfl rfl (fun K hK => ?_)
      go_big_quiet_op
      refine hK _ ?_; clear hK K
      refine rg_det rfl rfl rfl (fun K hK => ?_)
      go_big_quiet_op
      refine hK _ ?_; clear hK K
      refine rg_det rfl rfl rfl (fun K hK => ?_)
      go_big_quiet_op
      refine hK _ ?_; clear hK K
      refine rg_det rfl rfl rfl (fun K hK => ?_)
      go_big_quiet_op
      refine hK _ ?_; clear hK K
      refine rg_det rfl rfl rfl (fun K hK => ?_)
      go_big_quiet_op
      refine hK _ ?_; clear hK K
      refine rg_det rfl rfl rfl (fun K hK => ?_)
      go_big_quiet_op
      refine hK _ ?_; clear hK K
      refine rg_det rfl rfl rfl (fun K hK => ?_)
      go_big_quiet_op
      refine hK _ ?_; clear hK K
      refine rg_det rfl rfl rfl (fun K hK => ?_)
      go_big_quiet_op
      refine hK _ ?_; clear hK K
      refine rg_det rfl rfl rfl (fun K hK => ?_)
      go_big_quiet_op
      refine hK _ ?_; clear hK K
      refine rg_det rfl rfl rfl (fun K hK => ?_)
      go_big_quiet_op
      refine hK _ ?_; clear hK K
      refine rg_det rfl rfl rfl (fun K hK => ?_)
      go_big_quiet_op
      refine hK _ ?_; clear hK K
      refine rg_det rfl rfl rfl (fun K hK => ?_)
      go_big_quiet_op
      refine hK _ ?_; clear hK K
      refine rg_det rfl rfl rfl (fun K hK => ?_)
      go_big_quiet_op
      refine hK _ ?_; clear hK K
      refine rg_det rfl rfl rfl (fun K hK => ?_)
      go_big_quiet_op
      refine hK _ ?_; clear hK K
      refine rg_det rfl rfl rfl (fun K hK => ?_)
      go_big_quiet_op
      refine hK _ ?_; clear hK K
      refine rg_det rfl rfl rfl (fun K hK => ?_)
      go_big_quiet_op
      refine hK _ ?_; clear hK K
      refine rg_det rfl rfl rfl (fun K hK => ?_)
      go_big_quiet_op
      refine hK _ ?_; clear hK K
      refine rg_det rfl rfl rfl (fun K hK => ?_)
      go_big_quiet_op
      refine hK _ ?_; clear hK K
      refine rg_det rfl rfl rfl (fun K hK => ?_)
      go_big_quiet_op
      refine hK _ ?_; clear hK K
      refine rg_det rfl rfl rfl (fun K hK => ?_)
      go_big_quiet_op
      refine hK _ ?_; clear hK K
      refine rg_det rfl rfl rfl (fun K hK => ?_)
      go_big_quiet_op
      refine hK _ ?_; clear hK K
      refine rg_val rfl rfl (fun W1 hW1 hF => step_callv en_attestor_attestorlaw17_gate (lGate g va vb W1) rfl rfl) ?_
      intro a' ha
      simp only [Act.put, List.setIfInBounds_toArray, List.set_cons_succ, List.set_cons_zero] at ha
      subst ha
      refine rg_val rfl rfl (fun W1 hW1 hF => step_callv en_attestor_ext_Mul (eMul u (gateV g va vb) W1) rfl rfl) ?_
      intro a' ha
      simp only [Act.put, List.setIfInBounds_toArray, List.set_cons_succ, List.set_cons_zero] at ha
      subst ha
      refine rg_val rfl rfl (fun W1 hW1 hF => step_callv en_attestor_ext_Add (eAdd m (u * gateV g va vb) W1) rfl rfl) ?_
      intro a' ha
      simp only [Act.put, List.setIfInBounds_toArray, List.set_cons_succ, List.set_cons_zero] at ha
      subst ha
      refine rg_nil (fun w' hw' hF => ?_)
      obtain ⟨z, rfl⟩ := hw'
      simp only [List.drop_succ_cons, List.drop_zero]
      have e1 := (bs.gw z).cell
      have e2 := (bs.gw z).frozen
      have bpz := bp.gw z
      clear hF f1 f2 f3 f4 f5 f6 f7 f8 f9 f10 f11 f12 f13
      go_wp2_with fail
      exact ⟨⟨j + 1, by omega, by go_num, by rw [HS.out]; exact blk_set2 (bs.gw z), blk_far2 bpz (by omega), below_set2 (hB.trans (z.h.mono hB.size)) (by omega)⟩, by simp [intOf]; omega⟩
    · obtain rfl : j = gs.length := by omega
      rw [← HZl.out] at bs
      rw [← HLy.out] at bs
      rw [← HN2.out] at bs
      have HA := Lib.hid (show allV pp.length ts vs 0 = 0 from rfl)
      generalize hal : allV pp.length ts vs N = tot at *
      have HAL := Lib.hid hal
      clear hal HLy HZ HZl
      obtain ⟨w7, hw7⟩ : ∃ w7, w7 = wr := ⟨_, rfl⟩
      subst hw7
      go_wp2_with fail
      go_loopw [15] (fun i wr => ∃ a : Nat, a ≤ N ∧ i = .int .i64 a ∧ Blk wr w6.heap.size 27 #[.int .u64 (fv tot.a), .int .u64 (fv tot.b)] ∧ Blk wr (w6.heap.size + 1) 27 #[.int .u64 (fv (allV pp.length ts vs a).a), .int .u64 (fv (allV pp.length ts vs a).b)] ∧ Below w6.heap.size w6 wr) (fun i _ => N - (intOf i).toNat)
      case atStart => exact ⟨0, Nat.zero_le _, rfl, bs, bp, hB⟩
      case round =>
        obtain ⟨a, ha, rfl, bs, bp, hB⟩ := hrel
        obtain ⟨w8, hw8⟩ : ∃ w8, w8 = wr := ⟨_, rfl⟩
        subst hw8
        by_cases hlt : a < N
        · have HAS := Lib.hid (allV_succ pp.length ts vs a)
          rw [← HN2.out] at HAS
          go_wp2_with fail
          go_loopw [16] (fun i wr => ∃ b : Nat, b ≤ N ∧ i = .int .i64 b ∧ Blk wr w6.heap.size 27 #[.int .u64 (fv tot.a), .int .u64 (fv tot.b)] ∧ Blk wr (w6.heap.size + 1) 27 #[.int .u64 (fv (allV pp.length ts vs a + rowV pp.length ts vs a b).a), .int .u64 (fv (allV pp.length ts vs a + rowV pp.length ts vs a b).b)] ∧ Below w6.heap.size w6 wr) (fun i _ => N - (intOf i).toNat)
          case atStart => exact ⟨0, Nat.zero_le _, rfl, bs, by rw [show rowV pp.length ts vs a 0 = 0 from rfl, E.add_zero]; exact bp, hB⟩
          case round =>
            obtain ⟨b, hb, rfl, bs, bp, hB⟩ := hrel
            obtain ⟨w9, hw9⟩ : ∃ w9, w9 = wr := ⟨_, rfl⟩
            subst hw9
            by_cases hlt2 : b < N
            · have HRS := Lib.hid (rowV_succ pp.length ts vs a b)
              go_wp2_with fail
              refine wp_stk1 fun Xc hBc hzc bc => ?_
              go_loopw [17, 18] (fun v i wr => ∃ c : Nat, c ≤ 4 ∧ i = .int .i64 c ∧ wr.ownsRow w9.heap.size 27 2 v c (((List.range c).map fun part => tcell pp.length ts (a + b * 2 ^ pp.length) part).flatMap ec) ∧ Below w9.heap.size w9 wr) (fun _ i _ => 4 - (intOf i).toNat)
              case atStart => exact ⟨0, Nat.zero_le _, rfl, ⟨by simp, .inr ⟨w9.heap.size, 0, #[], rfl, Nat.le_refl _, bc, Nat.le_refl _, Nat.zero_le _, rfl, by simp⟩⟩, hBc⟩
              case round =>
                obtain ⟨c, hc, rfl, hown, hBr⟩ := hrel
                have hB6r := hB.trans (hBr.mono hB.size)
                by_cases hlt3 : c < 4
                · obtain ⟨gt, ot, capt', hv, -, -, -, q4, q5⟩ := tab_cells (TabS.keep t6 hB6r) (by rw [show (tabsT pp.length ts).length = 4 by simp [tabsT]]; decide)
                  rw [show (tabsT pp.length ts).length = 4 by simp [tabsT]] at hv
                  cases hv
                  obtain ⟨row, hrow1, hrow2⟩ := q5 c _ (tabsT_get pp.length ts c hlt3)
                  obtain ⟨Ar, capr, rfl⟩ := Rd.len hrow2
                  obtain ⟨M, hM⟩ : ∃ M, M = 2 ^ (2 * pp.length) := ⟨_, rfl⟩
                  have hMN : M = N * N := by rw [hM, HN2.out, ← Nat.pow_add]; congr 1; omega
                  have hM64 : M ≤ 64 := by rw [hMN]; exact Nat.le_trans (Nat.mul_le_mul hN8 hN8) (by decide)
                  have hne : ((M : Int) != wrap64 ((N : Int) * (N : Int))) = false := by
                    rw [show (N : Int) * (N : Int) = (M : Int) by rw [hMN]; simp, show wrap64 (M : Int) = (M : Int) by simp only [wrap64]; omega]
                    exact bne_self_eq_false _
                  rw [show (tabT pp.length ts c).length = M by rw [hM]; simp [tabT]] at hrow1 hrow2
                  obtain ⟨ix, hix⟩ : ∃ ix, ix = a + b * 2 ^ pp.length := ⟨_, rfl⟩
                  have hixM : ix < M := by rw [hix, hM]; exact index_lt (by rw [← HN2.out]; exact hlt) (by rw [← HN2.out]; exact hlt2)
                  have hii : (a : Int) + (b : Int) * 2 ^ pp.length = (ix : Int) := by rw [hix]; simp
                  have hml : 0 < M := by omega
                  obtain ⟨gr, or, capr', hv, -, -, -, r4, r5⟩ := exts_cells hrow2 (by simp [tabT, ← hM]; omega)
                  rw [show (tabT pp.length ts c).length = M by rw [hM]; simp [tabT]] at hv
                  cases hv
                  have hcell := tab_get pp.length ts c ix (by rw [← hM]; exact hixM)
                  obtain ⟨s1, s2⟩ := r5 ix _ hcell
                  have HC := Lib.hid (show ((List.range (c + 1)).map fun part => tcell pp.length ts (a + b * 2 ^ pp.length) part).flatMap ec = ((List.range c).map fun part => tcell pp.length ts (a + b * 2 ^ pp.length) part).flatMap ec ++ ec (tcell pp.length ts ix c) by rw [hix, List.range_succ, List.map_append, List.flatMap_append]; simp)
                  generalize tcell pp.length ts ix c = y0 at *
                  have f1 := gw_cell q4 hrow1
                  have f2 := gw_cell r4 s1
                  have f3 := gw_cell r4 s2
                  have hrow1' := hrow1
                  clear q5 r5 hcell hrow2 s1 s2 hM hMN hix
                  go_wp2_with fail
                  clear hrow1' hne
                  refine wp_region_rg 13 [(12, Spec.rel (Lit 27 1 #[.int .u64 (fv y0.a), .int .u64 (fv y0.b)]) AnyV)] (by kernel_rfl) (by kernel_rfl) (by kernel_rfl) ⟨fit_of (stable_lit), trivial⟩ ?_
                  refine rg_det rfl rfl rfl (fun K hK => ?_)
                  go_big_quiet_op
                  refine hK _ ?_; clear hK K
                  refine rg_det rfl rfl rfl (fun K hK => ?_)
                  go_big_quiet_op
                  refine hK _ ?_; clear hK K
                  refine rg_det rfl rfl rfl (fun K hK => ?_)
                  go_big_quiet_op
                  refine hK _ ?_; clear hK K
                  refine rg_det rfl rfl rfl (fun K hK => ?_)
                  go_big_quiet_op
                  refine hK _ ?_; clear hK K
                  refine rg_det rfl rfl rfl (fun K hK => ?_)
                  go_big_quiet_op
                  refine hK _ ?_; clear hK K
                  refine rg_det rfl rfl rfl (fun K hK => ?_)
                  go_big_quiet_op
                  refine hK _ ?_; clear hK K
                  refine rg_det rfl rfl rfl (fun K hK => ?_)
                  go_big_quiet_op
                  refine hK _ ?_; clear hK K
                  refine rg_det rfl rfl rfl (fun K hK => ?_)
                  go_big_quiet_op
                  refine hK _ ?_; clear hK K
                  refine rg_det rfl rfl rfl (fun K hK => ?_)
                  go_big_quiet_op
                  refine hK _ ?_; clear hK K
                  refine rg_det rfl rfl rfl (fun K hK => ?_)
                  go_big_quiet_op
                  refine hK _ ?_; clear hK K
                  refine rg_det rfl rfl rfl (fun K hK => ?_)
                  go_big_quiet_op
                  refine hK _ ?_; clear hK K
                  refine rg_det rfl rfl rfl (fun K hK => ?_)
                  go_big_quiet_op
                  refine hK _ ?_; clear hK K
                  refine rg_rel rfl rfl (fun W1 hW1 hF => step_lit1 Tryd.underlying23 hi0 iz0 iz1 (by decide) (by decide) rfl rfl rfl) ?_
                  intro n12 m12 v12 hn12 hm12 hd12 hf12 a' ha
                  simp only [Act.put, List.setIfInBounds_toArray, List.set_cons_succ, List.set_cons_zero] at ha
                  subst ha
                  refine rg_nil (fun w' hw' hF => ?_)
                  obtain ⟨z, rfl⟩ := hw'
                  simp only [List.drop_succ_cons, List.drop_zero]
                  obtain ⟨hm, rfl, hlt', bl⟩ := end_last hF
                  clear hF f1 f2 f3
                  go_wp2_with (at_builtin; refine wpList_app1 rfl _ _ rfl Tryd.underlying23 hi0 iz0 iz1 iz2 rfl (by decide) (cl := ec y0) rfl (ec_one _) rfl rfl (own_below hown (Nat.le_refl _) z.h) ?hsrc ?h63 ?hby ?hbase ?_)
                  case hsrc => exact bl
                  case h63 => unfold maxLen; omega
                  case hby => omega
                  case hbase => have := z.h.size; have := hBr.size; omega
                  intro v1 w4 hown4 hgrow hB5
                  go_wp2
                  exact ⟨⟨c + 1, by omega, by go_num, by rw [HC.out]; exact hown4, (hBr.trans (z.h.mono hBr.size)).trans hB5⟩, by simp [intOf]; omega⟩
                · obtain rfl : c = 4 := by omega
                  have cS : ExtS w9.heap.size wr.heap.size wr u17 [tcell pp.length ts (a + b * 2 ^ pp.length) 0, tcell pp.length ts (a + b * 2 ^ pp.length) 1, tcell pp.length ts (a + b * 2 ^ pp.length) 2, tcell pp.length ts (a + b * 2 ^ pp.length) 3] := exts_of_own hown rfl (by decide) (Nat.le_refl _)
                  obtain ⟨Acs, capcs, hv⟩ := Rd.len cS
                  subst hv
                  have bs2 := bs.keep hBr
                  have bp2 := bp.keep hBr
                  have Vr := Rd.keep V6 hB6r
                  obtain ⟨b3g, o3, c3, hv, -, -, -, r4, r5⟩ := exts_cells Vr (by rw [← HN.out]; omega)
                  rw [← HN.out] at hv
                  cases hv
                  obtain ⟨va, hva, hvad⟩ := get_of (l := vs) (k := a) (by rw [← HN.out]; exact hlt)
                  obtain ⟨vb, hvb, hvbd⟩ := get_of (l := vs) (k := b) (by rw [← HN.out]; exact hlt2)
                  have hpv : pairV pp.length ts vs a b = poly (tcell pp.length ts (a + b * 2 ^ pp.length) 0) (tcell pp.length ts (a + b * 2 ^ pp.length) 1) (tcell pp.length ts (a + b * 2 ^ pp.length) 2) (tcell pp.length ts (a + b * 2 ^ pp.length) 3) va vb := by unfold pairV; rw [hvad, hvbd]
                  rw [hpv, ] at HRS
                  obtain ⟨l1, l2⟩ := r5 _ va hva
                  obtain ⟨l3, l4⟩ := r5 _ vb hvb
                  have f9 := gw_cell r4 l1
                  have f10 := gw_cell r4 l2
                  have f11 := gw_cell r4 l3
                  have f12 := gw_cell r4 l4
                  have f13 := gw_blk bp2
                  clear hpv hva hvb hvad hvbd r5 l1 l2 l3 l4 Vr hown
                  generalize tcell pp.length ts (a + b * 2 ^ pp.length) 0 = t0 at *
                  generalize tcell pp.length ts (a + b * 2 ^ pp.length) 1 = t1 at *
                  generalize tcell pp.length ts (a + b * 2 ^ pp.length) 2 = t2 at *
                  generalize tcell pp.length ts (a + b * 2 ^ pp.length) 3 = t3 at *
                  have HRS2 := Lib.hid (show allV pp.length ts vs a + rowV pp.length ts vs a (b + 1) = allV pp.length ts vs a + rowV pp.length ts vs a b + poly t0 t1 t2 t3 va vb by rw [HRS.out, E.add_assoc])
                  generalize allV pp.length ts vs a + rowV pp.length ts vs a b = m at *
                  have hne9 : w6.heap.size + 1 < wr.heap.size := bp2.lt
                  go_wp2_with fail
                  refine wp_region_rg 12 [(10, Spec.val (.agg #[.int .u64 (fv (poly t0 t1 t2 t3 va vb).a), .int .u64 (fv (poly t0 t1 t2 t3 va vb).b)])), (11, Spec.val (.agg #[.int .u64 (fv (m + poly t0 t1 t2 t3 va vb).a), .int .u64 (fv (m + poly t0 t1 t2 t3 va vb).b)]))] (by kernel_rfl) (by kernel_rfl) (by kernel_rfl) trivial ?_
                  refine rg_det rfl rfl rfl (fun K hK => ?_)
                  go_big_quiet_op
                  refine hK _ ?_; clear hK K
                  refine rg_det rfl rfl rfl (fun K hK => ?_)
                  go_big_quiet_op
                  refine hK _ ?_; clear hK K
                  refine rg_det rfl rfl rfl (fun K hK => ?_)
                  go_big_quiet_op
                  refine hK _ ?_; clear hK K
                  refine rg_det rfl rfl rfl (fun K hK => ?_)
                  go_big_quiet_op
                  refine hK _ ?_; clear hK K
                  refine rg_det rfl rfl rfl (fun K hK => ?_)
                  go_big_quiet_op
                  refine hK _ ?_; clear hK K
                  refine rg_det rfl rfl rfl (fun K hK => ?_)
                  go_big_quiet_op
                  refine hK _ ?_; clear hK K
                  refine rg_det rfl rfl rfl (fun K hK => ?_)
                  go_big_quiet_op
                  refine hK _ ?_; clear hK K
                  refine rg_det rfl rfl rfl (fun K hK => ?_)
                  go_big_quiet_op
                  refine hK _ ?_; clear hK K
                  refine rg_det rfl rfl rfl (fun K hK => ?_)
                  go_big_quiet_op
                  refine hK _ ?_; clear hK K
                  refine rg_det rfl rfl rfl (fun K hK => ?_)
                  go_big_quiet_op
                  refine hK _ ?_; clear hK K
                  refine rg_val rfl rfl (fun W1 hW1 hF => step_callv en_attestor_attestorref17_Value (gValue t0 t1 t2 t3 va vb _ _ _ W1 (Rd.keep cS (grw_below hW1))) rfl rfl) ?_
                  intro a' ha
                  simp only [Act.put, List.setIfInBounds_toArray, List.set_cons_succ, List.set_cons_zero] at ha
                  subst ha
                  refine rg_val rfl rfl (fun W1 hW1 hF => step_callv en_attestor_ext_Add (eAdd m (poly t0 t1 t2 t3 va vb) W1) rfl rfl) ?_
                  intro a' ha
                  simp only [Act.put, List.setIfInBounds_toArray, List.set_cons_succ, List.set_cons_zero] at ha
                  subst ha
                  refine rg_nil (fun w' hw' hF => ?_)
                  obtain ⟨z, rfl⟩ := hw'
                  simp only [List.drop_succ_cons, List.drop_zero]
                  have e1 := (bp2.gw z).cell
                  have e2 := (bp2.gw z).frozen
                  have bsz := bs2.gw z
                  clear hF f9 f10 f11 f12 f13
                  go_wp2_with fail
                  exact ⟨⟨b + 1, by omega, by go_num, blk_far2 bsz (by omega), by rw [HRS2.out]; exact blk_set2 (bp2.gw z), below_set2 (hB6r.trans (z.h.mono hB6r.size)) (by omega)⟩, by simp [intOf]; omega⟩
            · obtain rfl : b = N := by omega
              rw [← HAS.out] at bp
              go_wp2_with fail
              exact ⟨⟨a + 1, by omega, by go_num, bs, bp, hB⟩, by simp [intOf]; omega⟩
        · obtain rfl : a = N := by omega
          rw [HAL.out] at bp
          have f1 := bs.cell
          have f2 := bp.cell
          go_wp2
          go_ret
          exact ⟨rfl, hB6.trans (hB.mono hB6.size)⟩
end Go.Proofs.YtbmgngoeiadmmaaDoor
