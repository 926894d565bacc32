/-
  BatchSoundness: the walk.
-/
import Derived.Test.YtipaecageimnnaaDoorSd21
import Derived.Test.YtipaecageimnnaaDoorDg21
import Derived.Test.YtipaecageimnnaaDoorMr21
import Derived.Test.YtipaecageimnnaaDoorRiv
namespace Go.Proofs.YtipaecageimnnaaDoor
open Go.RowKit

theorem prvR_rows (ps : List Trm) : ∀ (coins : List E) (tabs : List (List E)), ∀ h ∈ prvR tabs ps coins, h.length = degE ps + 1
  | [], _, h, hh => by simp [prvR] at hh
  | c :: cs, tabs, h, hh => by
    simp only [prvR, List.mem_cons] at hh
    rcases hh with rfl | hh
    · exact rndE_length _ _
    · exact prvR_rows ps cs _ h hh
theorem mdR_rows (l : List (List Raw)) (n m : Nat) : ∀ g ∈ mdR l n m, g.length = m := fun g hg => by
  obtain ⟨i, _, rfl⟩ := List.mem_map.1 hg
  exact madeAll_length _ _
attribute [local irreducible] wpRg
set_option maxRecDepth 100000 in
set_option maxHeartbeats 8000000 in
theorem wkBatchSoundness (q : Q21) (vT vL vC : Value) (l : List (List Raw)) (vl : Value) (w : World) (h : Q21S w.heap.size w q vT vL vC) (hl : RTabS 0 w.heap.size w vl l) (hL : Laid w) :
    Calls Tryd.prog 4 #[qv21 vT vL vC q, vl] w (Ret (.bool true) w) := by
  have HQ := Lib.hid (fun W (hW : Below w.heap.size w W) => gProblem q vT vL vC W (h.keep hW))
  have HL := Lib.hid (fun W (hW : Below w.heap.size w W) => hL.keep hW)
  have hk4 := q.hk
  have HT := Lib.hid q.ht
  have HC := Lib.hid q.hc
  have HU := Lib.hid (fun us => @Q21.us q us)
  have hp4 : 2 ^ q.k ≤ 2 ^ 4 := Nat.pow_le_pow_right (by decide) hk4
  have HM := Lib.hid (fun W (hW : Below w.heap.size w W) => rMadeRounds l q.k 3 (by omega) (by decide) vl 0 w.heap.size W (hl.keep hW))
  have HMl := Lib.hid (mdR_length l q.k 3)
  have HMr := Lib.hid (mdR_rows l q.k 3)
  obtain ⟨Al, cl, rfl⟩ := hl.len
  unfold qv21 at *
  generalize mdR l q.k 3 = gs at *
  clear h hL hl
  go_enter Tryd.func4, Tryd.ntmps4
  go_wp2_with fail
  refine calls_stk1 fun W1 hB1 hz1 b1 => ?_
  refine (lSanity21 W1 (HL.out _ hB1)).mono ?_
  rintro e w1 ⟨rfl, hb1⟩
  have h1 := hB1.trans (hb1.mono hB1.size)
  have f1 := (b1.keep hb1).cell
  go_wp2_with fail
  refine (HQ.out w1 h1).mono ?_
  rintro e w2 ⟨v1, v2, AC, cc, us, rfl, T2, U2, hus, C2, hb2⟩
  obtain ⟨hup, hun⟩ := HU.out us hus
  have h2 := h1.trans (hb2.mono h1.size)
  clear f1 HQ HU hus b1
  generalize q.t = T at *
  generalize q.c = co at *
  generalize q.r = r at *
  generalize q.k = k at *
  obtain ⟨AT, cT, rfl⟩ := Rd.len T2
  obtain ⟨AU, cU, rfl⟩ := U2.len
  go_upto_region 3 with (fail)
  refine wp_stk1 fun W3 hB3 hz3 b3 => ?_
  have hs3 := hz3.out
  have h3 := h2.trans (hB3.mono h2.size)
  have f3 := b3.cell
  have hcl := HC.out
  go_wp2_with fail
  refine (HM.out W3 h3).mono ?_
  rintro e w4 ⟨v4, rfl, R4, hb4⟩
  replace R4 : TabS W3.heap.size w4.heap.size w4 v4 gs := R4
  obtain ⟨A4, c4, rfl⟩ := R4.len
  clear f3 hcl HM
  have hB4 := hB3.trans (hb4.mono hB3.size)
  have h4 := h2.trans (hB4.mono h2.size)
  have b4 := b3.keep hb4
  have T4 := Rd.keep T2 hB4
  have C4 := Rd.keep C2 hB4
  have U4 := U2.keep hB4
  have hs24 := hB4.size
  obtain ⟨AX, nX, cX, x1, x2, e0, hval, hsound⟩ := vfyB_sound T us r co gs AC cc (by rw [HT.out, HC.out]) (fun x hx => by rw [HC.out, hup x hx]) (by rw [HMl.out, HC.out])
  have HE := Lib.hid (show ∀ W1, Below w4.heap.size w4 W1 → ∀ x ∈ us, Calls Tryd.prog 12 #[.slice AT T.length cT, ptV x] W1 (Ret (ev (mev T x.1.p)) W1) from fun W1 hW x hx => by
    rw [← dotE_all T x.1.p (by rw [hup x hx, HT.out])]
    exact rEval T x.1.p (by rw [HT.out]; omega) (by rw [hup x hx]; omega) _ _ _ _ _ _ W1 (Rd.keep T4 hW) (Rd.keep (U4.2 x hx) hW))
  have HEc := Lib.hid (show ∀ W1, Below w4.heap.size w4 W1 → Calls Tryd.prog 12 #[.slice AT T.length cT, .slice AC co.length cc] W1 (Ret (ev (mev T co)) W1) from fun W1 hW => by
    rw [← dotE_all T co (by rw [HC.out, HT.out])]
    exact rEval T co (by rw [HT.out]; omega) (by rw [HC.out]; omega) _ _ _ _ _ _ W1 (Rd.keep T4 hW) (Rd.keep C4 hW))
  have HV := Lib.hid (show ∀ W1, Below w4.heap.size w4 W1 → Calls Tryd.prog 11 #[.slice AU us.length cU, .slice A4 gs.length c4, .agg #[.int .u64 (fv r.a), .int .u64 (fv r.b), .slice AC co.length cc, .int .u64 (fv (mev T co).a), .int .u64 (fv (mev T co).b)]] W1 (Ret (.tuple #[.agg #[.slice AX nX cX, .int .u64 x1, .int .u64 x2], .int .i64 e0]) W1) from fun W1 hW => by
    have := gVerifyB us r gs co (mev T co) AC cc _ _ _ _ _ _ _ _ W1 (by have := hW.size; omega) (U4.keep hW) (Rd.keep C4 hW) (R4.keep hW) (by rw [HMl.out]; omega) (fun x hx => by rw [HC.out, hup x hx]) (HL.out _ (h4.trans (hW.mono h4.size)))
    rwa [hval] at this)
  have HPr := Lib.hid (show ∀ W1, Below w4.heap.size w4 W1 → Calls Tryd.prog 10 #[.slice AT T.length cT, .slice AU us.length cU, .agg #[.int .u64 (fv r.a), .int .u64 (fv r.b), .slice AC co.length cc]] W1 (fun e w' => ∃ v1, e = .returned (.tuple #[v1, clV (⟨co, (prvV (tabB T us r) co).getD 0 0⟩, (AC, cc))]) ∧ TabS W1.heap.size w'.heap.size w' v1 (prvR (tabB T us r) trmB co) ∧ Below W1.heap.size W1 w') from fun W1 hW =>
    gProveB T us r co k HC.out (by omega) AC cc _ _ _ _ _ _ _ _ W1 (by have := hW.size; omega) (by have := hW.size; omega) (Rd.keep T4 hW) (U4.keep hW) (Rd.keep C4 hW) HT.out (fun x hx => by rw [HT.out, hup x hx]) (HL.out _ (h4.trans (hW.mono h4.size))))
  have HPl := Lib.hid (show (prvR (tabB T us r) trmB co).length = k by rw [prvR_length, HC.out])
  have HPr3 := Lib.hid (show ∀ h ∈ prvR (tabB T us r) trmB co, h.length = 3 from prvR_rows trmB co (tabB T us r))
  have HS := Lib.hid hsound
  have HeL := Lib.hid (show (errB T us).length = us.length from List.length_map _)
  have HeG := Lib.hid (show ∀ (j : Nat) x, us[j]? = some x → (errB T us).take (j + 1) = (errB T us).take j ++ [x.1.v - mev T x.1.p] from fun j x hx => by
    rw [List.take_add_one]
    unfold errB
    rw [List.getElem?_map, hx]
    rfl)
  clear hval hsound T2 U2 C2 T4 b3
  generalize mev T co = y at *
  generalize prvR (tabB T us r) trmB co = hs at *
  generalize (prvV (tabB T us r) co).getD 0 0 = pv at *
  generalize errB T us = er at *
  obtain ⟨i0, hi0, iz0, iz1, iz2⟩ := info_parts clm_info
  obtain ⟨i1, hi1, jz0, jz1, jz2⟩ := info_parts ext_info
  apply join21 (Q := fun n X => Below w4.heap.size w4 X)
  case h =>
    intro kk
    have KK := Lib.hid kk
    clear kk
    go_upto_region 4 with (fail)
    have y8 := gw_blk b4
    refine wp_region_swap 13 11 undef [(6, Spec.val (.agg #[.int .u64 (fv (y).a), .int .u64 (fv (y).b)])), (8, Spec.val (.tuple #[.agg #[.slice AX nX cX, .int .u64 x1, .int .u64 x2], .int .i64 e0])), (12, Spec.rel (New 38 #[.slice none 0 0, .int .u64 0, .int .u64 0]) (NewF))] (by kernel_rfl) (by kernel_rfl) (by kernel_rfl) rfl rfl rfl rfl ⟨fit_new, trivial⟩ ?_ ?_
    refine rg_det rfl rfl rfl (fun K hK => ?_)
    go_big_quiet_op
    refine hK _ ?_; clear hK K
    refine rg_det rfl rfl rfl (fun K hK => ?_)
    go_big_quiet_op
    refine hK _ ?_; clear hK K
    refine rg_det rfl rfl rfl (fun K hK => ?_)
    go_big_quiet_op
    refine hK _ ?_; clear hK K
    refine rg_det rfl rfl rfl (fun K hK => ?_)
    go_big_quiet_op
    refine hK _ ?_; clear hK K
    refine rg_det rfl rfl rfl (fun K hK => ?_)
    go_big_quiet_op
    refine hK _ ?_; clear hK K
    refine rg_det rfl rfl rfl (fun K hK => ?_)
    go_big_quiet_op
    refine hK _ ?_; clear hK K
    refine rg_val rfl rfl (fun W1 hW1 hF => step_callv en_attestor_attestorref05_Eval (HEc.out W1 (grw_below hW1)) rfl rfl) ?_
    intro a' ha
    simp only [Act.put, List.setIfInBounds_toArray, List.set_cons_succ, List.set_cons_zero] at ha
    subst ha
    refine rg_det rfl rfl rfl (fun K hK => ?_)
    go_big_quiet_op
    refine hK _ ?_; clear hK K
    refine rg_val rfl rfl (fun W1 hW1 hF => step_callv en_attestor_batch_Verify (HV.out W1 (grw_below hW1)) rfl rfl) ?_
    intro a' ha
    simp only [Act.put, List.setIfInBounds_toArray, List.set_cons_succ, List.set_cons_zero] at ha
    subst ha
    refine rg_det rfl rfl rfl (fun K hK => ?_)
    go_big_quiet_op
    refine hK _ ?_; clear hK K
    refine rg_det rfl rfl rfl (fun K hK => ?_)
    go_big_quiet_op
    refine hK _ ?_; clear hK K
    refine rg_det rfl rfl rfl (fun K hK => ?_)
    go_big_quiet_op
    refine hK _ ?_; clear hK K
    refine rg_rel rfl rfl (fun W1 hW1 hF => step_new hi0 iz0 rfl) ?_
    intro n12 m12 v12 hn12 hm12 hd12 hf12 a' ha
    simp only [Act.put, List.setIfInBounds_toArray, List.set_cons_succ, List.set_cons_zero] at ha
    subst ha
    obtain rfl := hf12
    refine rg_nil (fun w' hw' hF => ?_)
    obtain ⟨z, rfl⟩ := hw'
    simp only [List.drop_succ_cons, List.drop_zero]
    rotate_left 1
    refine rg_det rfl rfl rfl (fun K hK => ?_)
    go_big_quiet_op
    refine hK _ ?_; clear hK K
    refine rg_det rfl rfl rfl (fun K hK => ?_)
    go_big_quiet_op
    refine hK _ ?_; clear hK K
    refine rg_det rfl rfl rfl (fun K hK => ?_)
    go_big_quiet_op
    refine hK _ ?_; clear hK K
    refine rg_det rfl rfl rfl (fun K hK => ?_)
    go_big_quiet_op
    refine hK _ ?_; clear hK K
    refine rg_det rfl rfl rfl (fun K hK => ?_)
    go_big_quiet_op
    refine hK _ ?_; clear hK K
    refine rg_det rfl rfl rfl (fun K hK => ?_)
    go_big_quiet_op
    refine hK _ ?_; clear hK K
    refine rg_val rfl rfl (fun W1 hW1 hF => step_callv en_attestor_attestorref05_Eval (HEc.out W1 (grw_below hW1)) rfl rfl) ?_
    intro a' ha
    simp only [Act.put, List.setIfInBounds_toArray, List.set_cons_succ, List.set_cons_zero] at ha
    subst ha
    refine rg_det rfl rfl rfl (fun K hK => ?_)
    go_big_quiet_op
    refine hK _ ?_; clear hK K
    refine rg_val rfl rfl (fun W1 hW1 hF => step_callv en_attestor_batch_Verify (HV.out W1 (grw_below hW1)) rfl rfl) ?_
    intro a' ha
    simp only [Act.put, List.setIfInBounds_toArray, List.set_cons_succ, List.set_cons_zero] at ha
    subst ha
    refine rg_det rfl rfl rfl (fun K hK => ?_)
    go_big_quiet_op
    refine hK _ ?_; clear hK K
    refine rg_det rfl rfl rfl (fun K hK => ?_)
    go_big_quiet_op
    refine hK _ ?_; clear hK K
    refine rg_pass rfl rfl ?_
    intro a' ha
    simp only [Act.put, List.setIfInBounds_toArray, List.set_cons_succ, List.set_cons_zero] at ha
    subst ha
    refine rg_rel rfl rfl (fun W1 hW1 hF => step_new hi0 iz0 rfl) ?_
    intro n12 m12 v12 hn12 hm12 hd12 hf12 a' ha
    simp only [Act.put, List.setIfInBounds_toArray, List.set_cons_succ, List.set_cons_zero] at ha
    subst ha
    obtain rfl := hf12
    refine rg_nil (fun w' hw' hF => ?_)
    obtain ⟨z, rfl⟩ := hw'
    simp only [List.drop_succ_cons, List.drop_zero]
    refine wpList_putS ?_
    intro a' ha
    simp only [Act.put, List.setIfInBounds_toArray, List.set_cons_succ, List.set_cons_zero] at ha
    subst ha
    rotate_right 1
    all_goals
      obtain ⟨hm12, -, hl12, b12⟩ := end_last hF
      have e1 := b12.cell
      have e2 := b12.frozen
      clear hF y8
      go_upto_region 5 with (fail)
      rename_i K hK
      refine set3B (M := fun W => Code.wp _ _ _ _ W) b12 fun X1 hX1 bX1 => ?_
      revert K
      exact KK.out n12 X1 (below_put z.h hX1 hn12)
  intro n10 X1 BX1 K hK
  clear HV
  have h5 := h4.trans (BX1.mono h4.size)
  have HEx := Lib.hid (fun W1 (hW : Below X1.heap.size X1 W1) => HE.out W1 (BX1.trans (hW.mono BX1.size)))
  have UX := U4.keep BX1
  have HUX := Lib.hid UX
  clear HE U4 UX
  obtain ⟨L, hL⟩ : ∃ L, L = us.length := ⟨_, rfl⟩
  have HLn := Lib.hid hL
  rw [← hL] at hun HUX HPr HeL ⊢
  clear hL
  go_wp2_with fail
  go_loopw [12, 13] (fun v i wr => ∃ j : Nat, j ≤ L ∧ i = .int .i64 j ∧ wr.ownsRow X1.heap.size 26 2 v j ((er.take j).flatMap ec) ∧ Below X1.heap.size X1 wr) (fun _ i _ => L - (intOf i).toNat)
  case atStart => exact ⟨0, Nat.zero_le _, rfl, ⟨by simp, .inr ⟨X1.heap.size, 0, #[], rfl, Nat.le_refl _, World.alloc_heap_new X1 _, Nat.le_refl _, Nat.zero_le _, rfl, by simp⟩⟩, (Below.refl _ _).alloc (Nat.le_refl _) _⟩
  case round =>
    obtain ⟨j, hj, rfl, hown, hB⟩ := hrel
    by_cases hlt : j < L
    · obtain ⟨gC, oC, cC, hv, -, -, -, lC, qC⟩ := HUX.out.cells (by rw [← HLn.out]; omega)
      rw [← HLn.out] at hv
      cases hv
      obtain ⟨x, hx⟩ : ∃ x, us[j]? = some x := ⟨_, List.getElem?_eq_getElem (by rw [← HLn.out]; exact hlt)⟩
      obtain ⟨-, d1, d2, d3⟩ := qC j x hx
      have HX := Lib.hid (fun W1 (hW1 : Below wr.heap.size wr W1) => HEx.out W1 (hB.trans (hW1.mono hB.size)) x (List.mem_of_getElem? hx))
      have HG := Lib.hid (show (er.take (j + 1)).flatMap ec = (er.take j).flatMap ec ++ ec (x.1.v - mev T x.1.p) by rw [HeG.out j x hx, List.flatMap_append]; simp)
      have k1 := gw_cell (W := wr) (Nat.lt_of_lt_of_le lC hB.size) ((hB.cell (p := ⟨gC, oC + j * 3, none⟩) lC).trans d1)
      have k2 := gw_cell (W := wr) (Nat.lt_of_lt_of_le lC hB.size) ((hB.cell (p := ⟨gC, oC + j * 3 + 1, none⟩) lC).trans d2)
      have k3 := gw_cell (W := wr) (Nat.lt_of_lt_of_le lC hB.size) ((hB.cell (p := ⟨gC, oC + j * 3 + 2, none⟩) lC).trans d3)
      obtain ⟨⟨xp, xv⟩, Ax, cx⟩ := x
      simp only [ptV] at HX HG k1 k2 k3
      clear qC hx d1 d2 d3
      generalize mev T xp = m at *
      go_upto_region 9 with (fail)
      refine wp_region_rg 15 [(12, Spec.val (.agg #[.int .u64 (fv (m).a), .int .u64 (fv (m).b)])), (13, Spec.val (.agg #[.int .u64 (fv ((xv - m)).a), .int .u64 (fv ((xv - m)).b)])), (14, Spec.rel (Lit 26 1 #[.int .u64 (fv (xv - m).a), .int .u64 (fv (xv - m).b)]) AnyV)] (by kernel_rfl) (by kernel_rfl) (by kernel_rfl) ⟨fit_of (stable_lit), trivial⟩ ?_
      refine rg_det rfl rfl rfl (fun K hK => ?_)
      go_big_quiet_op
      refine hK _ ?_; clear hK K
      refine rg_det rfl rfl rfl (fun K hK => ?_)
      go_big_quiet_op
      refine hK _ ?_; clear hK K
      refine rg_det rfl rfl rfl (fun K hK => ?_)
      go_big_quiet_op
      refine hK _ ?_; clear hK K
      refine rg_det rfl rfl rfl (fun K hK => ?_)
      go_big_quiet_op
      refine hK _ ?_; clear hK K
      refine rg_det rfl rfl rfl (fun K hK => ?_)
      go_big_quiet_op
      refine hK _ ?_; clear hK K
      refine rg_det rfl rfl rfl (fun K hK => ?_)
      go_big_quiet_op
      refine hK _ ?_; clear hK K
      refine rg_det rfl rfl rfl (fun K hK => ?_)
      go_big_quiet_op
      refine hK _ ?_; clear hK K
      refine rg_det rfl rfl rfl (fun K hK => ?_)
      go_big_quiet_op
      refine hK _ ?_; clear hK K
      refine rg_det rfl rfl rfl (fun K hK => ?_)
      go_big_quiet_op
      refine hK _ ?_; clear hK K
      refine rg_det rfl rfl rfl (fun K hK => ?_)
      go_big_quiet_op
      refine hK _ ?_; clear hK K
      refine rg_det rfl rfl rfl (fun K hK => ?_)
      go_big_quiet_op
      refine hK _ ?_; clear hK K
      refine rg_det rfl rfl rfl (fun K hK => ?_)
      go_big_quiet_op
      refine hK _ ?_; clear hK K
      refine rg_val rfl rfl (fun W1 hW1 hF => step_callv en_attestor_attestorref05_Eval (HX.out W1 (grw_below hW1)) rfl rfl) ?_
      intro a' ha
      simp only [Act.put, List.setIfInBounds_toArray, List.set_cons_succ, List.set_cons_zero] at ha
      subst ha
      refine rg_val rfl rfl (fun W1 hW1 hF => step_callv en_attestor_attestorref02_Sub (xSub xv m W1) rfl rfl) ?_
      intro a' ha
      simp only [Act.put, List.setIfInBounds_toArray, List.set_cons_succ, List.set_cons_zero] at ha
      subst ha
      refine rg_rel rfl rfl (fun W1 hW1 hF => step_lit1 Tryd.underlying22 hi1 jz0 jz1 (by decide) (by decide) rfl rfl rfl) ?_
      intro ne14 me14 ve14 hne14 hme14 hde14 hfe14 a' ha
      simp only [Act.put, List.setIfInBounds_toArray, List.set_cons_succ, List.set_cons_zero] at ha
      subst ha
      refine rg_nil (fun w' hw' hF => ?_)
      obtain ⟨z, rfl⟩ := hw'
      simp only [List.drop_succ_cons, List.drop_zero]
      obtain ⟨hm, rfl, hlt', bl⟩ := end_last hF
      have hBz : Below wr.heap.size wr z.w := z.h
      clear hF k1 k2 k3
      go_wp2_with (at_builtin; refine wpList_app1 rfl _ _ rfl Tryd.underlying22 hi1 jz0 jz1 jz2 rfl (by decide) (cl := ec (xv - m)) rfl (ec_one _) rfl rfl (own_below hown (Nat.le_refl _) ?hX) ?hsrc ?h63 ?hby ?hbase ?_)
      case hX => exact hBz
      case hsrc => exact bl
      case h63 => unfold maxLen; omega
      case hby => omega
      case hbase => have := hB.size; have := hBz.size; omega
      intro v1 w5 hown3 hgrow hB3
      go_wp2
      exact ⟨⟨j + 1, by omega, by go_num, by rw [HG.out]; exact hown3, (hB.trans (hBz.mono hB.size)).trans hB3⟩, by simp [intOf]; omega⟩
    · obtain rfl : j = L := by omega
      have hEr : ExtS X1.heap.size wr.heap.size wr u12 er := exts_of_own (by rw [List.take_of_length_le (by rw [HeL.out]; exact Nat.le_refl _)] at hown; exact hown) HeL.out (by omega) (Nat.le_refl _)
      obtain ⟨AE, cE, hv⟩ := Rd.len hEr
      rw [HeL.out] at hv
      subst hv
      have HEr := Lib.hid hEr
      clear hEr hown hj hlt
      have h6 := h5.trans (hB.mono h5.size)
      have BW := BX1.trans (hB.mono BX1.size)
      have b8 := b4.keep BW
      by_cases he0 : e0 = 0
      · subst he0
        have hne : ((0 : Int) != 0) = false := rfl
        go_wp2_with fail
        refine (pDegree er (by rw [HeL.out]; omega) _ _ _ wr HEr.out).mono ?_
        rintro e w5 ⟨d, rfl, hb5⟩
        have h7 := h6.trans (hb5.mono h6.size)
        have f8 := (b8.keep hb5).cell
        by_cases hd : d < 0
        · go_wp2_with fail
          go_ret
          exact ⟨rfl, h7⟩
        go_wp2_with fail
        refine (pEval er r (by rw [HeL.out]; omega) _ _ _ w5 (Rd.keep HEr.out hb5)).mono ?_
        rintro e w6 ⟨he, hb6⟩
        unfold ev at he
        subst he
        have h8 := h7.trans (hb6.mono h7.size)
        clear f8
        go_wp2_with fail
        refine (xIsZero (pev er r) w6).mono ?_
        rintro e w7 ⟨he, hb7⟩
        subst he
        have h9 := h8.trans (hb7.mono h8.size)
        by_cases hz : pev er r = 0
        · rw [decide_eq_true hz]
          clear hz HS
          go_wp2_with fail
          go_ret
          exact ⟨rfl, h9⟩
        rw [decide_eq_false hz]
        obtain ⟨ix, g, hh, c, q1, q2, q3, q4, q5⟩ := HS.out (by trivial) hz
        have HQ := Lib.hid (And.intro q1 (And.intro q2 (And.intro q3 (And.intro q4 q5))))
        clear hz HS q1 q2 q3 q4 q5
        have BW7 := BW.trans ((hb5.trans ((hb6.trans (hb7.mono hb6.size)).mono hb5.size)).mono BW.size)
        have b9 := b4.keep BW7
        have f9 := b9.cell
        go_wp2_with fail
        refine (HPr.out w7 BW7).mono ?_
        rintro e w8 ⟨v14, rfl, R8, hb8⟩
        obtain ⟨A8, c8, rfl⟩ := R8.len
        have h10 := h9.trans (hb8.mono h9.size)
        have BW8 := BW7.trans (hb8.mono BW7.size)
        have b10 := b9.keep hb8
        clear f9 b9 HPr
        unfold clV clc ptV
        dsimp only
        have hnn : (((hs.length : Nat) : Int) != ((gs.length : Nat) : Int)) = false := by rw [HPl.out, HMl.out]; simp
        go_upto_region 13 with (fail)
        refine wp_stk1 fun W8 hB8 hz8 b15 => ?_
        have h11 := h10.trans (hB8.mono h10.size)
        have BW9 := BW8.trans (hB8.mono BW8.size)
        have b11 := b10.keep hB8
        have R9 := R8.keep hB8
        have R5 := R4.keep BW9
        have C9 := Rd.keep C4 BW9
        have hix : ix < gs.length := (List.getElem?_eq_some_iff.1 HQ.out.1).1
        have hgk := HMl.out
        have hhk := HPl.out
        have hck := HC.out
        obtain ⟨ga, oa, hva, la, qa⟩ := tab_cell R5 (by omega)
        obtain ⟨gb, ob, hvb, lb, qb⟩ := tab_cell R9 (by omega)
        obtain ⟨gd, od, cd, hvd, -, -, -, ld, qd⟩ := exts_cells C9 (by omega)
        subst hva
        subst hvb
        cases hvd
        have QA := Lib.hid qa
        have QB := Lib.hid qb
        have QD := Lib.hid qd
        have Hgk := Lib.hid hgk
        have Hhk := Lib.hid hhk
        have Hck := Lib.hid hck
        clear qa qb qd R5 R9 R8 R4 C9 C4 b15 b10 hgk hhk hck hz8 hd
        go_wp2_with fail
        go_loopw [16] (fun i wr => ∃ m : Nat, m ≤ ix ∧ i = .int .i64 m ∧ Below W8.heap.size W8 wr) (fun i _ => gs.length - (intOf i).toNat)
        case atStart => exact ⟨0, Nat.zero_le _, rfl, Below.refl _ _⟩
        case round =>
          obtain ⟨m, hm, rfl, hBq⟩ := hrel
          have hlt : m < gs.length := by omega
          have hm4 : m ≤ 4 := by have := Hgk.out; omega
          have hlt2 : m < hs.length := by rw [Hhk.out, ← Hgk.out]; exact hlt
          have hlt3 : m < co.length := by rw [Hck.out, ← Hgk.out]; exact hlt
          obtain ⟨g1, hg1⟩ : ∃ g1, gs[m]? = some g1 := ⟨_, List.getElem?_eq_getElem hlt⟩
          obtain ⟨h1', hh1⟩ : ∃ h1, hs[m]? = some h1 := ⟨_, List.getElem?_eq_getElem (by rw [Hhk.out, ← Hgk.out]; exact hlt)⟩
          obtain ⟨c1, hc1⟩ : ∃ c1, co[m]? = some c1 := ⟨_, List.getElem?_eq_getElem (by rw [Hck.out, ← Hgk.out]; exact hlt)⟩
          obtain ⟨B1, k1, z1, t1⟩ := QA.out m g1 hg1
          obtain ⟨B2, k2, z2, t2⟩ := QB.out m h1' hh1
          obtain ⟨z3, z4⟩ := QD.out m c1 hc1
          have y1 := gw_cell (W := wr) (Nat.lt_of_lt_of_le la hBq.size) ((hBq.cell (p := ⟨ga, oa + m, none⟩) la).trans z1)
          have y2 := gw_cell (W := wr) (Nat.lt_of_lt_of_le lb hBq.size) ((hBq.cell (p := ⟨gb, ob + m, none⟩) lb).trans z2)
          have y3 := gw_cell (W := wr) (Nat.lt_of_lt_of_le ld hBq.size) ((hBq.cell (p := ⟨gd, od + m * 2, none⟩) ld).trans z3)
          have y4 := gw_cell (W := wr) (Nat.lt_of_lt_of_le ld hBq.size) ((hBq.cell (p := ⟨gd, od + m * 2 + 1, none⟩) ld).trans z4)
          have y8 := gw_blk (b11.keep hBq)
          have hl1 := HMr.out g1 (List.mem_of_getElem? hg1)
          have hl2 := HPr3.out h1' (List.mem_of_getElem? hh1)
          have hNext : g1 = h1' ∨ atE g1 c1 ≠ atE h1' c1 → m + 1 ≤ ix := fun ho => by
            rcases Nat.lt_or_ge m ix with hlt | hge
            · exact hlt
            · obtain rfl : m = ix := by omega
              obtain ⟨q1, q2, q3, q4, q5⟩ := HQ.out
              rw [hg1] at q1; rw [hh1] at q2; rw [hc1] at q3
              cases q1; cases q2; cases q3
              rcases ho with ho | ho
              · exact absurd ho q4
              · exact absurd q5 ho
          have HNx := Lib.hid hNext
          have HA1 := Lib.hid (fun W1 (hW : Below wr.heap.size wr W1) => pAt g1 c1 (by omega) _ _ _ W1 (Rd.keep (Rd.keep t1 hBq) hW))
          have HA2 := Lib.hid (fun W1 (hW : Below wr.heap.size wr W1) => pAt h1' c1 (by omega) _ _ _ W1 (Rd.keep (Rd.keep t2 hBq) hW))
          have HSm := Lib.hid (fun W1 (hW : Below wr.heap.size wr W1) => xSameG g1 h1' _ _ _ _ _ _ W1 (Rd.keep (Rd.keep t1 hBq) hW) (Rd.keep (Rd.keep t2 hBq) hW))
          clear hNext z1 z2 z3 z4 hg1 hh1 hc1 t1 t2
          rw [hl1] at y1 HA1 HSm
          rw [hl2] at y2 HA2 HSm
          clear hl1 hl2
          by_cases hgh : g1 = h1'
          · rw [decide_eq_true hgh] at HSm
            have HN := Lib.hid (HNx.out (.inl hgh))
            clear hgh HNx
            go_wp2_with fail
            refine wp_region_rg 33 [(8, Spec.val (.bool true))] (by kernel_rfl) (by kernel_rfl) (by kernel_rfl) trivial ?_
            refine rg_det rfl rfl rfl (fun K hK => ?_)
            go_big_quiet_op
            refine hK _ ?_; clear hK K
            refine rg_det rfl rfl rfl (fun K hK => ?_)
            go_big_quiet_op
            refine hK _ ?_; clear hK K
            refine rg_det rfl rfl rfl (fun K hK => ?_)
            go_big_quiet_op
            refine hK _ ?_; clear hK K
            refine rg_det rfl rfl rfl (fun K hK => ?_)
            go_big_quiet_op
            refine hK _ ?_; clear hK K
            refine rg_det rfl rfl rfl (fun K hK => ?_)
            go_big_quiet_op
            refine hK _ ?_; clear hK K
            refine rg_det rfl rfl rfl (fun K hK => ?_)
            go_big_quiet_op
            refine hK _ ?_; clear hK K
            refine rg_det rfl rfl rfl (fun K hK => ?_)
            go_big_quiet_op
            refine hK _ ?_; clear hK K
            refine rg_det rfl rfl rfl (fun K hK => ?_)
            go_big_quiet_op
            refine hK _ ?_; clear hK K
            refine rg_val rfl rfl (fun W1 hW1 hF => step_callv en_attestor_attestorref03_Same (HSm.out W1 (grw_below hW1)) rfl rfl) ?_
            intro a' ha
            simp only [Act.put, List.setIfInBounds_toArray, List.set_cons_succ, List.set_cons_zero] at ha
            subst ha
            refine rg_det rfl rfl rfl (fun K hK => ?_)
            go_big_quiet_op
            refine hK _ ?_; clear hK K
            refine rg_det rfl rfl rfl (fun K hK => ?_)
            go_big_quiet_op
            refine hK _ ?_; clear hK K
            refine rg_skip (by kernel_rfl) ?_
            intro a' ha
            simp only [Act.put, List.setIfInBounds_toArray, List.set_cons_succ, List.set_cons_zero] at ha
            subst ha
            refine rg_skip (by kernel_rfl) ?_
            intro a' ha
            simp only [Act.put, List.setIfInBounds_toArray, List.set_cons_succ, List.set_cons_zero] at ha
            subst ha
            refine rg_skip (by kernel_rfl) ?_
            intro a' ha
            simp only [Act.put, List.setIfInBounds_toArray, List.set_cons_succ, List.set_cons_zero] at ha
            subst ha
            refine rg_skip (by kernel_rfl) ?_
            intro a' ha
            simp only [Act.put, List.setIfInBounds_toArray, List.set_cons_succ, List.set_cons_zero] at ha
            subst ha
            refine rg_skip (by kernel_rfl) ?_
            intro a' ha
            simp only [Act.put, List.setIfInBounds_toArray, List.set_cons_succ, List.set_cons_zero] at ha
            subst ha
            refine rg_skip (by kernel_rfl) ?_
            intro a' ha
            simp only [Act.put, List.setIfInBounds_toArray, List.set_cons_succ, List.set_cons_zero] at ha
            subst ha
            refine rg_skip (by kernel_rfl) ?_
            intro a' ha
            simp only [Act.put, List.setIfInBounds_toArray, List.set_cons_succ, List.set_cons_zero] at ha
            subst ha
            refine rg_skip (by kernel_rfl) ?_
            intro a' ha
            simp only [Act.put, List.setIfInBounds_toArray, List.set_cons_succ, List.set_cons_zero] at ha
            subst ha
            refine rg_skip (by kernel_rfl) ?_
            intro a' ha
            simp only [Act.put, List.setIfInBounds_toArray, List.set_cons_succ, List.set_cons_zero] at ha
            subst ha
            refine rg_skip (by kernel_rfl) ?_
            intro a' ha
            simp only [Act.put, List.setIfInBounds_toArray, List.set_cons_succ, List.set_cons_zero] at ha
            subst ha
            refine rg_skip (by kernel_rfl) ?_
            intro a' ha
            simp only [Act.put, List.setIfInBounds_toArray, List.set_cons_succ, List.set_cons_zero] at ha
            subst ha
            refine rg_skip (by kernel_rfl) ?_
            intro a' ha
            simp only [Act.put, List.setIfInBounds_toArray, List.set_cons_succ, List.set_cons_zero] at ha
            subst ha
            refine rg_skip (by kernel_rfl) ?_
            intro a' ha
            simp only [Act.put, List.setIfInBounds_toArray, List.set_cons_succ, List.set_cons_zero] at ha
            subst ha
            refine rg_skip (by kernel_rfl) ?_
            intro a' ha
            simp only [Act.put, List.setIfInBounds_toArray, List.set_cons_succ, List.set_cons_zero] at ha
            subst ha
            refine rg_skip (by kernel_rfl) ?_
            intro a' ha
            simp only [Act.put, List.setIfInBounds_toArray, List.set_cons_succ, List.set_cons_zero] at ha
            subst ha
            refine rg_skip (by kernel_rfl) ?_
            intro a' ha
            simp only [Act.put, List.setIfInBounds_toArray, List.set_cons_succ, List.set_cons_zero] at ha
            subst ha
            refine rg_skip (by kernel_rfl) ?_
            intro a' ha
            simp only [Act.put, List.setIfInBounds_toArray, List.set_cons_succ, List.set_cons_zero] at ha
            subst ha
            refine rg_skip (by kernel_rfl) ?_
            intro a' ha
            simp only [Act.put, List.setIfInBounds_toArray, List.set_cons_succ, List.set_cons_zero] at ha
            subst ha
            refine rg_skip (by kernel_rfl) ?_
            intro a' ha
            simp only [Act.put, List.setIfInBounds_toArray, List.set_cons_succ, List.set_cons_zero] at ha
            subst ha
            refine rg_skip (by kernel_rfl) ?_
            intro a' ha
            simp only [Act.put, List.setIfInBounds_toArray, List.set_cons_succ, List.set_cons_zero] at ha
            subst ha
            refine rg_skip (by kernel_rfl) ?_
            intro a' ha
            simp only [Act.put, List.setIfInBounds_toArray, List.set_cons_succ, List.set_cons_zero] at ha
            subst ha
            refine rg_det rfl rfl rfl (fun K hK => ?_)
            go_big_quiet_op
            refine hK _ ?_; clear hK K
            refine rg_nil (fun w' hw' hF => ?_)
            obtain ⟨zs, rfl⟩ := hw'
            simp only [List.drop_succ_cons, List.drop_zero]
            clear hF y1 y2 y3 y4 y8
            go_wp2_with fail
            have hm1 := HN.out
            have hgk' := Hgk.out
            exact ⟨⟨m + 1, by omega, by go_num, hBq.trans (zs.h.mono hBq.size)⟩, by simp [intOf]; omega⟩
          · rw [decide_eq_false hgh] at HSm
            generalize atE g1 c1 = a1 at *
            generalize atE h1' c1 = a2 at *
            clear hgh
            rcases ext_casesS a1 a2 with rfl | ⟨hne, hq⟩ | ⟨hne, hq1, hq⟩
            · clear HNx
              go_wp2_with fail
              refine wp_region_rg 33 [(8, Spec.val (.bool false)), (20, Spec.val (.agg #[.int .u64 (fv (a1).a), .int .u64 (fv (a1).b)])), (30, Spec.val (.agg #[.int .u64 (fv (a1).a), .int .u64 (fv (a1).b)]))] (by kernel_rfl) (by kernel_rfl) (by kernel_rfl) trivial ?_
              refine rg_det rfl rfl rfl (fun K hK => ?_)
              go_big_quiet_op
              refine hK _ ?_; clear hK K
              refine rg_det rfl rfl rfl (fun K hK => ?_)
              go_big_quiet_op
              refine hK _ ?_; clear hK K
              refine rg_det rfl rfl rfl (fun K hK => ?_)
              go_big_quiet_op
              refine hK _ ?_; clear hK K
              refine rg_det rfl rfl rfl (fun K hK => ?_)
              go_big_quiet_op
              refine hK _ ?_; clear hK K
              refine rg_det rfl rfl rfl (fun K hK => ?_)
              go_big_quiet_op
              refine hK _ ?_; clear hK K
              refine rg_det rfl rfl rfl (fun K hK => ?_)
              go_big_quiet_op
              refine hK _ ?_; clear hK K
              refine rg_det rfl rfl rfl (fun K hK => ?_)
              go_big_quiet_op
              refine hK _ ?_; clear hK K
              refine rg_det rfl rfl rfl (fun K hK => ?_)
              go_big_quiet_op
              refine hK _ ?_; clear hK K
              refine rg_val rfl rfl (fun W1 hW1 hF => step_callv en_attestor_attestorref03_Same (HSm.out W1 (grw_below hW1)) rfl rfl) ?_
              intro a' ha
              simp only [Act.put, List.setIfInBounds_toArray, List.set_cons_succ, List.set_cons_zero] at ha
              subst ha
              refine rg_det rfl rfl rfl (fun K hK => ?_)
              go_big_quiet_op
              refine hK _ ?_; clear hK K
              refine rg_det rfl rfl rfl (fun K hK => ?_)
              go_big_quiet_op
              refine hK _ ?_; clear hK K
              refine rg_det rfl rfl rfl (fun K hK => ?_)
              go_big_quiet_op
              refine hK _ ?_; clear hK K
              refine rg_det rfl rfl rfl (fun K hK => ?_)
              go_big_quiet_op
              refine hK _ ?_; clear hK K
              refine rg_det rfl rfl rfl (fun K hK => ?_)
              go_big_quiet_op
              refine hK _ ?_; clear hK K
              refine rg_det rfl rfl rfl (fun K hK => ?_)
              go_big_quiet_op
              refine hK _ ?_; clear hK K
              refine rg_det rfl rfl rfl (fun K hK => ?_)
              go_big_quiet_op
              refine hK _ ?_; clear hK K
              refine rg_det rfl rfl rfl (fun K hK => ?_)
              go_big_quiet_op
              refine hK _ ?_; clear hK K
              refine rg_det rfl rfl rfl (fun K hK => ?_)
              go_big_quiet_op
              refine hK _ ?_; clear hK K
              refine rg_det rfl rfl rfl (fun K hK => ?_)
              go_big_quiet_op
              refine hK _ ?_; clear hK K
              refine rg_det rfl rfl rfl (fun K hK => ?_)
              go_big_quiet_op
              refine hK _ ?_; clear hK K
              refine rg_val rfl rfl (fun W1 hW1 hF => step_callv en_attestor_attestorref03_At (HA1.out W1 (grw_below hW1)) rfl rfl) ?_
              intro a' ha
              simp only [Act.put, List.setIfInBounds_toArray, List.set_cons_succ, List.set_cons_zero] at ha
              subst ha
              refine rg_det rfl rfl rfl (fun K hK => ?_)
              go_big_quiet_op
              refine hK _ ?_; clear hK K
              refine rg_det rfl rfl rfl (fun K hK => ?_)
              go_big_quiet_op
              refine hK _ ?_; clear hK K
              refine rg_det rfl rfl rfl (fun K hK => ?_)
              go_big_quiet_op
              refine hK _ ?_; clear hK K
              refine rg_det rfl rfl rfl (fun K hK => ?_)
              go_big_quiet_op
              refine hK _ ?_; clear hK K
              refine rg_det rfl rfl rfl (fun K hK => ?_)
              go_big_quiet_op
              refine hK _ ?_; clear hK K
              refine rg_det rfl rfl rfl (fun K hK => ?_)
              go_big_quiet_op
              refine hK _ ?_; clear hK K
              refine rg_det rfl rfl rfl (fun K hK => ?_)
              go_big_quiet_op
              refine hK _ ?_; clear hK K
              refine rg_det rfl rfl rfl (fun K hK => ?_)
              go_big_quiet_op
              refine hK _ ?_; clear hK K
              refine rg_det rfl rfl rfl (fun K hK => ?_)
              go_big_quiet_op
              refine hK _ ?_; clear hK K
              refine rg_val rfl rfl (fun W1 hW1 hF => step_callv en_attestor_attestorref03_At (HA2.out W1 (grw_below hW1)) rfl rfl) ?_
              intro a' ha
              simp only [Act.put, List.setIfInBounds_toArray, List.set_cons_succ, List.set_cons_zero] at ha
              subst ha
              refine rg_det rfl rfl rfl (fun K hK => ?_)
              go_big_quiet_op
              refine hK _ ?_; clear hK K
              refine rg_det rfl rfl rfl (fun K hK => ?_)
              go_big_quiet_op
              refine hK _ ?_; clear hK K
              refine rg_nil (fun w' hw' hF => ?_)
              obtain ⟨zs, rfl⟩ := hw'
              simp only [List.drop_succ_cons, List.drop_zero]
              clear hF y1 y2 y3 y4 y8
              go_wp2_with fail
              go_ret
              exact ⟨rfl, h11.trans ((hBq.trans (zs.h.mono hBq.size)).mono h11.size)⟩
            · have HN := Lib.hid (HNx.out (.inr hne))
              clear hne HNx
              go_wp2_with fail
              refine wp_region_rg 33 [(8, Spec.val (.bool false)), (20, Spec.val (.agg #[.int .u64 (fv (a1).a), .int .u64 (fv (a1).b)])), (30, Spec.val (.agg #[.int .u64 (fv (a2).a), .int .u64 (fv (a2).b)]))] (by kernel_rfl) (by kernel_rfl) (by kernel_rfl) trivial ?_
              refine rg_det rfl rfl rfl (fun K hK => ?_)
              go_big_quiet_op
              refine hK _ ?_; clear hK K
              refine rg_det rfl rfl rfl (fun K hK => ?_)
              go_big_quiet_op
              refine hK _ ?_; clear hK K
              refine rg_det rfl rfl rfl (fun K hK => ?_)
              go_big_quiet_op
              refine hK _ ?_; clear hK K
              refine rg_det rfl rfl rfl (fun K hK => ?_)
              go_big_quiet_op
              refine hK _ ?_; clear hK K
              refine rg_det rfl rfl rfl (fun K hK => ?_)
              go_big_quiet_op
              refine hK _ ?_; clear hK K
              refine rg_det rfl rfl rfl (fun K hK => ?_)
              go_big_quiet_op
              refine hK _ ?_; clear hK K
              refine rg_det rfl rfl rfl (fun K hK => ?_)
              go_big_quiet_op
              refine hK _ ?_; clear hK K
              refine rg_det rfl rfl rfl (fun K hK => ?_)
              go_big_quiet_op
              refine hK _ ?_; clear hK K
              refine rg_val rfl rfl (fun W1 hW1 hF => step_callv en_attestor_attestorref03_Same (HSm.out W1 (grw_below hW1)) rfl rfl) ?_
              intro a' ha
              simp only [Act.put, List.setIfInBounds_toArray, List.set_cons_succ, List.set_cons_zero] at ha
              subst ha
              refine rg_det rfl rfl rfl (fun K hK => ?_)
              go_big_quiet_op
              refine hK _ ?_; clear hK K
              refine rg_det rfl rfl rfl (fun K hK => ?_)
              go_big_quiet_op
              refine hK _ ?_; clear hK K
              refine rg_det rfl rfl rfl (fun K hK => ?_)
              go_big_quiet_op
              refine hK _ ?_; clear hK K
              refine rg_det rfl rfl rfl (fun K hK => ?_)
              go_big_quiet_op
              refine hK _ ?_; clear hK K
              refine rg_det rfl rfl rfl (fun K hK => ?_)
              go_big_quiet_op
              refine hK _ ?_; clear hK K
              refine rg_det rfl rfl rfl (fun K hK => ?_)
              go_big_quiet_op
              refine hK _ ?_; clear hK K
              refine rg_det rfl rfl rfl (fun K hK => ?_)
              go_big_quiet_op
              refine hK _ ?_; clear hK K
              refine rg_det rfl rfl rfl (fun K hK => ?_)
              go_big_quiet_op
              refine hK _ ?_; clear hK K
              refine rg_det rfl rfl rfl (fun K hK => ?_)
              go_big_quiet_op
              refine hK _ ?_; clear hK K
              refine rg_det rfl rfl rfl (fun K hK => ?_)
              go_big_quiet_op
              refine hK _ ?_; clear hK K
              refine rg_det rfl rfl rfl (fun K hK => ?_)
              go_big_quiet_op
              refine hK _ ?_; clear hK K
              refine rg_val rfl rfl (fun W1 hW1 hF => step_callv en_attestor_attestorref03_At (HA1.out W1 (grw_below hW1)) rfl rfl) ?_
              intro a' ha
              simp only [Act.put, List.setIfInBounds_toArray, List.set_cons_succ, List.set_cons_zero] at ha
              subst ha
              refine rg_det rfl rfl rfl (fun K hK => ?_)
              go_big_quiet_op
              refine hK _ ?_; clear hK K
              refine rg_det rfl rfl rfl (fun K hK => ?_)
              go_big_quiet_op
              refine hK _ ?_; clear hK K
              refine rg_det rfl rfl rfl (fun K hK => ?_)
              go_big_quiet_op
              refine hK _ ?_; clear hK K
              refine rg_det rfl rfl rfl (fun K hK => ?_)
              go_big_quiet_op
              refine hK _ ?_; clear hK K
              refine rg_det rfl rfl rfl (fun K hK => ?_)
              go_big_quiet_op
              refine hK _ ?_; clear hK K
              refine rg_det rfl rfl rfl (fun K hK => ?_)
              go_big_quiet_op
              refine hK _ ?_; clear hK K
              refine rg_det rfl rfl rfl (fun K hK => ?_)
              go_big_quiet_op
              refine hK _ ?_; clear hK K
              refine rg_det rfl rfl rfl (fun K hK => ?_)
              go_big_quiet_op
              refine hK _ ?_; clear hK K
              refine rg_det rfl rfl rfl (fun K hK => ?_)
              go_big_quiet_op
              refine hK _ ?_; clear hK K
              refine rg_val rfl rfl (fun W1 hW1 hF => step_callv en_attestor_attestorref03_At (HA2.out W1 (grw_below hW1)) rfl rfl) ?_
              intro a' ha
              simp only [Act.put, List.setIfInBounds_toArray, List.set_cons_succ, List.set_cons_zero] at ha
              subst ha
              refine rg_det rfl rfl rfl (fun K hK => ?_)
              go_big_quiet_op
              refine hK _ ?_; clear hK K
              refine rg_det rfl rfl rfl (fun K hK => ?_)
              go_big_quiet_op
              refine hK _ ?_; clear hK K
              refine rg_nil (fun w' hw' hF => ?_)
              obtain ⟨zs, rfl⟩ := hw'
              simp only [List.drop_succ_cons, List.drop_zero]
              clear hF y1 y2 y3 y4 y8
              go_wp2_with fail
              have hm1 := HN.out
              have hgk' := Hgk.out
              exact ⟨⟨m + 1, by omega, by go_num, hBq.trans (zs.h.mono hBq.size)⟩, by simp [intOf]; omega⟩
            · have HN := Lib.hid (HNx.out (.inr hne))
              clear hne HNx
              go_wp2_with fail
              refine wp_region_rg 33 [(8, Spec.val (.bool false)), (20, Spec.val (.agg #[.int .u64 (fv (a1).a), .int .u64 (fv (a1).b)])), (30, Spec.val (.agg #[.int .u64 (fv (a2).a), .int .u64 (fv (a2).b)]))] (by kernel_rfl) (by kernel_rfl) (by kernel_rfl) trivial ?_
              refine rg_det rfl rfl rfl (fun K hK => ?_)
              go_big_quiet_op
              refine hK _ ?_; clear hK K
              refine rg_det rfl rfl rfl (fun K hK => ?_)
              go_big_quiet_op
              refine hK _ ?_; clear hK K
              refine rg_det rfl rfl rfl (fun K hK => ?_)
              go_big_quiet_op
              refine hK _ ?_; clear hK K
              refine rg_det rfl rfl rfl (fun K hK => ?_)
              go_big_quiet_op
              refine hK _ ?_; clear hK K
              refine rg_det rfl rfl rfl (fun K hK => ?_)
              go_big_quiet_op
              refine hK _ ?_; clear hK K
              refine rg_det rfl rfl rfl (fun K hK => ?_)
              go_big_quiet_op
              refine hK _ ?_; clear hK K
              refine rg_det rfl rfl rfl (fun K hK => ?_)
              go_big_quiet_op
              refine hK _ ?_; clear hK K
              refine rg_det rfl rfl rfl (fun K hK => ?_)
              go_big_quiet_op
              refine hK _ ?_; clear hK K
              refine rg_val rfl rfl (fun W1 hW1 hF => step_callv en_attestor_attestorref03_Same (HSm.out W1 (grw_below hW1)) rfl rfl) ?_
              intro a' ha
              simp only [Act.put, List.setIfInBounds_toArray, List.set_cons_succ, List.set_cons_zero] at ha
              subst ha
              refine rg_det rfl rfl rfl (fun K hK => ?_)
              go_big_quiet_op
              refine hK _ ?_; clear hK K
              refine rg_det rfl rfl rfl (fun K hK => ?_)
              go_big_quiet_op
              refine hK _ ?_; clear hK K
              refine rg_det rfl rfl rfl (fun K hK => ?_)
              go_big_quiet_op
              refine hK _ ?_; clear hK K
              refine rg_det rfl rfl rfl (fun K hK => ?_)
              go_big_quiet_op
              refine hK _ ?_; clear hK K
              refine rg_det rfl rfl rfl (fun K hK => ?_)
              go_big_quiet_op
              refine hK _ ?_; clear hK K
              refine rg_det rfl rfl rfl (fun K hK => ?_)
              go_big_quiet_op
              refine hK _ ?_; clear hK K
              refine rg_det rfl rfl rfl (fun K hK => ?_)
              go_big_quiet_op
              refine hK _ ?_; clear hK K
              refine rg_det rfl rfl rfl (fun K hK => ?_)
              go_big_quiet_op
              refine hK _ ?_; clear hK K
              refine rg_det rfl rfl rfl (fun K hK => ?_)
              go_big_quiet_op
              refine hK _ ?_; clear hK K
              refine rg_det rfl rfl rfl (fun K hK => ?_)
              go_big_quiet_op
              refine hK _ ?_; clear hK K
              refine rg_det rfl rfl rfl (fun K hK => ?_)
              go_big_quiet_op
              refine hK _ ?_; clear hK K
              refine rg_val rfl rfl (fun W1 hW1 hF => step_callv en_attestor_attestorref03_At (HA1.out W1 (grw_below hW1)) rfl rfl) ?_
              intro a' ha
              simp only [Act.put, List.setIfInBounds_toArray, List.set_cons_succ, List.set_cons_zero] at ha
              subst ha
              refine rg_det rfl rfl rfl (fun K hK => ?_)
              go_big_quiet_op
              refine hK _ ?_; clear hK K
              refine rg_det rfl rfl rfl (fun K hK => ?_)
              go_big_quiet_op
              refine hK _ ?_; clear hK K
              refine rg_det rfl rfl rfl (fun K hK => ?_)
              go_big_quiet_op
              refine hK _ ?_; clear hK K
              refine rg_det rfl rfl rfl (fun K hK => ?_)
              go_big_quiet_op
              refine hK _ ?_; clear hK K
              refine rg_det rfl rfl rfl (fun K hK => ?_)
              go_big_quiet_op
              refine hK _ ?_; clear hK K
              refine rg_det rfl rfl rfl (fun K hK => ?_)
              go_big_quiet_op
              refine hK _ ?_; clear hK K
              refine rg_det rfl rfl rfl (fun K hK => ?_)
              go_big_quiet_op
              refine hK _ ?_; clear hK K
              refine rg_det rfl rfl rfl (fun K hK => ?_)
              go_big_quiet_op
              refine hK _ ?_; clear hK K
              refine rg_det rfl rfl rfl (fun K hK => ?_)
              go_big_quiet_op
              refine hK _ ?_; clear hK K
              refine rg_val rfl rfl (fun W1 hW1 hF => step_callv en_attestor_attestorref03_At (HA2.out W1 (grw_below hW1)) rfl rfl) ?_
              intro a' ha
              simp only [Act.put, List.setIfInBounds_toArray, List.set_cons_succ, List.set_cons_zero] at ha
              subst ha
              refine rg_det rfl rfl rfl (fun K hK => ?_)
              go_big_quiet_op
              refine hK _ ?_; clear hK K
              refine rg_det rfl rfl rfl (fun K hK => ?_)
              go_big_quiet_op
              refine hK _ ?_; clear hK K
              refine rg_nil (fun w' hw' hF => ?_)
              obtain ⟨zs, rfl⟩ := hw'
              simp only [List.drop_succ_cons, List.drop_zero]
              clear hF y1 y2 y3 y4 y8
              go_wp2_with fail
              have hm1 := HN.out
              have hgk' := Hgk.out
              exact ⟨⟨m + 1, by omega, by go_num, hBq.trans (zs.h.mono hBq.size)⟩, by simp [intOf]; omega⟩
      · have hne : (e0 != 0) = true := bne_iff_ne.2 he0
        go_wp2_with fail
        go_ret
        exact ⟨rfl, h6⟩
end Go.Proofs.YtipaecageimnnaaDoor
