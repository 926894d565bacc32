/-
  The fixed examples of chapter 17.
-/
import Derived.Test.YtbmgngoeiadmmaaDoorMd
import Derived.Test.YtbmgngoeiadmmaaDoorSame
namespace Go.Proofs.YtbmgngoeiadmmaaDoor
open Go.RowKit

theorem flat_zc : ∀ zs : List Int, (zs.flatMap zc) = zs.map fun z => .int .i64 z
  | [] => rfl
  | z :: zs => by rw [List.flatMap_cons, flat_zc zs]; rfl
theorem ints_of_blk {W : World} {g : Nat} {t : TypeId} {zs : List Int} {n lo hi : Nat} (h : Blk W g t ((zs.map fun z => Value.int .i64 z).toArray)) (hn : zs.length = n) (hb : n ≤ 1000000) (hlo : lo ≤ g) (hhi : g < hi) (hz : ∀ z ∈ zs, -1000000 ≤ z ∧ z ≤ 1000000) : IntS lo hi W (.slice (some ⟨g, 0, none⟩) n n) zs := by
  subst hn
  refine ⟨⟨by rw [flat_length zc_len], by omega, some ⟨g, 0, none⟩, zs.length, rfl, Nat.le_refl _, fun _ => ⟨g, 0, rfl, hlo, hhi, h.lt, fun j u hu => ?_⟩⟩, fun z hz' => ?_⟩
  · rw [Nat.zero_add, h.cell, ← flat_zc]
    simpa using hu
  · obtain ⟨h1, h2⟩ := hz z hz'
    unfold Num
    omega
theorem gates_of_blk {W : World} {g : Nat} {t : TypeId} {gs : List Gt} {n lo hi : Nat} (h : Blk W g t (gs.flatMap gc).toArray) (hn : gs.length = n) (hb : n ≤ 1000000) (hlo : lo ≤ g) (hhi : g < hi) : GateS lo hi W (.slice (some ⟨g, 0, none⟩) n n) gs := by
  subst hn
  refine ⟨flat_length gc_len gs, by omega, some ⟨g, 0, none⟩, gs.length, rfl, Nat.le_refl _, fun _ => ⟨g, 0, rfl, hlo, hhi, h.lt, fun j u hu => ?_⟩⟩
  rw [Nat.zero_add, h.cell]
  simpa using hu
def g0 : Gt := ⟨0, 1, 1, 3, 0, 5⟩
theorem g0_cells : ([g0].flatMap gc).toArray = #[.int .i64 0, .int .i64 1, .int .u64 1, .int .u64 3, .int .u64 0, .int .u64 5] := rfl
theorem i64_info : (Tryd.prog.info? 2).map (fun i => (i.zero, i.size, i.bytes)) = some (some (.int .i64 0), 1, 8) := by kernel_rfl
theorem san1 : coefs (intsE [4]) (intsE [7]) [g0] (intsE [2]) = intsE [-42, -126, 0, -210] := by kernel_rfl
theorem san2 : point (intsE [4]) (intsE [7]) [g0] (intsE [2]) (eb (fz 10)) (eb (fz 100)) = eb (fz (-43470)) := by kernel_rfl
theorem san3 : tabsT 1 ([g0].zip (intsE [2])) = [intsE [0, 0, 2, 0], intsE [0, 0, 6, 0], intsE [0, 0, 0, 0], intsE [0, 0, 10, 0]] := by kernel_rfl
theorem san4 : coefs (intsE [4]) (intsE [7]) [] [] = intsE [0, 0, 0, 0] := by kernel_rfl
theorem san5 : point (intsE [4]) (intsE [7]) [] [] (eb (fz 10)) (eb (fz 100)) = 0 := by kernel_rfl
theorem g0_ok : ∀ g ∈ [g0], g.L < 2 ^ (intsE [4]).length ∧ g.R < 2 ^ (intsE [7]).length := by decide
set_option maxRecDepth 100000 in
set_option maxHeartbeats 4000000 in
theorem lSanity (w : World) (hL : Laid w) : Calls Tryd.prog 11 #[] w (Ret (.bool true) w) := by
  obtain ⟨j0, hj0, hjz0, hjz1, hjz2⟩ := info_parts i64_info
  go_enter Tryd.func11, Tryd.ntmps11
  go_wp2_with fail
  refine calls_stk2 fun W hB hz b1 b2 => ?_
  refine (lInts [2] _ 0 W.heap.size W (ints_of_blk (zs := [2]) b2 rfl (by decide) (Nat.zero_le _) b2.lt (by decide)) (by decide)).mono ?_
  rintro e w2 ⟨v2, rfl, h2, hb2⟩
  obtain ⟨A2, cap2, rfl⟩ := Rd.len h2
  have hB2 := hB.trans (hb2.mono hB.size)
  have b1' := b1.keep hb2
  go_wp2_with fail
  refine calls_stk1 fun W3 hB3 hz3 b3 => ?_
  refine (lInts [4] _ 0 W3.heap.size W3 (ints_of_blk (zs := [4]) b3 rfl (by decide) (Nat.zero_le _) b3.lt (by decide)) (by decide)).mono ?_
  rintro e w4 ⟨v4, rfl, h4, hb4⟩
  obtain ⟨A4, cap4, rfl⟩ := Rd.len h4
  have hB24 := hB3.trans (hb4.mono hB3.size)
  go_wp2_with fail
  refine calls_stk1 fun W5 hB5 hz5 b5 => ?_
  refine (lInts [7] _ 0 W5.heap.size W5 (ints_of_blk (zs := [7]) b5 rfl (by decide) (Nat.zero_le _) b5.lt (by decide)) (by decide)).mono ?_
  rintro e w6 ⟨v6, rfl, h6, hb6⟩
  obtain ⟨A6, cap6, rfl⟩ := Rd.len h6
  have hB46 := hB5.trans (hb6.mono hB5.size)
  go_wp2_with fail
  refine (xFromInt 10 (by decide) (by decide) _).mono ?_
  rintro e w7 ⟨he, hb7⟩
  unfold ev at he
  subst he
  go_wp2_with fail
  refine (xFromInt 100 (by decide) (by decide) _).mono ?_
  rintro e w8 ⟨he, hb8⟩
  unfold ev at he
  subst he
  go_wp2_with fail
  refine calls_stk1 fun W9 hB9 hz9 b9 => ?_
  have hB26 := hB24.trans (hB46.mono hB24.size)
  have hB28 := (hb7.trans (hb8.mono hb7.size)).trans (hB9.mono (Nat.le_trans hb7.size hb8.size))
  have hB29 := hB26.trans (hB28.mono hB26.size)
  have s24 := hB24.size
  have s46 := hB46.size
  have s69 := hB28.size
  have bg := b1'.keep hB29
  have g9 : GateS 0 W9.heap.size W9 (.slice (some ⟨w.heap.size, 0, none⟩) 1 1) [g0] := gates_of_blk (by rw [g0_cells]; exact bg) rfl (by decide) (Nat.zero_le _) bg.lt
  have u9 : ExtS 0 W9.heap.size W9 (.slice A2 (intsE [2]).length cap2) (intsE [2]) := (Rd.keep h2 hB29).wide (Nat.zero_le _) (Nat.le_trans s24 (Nat.le_trans s46 s69))
  have p9 : ExtS 0 W9.heap.size W9 (.slice A4 (intsE [4]).length cap4) (intsE [4]) := (Rd.keep (Rd.keep h4 hB46) hB28).wide (Nat.zero_le _) (Nat.le_trans s46 s69)
  have q9 : ExtS 0 W9.heap.size W9 (.slice A6 (intsE [7]).length cap6) (intsE [7]) := (Rd.keep h6 hB28).wide (Nat.zero_le _) s69
  have hB09 := hB2.trans (hB29.mono hB2.size)
  have L9 := hL.keep hB09
  refine (wTables [g0] (intsE [2]) 1 _ _ 0 W9.heap.size 0 W9.heap.size W9 g9 u9 (Nat.le_refl _) (Nat.le_refl _) (by decide) (by decide) (by decide)).mono ?_
  rintro e w10 ⟨v10, rfl, ht, hb10⟩
  obtain ⟨A10, cap10, rfl⟩ := TabS.len ht
  rw [san3] at ht
  obtain ⟨vs, hvs, hrd, hel⟩ := ht
  obtain ⟨x0, x1, x2, x3, rfl⟩ : ∃ x0 x1 x2 x3, vs = [x0, x1, x2, x3] := by
    match vs, hvs with
    | [x0, x1, x2, x3], _ => exact ⟨x0, x1, x2, x3, rfl⟩
  have t0 := hel 0 x0 _ rfl rfl
  have t1 := hel 1 x1 _ rfl rfl
  have t2 := hel 2 x2 _ rfl rfl
  have t3 := hel 3 x3 _ rfl rfl
  obtain ⟨gT, oT, capT, hv, q1, q2, q3, q4, q5⟩ := Rd.form hrd (by decide)
  have k0 := q5 0 _ rfl
  rw [Nat.add_zero] at k0
  have k1 := q5 1 _ rfl
  have k2 := q5 2 _ rfl
  have k3 := q5 3 _ rfl
  have hlen : ((tabsT 1 ([g0].zip (intsE [2]))).length : Int) = 4 := by rw [san3]; rfl
  have hlenN : (tabsT 1 ([g0].zip (intsE [2]))).length = 4 := by rw [san3]; rfl
  rw [hlenN]
  cases hv
  have b10 := b9.keep hb10
  have hB0t := hB09.trans (hb10.mono hB09.size)
  have c0 := gw_cell q4 k0
  have c1 := gw_cell q4 k1
  have c2 := gw_cell q4 k2
  have c3 := gw_cell q4 k3
  have c9 := gw_blk b10
  clear q5 hel hrd k0 k1 k2 k3 hlen hlenN
  have gt := (Rd.keep g9 hb10).wide (Nat.zero_le _) hb10.size
  have ut := (Rd.keep u9 hb10).wide (Nat.zero_le _) hb10.size
  have pt := (Rd.keep p9 hb10).wide (Nat.zero_le _) hb10.size
  have qt := (Rd.keep q9 hb10).wide (Nat.zero_le _) hb10.size
  have Lt := L9.keep hb10
  obtain ⟨e43, h43⟩ : ∃ e, eb (fz (-43470)) = e := ⟨_, rfl⟩
  have X3 : ∀ W1, Below w10.heap.size w10 W1 → Calls Tryd.prog 16 #[.slice (some ⟨w.heap.size, 0, none⟩) 1 1, .slice A2 (intsE [2]).length cap2, endsV (.slice A4 (intsE [4]).length cap4) (.slice A6 (intsE [7]).length cap6) (eb (fz 10)) (eb (fz 100))] W1 (RetR (ExtA (intsE [-42, -126, 0, -210])) W1) := fun W1 h => by
    rw [← san1]
    exact wCoef [g0] (intsE [2]) (intsE [4]) (intsE [7]) _ _ _ _ _ _ _ _ _ _ _ _ _ _ W1 (Rd.keep gt h) (Rd.keep ut h) (Rd.keep pt h) (Rd.keep qt h) h.size h.size h.size h.size (Lt.keep h) (by decide) g0_ok (by decide) (by decide)
  have X11 : ∀ W1, Below w10.heap.size w10 W1 → Calls Tryd.prog 18 #[.slice (some ⟨w.heap.size, 0, none⟩) 1 1, .slice A2 (intsE [2]).length cap2, endsV (.slice A4 (intsE [4]).length cap4) (.slice A6 (intsE [7]).length cap6) (eb (fz 10)) (eb (fz 100))] W1 (Ret (ev e43) W1) := fun W1 h => by
    rw [← h43, ← san2]
    exact wPoint [g0] (intsE [2]) (intsE [4]) (intsE [7]) _ _ _ _ _ _ _ _ _ _ _ _ _ _ W1 (Rd.keep gt h) (Rd.keep ut h) (Rd.keep pt h) (Rd.keep qt h) h.size h.size h.size h.size (Lt.keep h) (by decide) g0_ok (by decide) (by decide)
  have X12 : ∀ W1, Calls Tryd.prog 35 #[.int .i64 (-43470)] W1 (Ret (ev e43) W1) := fun W1 => by rw [← h43]; exact xFromInt (-43470) (by decide) (by decide) W1
  have X49 : ∀ W1, Below w10.heap.size w10 W1 → Calls Tryd.prog 16 #[.slice none 0 0, .slice none 0 0, endsV (.slice A4 (intsE [4]).length cap4) (.slice A6 (intsE [7]).length cap6) (eb (fz 10)) (eb (fz 100))] W1 (RetR (ExtA (intsE [0, 0, 0, 0])) W1) := fun W1 h => by
    rw [← san4]
    exact wCoef [] [] (intsE [4]) (intsE [7]) _ _ _ _ _ _ 0 0 0 0 _ _ _ _ W1 (rd_nil _ _ _ _ _ _) (rd_nil _ _ _ _ _ _) (Rd.keep pt h) (Rd.keep qt h) (Nat.zero_le _) (Nat.zero_le _) h.size h.size (Lt.keep h) (by decide) (by decide) (by decide) (by decide)
  have X56 : ∀ W1, Below w10.heap.size w10 W1 → Calls Tryd.prog 18 #[.slice none 0 0, .slice none 0 0, endsV (.slice A4 (intsE [4]).length cap4) (.slice A6 (intsE [7]).length cap6) (eb (fz 10)) (eb (fz 100))] W1 (Ret (ev 0) W1) := fun W1 h => by
    rw [← san5]
    exact wPoint [] [] (intsE [4]) (intsE [7]) _ _ _ _ _ _ 0 0 0 0 _ _ _ _ W1 (rd_nil _ _ _ _ _ _) (rd_nil _ _ _ _ _ _) (Rd.keep pt h) (Rd.keep qt h) (Nat.zero_le _) (Nat.zero_le _) h.size h.size (Lt.keep h) (by decide) (by decide) (by decide) (by decide)
  have X57 : ∀ W1, Calls Tryd.prog 36 #[ev 0] W1 (Ret (.bool true) W1) := fun W1 => eIsZero 0 W1
  have T0 : ∀ W1, Below w10.heap.size w10 W1 → ExtS _ _ W1 x0 (intsE [0, 0, 2, 0]) := fun W1 h => Rd.keep t0 h
  have T1 : ∀ W1, Below w10.heap.size w10 W1 → ExtS _ _ W1 x1 (intsE [0, 0, 6, 0]) := fun W1 h => Rd.keep t1 h
  have T2 : ∀ W1, Below w10.heap.size w10 W1 → ExtS _ _ W1 x2 (intsE [0, 0, 0, 0]) := fun W1 h => Rd.keep t2 h
  have T3 : ∀ W1, Below w10.heap.size w10 W1 → ExtS _ _ W1 x3 (intsE [0, 0, 10, 0]) := fun W1 h => Rd.keep t3 h
  replace X3 := Lib.hid X3
  replace X11 := Lib.hid X11
  replace X12 := Lib.hid X12
  replace X49 := Lib.hid X49
  replace X56 := Lib.hid X56
  replace X57 := Lib.hid X57
  replace T0 := Lib.hid T0
  replace T1 := Lib.hid T1
  replace T2 := Lib.hid T2
  replace T3 := Lib.hid T3
  generalize eb (fz 10) = e10 at *
  generalize eb (fz 100) = e100 at *
  go_wp2_with fail
  refine wp_region_rg 59 [(3, Spec.rel (ExtA (intsE [-42, -126, 0, -210])) (SlF 4)), (4, Spec.rel (Lit 2 4 #[.int .i64 (-42), .int .i64 (-126), .int .i64 0, .int .i64 (-210)]) (LitF 4)), (5, Spec.rel (ExtA (intsE [-42, -126, 0, -210])) (SlF 4)), (6, Spec.val (.bool true)), (11, Spec.val (.agg #[.int .u64 (fv (e43).a), .int .u64 (fv (e43).b)])), (12, Spec.val (.agg #[.int .u64 (fv (e43).a), .int .u64 (fv (e43).b)])), (19, Spec.rel (Lit 2 4 #[.int .i64 0, .int .i64 0, .int .i64 2, .int .i64 0]) (LitF 4)), (20, Spec.rel (ExtA (intsE [0, 0, 2, 0])) (SlF 4)), (21, Spec.val (.bool true)), (27, Spec.rel (Lit 2 4 #[.int .i64 0, .int .i64 0, .int .i64 6, .int .i64 0]) (LitF 4)), (28, Spec.rel (ExtA (intsE [0, 0, 6, 0])) (SlF 4)), (29, Spec.val (.bool true)), (35, Spec.rel (Lit 2 4 #[.int .i64 0, .int .i64 0, .int .i64 0, .int .i64 0]) (LitF 4)), (36, Spec.rel (ExtA (intsE [0, 0, 0, 0])) (SlF 4)), (37, Spec.val (.bool true)), (43, Spec.rel (Lit 2 4 #[.int .i64 0, .int .i64 0, .int .i64 10, .int .i64 0]) (LitF 4)), (44, Spec.rel (ExtA (intsE [0, 0, 10, 0])) (SlF 4)), (45, Spec.val (.bool true)), (49, Spec.rel (ExtA (intsE [0, 0, 0, 0])) (SlF 4)), (50, Spec.rel (Lit 2 4 #[.int .i64 0, .int .i64 0, .int .i64 0, .int .i64 0]) (LitF 4)), (51, Spec.rel (ExtA (intsE [0, 0, 0, 0])) (SlF 4)), (52, Spec.val (.bool true)), (56, Spec.val (.agg #[.int .u64 (fv ((0 : E)).a), .int .u64 (fv ((0 : E)).b)])), (57, Spec.val (.bool true))] (by kernel_rfl) (by kernel_rfl) (by kernel_rfl) ⟨fit_ext, fit_lit, fit_ext, fit_lit, fit_ext, fit_lit, fit_ext, fit_lit, fit_ext, fit_lit, fit_ext, fit_ext, fit_lit, fit_ext, trivial⟩ ?_
  refine rg_det rfl rfl rfl (fun K hK => ?_)
  go_big_quiet_op
  refine hK _ ?_; clear hK K
  refine rg_det rfl rfl rfl (fun K hK => ?_)
  go_big_quiet_op
  refine hK _ ?_; clear hK K
  refine rg_det rfl rfl rfl (fun K hK => ?_)
  go_big_quiet_op
  refine hK _ ?_; clear hK K
  refine rg_rel rfl rfl (fun W1 hW1 hF => step_callr en_attestor_wiring_Coefficients (X3.out W1 (grw_below hW1)) rfl rfl) ?_
  intro n3 m3 v3 hn3 hm3 hd3 hf3 a' ha
  simp only [Act.put, List.setIfInBounds_toArray, List.set_cons_succ, List.set_cons_zero] at ha
  subst ha
  obtain ⟨A3, cap3, rfl⟩ := hf3
  refine rg_rel rfl rfl (fun W1 hW1 hF => step_litF (parts := [(0, Operand.const (.int .i64 (-42))), (1, Operand.const (.int .i64 (-126))), (2, Operand.const (.int .i64 0)), (3, Operand.const (.int .i64 (-210)))]) (vs := [.int .i64 (-42), .int .i64 (-126), .int .i64 0, .int .i64 (-210)]) Tryd.underlying62 hj0 hjz0 hjz1 rfl (by decide) (by decide) rfl rfl (by simp [Value.cells])) ?_
  intro n4 m4 v4 hn4 hm4 hd4 hf4 a' ha
  simp only [Act.put, List.setIfInBounds_toArray, List.set_cons_succ, List.set_cons_zero] at ha
  subst ha
  obtain rfl := hf4
  refine rg_rel rfl rfl (fun W1 hW1 hF => step_callr en_attestor_attestorlaw17_ints (lInts [-42, -126, 0, -210] _ 0 W1.heap.size W1 (ints_of_blk (zs := [-42, -126, 0, -210]) (pick_last hF (by kernel_rfl)).2.2.2 rfl (by decide) (Nat.zero_le _) (pick_last hF (by kernel_rfl)).2.2.2.lt (by decide)) (by decide)) rfl rfl) ?_
  intro n5 m5 v5 hn5 hm5 hd5 hf5 a' ha
  simp only [Act.put, List.setIfInBounds_toArray, List.set_cons_succ, List.set_cons_zero] at ha
  subst ha
  obtain ⟨A5, cap5, rfl⟩ := hf5
  refine rg_val rfl rfl (fun W1 hW1 hF => step_callv en_attestor_attestorref02_Same (xSame (intsE [-42, -126, 0, -210]) _ _ _ _ _ _ W1 (pick_last (pick_init (pick_init hF)) (by kernel_rfl)).2 (pick_last hF (by kernel_rfl)).2) rfl rfl) ?_
  intro a' ha
  simp only [Act.put, List.setIfInBounds_toArray, List.set_cons_succ, List.set_cons_zero] at ha
  subst ha
  refine rg_det rfl rfl rfl (fun K hK => ?_)
  go_big_quiet_op
  refine hK _ ?_; clear hK K
  refine rg_det rfl rfl rfl (fun K hK => ?_)
  go_big_quiet_op
  refine hK _ ?_; clear hK K
  refine rg_det rfl rfl rfl (fun K hK => ?_)
  go_big_quiet_op
  refine hK _ ?_; clear hK K
  refine rg_det rfl rfl rfl (fun K hK => ?_)
  go_big_quiet_op
  refine hK _ ?_; clear hK K
  refine rg_val rfl rfl (fun W1 hW1 hF => step_callv en_attestor_wiring_Point (X11.out W1 (grw_below hW1)) rfl rfl) ?_
  intro a' ha
  simp only [Act.put, List.setIfInBounds_toArray, List.set_cons_succ, List.set_cons_zero] at ha
  subst ha
  refine rg_val rfl rfl (fun W1 hW1 hF => step_callv en_attestor_attestorref02_FromInt (X12.out W1) rfl rfl) ?_
  intro a' ha
  simp only [Act.put, List.setIfInBounds_toArray, List.set_cons_succ, List.set_cons_zero] at ha
  subst ha
  refine rg_det rfl rfl rfl (fun K hK => ?_)
  go_big_quiet_op
  refine hK _ ?_; clear hK K
  refine rg_det rfl rfl rfl (fun K hK => ?_)
  go_big_quiet_op
  refine hK _ ?_; clear hK K
  refine rg_det rfl rfl rfl (fun K hK => ?_)
  go_big_quiet_op
  refine hK _ ?_; clear hK K
  refine rg_det rfl rfl rfl (fun K hK => ?_)
  go_big_quiet_op
  refine hK _ ?_; clear hK K
  refine rg_det rfl rfl rfl (fun K hK => ?_)
  go_big_quiet_op
  refine hK _ ?_; clear hK K
  refine rg_det rfl rfl rfl (fun K hK => ?_)
  go_big_quiet_op
  refine hK _ ?_; clear hK K
  refine rg_rel rfl rfl (fun W1 hW1 hF => step_litF (parts := [(0, Operand.const (.int .i64 0)), (1, Operand.const (.int .i64 0)), (2, Operand.const (.int .i64 2)), (3, Operand.const (.int .i64 0))]) (vs := [.int .i64 0, .int .i64 0, .int .i64 2, .int .i64 0]) Tryd.underlying62 hj0 hjz0 hjz1 rfl (by decide) (by decide) rfl rfl (by simp [Value.cells])) ?_
  intro n19 m19 v19 hn19 hm19 hd19 hf19 a' ha
  simp only [Act.put, List.setIfInBounds_toArray, List.set_cons_succ, List.set_cons_zero] at ha
  subst ha
  obtain rfl := hf19
  refine rg_rel rfl rfl (fun W1 hW1 hF => step_callr en_attestor_attestorlaw17_ints (lInts [0, 0, 2, 0] _ 0 W1.heap.size W1 (ints_of_blk (zs := [0, 0, 2, 0]) (pick_last hF (by kernel_rfl)).2.2.2 rfl (by decide) (Nat.zero_le _) (pick_last hF (by kernel_rfl)).2.2.2.lt (by decide)) (by decide)) rfl rfl) ?_
  intro n20 m20 v20 hn20 hm20 hd20 hf20 a' ha
  simp only [Act.put, List.setIfInBounds_toArray, List.set_cons_succ, List.set_cons_zero] at ha
  subst ha
  obtain ⟨A20, cap20, rfl⟩ := hf20
  refine rg_val rfl rfl (fun W1 hW1 hF => step_callv en_attestor_attestorref02_Same (xSame (intsE [0, 0, 2, 0]) _ _ _ _ _ _ W1 (T0.out W1 (grw_below hW1)) (pick_last hF (by kernel_rfl)).2) rfl rfl) ?_
  intro a' ha
  simp only [Act.put, List.setIfInBounds_toArray, List.set_cons_succ, List.set_cons_zero] at ha
  subst ha
  refine rg_det rfl rfl rfl (fun K hK => ?_)
  go_big_quiet_op
  refine hK _ ?_; clear hK K
  refine rg_det rfl rfl rfl (fun K hK => ?_)
  go_big_quiet_op
  refine hK _ ?_; clear hK K
  refine rg_det rfl rfl rfl (fun K hK => ?_)
  go_big_quiet_op
  refine hK _ ?_; clear hK K
  refine rg_det rfl rfl rfl (fun K hK => ?_)
  go_big_quiet_op
  refine hK _ ?_; clear hK K
  refine rg_det rfl rfl rfl (fun K hK => ?_)
  go_big_quiet_op
  refine hK _ ?_; clear hK K
  refine rg_rel rfl rfl (fun W1 hW1 hF => step_litF (parts := [(0, Operand.const (.int .i64 0)), (1, Operand.const (.int .i64 0)), (2, Operand.const (.int .i64 6)), (3, Operand.const (.int .i64 0))]) (vs := [.int .i64 0, .int .i64 0, .int .i64 6, .int .i64 0]) Tryd.underlying62 hj0 hjz0 hjz1 rfl (by decide) (by decide) rfl rfl (by simp [Value.cells])) ?_
  intro n27 m27 v27 hn27 hm27 hd27 hf27 a' ha
  simp only [Act.put, List.setIfInBounds_toArray, List.set_cons_succ, List.set_cons_zero] at ha
  subst ha
  obtain rfl := hf27
  refine rg_rel rfl rfl (fun W1 hW1 hF => step_callr en_attestor_attestorlaw17_ints (lInts [0, 0, 6, 0] _ 0 W1.heap.size W1 (ints_of_blk (zs := [0, 0, 6, 0]) (pick_last hF (by kernel_rfl)).2.2.2 rfl (by decide) (Nat.zero_le _) (pick_last hF (by kernel_rfl)).2.2.2.lt (by decide)) (by decide)) rfl rfl) ?_
  intro n28 m28 v28 hn28 hm28 hd28 hf28 a' ha
  simp only [Act.put, List.setIfInBounds_toArray, List.set_cons_succ, List.set_cons_zero] at ha
  subst ha
  obtain ⟨A28, cap28, rfl⟩ := hf28
  refine rg_val rfl rfl (fun W1 hW1 hF => step_callv en_attestor_attestorref02_Same (xSame (intsE [0, 0, 6, 0]) _ _ _ _ _ _ W1 (T1.out W1 (grw_below hW1)) (pick_last hF (by kernel_rfl)).2) rfl rfl) ?_
  intro a' ha
  simp only [Act.put, List.setIfInBounds_toArray, List.set_cons_succ, List.set_cons_zero] at ha
  subst ha
  refine rg_det rfl rfl rfl (fun K hK => ?_)
  go_big_quiet_op
  refine hK _ ?_; clear hK K
  refine rg_det rfl rfl rfl (fun K hK => ?_)
  go_big_quiet_op
  refine hK _ ?_; clear hK K
  refine rg_det rfl rfl rfl (fun K hK => ?_)
  go_big_quiet_op
  refine hK _ ?_; clear hK K
  refine rg_det rfl rfl rfl (fun K hK => ?_)
  go_big_quiet_op
  refine hK _ ?_; clear hK K
  refine rg_det rfl rfl rfl (fun K hK => ?_)
  go_big_quiet_op
  refine hK _ ?_; clear hK K
  refine rg_rel rfl rfl (fun W1 hW1 hF => step_litF (parts := [(0, Operand.const (.int .i64 0)), (1, Operand.const (.int .i64 0)), (2, Operand.const (.int .i64 0)), (3, Operand.const (.int .i64 0))]) (vs := [.int .i64 0, .int .i64 0, .int .i64 0, .int .i64 0]) Tryd.underlying62 hj0 hjz0 hjz1 rfl (by decide) (by decide) rfl rfl (by simp [Value.cells])) ?_
  intro n35 m35 v35 hn35 hm35 hd35 hf35 a' ha
  simp only [Act.put, List.setIfInBounds_toArray, List.set_cons_succ, List.set_cons_zero] at ha
  subst ha
  obtain rfl := hf35
  refine rg_rel rfl rfl (fun W1 hW1 hF => step_callr en_attestor_attestorlaw17_ints (lInts [0, 0, 0, 0] _ 0 W1.heap.size W1 (ints_of_blk (zs := [0, 0, 0, 0]) (pick_last hF (by kernel_rfl)).2.2.2 rfl (by decide) (Nat.zero_le _) (pick_last hF (by kernel_rfl)).2.2.2.lt (by decide)) (by decide)) rfl rfl) ?_
  intro n36 m36 v36 hn36 hm36 hd36 hf36 a' ha
  simp only [Act.put, List.setIfInBounds_toArray, List.set_cons_succ, List.set_cons_zero] at ha
  subst ha
  obtain ⟨A36, cap36, rfl⟩ := hf36
  refine rg_val rfl rfl (fun W1 hW1 hF => step_callv en_attestor_attestorref02_Same (xSame (intsE [0, 0, 0, 0]) _ _ _ _ _ _ W1 (T2.out W1 (grw_below hW1)) (pick_last hF (by kernel_rfl)).2) rfl rfl) ?_
  intro a' ha
  simp only [Act.put, List.setIfInBounds_toArray, List.set_cons_succ, List.set_cons_zero] at ha
  subst ha
  refine rg_det rfl rfl rfl (fun K hK => ?_)
  go_big_quiet_op
  refine hK _ ?_; clear hK K
  refine rg_det rfl rfl rfl (fun K hK => ?_)
  go_big_quiet_op
  refine hK _ ?_; clear hK K
  refine rg_det rfl rfl rfl (fun K hK => ?_)
  go_big_quiet_op
  refine hK _ ?_; clear hK K
  refine rg_det rfl rfl rfl (fun K hK => ?_)
  go_big_quiet_op
  refine hK _ ?_; clear hK K
  refine rg_det rfl rfl rfl (fun K hK => ?_)
  go_big_quiet_op
  refine hK _ ?_; clear hK K
  refine rg_rel rfl rfl (fun W1 hW1 hF => step_litF (parts := [(0, Operand.const (.int .i64 0)), (1, Operand.const (.int .i64 0)), (2, Operand.const (.int .i64 10)), (3, Operand.const (.int .i64 0))]) (vs := [.int .i64 0, .int .i64 0, .int .i64 10, .int .i64 0]) Tryd.underlying62 hj0 hjz0 hjz1 rfl (by decide) (by decide) rfl rfl (by simp [Value.cells])) ?_
  intro n43 m43 v43 hn43 hm43 hd43 hf43 a' ha
  simp only [Act.put, List.setIfInBounds_toArray, List.set_cons_succ, List.set_cons_zero] at ha
  subst ha
  obtain rfl := hf43
  refine rg_rel rfl rfl (fun W1 hW1 hF => step_callr en_attestor_attestorlaw17_ints (lInts [0, 0, 10, 0] _ 0 W1.heap.size W1 (ints_of_blk (zs := [0, 0, 10, 0]) (pick_last hF (by kernel_rfl)).2.2.2 rfl (by decide) (Nat.zero_le _) (pick_last hF (by kernel_rfl)).2.2.2.lt (by decide)) (by decide)) rfl rfl) ?_
  intro n44 m44 v44 hn44 hm44 hd44 hf44 a' ha
  simp only [Act.put, List.setIfInBounds_toArray, List.set_cons_succ, List.set_cons_zero] at ha
  subst ha
  obtain ⟨A44, cap44, rfl⟩ := hf44
  refine rg_val rfl rfl (fun W1 hW1 hF => step_callv en_attestor_attestorref02_Same (xSame (intsE [0, 0, 10, 0]) _ _ _ _ _ _ W1 (T3.out W1 (grw_below hW1)) (pick_last hF (by kernel_rfl)).2) rfl rfl) ?_
  intro a' ha
  simp only [Act.put, List.setIfInBounds_toArray, List.set_cons_succ, List.set_cons_zero] at ha
  subst ha
  refine rg_det rfl rfl rfl (fun K hK => ?_)
  go_big_quiet_op
  refine hK _ ?_; clear hK K
  refine rg_det rfl rfl rfl (fun K hK => ?_)
  go_big_quiet_op
  refine hK _ ?_; clear hK K
  refine rg_det rfl rfl rfl (fun K hK => ?_)
  go_big_quiet_op
  refine hK _ ?_; clear hK K
  refine rg_rel rfl rfl (fun W1 hW1 hF => step_callr en_attestor_wiring_Coefficients (X49.out W1 (grw_below hW1)) rfl rfl) ?_
  intro n49 m49 v49 hn49 hm49 hd49 hf49 a' ha
  simp only [Act.put, List.setIfInBounds_toArray, List.set_cons_succ, List.set_cons_zero] at ha
  subst ha
  obtain ⟨A49, cap49, rfl⟩ := hf49
  refine rg_rel rfl rfl (fun W1 hW1 hF => step_litF (parts := [(0, Operand.const (.int .i64 0)), (1, Operand.const (.int .i64 0)), (2, Operand.const (.int .i64 0)), (3, Operand.const (.int .i64 0))]) (vs := [.int .i64 0, .int .i64 0, .int .i64 0, .int .i64 0]) Tryd.underlying62 hj0 hjz0 hjz1 rfl (by decide) (by decide) rfl rfl (by simp [Value.cells])) ?_
  intro n50 m50 v50 hn50 hm50 hd50 hf50 a' ha
  simp only [Act.put, List.setIfInBounds_toArray, List.set_cons_succ, List.set_cons_zero] at ha
  subst ha
  obtain rfl := hf50
  refine rg_rel rfl rfl (fun W1 hW1 hF => step_callr en_attestor_attestorlaw17_ints (lInts [0, 0, 0, 0] _ 0 W1.heap.size W1 (ints_of_blk (zs := [0, 0, 0, 0]) (pick_last hF (by kernel_rfl)).2.2.2 rfl (by decide) (Nat.zero_le _) (pick_last hF (by kernel_rfl)).2.2.2.lt (by decide)) (by decide)) rfl rfl) ?_
  intro n51 m51 v51 hn51 hm51 hd51 hf51 a' ha
  simp only [Act.put, List.setIfInBounds_toArray, List.set_cons_succ, List.set_cons_zero] at ha
  subst ha
  obtain ⟨A51, cap51, rfl⟩ := hf51
  refine rg_val rfl rfl (fun W1 hW1 hF => step_callv en_attestor_attestorref02_Same (xSame (intsE [0, 0, 0, 0]) _ _ _ _ _ _ W1 (pick_last (pick_init (pick_init hF)) (by kernel_rfl)).2 (pick_last hF (by kernel_rfl)).2) rfl rfl) ?_
  intro a' ha
  simp only [Act.put, List.setIfInBounds_toArray, List.set_cons_succ, List.set_cons_zero] at ha
  subst ha
  refine rg_det rfl rfl rfl (fun K hK => ?_)
  go_big_quiet_op
  refine hK _ ?_; clear hK K
  refine rg_det rfl rfl rfl (fun K hK => ?_)
  go_big_quiet_op
  refine hK _ ?_; clear hK K
  refine rg_det rfl rfl rfl (fun K hK => ?_)
  go_big_quiet_op
  refine hK _ ?_; clear hK K
  refine rg_val rfl rfl (fun W1 hW1 hF => step_callv en_attestor_wiring_Point (X56.out W1 (grw_below hW1)) rfl rfl) ?_
  intro a' ha
  simp only [Act.put, List.setIfInBounds_toArray, List.set_cons_succ, List.set_cons_zero] at ha
  subst ha
  refine rg_val rfl rfl (fun W1 hW1 hF => step_callv en_attestor_ext_IsZero (X57.out W1) rfl rfl) ?_
  intro a' ha
  simp only [Act.put, List.setIfInBounds_toArray, List.set_cons_succ, List.set_cons_zero] at ha
  subst ha
  refine rg_det rfl rfl rfl (fun K hK => ?_)
  go_big_quiet_op
  refine hK _ ?_; clear hK K
  refine rg_nil (fun w' hw' hF => ?_)
  obtain ⟨z, rfl⟩ := hw'
  simp only [List.drop_succ_cons, List.drop_zero]
  clear hF X3 X11 X12 X49 X56 X57 T0 T1 T2 T3 c0 c1 c2 c3 c9
  go_wp2_with fail
  go_ret
  exact ⟨rfl, hB0t.trans (z.h.mono hB0t.size)⟩
end Go.Proofs.YtbmgngoeiadmmaaDoor
