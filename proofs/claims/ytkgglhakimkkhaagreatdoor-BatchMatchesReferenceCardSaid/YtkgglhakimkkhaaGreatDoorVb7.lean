/-
  The program's Draw, by contract.
  The reference's Draw, by contract.
-/
import Derived.Test.YtkgglhakimkkhaaGreatDoorVb5
namespace Go.Proofs.YtkgglhakimkkhaaGreatDoor
open Go.RowKit

theorem en_attestor_batch_Draw : ∀ args w, (callFunc 23 args).run Tryz.prog w = .ok (.enter 23 args) w := enters_of Tryz.func23 (by kernel_rfl) rfl
theorem fold_size : (Tryz.prog.info? 28).map (·.size) = some 3 := by kernel_rfl
theorem cell_last {W : World} {g : Nat} {t : TypeId} {a b c : Value} (h : Blk W g t #[a, b, c]) : W.cell? ⟨g, 2, none⟩ = some c := (h.cell 2).trans rfl
theorem ow_put {base g : Nat} {w w' : World} {v : Value} {xs : List E} (h : OwE base w v xs) (hp : Put w w' g) (hg : v.ownBlock ≠ some g) : OwE base w' v xs := by
  obtain ⟨h1, h2⟩ := h
  refine ⟨h1, h2.imp id ?_⟩
  rintro ⟨g', cap, cur, rfl, q2, q3, q4⟩
  exact ⟨g', cap, cur, rfl, q2, (hp.other g' (fun e => hg (by rw [← e]; rfl))).trans q3, q4⟩
theorem step_litX {o : Oper} {a : Act} {w : World} {x : Operand} {y : E} (ho : o.op = .buildSlice 22 1 #[(0, x)]) (hx : a.eval x = ev y) : stepAt Tryz.prog o a w fun v w' => Lit 26 1 (ec y).toArray w.heap.size w'.heap.size v w' ∧ Below w.heap.size w w' := by
  obtain ⟨ie, he0, hez0, hez1, hez2⟩ := info_parts ext_info
  exact step_lit1 (cs := (ec y).toArray) Tryz.underlying22 he0 hez0 hez1 (by decide) (by decide) ho (by rw [hx]; rfl) rfl
set_option maxRecDepth 100000 in
set_option maxHeartbeats 4000000 in
theorem gDrawB (gs : List (List E)) (hgl : gs.length ≤ 1000) (hgg : ∀ g ∈ gs, g.length ≤ 10000) (st : List Nat) (hst : StOk st) (vl vr : Value) (lo hi : Nat) (w : World) (hL : Lsh w) (h : TabS lo hi w vr gs) :
    Calls Tryz.prog 23 #[vl, vr, tsV st 0] w fun e w' => ∃ A cap, e = .returned (.tuple #[fdV (rhT st) (drC st gs) A cap, tsV (drS st gs) 1]) ∧ ExtS w.heap.size w'.heap.size w' (.slice A (drC st gs).length cap) (drC st gs) ∧ Below w.heap.size w w' := by
  obtain ⟨S, hS⟩ : ∃ S, S = tsV st 0 := ⟨_, rfl⟩
  rw [← hS]
  obtain ⟨A, cap, rfl⟩ := h.len
  have HV := Lib.hid h
  have HST := Lib.hid hst
  have HL := Lib.hid hL
  have HGG := Lib.hid hgg
  clear h hst hL hgg
  go_enter Tryz.func23, Tryz.ntmps23
  go_upto_region 2 with (fail)
  refine wp_stk4 fun W hB hz b1 b2 b3 b4 => ?_
  have b1' : Blk W w.heap.size 60 (tsc st 0).toArray := by first | exact b1 | (rw [hS] at b1; exact b1)
  have b2' : Blk W (w.heap.size + 1) 28 #[.int .u64 0, .int .u64 0, .slice none 0 0] := b2
  obtain ⟨cs0, hcs0, b3'⟩ : ∃ cs : Array Value, cs.size = 33 ∧ Blk W (w.heap.size + 1 + 1) 60 cs := ⟨_, rfl, b3⟩
  have b4' : Blk W (w.heap.size + 1 + 1 + 1) 28 #[.int .u64 0, .int .u64 0, .slice none 0 0] := b4
  have hWs : W.heap.size = w.heap.size + 1 + 1 + 1 + 1 := hz.out
  clear b1 b2 b3 b4 hz
  refine wp_region_lit ?_
  refine wpList_plain rfl fun K1 hK1 => wp_of_step (stepAt_mono (fun v13 w13 hh => ?_) (step_loadT rfl rfl HST.out.len b1'))
  obtain ⟨rfl, rfl⟩ := hh
  refine hK1 _ _ ?_
  clear hK1 K1
  try simp only [Act.put, List.setIfInBounds_toArray, List.set_cons_succ, List.set_cons_zero]
  refine wpList_plain rfl fun K2 hK2 => wp_of_step (stepAt_mono (fun v14 w14 hh => ?_) (step_callv en_attestor_transcript_Challenge (gChal st 0 HST.out (by decide) bBatch (by decide) _ (HL.out.keep hB)) rfl rfl))
  obtain ⟨rfl, B14⟩ := hh
  refine hK2 _ _ ?_
  clear hK2 K2
  try simp only [Act.put, List.setIfInBounds_toArray, List.set_cons_succ, List.set_cons_zero]
  rw [show chaT st 0 (stB bBatch) = rhT st from rfl]
  iterate 1 (refine wpList_plain rfl fun K hK => ?_; go_big_op; refine hK _ _ ?_; clear hK K)
  refine wpList_plain rfl fun K4 hK4 => wp_of_step (stepAt_mono (fun v15 w15 hh => ?_) (step_ext (v := tsV st 1) rfl rfl rfl))
  obtain ⟨rfl, rfl⟩ := hh
  refine hK4 _ _ ?_
  clear hK4 K4
  try simp only [Act.put, List.setIfInBounds_toArray, List.set_cons_succ, List.set_cons_zero]
  refine wpList_plain rfl fun K5 hK5 => wp_of_step (stepAt_mono (fun v16 w16 hh => ?_) (step_ext (v := ev (rhT st)) rfl rfl rfl))
  obtain ⟨rfl, rfl⟩ := hh
  refine hK5 _ _ ?_
  clear hK5 K5
  try simp only [Act.put, List.setIfInBounds_toArray, List.set_cons_succ, List.set_cons_zero]
  have b1x := b1'.keep B14
  have b2x := b2'.keep B14
  have b3x := b3'.keep B14
  have b4x := b4'.keep B14
  have hBx := hB.trans (B14.mono hB.size)
  have hxs : w.heap.size + 1 + 1 + 1 + 1 ≤ w16.heap.size := by have := B14.size; omega
  clear b1' b2' b3' b4' hB B14 hWs
  refine wpList_putT rfl (.tmp 5) (.tmp 15) rfl rfl rfl b1x (by rw [List.size_toArray, tsc_len _ _ HST.out.len]) HST.out.len fun X hX bX => ?_
  have b2X := hX.blk b2x (by omega)
  have b3X := hX.blk b3x (by omega)
  have b4X := hX.blk b4x (by omega)
  have hBX := below_put hBx hX (by omega)
  have hXs := hX.size
  clear b1x b2x b3x b4x hBx hX
  try simp only [Act.put, List.setIfInBounds_toArray, List.set_cons_succ, List.set_cons_zero]
  iterate 1 (refine wpList_plain rfl fun K hK => ?_; go_big_op; refine hK _ _ ?_; clear hK K)
  refine wpList_put rfl 26 (.tmp 17) (.tmp 16) rfl rfl (cells := ec (rhT st)) rfl b4X (by show 0 + 2 ≤ 3; decide) ext_size2 rfl rfl fun Y hY bY => ?_
  have b4Y : Blk Y (w.heap.size + 1 + 1 + 1) 28 #[.int .u64 (fv (rhT st).a), .int .u64 (fv (rhT st).b), .slice none 0 0] := bY
  have b1Y := hY.blk bX (by omega)
  have b2Y := hY.blk b2X (by omega)
  have b3Y := hY.blk b3X (by omega)
  have hBY := below_put hBX hY (by omega)
  have hYs : w.heap.size + 1 + 1 + 1 + 1 ≤ Y.heap.size := by rw [hY.size]; omega
  clear bX b2X b3X b4X hBX hY bY hXs hxs
  try simp only [Act.put, List.setIfInBounds_toArray, List.set_cons_succ, List.set_cons_zero]
  obtain ⟨rho, hrho⟩ : ∃ rho, rho = rhT st := ⟨_, rfl⟩
  rw [← hrho] at b4Y ⊢
  have HRHO := Lib.hid hrho
  clear hrho
  go_wp2_with fail
  go_loopw [20] (fun i wr => ∃ k : Nat, k ≤ gs.length ∧ i = .int .i64 k ∧ ∃ u, OwE (w.heap.size + 1 + 1 + 1 + 1) wr u (drC st (gs.take k)) ∧ Blk wr w.heap.size 60 (tsc (drS st (gs.take k)) 1).toArray ∧ Blk wr (w.heap.size + 1) 28 #[.int .u64 0, .int .u64 0, .slice none 0 0] ∧ Blk wr (w.heap.size + 1 + 1) 60 cs0 ∧ Blk wr (w.heap.size + 1 + 1 + 1) 28 #[.int .u64 (fv rho.a), .int .u64 (fv rho.b), u] ∧ Below w.heap.size w wr ∧ w.heap.size + 1 + 1 + 1 + 1 ≤ wr.heap.size) (fun i _ => gs.length - (intOf i).toNat)
  case atStart => exact ⟨0, Nat.zero_le _, rfl, .slice none 0 0, owE_nil _ _, b1Y, b2Y, b3Y, b4Y, hBY, hYs⟩
  case round =>
    clear b1Y b2Y b3Y b4Y hBY hYs
    obtain ⟨k, hk, rfl, u, ho, b1, b2, b3, b4, hBr, hrs⟩ := hrel
    have hso := drS_ok st HST.out (gs.take k)
    by_cases hlt : k < gs.length
    · obtain ⟨g1, o1, k1, hv, -, -, -, l1, q1⟩ := tabs_cells HV.out (by omega)
      cases hv
      obtain ⟨g, hg⟩ : ∃ g, gs[k]? = some g := ⟨_, List.getElem?_eq_getElem hlt⟩
      obtain ⟨B1, d1, r1, E1⟩ := q1 k g hg
      have c1 := (hBr.cell (p := ⟨g1, o1 + k, none⟩) l1).trans r1
      have hgl' := HGG.out g (List.mem_of_getElem? hg)
      have HT1 := Lib.hid (show drS st (gs.take (k + 1)) = rdT (drS st (gs.take k)) g by rw [take_snoc gs k g hg, drS_snoc])
      have HT2 := Lib.hid (show drC st (gs.take (k + 1)) = drC st (gs.take k) ++ [coT (rdT (drS st (gs.take k)) g)] by rw [take_snoc gs k g hg, drC_snoc])
      have hcl := drC_len (gs.take k) st
      generalize drS st (gs.take k) = st1 at *
      have HG := Lib.hid (Rd.keep E1 hBr)
      have HSO := Lib.hid hso
      clear q1 hg r1 E1 hso
      have hnext : ((drC st (gs.take k)).length ≤ 1000) := by rw [hcl, List.length_take]; omega
      have HLX := Lib.hid hnext
      clear hcl hnext
      obtain ⟨AU, cU, rfl⟩ := ho.len
      generalize drC st (gs.take k) = cs at *
      go_upto_region 7 with (fail)
      refine wp_stk1 fun W7 hB7 hz7 b11 => ?_
      have b11' : Blk W7 wr.heap.size 26 (ec (0 : E)).toArray := b11
      have hz7' := hz7.out
      have o7 := ho.keep hB7
      have b17 := b1.keep hB7
      have b27 := b2.keep hB7
      have b37 := b3.keep hB7
      have b47 := b4.keep hB7
      have hB7w := hBr.trans (hB7.mono hBr.size)
      have HG7 := Lib.hid (HG.out.keep hB7)
      obtain ⟨n11, hn11⟩ : ∃ n, n = wr.heap.size := ⟨_, rfl⟩
      rw [← hn11] at b11' hrs ⊢
      have hn11W : n11 < W7.heap.size := by omega
      have hne11 : (Value.slice AU cs.length cU).ownBlock ≠ some n11 := fun e => absurd (own_block ho e).2 (by omega)
      clear b11 hz7 hB7 ho b1 b2 b3 b4 HG c1 hBr hz7' hn11
      refine wp_region_lit ?_
      refine wpList_plain rfl fun K9 hK9 => wp_of_step (stepAt_mono (fun v25 w25 hh => ?_) (step_loadT rfl rfl HSO.out.len b17))
      obtain ⟨rfl, rfl⟩ := hh
      refine hK9 _ _ ?_
      clear hK9 K9
      try simp only [Act.put, List.setIfInBounds_toArray, List.set_cons_succ, List.set_cons_zero]
      iterate 1 (refine wpList_plain rfl fun K hK => ?_; go_big_op; refine hK _ _ ?_; clear hK K)
      refine wpList_plain rfl fun K11 hK11 => wp_of_step (stepAt_mono (fun v27 w27 hh => ?_) (step_callv en_attestor_batch_coin (gCoin st1 1 HSO.out g hgl' _ lo hi _ (HL.out.keep hB7w) HG7.out) rfl rfl))
      obtain ⟨rfl, B27⟩ := hh
      refine hK11 _ _ ?_
      clear hK11 K11
      try simp only [Act.put, List.setIfInBounds_toArray, List.set_cons_succ, List.set_cons_zero]
      iterate 1 (refine wpList_plain rfl fun K hK => ?_; go_big_op; refine hK _ _ ?_; clear hK K)
      refine wpList_plain rfl fun K13 hK13 => wp_of_step (stepAt_mono (fun v28 w28 hh => ?_) (step_ext (v := tsV (rdT st1 g) 1) rfl rfl rfl))
      obtain ⟨rfl, rfl⟩ := hh
      refine hK13 _ _ ?_
      clear hK13 K13
      try simp only [Act.put, List.setIfInBounds_toArray, List.set_cons_succ, List.set_cons_zero]
      refine wpList_plain rfl fun K14 hK14 => wp_of_step (stepAt_mono (fun v29 w29 hh => ?_) (step_ext (v := ev (coT (rdT st1 g))) rfl rfl rfl))
      obtain ⟨rfl, rfl⟩ := hh
      refine hK14 _ _ ?_
      clear hK14 K14
      try simp only [Act.put, List.setIfInBounds_toArray, List.set_cons_succ, List.set_cons_zero]
      have hwr29 : w25.heap.size ≤ w29.heap.size := B27.size
      have o8 := o7.keep B27
      have b18 := b17.keep B27
      have b28 := b27.keep B27
      have b38 := b37.keep B27
      have b48 := b47.keep B27
      have b118 := b11'.keep B27
      have hB8w := hB7w.trans (B27.mono hB7w.size)
      clear o7 b17 b27 b37 b47 b11' hB7w B27
      refine wpList_putT rfl (.tmp 5) (.tmp 28) rfl rfl rfl b18 (by rw [List.size_toArray, tsc_len _ _ HSO.out.len]) (rdT_ok st1 g).len fun X hX b1X => ?_
      have o8X : OwE (w.heap.size + 1 + 1 + 1 + 1) X (.slice AU cs.length cU) cs := own_put o8 hX (by omega)
      have b2X := hX.blk b28 (by omega)
      have b3X := hX.blk b38 (by omega)
      have b4X := hX.blk b48 (by omega)
      have b11X := hX.blk b118 (by omega)
      have hBX := below_put hB8w hX (Nat.le_refl _)
      have hXs := hX.size
      clear o8 b18 b28 b38 b48 b118 hB8w
      refine wpList_putE rfl (.tmp 11) (.tmp 29) rfl rfl rfl b11X rfl fun Y hY b11Y => ?_
      have o8Y := ow_put o8X hY hne11
      have b1Y := hY.blk b1X (by omega)
      have b2Y := hY.blk b2X (by omega)
      have b3Y := hY.blk b3X (by omega)
      have b4Y := hY.blk b4X (by omega)
      have hBY := below_put hBX hY (by omega)
      have hYs := hY.size
      clear o8X b1X b2X b3X b4X b11X hBX hX hY hne11
      have e1 := blkE0 b11Y
      have e2 := blkE1 b11Y
      have e3 := cell_last b4Y
      try simp only [Act.put, List.setIfInBounds_toArray, List.set_cons_succ, List.set_cons_zero]
      go_upto_region 8 with (fail)
      refine wp_region_lit ?_
      iterate 3 (refine wpList_plain rfl fun K hK => ?_; go_big_op; refine hK _ _ ?_; clear hK K)
      refine wpList_plain rfl fun K17 hK17 => wp_of_step (stepAt_mono (fun v33 w33 hh => ?_) (step_litX (y := coT (rdT st1 g)) rfl rfl))
      obtain ⟨⟨rfl, hl33, b33⟩, B33⟩ := hh
      refine hK17 _ _ ?_
      clear hK17 K17
      try simp only [Act.put, List.setIfInBounds_toArray, List.set_cons_succ, List.set_cons_zero]
      have o9 := o8Y.keep B33
      have hs33 := B33.size
      refine wpList_appX rfl _ _ rfl rfl rfl o9 b33 (by have := HLX.out; omega) (by omega) fun v34 w34 o34 _ _ B34 => ?_
      have b1V := (b1Y.keep B33).below B34 (by omega)
      have b2V := (b2Y.keep B33).below B34 (by omega)
      have b3V := (b3Y.keep B33).below B34 (by omega)
      have b4V := (b4Y.keep B33).below B34 (by omega)
      have hBV := (hBY.trans (B33.mono (by omega))).trans (B34.mono (by omega))
      have hs34 := B34.size
      clear o8Y o9 b1Y b2Y b3Y b4Y b11Y b33 hBY B33 B34 e1 e2 e3
      obtain ⟨A34, c34, rfl⟩ := o34.len
      have hlx : (cs ++ [coT (rdT st1 g)]).length = cs.length + 1 := by rw [List.length_append]; rfl
      rw [hlx] at o34 ⊢
      have e4 := b4V.frozen
      have e5 := cell_last b4V
      try simp only [Act.put, List.setIfInBounds_toArray, List.set_cons_succ, List.set_cons_zero]
      go_upto_region 9 with (fail)
      refine set1 (M := fun W => Code.wp _ _ _ _ W) b4V fun Z hZ b4Z => ?_
      have b4Z' : Blk Z (w.heap.size + 1 + 1 + 1) 28 #[.int .u64 (fv rho.a), .int .u64 (fv rho.b), .slice A34 (cs.length + 1) c34] := b4Z
      have b1Z := hZ.blk b1V (by omega)
      have b2Z := hZ.blk b2V (by omega)
      have b3Z := hZ.blk b3V (by omega)
      have o34Z : OwE (w.heap.size + 1 + 1 + 1 + 1) Z (.slice A34 (cs.length + 1) c34) (cs ++ [coT (rdT st1 g)]) := own_put o34 hZ (by omega)
      have hBZ := below_put hBV hZ (by omega)
      have hZs := hZ.size
      clear b1V b2V b3V b4V o34 hBV hZ b4Z e4 e5 hlx
      have HOZ := Lib.hid o34Z
      have HB4 := Lib.hid b4Z'
      clear o34Z b4Z'
      go_wp2_with fail
      exact ⟨⟨k + 1, by omega, by go_num, _, by rw [HT2.out]; exact HOZ.out, by rw [HT1.out]; exact b1Z, b2Z, b3Z, HB4.out, hBZ, by omega⟩, by simp [intOf]; omega⟩
    · obtain rfl : k = gs.length := by omega
      rw [List.take_length] at ho b1 hso
      have hcl := drC_len gs st
      have HSO := Lib.hid hso
      obtain ⟨cs, hcs⟩ : ∃ cs, cs = drC st gs := ⟨_, rfl⟩
      rw [← hcs] at ho hcl
      have HCS := Lib.hid hcs
      clear hcs
      obtain ⟨AU, cU, rfl⟩ := ho.len
      have hoe := ho.ext (by omega) (Nat.le_refl _)
      have HOE := Lib.hid hoe
      clear hoe ho hso
      have hcs1 : cs.length ≤ 1000 := by omega
      go_upto_region 10 with (fail)
      refine wp_region_swap 2 1 undef [(0, Spec.val (fdV rho cs AU cU)), (1, Spec.val (tsV (drS st gs) 1))] (by kernel_rfl) (by kernel_rfl) (by kernel_rfl) rfl rfl rfl rfl trivial ?_ ?_
      refine rg_val rfl rfl (fun W1 hW1 hF => step_loadR (cs := [.int .u64 (fv rho.a), .int .u64 (fv rho.b), .slice AU cs.length cU]) Tryz.underlying28 rfl fold_size rfl rfl (blk_range (b4.below (grw_below hW1) b4.lt))) ?_
      intro a' ha
      simp only [Act.put, List.setIfInBounds_toArray, List.set_cons_succ, List.set_cons_zero] at ha
      subst ha
      refine rg_val rfl rfl (fun W1 hW1 hF => step_loadTB rfl rfl HSO.out.len (b1.below (grw_below hW1) b1.lt)) ?_
      intro a' ha
      simp only [Act.put, List.setIfInBounds_toArray, List.set_cons_succ, List.set_cons_zero] at ha
      subst ha
      refine rg_nil (fun w' hw' hF => ?_)
      obtain ⟨y, rfl⟩ := hw'
      simp only [List.drop_succ_cons, List.drop_zero]
      rotate_left 1
      refine rg_val rfl rfl (fun W1 hW1 hF => step_loadR (cs := [.int .u64 (fv rho.a), .int .u64 (fv rho.b), .slice AU cs.length cU]) Tryz.underlying28 rfl fold_size rfl rfl (blk_range (b4.below (grw_below hW1) b4.lt))) ?_
      intro a' ha
      simp only [Act.put, List.setIfInBounds_toArray, List.set_cons_succ, List.set_cons_zero] at ha
      subst ha
      refine rg_pass rfl rfl ?_
      intro a' ha
      simp only [Act.put, List.setIfInBounds_toArray, List.set_cons_succ, List.set_cons_zero] at ha
      subst ha
      refine rg_nil (fun w' hw' hF => ?_)
      obtain ⟨y, rfl⟩ := hw'
      simp only [List.drop_succ_cons, List.drop_zero]
      refine wpList_putS ?_
      intro a' ha
      simp only [Act.put, List.setIfInBounds_toArray, List.set_cons_succ, List.set_cons_zero] at ha
      subst ha
      rotate_right 1
      all_goals
        clear hF
        have b1z := b1.gw y
        have b2z := b2.gw y
        have b3z := b3.gw y
        have hBz := hBr.trans (y.h.mono hBr.size)
        have hys := y.h.size
        have hEz := Rd.keep HOE.out y.h
        refine wpList_put rfl 28 (.tmp 6) (.tmp 37) rfl rfl (cells := [.int .u64 (fv rho.a), .int .u64 (fv rho.b), .slice AU cs.length cU]) rfl b2z (by show 0 + 3 ≤ 3; decide) fold_size rfl (spl_all _ _ rfl) fun Z hZ bZ => ?_
        have b1Z := hZ.blk b1z (by omega)
        have b3Z := hZ.blk b3z (by omega)
        have hEZ : ExtS (w.heap.size + 1 + 1 + 1 + 1) wr.heap.size Z (.slice AU cs.length cU) cs := hZ.rd hEz (.inl (by omega))
        have hBZ := below_put hBz hZ (by omega)
        have hZs := hZ.size
        clear b1z b2z b3z hBz hEz
      rotate_left 1
      simp only [Act.put, List.setIfInBounds_toArray, List.set_cons_succ, List.set_cons_zero]
      refine wpList_plain rfl fun K hK => wp_of_step (stepAt_mono (fun v w' hh => ?_) (step_loadT rfl rfl HSO.out.len b1Z))
      obtain ⟨rfl, rfl⟩ := hh
      refine hK _ _ ?_
      clear hK K
      rotate_right 1
      all_goals
        refine wpList_putT rfl (.tmp 7) (.tmp 38) rfl rfl rfl b3Z hcs0 HSO.out.len fun V hV bV => ?_
        have bZV := hV.blk bZ (by omega)
        have hEV : ExtS (w.heap.size + 1 + 1 + 1 + 1) wr.heap.size V (.slice AU cs.length cU) cs := hV.rd hEZ (.inl (by omega))
        have hBV := below_put hBZ hV (by omega)
        have hVs := hV.size
        go_wp2_with fail
        refine bodyPost_ret (v := .tuple #[fdV rho cs AU cU, tsV (drS st gs) 1]) (res_two (c1 := [.int .u64 (fv rho.a), .int .u64 (fv rho.b), .slice AU cs.length cU]) (c2 := tsc (drS st gs) 1) rfl rfl rfl Tryz.underlying28 rfl fold_size bZV Tryz.underlying60 rfl (by rw [tr_size, tsc_len _ _ HSO.out.len]) bV) rfl ⟨AU, cU, by rw [← HCS.out, ← HRHO.out], by rw [← HCS.out]; exact hEV.wide (by omega) (by omega), hBV⟩
end Go.Proofs.YtkgglhakimkkhaaGreatDoor
namespace Go.Proofs.YtkgglhakimkkhaaGreatDoor
open Go.RowKit

theorem en_attestor_attestorref21_Draw : ∀ args w, (callFunc 24 args).run Tryz.prog w = .ok (.enter 24 args) w := enters_of Tryz.func24 (by kernel_rfl) rfl
theorem fold_info : (Tryz.prog.info? 28).map (fun i => (i.zero, i.size, i.bytes)) = some (some (.agg #[.int .u64 0, .int .u64 0, .slice none 0 0]), 3, 40) := by kernel_rfl
theorem tr_info : (Tryz.prog.info? 60).map (fun i => (i.zero.map (·.cells.size), i.size)) = some (some 33, 33) := by kernel_rfl
theorem tr_zero : ∃ (i : TypeInfo) (z : Value), Tryz.prog.info? 60 = some i ∧ i.zero = some z ∧ z.cells.size = 33 := by
  have h := tr_info
  cases hi : Tryz.prog.info? 60 with
  | none => rw [hi] at h; cases h
  | some i =>
    rw [hi] at h
    simp only [Option.map_some, Option.some.injEq, Prod.mk.injEq] at h
    cases hz : i.zero with
    | none => rw [hz] at h; cases h.1
    | some z => rw [hz] at h; exact ⟨i, z, rfl, hz, by simpa using h.1⟩
set_option maxRecDepth 100000 in
set_option maxHeartbeats 4000000 in
theorem rDrawB (gs : List (List E)) (hgl : gs.length ≤ 1000) (hgg : ∀ g ∈ gs, g.length ≤ 10000) (st : List Nat) (hst : StOk st) (vl vr : Value) (lo hi : Nat) (w : World) (h : TabS lo hi w vr gs) :
    Calls Tryz.prog 24 #[vl, vr, tsV st 0] w fun e w' => ∃ A cap, e = .returned (.tuple #[fdV (rhT st) (drC st gs) A cap, tsV (drS st gs) 1]) ∧ ExtS w.heap.size w'.heap.size w' (.slice A (drC st gs).length cap) (drC st gs) ∧ Below w.heap.size w w' := by
  obtain ⟨S, hS⟩ : ∃ S, S = tsV st 0 := ⟨_, rfl⟩
  rw [← hS]
  obtain ⟨A, cap, rfl⟩ := h.len
  obtain ⟨ie, he0, hez0, hez1, hez2⟩ := info_parts ext_info
  obtain ⟨ifd, hf0, hfz0, hfz1, hfz2⟩ := info_parts fold_info
  obtain ⟨itr, ztr, ht0, htz0, htz1⟩ := tr_zero
  have HV := Lib.hid h
  have HST := Lib.hid hst
  have HGG := Lib.hid hgg
  clear h hst hgg
  go_enter Tryz.func24, Tryz.ntmps24
  go_upto_region 1 with (fail)
  refine wp_stk3 fun W hB hz b1 b2 b3 => ?_
  have b1' : Blk W w.heap.size 60 (tsc st 0).toArray := by first | exact b1 | (rw [hS] at b1; exact b1)
  have b2' : Blk W (w.heap.size + 1) 28 #[.int .u64 0, .int .u64 0, .slice none 0 0] := b2
  obtain ⟨cs0, hcs0, b3'⟩ : ∃ cs : Array Value, cs.size = 33 ∧ Blk W (w.heap.size + 1 + 1) 60 cs := ⟨_, rfl, b3⟩
  have hWs : W.heap.size = w.heap.size + 1 + 1 + 1 := hz.out
  clear b1 b2 b3 hz
  refine wp_region_lit ?_
  refine wpList_plain rfl fun K1 hK1 => wp_of_step (stepAt_mono (fun v14 w14 hh => ?_) (step_loadT rfl rfl HST.out.len b1'))
  obtain ⟨rfl, rfl⟩ := hh
  refine hK1 _ _ ?_
  clear hK1 K1
  try simp only [Act.put, List.setIfInBounds_toArray, List.set_cons_succ, List.set_cons_zero]
  refine wpList_plain rfl fun K2 hK2 => wp_of_step (stepAt_mono (fun v15 w15 hh => ?_) (step_callv en_attestor_attestorref10_Challenge (rChal st 0 HST.out (by decide) bBatch (by decide) _) rfl rfl))
  obtain ⟨rfl, B15⟩ := hh
  refine hK2 _ _ ?_
  clear hK2 K2
  try simp only [Act.put, List.setIfInBounds_toArray, List.set_cons_succ, List.set_cons_zero]
  rw [show chaT st 0 (stB bBatch) = rhT st from rfl]
  iterate 1 (refine wpList_plain rfl fun K hK => ?_; go_big_op; refine hK _ _ ?_; clear hK K)
  refine wpList_plain rfl fun K4 hK4 => wp_of_step (stepAt_mono (fun v16 w16 hh => ?_) (step_ext (v := tsV st 1) rfl rfl rfl))
  obtain ⟨rfl, rfl⟩ := hh
  refine hK4 _ _ ?_
  clear hK4 K4
  try simp only [Act.put, List.setIfInBounds_toArray, List.set_cons_succ, List.set_cons_zero]
  refine wpList_plain rfl fun K5 hK5 => wp_of_step (stepAt_mono (fun v17 w17 hh => ?_) (step_ext (v := ev (rhT st)) rfl rfl rfl))
  obtain ⟨rfl, rfl⟩ := hh
  refine hK5 _ _ ?_
  clear hK5 K5
  try simp only [Act.put, List.setIfInBounds_toArray, List.set_cons_succ, List.set_cons_zero]
  have b1x := b1'.keep B15
  have b2x := b2'.keep B15
  have b3x := b3'.keep B15
  have hBx := hB.trans (B15.mono hB.size)
  have hxs : w.heap.size + 1 + 1 + 1 ≤ w17.heap.size := by have := B15.size; omega
  clear b1' b2' b3' hB B15 hWs
  refine wpList_plain rfl fun K6 hK6 => wp_of_step (stepAt_mono (fun v8 w8' hh => ?_) (step_new0 he0 hez0 rfl))
  obtain ⟨rfl, rfl⟩ := hh
  refine hK6 _ _ ?_
  clear hK6 K6
  try simp only [Act.put, List.setIfInBounds_toArray, List.set_cons_succ, List.set_cons_zero]
  have b8 : Blk (w17.alloc (.cells (Value.agg #[.int .u64 0, .int .u64 0]).cells 26)) w17.heap.size 26 (ec (0 : E)).toArray := World.alloc_heap_new w17 _
  have BA := (Below.refl _ w17).alloc (Nat.le_refl _) (.cells (Value.agg #[.int .u64 0, .int .u64 0]).cells 26)
  refine wpList_putT rfl (.tmp 5) (.tmp 16) rfl rfl rfl (b1x.keep BA) (by rw [List.size_toArray, tsc_len _ _ HST.out.len]) HST.out.len fun X hX bX => ?_
  have b2X := hX.blk (b2x.keep BA) (by omega)
  have b3X := hX.blk (b3x.keep BA) (by omega)
  have b8X := hX.blk b8 (by omega)
  have hBX := below_put (hBx.trans (BA.mono hBx.size)) hX (by omega)
  have hXs : X.heap.size = w17.heap.size + 1 := by rw [hX.size]; simp
  clear b1x b2x b3x b8 hBx hX BA
  refine wpList_putE rfl (.tmp 8) (.tmp 17) rfl rfl rfl b8X rfl fun Y hY b8Y => ?_
  have b1Y := hY.blk bX (by omega)
  have b2Y := hY.blk b2X (by omega)
  have b3Y := hY.blk b3X (by omega)
  have hBY := below_put hBX hY (by omega)
  have hYs := hY.size
  clear bX b2X b3X b8X hBX hY
  obtain ⟨rho, hrho⟩ : ∃ rho, rho = rhT st := ⟨_, rfl⟩
  rw [← hrho] at b8Y ⊢
  have HRHO := Lib.hid hrho
  clear hrho
  have e1 := blkE0 b8Y
  have e2 := blkE1 b8Y
  go_upto_region 2 with (fail)
  refine wp_region_lit ?_
  try simp only [Act.put, List.setIfInBounds_toArray, List.set_cons_succ, List.set_cons_zero]
  iterate 2 (refine wpList_plain rfl fun K hK => ?_; go_big_op; refine hK _ _ ?_; clear hK K)
  refine wpList_plain rfl fun K9 hK9 => wp_of_step (stepAt_mono (fun v9 w9 hh => ?_) (step_new0 hf0 hfz0 rfl))
  obtain ⟨rfl, rfl⟩ := hh
  refine hK9 _ _ ?_
  clear hK9 K9
  try simp only [Act.put, List.setIfInBounds_toArray, List.set_cons_succ, List.set_cons_zero]
  have b9 : Blk (Y.alloc (.cells (Value.agg #[.int .u64 0, .int .u64 0, .slice none 0 0]).cells 28)) Y.heap.size 28 #[.int .u64 0, .int .u64 0, .slice none 0 0] := World.alloc_heap_new Y _
  have BA := (Below.refl _ Y).alloc (Nat.le_refl _) (.cells (Value.agg #[.int .u64 0, .int .u64 0, .slice none 0 0]).cells 28)
  obtain ⟨n9, hn9⟩ : ∃ n, n = Y.heap.size := ⟨_, rfl⟩
  have hq9 : w.heap.size + 1 + 1 + 1 < n9 := by omega
  refine wpList_put rfl 28 (.tmp 9) (.tmp 19) rfl rfl (cells := [.int .u64 (fv rho.a), .int .u64 (fv rho.b), .slice none 0 0]) rfl b9 (by show 0 + 3 ≤ 3; decide) fold_size rfl (spl_all _ _ rfl) fun Z hZ bZ => ?_
  have b4Z : Blk Z n9 28 #[.int .u64 (fv rho.a), .int .u64 (fv rho.b), .slice none 0 0] := by rw [hn9]; exact bZ
  have b1Z := hZ.blk (b1Y.keep BA) (by omega)
  have b2Z := hZ.blk (b2Y.keep BA) (by omega)
  have b3Z := hZ.blk (b3Y.keep BA) (by omega)
  have hBZ := below_put (hBY.trans (BA.mono hBY.size)) hZ (by omega)
  have hZs : n9 + 1 ≤ Z.heap.size := by rw [hZ.size, hn9]; simp
  clear b1Y b2Y b3Y b8Y b9 bZ hBY hZ BA hXs hYs hxs e1 e2
  try simp only [Act.put, List.setIfInBounds_toArray, List.set_cons_succ, List.set_cons_zero]
  rw [← hn9]
  clear hn9
  go_wp2_with fail
  go_loopw [10] (fun i wr => ∃ k : Nat, k ≤ gs.length ∧ i = .int .i64 k ∧ ∃ u, OwE (n9 + 1) wr u (drC st (gs.take k)) ∧ Blk wr w.heap.size 60 (tsc (drS st (gs.take k)) 1).toArray ∧ Blk wr (w.heap.size + 1) 28 #[.int .u64 0, .int .u64 0, .slice none 0 0] ∧ Blk wr (w.heap.size + 1 + 1) 60 cs0 ∧ Blk wr n9 28 #[.int .u64 (fv rho.a), .int .u64 (fv rho.b), u] ∧ Below w.heap.size w wr ∧ n9 + 1 ≤ wr.heap.size) (fun i _ => gs.length - (intOf i).toNat)
  case atStart => exact ⟨0, Nat.zero_le _, rfl, .slice none 0 0, owE_nil _ _, b1Z, b2Z, b3Z, b4Z, hBZ, hZs⟩
  case round =>
    clear b1Z b2Z b3Z b4Z hBZ hZs
    obtain ⟨k, hk, rfl, u, ho, b1, b2, b3, b4, hBr, hrs⟩ := hrel
    have hso := drS_ok st HST.out (gs.take k)
    by_cases hlt : k < gs.length
    · obtain ⟨g1, o1, k1, hv, -, -, -, l1, q1⟩ := tabs_cells HV.out (by omega)
      cases hv
      obtain ⟨g, hg⟩ : ∃ g, gs[k]? = some g := ⟨_, List.getElem?_eq_getElem hlt⟩
      obtain ⟨B1, d1, r1, E1⟩ := q1 k g hg
      have c1 := (hBr.cell (p := ⟨g1, o1 + k, none⟩) l1).trans r1
      have hgl' := HGG.out g (List.mem_of_getElem? hg)
      have HT1 := Lib.hid (show drS st (gs.take (k + 1)) = rdT (drS st (gs.take k)) g by rw [take_snoc gs k g hg, drS_snoc])
      have HT2 := Lib.hid (show drC st (gs.take (k + 1)) = drC st (gs.take k) ++ [coT (rdT (drS st (gs.take k)) g)] by rw [take_snoc gs k g hg, drC_snoc])
      have hcl := drC_len (gs.take k) st
      generalize drS st (gs.take k) = st1 at *
      have HG := Lib.hid (Rd.keep E1 hBr)
      have HSO := Lib.hid hso
      clear q1 hg r1 E1 hso
      have hnext : ((drC st (gs.take k)).length ≤ 1000) := by rw [hcl, List.length_take]; omega
      have HLX := Lib.hid hnext
      clear hcl hnext
      obtain ⟨AU, cU, rfl⟩ := ho.len
      generalize drC st (gs.take k) = cs at *
      have c1g := gw_cell (W := wr) (by have := hBr.size; have l1' : g1 < w.heap.size := l1; omega) c1
      go_upto_region 6 with (fail)
      refine wp_region_rg 6 [(0, Spec.val (tsV st1 1)), (5, Spec.val (tsV (rdT st1 g) 0))] (by kernel_rfl) (by kernel_rfl) (by kernel_rfl) trivial ?_
      refine rg_val rfl rfl (fun W1 hW1 hF => step_loadTB rfl rfl HSO.out.len (b1.below (grw_below hW1) b1.lt)) ?_
      intro a' ha
      simp only [Act.put, List.setIfInBounds_toArray, List.set_cons_succ, List.set_cons_zero] at ha
      subst ha
      iterate 4 (refine rg_det rfl rfl rfl (fun K hK => ?_); go_big_quiet_op; refine hK _ ?_; clear hK K)
      refine rg_val rfl rfl (fun W1 hW1 hF => step_callv en_attestor_attestorref10_AbsorbExt (rAbsExt st1 1 HSO.out bRound (by decide) g hgl' _ lo hi W1 (Rd.keep HG.out (grw_below hW1))) rfl rfl) ?_
      intro a' ha
      simp only [Act.put, List.setIfInBounds_toArray, List.set_cons_succ, List.set_cons_zero] at ha
      subst ha
      refine rg_nil (fun w' hw' hF => ?_)
      obtain ⟨y, rfl⟩ := hw'
      simp only [List.drop_succ_cons, List.drop_zero]
      have o6 := ho.keep y.h
      have b16 := b1.gw y
      have b26 := b2.gw y
      have b36 := b3.gw y
      have b46 := b4.gw y
      have hB6w := hBr.trans (y.h.mono hBr.size)
      have hy6 := y.h.size
      generalize y.w = W6 at *
      clear b1 b2 b3 b4 ho c1 c1g HG y hBr
      refine wpList_putT rfl (.tmp 5) (.tmp 31) rfl rfl rfl b16 (by rw [List.size_toArray, tsc_len _ _ HSO.out.len]) (rdT_ok st1 g).len fun X6 hX6 b17 => ?_
      have o7 : OwE (n9 + 1) X6 (.slice AU cs.length cU) cs := own_put o6 hX6 (by omega)
      have b27 := hX6.blk b26 (by omega)
      have b37 := hX6.blk b36 (by omega)
      have b47 := hX6.blk b46 (by omega)
      have hB7w := below_put hB6w hX6 (by omega)
      have hX6s := hX6.size
      clear b16 b26 b36 b46 hB6w o6 hX6
      try simp only [Act.put, List.setIfInBounds_toArray, List.set_cons_succ, List.set_cons_zero]
      go_upto_region 7 with (fail)
      refine wp_region_lit ?_
      have HSP := Lib.hid (rdT_ok st1 g)
      refine wpList_plain rfl fun K12 hK12 => wp_of_step (stepAt_mono (fun v33 w33 hh => ?_) (step_loadT rfl rfl HSP.out.len b17))
      obtain ⟨rfl, rfl⟩ := hh
      refine hK12 _ _ ?_
      clear hK12 K12
      try simp only [Act.put, List.setIfInBounds_toArray, List.set_cons_succ, List.set_cons_zero]
      refine wpList_plain rfl fun K13 hK13 => wp_of_step (stepAt_mono (fun v34 w34 hh => ?_) (step_callv en_attestor_attestorref10_Challenge (rChal (rdT st1 g) 0 HSP.out (by decide) bCoin (by decide) _) rfl rfl))
      obtain ⟨rfl, B34⟩ := hh
      refine hK13 _ _ ?_
      clear hK13 K13
      try simp only [Act.put, List.setIfInBounds_toArray, List.set_cons_succ, List.set_cons_zero]
      rw [show chaT (rdT st1 g) 0 (stB bCoin) = coT (rdT st1 g) from rfl]
      iterate 1 (refine wpList_plain rfl fun K hK => ?_; go_big_op; refine hK _ _ ?_; clear hK K)
      refine wpList_plain rfl fun K15 hK15 => wp_of_step (stepAt_mono (fun v35 w35 hh => ?_) (step_ext (v := tsV (rdT st1 g) 1) rfl rfl rfl))
      obtain ⟨rfl, rfl⟩ := hh
      refine hK15 _ _ ?_
      clear hK15 K15
      try simp only [Act.put, List.setIfInBounds_toArray, List.set_cons_succ, List.set_cons_zero]
      refine wpList_plain rfl fun K16 hK16 => wp_of_step (stepAt_mono (fun v36 w36 hh => ?_) (step_ext (v := ev (coT (rdT st1 g))) rfl rfl rfl))
      obtain ⟨rfl, rfl⟩ := hh
      refine hK16 _ _ ?_
      clear hK16 K16
      try simp only [Act.put, List.setIfInBounds_toArray, List.set_cons_succ, List.set_cons_zero]
      have o8 := o7.keep B34
      have b18 := b17.keep B34
      have b28 := b27.keep B34
      have b38 := b37.keep B34
      have b48 := b47.keep B34
      have hB8w := hB7w.trans (B34.mono hB7w.size)
      have hs8 := B34.size
      clear o7 b17 b27 b37 b47 hB7w B34
      refine wpList_plain rfl fun K17 hK17 => wp_of_step (stepAt_mono (fun v11 w11 hh => ?_) (step_new0 ht0 htz0 rfl))
      obtain ⟨rfl, rfl⟩ := hh
      refine hK17 _ _ ?_
      clear hK17 K17
      try simp only [Act.put, List.setIfInBounds_toArray, List.set_cons_succ, List.set_cons_zero]
      have b11 := World.alloc_heap_new w36 (.cells ztr.cells 60)
      have B11 := (Below.refl _ w36).alloc (Nat.le_refl _) (.cells ztr.cells 60)
      have b11' : Blk (w36.alloc (.cells ztr.cells 60)) w36.heap.size 60 ztr.cells := b11
      have hsA : (w36.alloc (.cells ztr.cells 60)).heap.size = w36.heap.size + 1 := by simp
      obtain ⟨n11, hn11⟩ : ∃ n, n = w36.heap.size := ⟨_, rfl⟩
      rw [← hn11] at b11' hsA ⊢
      have hne11 : (Value.slice AU cs.length cU).ownBlock ≠ some n11 := fun e => absurd (own_block o8 e).2 (by omega)
      have hne12 : (Value.slice AU cs.length cU).ownBlock ≠ some (n11 + 1) := fun e => absurd (own_block o8 e).2 (by omega)
      have o9 := o8.keep B11
      have b19 := b18.keep B11
      have b29 := b28.keep B11
      have b39 := b38.keep B11
      have b49 := b48.keep B11
      have hB9w := hB8w.trans (B11.mono hB8w.size)
      generalize w36.alloc (.cells ztr.cells 60) = W9 at *
      clear o8 b18 b28 b38 b48 b11 hB8w B11
      refine wpList_plain rfl fun K18 hK18 => wp_of_step (stepAt_mono (fun v12 w12 hh => ?_) (step_new0 he0 hez0 rfl))
      obtain ⟨rfl, rfl⟩ := hh
      refine hK18 _ _ ?_
      clear hK18 K18
      try simp only [Act.put, List.setIfInBounds_toArray, List.set_cons_succ, List.set_cons_zero]
      have b12 : Blk (W9.alloc (.cells (Value.agg #[.int .u64 0, .int .u64 0]).cells 26)) W9.heap.size 26 (ec (0 : E)).toArray := World.alloc_heap_new W9 _
      have B12 := (Below.refl _ W9).alloc (Nat.le_refl _) (.cells (Value.agg #[.int .u64 0, .int .u64 0]).cells 26)
      have hsC : (W9.alloc (.cells (Value.agg #[.int .u64 0, .int .u64 0]).cells 26)).heap.size = W9.heap.size + 1 := by simp
      rw [hsA] at b12 ⊢
      have hn11a : w36.heap.size ≤ n11 := by omega
      rw [hsA] at hsC
      clear hn11 hsA
      have oA := o9.keep B12
      have b1A := b19.keep B12
      have b2A := b29.keep B12
      have b3A := b39.keep B12
      have b4A := b49.keep B12
      have b11A := b11'.keep B12
      have hBA := hB9w.trans (B12.mono hB9w.size)
      generalize W9.alloc (.cells (Value.agg #[.int .u64 0, .int .u64 0]).cells 26) = WA at *
      clear o9 b19 b29 b39 b49 b11' hB9w B12
      refine wpList_putT rfl (.tmp 11) (.tmp 35) rfl rfl rfl b11A htz1 (rdT_ok st1 g).len fun XB hXB b11B => ?_
      have oB : OwE (n9 + 1) XB (.slice AU cs.length cU) cs := ow_put oA hXB hne11
      have b1B := hXB.blk b1A (by omega)
      have b2B := hXB.blk b2A (by omega)
      have b3B := hXB.blk b3A (by omega)
      have b4B := hXB.blk b4A (by omega)
      have b12B := hXB.blk b12 (by omega)
      have hBB := below_put hBA hXB (by omega)
      have hBs := hXB.size
      clear oA b1A b2A b3A b4A b11A b12 hBA
      refine wpList_putE rfl (.tmp 12) (.tmp 36) rfl rfl rfl b12B rfl fun XC hXC b12C => ?_
      have oC : OwE (n9 + 1) XC (.slice AU cs.length cU) cs := ow_put oB hXC hne12
      have b1C := hXC.blk b1B (by omega)
      have b2C := hXC.blk b2B (by omega)
      have b3C := hXC.blk b3B (by omega)
      have b4C := hXC.blk b4B (by omega)
      have b11C := hXC.blk b11B (by omega)
      have hBC := below_put hBB hXC (by omega)
      have hCs := hXC.size
      clear oB b1B b2B b3B b4B b11B b12B hBB hXB hXC
      try simp only [Act.put, List.setIfInBounds_toArray, List.set_cons_succ, List.set_cons_zero]
      go_upto_region 8 with (fail)
      refine wp_region_lit ?_
      refine wpList_plain rfl fun K20 hK20 => wp_of_step (stepAt_mono (fun v37 w37 hh => ?_) (step_loadT rfl rfl HSP.out.len b11C))
      obtain ⟨rfl, rfl⟩ := hh
      refine hK20 _ _ ?_
      clear hK20 K20
      try simp only [Act.put, List.setIfInBounds_toArray, List.set_cons_succ, List.set_cons_zero]
      refine wpList_putT rfl (.tmp 5) (.tmp 37) rfl rfl rfl b1C (by rw [List.size_toArray, tsc_len _ _ HSP.out.len]) HSP.out.len fun XD hXD b1D => ?_
      have oD : OwE (n9 + 1) XD (.slice AU cs.length cU) cs := own_put oC hXD (by omega)
      have b2D := hXD.blk b2C (by omega)
      have b3D := hXD.blk b3C (by omega)
      have b4D := hXD.blk b4C (by omega)
      have b12D := hXD.blk b12C (by omega)
      have hBD := below_put hBC hXD (by omega)
      have hDs := hXD.size
      clear oC b1C b2C b3C b4C b11C b12C hBC hXD
      have e1 := blkE0 b12D
      have e2 := blkE1 b12D
      have e3 := cell_last b4D
      try simp only [Act.put, List.setIfInBounds_toArray, List.set_cons_succ, List.set_cons_zero]
      go_upto_region 9 with (fail)
      refine wp_region_lit ?_
      iterate 3 (refine wpList_plain rfl fun K hK => ?_; go_big_op; refine hK _ _ ?_; clear hK K)
      refine wpList_plain rfl fun K23 hK23 => wp_of_step (stepAt_mono (fun v41 w41 hh => ?_) (step_litX (y := coT (rdT st1 g)) rfl rfl))
      obtain ⟨⟨rfl, hl41, b41⟩, B41⟩ := hh
      refine hK23 _ _ ?_
      clear hK23 K23
      try simp only [Act.put, List.setIfInBounds_toArray, List.set_cons_succ, List.set_cons_zero]
      have o41 := oD.keep B41
      have hs41 := B41.size
      refine wpList_appX rfl _ _ rfl rfl rfl o41 b41 (by have := HLX.out; omega) (by omega) fun v42 w42 o42 _ _ B42 => ?_
      have b1V := (b1D.keep B41).below B42 (by omega)
      have b2V := (b2D.keep B41).below B42 (by omega)
      have b3V := (b3D.keep B41).below B42 (by omega)
      have b4V := (b4D.keep B41).below B42 (by omega)
      have hBV := (hBD.trans (B41.mono (by omega))).trans (B42.mono (by omega))
      have hs42 := B42.size
      clear oD o41 b1D b2D b3D b4D b12D b41 hBD B41 B42 e1 e2 e3
      obtain ⟨A42, c42, rfl⟩ := o42.len
      have hlx : (cs ++ [coT (rdT st1 g)]).length = cs.length + 1 := by rw [List.length_append]; rfl
      rw [hlx] at o42 ⊢
      have e4 := b4V.frozen
      have e5 := cell_last b4V
      try simp only [Act.put, List.setIfInBounds_toArray, List.set_cons_succ, List.set_cons_zero]
      go_upto_region 5 with (fail)
      refine set1 (M := fun W => Code.wp _ _ _ _ W) b4V fun Z hZ b4Z => ?_
      have b4Z' : Blk Z n9 28 #[.int .u64 (fv rho.a), .int .u64 (fv rho.b), .slice A42 (cs.length + 1) c42] := b4Z
      have b1Z := hZ.blk b1V (by omega)
      have b2Z := hZ.blk b2V (by omega)
      have b3Z := hZ.blk b3V (by omega)
      have o42Z : OwE (n9 + 1) Z (.slice A42 (cs.length + 1) c42) (cs ++ [coT (rdT st1 g)]) := own_put o42 hZ (by omega)
      have hBZ := below_put hBV hZ (by omega)
      have hZs := hZ.size
      clear b1V b2V b3V b4V o42 hBV hZ b4Z e4 e5 hlx
      have HOZ := Lib.hid o42Z
      have HB4 := Lib.hid b4Z'
      clear o42Z b4Z'
      go_wp2_with fail
      exact ⟨⟨k + 1, by omega, by go_num, _, by rw [HT2.out]; exact HOZ.out, by rw [HT1.out]; exact b1Z, b2Z, b3Z, HB4.out, hBZ, by omega⟩, by simp [intOf]; omega⟩
    · obtain rfl : k = gs.length := by omega
      rw [List.take_length] at ho b1 hso
      have hcl := drC_len gs st
      have HSO := Lib.hid hso
      obtain ⟨cs, hcs⟩ : ∃ cs, cs = drC st gs := ⟨_, rfl⟩
      rw [← hcs] at ho hcl
      have HCS := Lib.hid hcs
      clear hcs
      obtain ⟨AU, cU, rfl⟩ := ho.len
      have hoe := ho.ext (by omega) (Nat.le_refl _)
      have HOE := Lib.hid hoe
      clear hoe ho hso
      have hcs1 : cs.length ≤ 1000 := by omega
      go_upto_region 10 with (fail)
      refine wp_region_swap 2 1 undef [(0, Spec.val (fdV rho cs AU cU)), (1, Spec.val (tsV (drS st gs) 1))] (by kernel_rfl) (by kernel_rfl) (by kernel_rfl) rfl rfl rfl rfl trivial ?_ ?_
      refine rg_val rfl rfl (fun W1 hW1 hF => step_loadR (cs := [.int .u64 (fv rho.a), .int .u64 (fv rho.b), .slice AU cs.length cU]) Tryz.underlying28 rfl fold_size rfl rfl (blk_range (b4.below (grw_below hW1) b4.lt))) ?_
      intro a' ha
      simp only [Act.put, List.setIfInBounds_toArray, List.set_cons_succ, List.set_cons_zero] at ha
      subst ha
      refine rg_val rfl rfl (fun W1 hW1 hF => step_loadTB rfl rfl HSO.out.len (b1.below (grw_below hW1) b1.lt)) ?_
      intro a' ha
      simp only [Act.put, List.setIfInBounds_toArray, List.set_cons_succ, List.set_cons_zero] at ha
      subst ha
      refine rg_nil (fun w' hw' hF => ?_)
      obtain ⟨y, rfl⟩ := hw'
      simp only [List.drop_succ_cons, List.drop_zero]
      rotate_left 1
      refine rg_val rfl rfl (fun W1 hW1 hF => step_loadR (cs := [.int .u64 (fv rho.a), .int .u64 (fv rho.b), .slice AU cs.length cU]) Tryz.underlying28 rfl fold_size rfl rfl (blk_range (b4.below (grw_below hW1) b4.lt))) ?_
      intro a' ha
      simp only [Act.put, List.setIfInBounds_toArray, List.set_cons_succ, List.set_cons_zero] at ha
      subst ha
      refine rg_pass rfl rfl ?_
      intro a' ha
      simp only [Act.put, List.setIfInBounds_toArray, List.set_cons_succ, List.set_cons_zero] at ha
      subst ha
      refine rg_nil (fun w' hw' hF => ?_)
      obtain ⟨y, rfl⟩ := hw'
      simp only [List.drop_succ_cons, List.drop_zero]
      refine wpList_putS ?_
      intro a' ha
      simp only [Act.put, List.setIfInBounds_toArray, List.set_cons_succ, List.set_cons_zero] at ha
      subst ha
      rotate_right 1
      all_goals
        clear hF
        have b1z := b1.gw y
        have b2z := b2.gw y
        have b3z := b3.gw y
        have hBz := hBr.trans (y.h.mono hBr.size)
        have hys := y.h.size
        have hEz := Rd.keep HOE.out y.h
        refine wpList_put rfl 28 (.tmp 6) (.tmp 44) rfl rfl (cells := [.int .u64 (fv rho.a), .int .u64 (fv rho.b), .slice AU cs.length cU]) rfl b2z (by show 0 + 3 ≤ 3; decide) fold_size rfl (spl_all _ _ rfl) fun Z hZ bZ => ?_
        have b1Z := hZ.blk b1z (by omega)
        have b3Z := hZ.blk b3z (by omega)
        have hEZ : ExtS (n9 + 1) wr.heap.size Z (.slice AU cs.length cU) cs := hZ.rd hEz (.inl (by omega))
        have hBZ := below_put hBz hZ (by omega)
        have hZs := hZ.size
        clear b1z b2z b3z hBz hEz
      rotate_left 1
      simp only [Act.put, List.setIfInBounds_toArray, List.set_cons_succ, List.set_cons_zero]
      refine wpList_plain rfl fun K hK => wp_of_step (stepAt_mono (fun v w' hh => ?_) (step_loadT rfl rfl HSO.out.len b1Z))
      obtain ⟨rfl, rfl⟩ := hh
      refine hK _ _ ?_
      clear hK K
      rotate_right 1
      all_goals
        refine wpList_putT rfl (.tmp 7) (.tmp 45) rfl rfl rfl b3Z hcs0 HSO.out.len fun V hV bV => ?_
        have bZV := hV.blk bZ (by omega)
        have hEV : ExtS (n9 + 1) wr.heap.size V (.slice AU cs.length cU) cs := hV.rd hEZ (.inl (by omega))
        have hBV := below_put hBZ hV (by omega)
        have hVs := hV.size
        go_wp2_with fail
        refine bodyPost_ret (v := .tuple #[fdV rho cs AU cU, tsV (drS st gs) 1]) (res_two (c1 := [.int .u64 (fv rho.a), .int .u64 (fv rho.b), .slice AU cs.length cU]) (c2 := tsc (drS st gs) 1) rfl rfl rfl Tryz.underlying28 rfl fold_size bZV Tryz.underlying60 rfl (by rw [tr_size, tsc_len _ _ HSO.out.len]) bV) rfl ⟨AU, cU, by rw [← HCS.out, ← HRHO.out], by rw [← HCS.out]; exact hEV.wide (by omega) (by omega), hBV⟩
end Go.Proofs.YtkgglhakimkkhaaGreatDoor
