/-
  The law's step (chapter 26).
-/
import Derived.Test.YtoiampgfnidfdaaGreatDoorStp26
namespace Go.Proofs.YtoiampgfnidfdaaGreatDoor
open Go.RowKit

attribute [local irreducible] wpRg
set_option maxRecDepth 100000 in
set_option maxHeartbeats 8000000 in
theorem gStep (k : Nat) (hk : k ≤ 900) (s : St26) (hok : StOk26 k s) (o : Op26) (ho : o.ok) (vE vL : Value) (bs : Bse) (w : World) (hw : bs.ok w) (hL : Laid w) (hSh : Lsh w) (hDb : Ldb w) (hE : EpsB bs vE s.1.eps) (hT : StmsB bs vL s.2) : Calls Tryz.prog 36 #[stV s.1 vE vL, .agg (opc o).toArray] w fun e W2 => ∃ vE' vL', e = .returned (stV (stepM s o).1 vE' vL') ∧ EpsB (bs.new w W2) vE' (stepM s o).1.eps ∧ StmsB (bs.new w W2) vL' (stepM s o).2 ∧ Below w.heap.size w W2 := by
  obtain ⟨m, ss⟩ := s
  dsimp only at hE hT
  dsimp only
  obtain ⟨n, hn⟩ : ∃ n, n = ss.length := ⟨_, rfl⟩
  obtain ⟨A, cap, rfl⟩ := hE.len
  obtain ⟨AL, cL, rfl⟩ := hT.len
  rw [← hn] at hT ⊢
  have hn9 : n ≤ 900 := by have h1 := hok.len; have h2 := hok.eps; dsimp only at h1 h2; omega
  have hsl : m.seed.length = 32 := hok.seed.1
  have HN := Lib.hid hn
  have HW := Lib.hid hw
  have HL := Lib.hid hL
  have HS := Lib.hid hSh
  have HD := Lib.hid hDb
  have HE := Lib.hid hE
  have HT := Lib.hid hT
  have HOK := Lib.hid hok
  have HO := Lib.hid ho
  obtain ⟨Sv, hSv⟩ : ∃ S, S = stV m (.slice A m.eps.length cap) (.slice AL n cL) := ⟨_, rfl⟩
  obtain ⟨Ov, hOv⟩ : ∃ S, S = Value.agg (opc o).toArray := ⟨_, rfl⟩
  rw [← hSv, ← hOv]
  clear hw hL hSh hDb hE hT hok ho hn
  go_enter Tryz.func36, Tryz.ntmps36
  go_upto_region 1 with (fail)
  refine wp_stk3 fun W hB hz b2 b3 b4 => ?_
  have b2' : Blk W w.heap.size 38 (stC m (.slice A m.eps.length cap) (.slice AL n cL)).toArray := by first | exact b2 | (rw [hSv] at b2; exact b2)
  have b3' : Blk W (w.heap.size + 1) 70 (opc o).toArray := by first | exact b3 | (rw [hOv] at b3; exact b3)
  have hwz := hz.out
  obtain ⟨g2, hg2⟩ : ∃ g, g = w.heap.size := ⟨_, rfl⟩
  rw [← hg2] at b2' b3' b4 hwz ⊢
  have HG2 := Lib.hid hg2
  have HZ := Lib.hid hwz
  have c34 := st_34 b2' hsl
  have l2 := b2'.lt
  clear b2 b3 hz hSv hOv hg2 hwz
  go_upto_region 2 with (fail)
  obtain ⟨iM, hiM, iM0, iM1, iM2⟩ := info_parts mt_info
  obtain ⟨iS, hiS, iS0, iS1, iS2⟩ := info_parts stpp_info26
  obtain ⟨us, hu1, hu2⟩ := HT.out
  have hul : us.length = n := by rw [hu2.1, HN.out]
  rw [hul] at hu1
  have HU1 := Lib.hid hu1
  have HU2 := Lib.hid hu2
  have k34 := gw_cell l2 c34
  have hWW := HW.out.below hB
  clear hu1 hu2
  refine wp_region_rg 7 [(1, Spec.val (mtV m (.slice A m.eps.length cap))), (2, Spec.rel (Lit 64 0 #[]) (LitF 0)), (5, Spec.rel (OwY W.heap.size 64 2 n (us.flatMap smc)) (SlF n)), (6, Spec.rel (New 35 (mtc ⟨0, List.replicate 32 0, []⟩ (.slice none 0 0)).toArray) (NewF))] (by kernel_rfl) (by kernel_rfl) (by kernel_rfl) ⟨fit_lit, fit_owy, fit_new, trivial⟩ ?_
  refine rg_det rfl rfl rfl (fun K hK => ?_)
  go_big_quiet_op
  refine hK _ ?_; clear hK K
  refine rg_val rfl rfl (fun W1 hW1 hF => step_loadR (cs := mtc m (.slice A m.eps.length cap)) mt_under rfl (by rw [mt_size, mtc_len m _ hsl]) rfl rfl (range_keep (st_mt b2') l2 (grw_below hW1))) ?_
  intro a' ha
  simp only [Act.put, List.setIfInBounds_toArray, List.set_cons_succ, List.set_cons_zero] at ha
  subst ha
  refine rg_rel rfl rfl (fun W1 hW1 hF => step_lit0 stl_slice hiS iS0 rfl) ?_
  intro n2 m2 v2 hn2 hm2 hd2 hf2 a' ha
  simp only [Act.put, List.setIfInBounds_toArray, List.set_cons_succ, List.set_cons_zero] at ha
  subst ha
  obtain rfl := hf2
  iterate 2 (refine rg_det rfl rfl rfl (fun K hK => ?_); go_big_quiet_op; refine hK _ ?_; clear hK K)
  refine rg_rel rfl rfl (fun W1 hW1 hF => step_appY (N := W.heap.size) (b := n2) rfl stl_slice hiS iS0 iS1 iS2 rfl (by decide) (smcs_one HU2.out) rfl hn2 (pick_last hF (by kernel_rfl)).2.2.2 rfl (HU1.out W1 (hWW.below (grw_below hW1))) (by unfold maxLen; omega) (by omega)) ?_
  intro n5 m5 v5 hn5 hm5 hd5 hf5 a' ha
  simp only [Act.put, List.setIfInBounds_toArray, List.set_cons_succ, List.set_cons_zero] at ha
  subst ha
  obtain ⟨A5, cap5, rfl⟩ := hf5
  refine rg_rel rfl rfl (fun W1 hW1 hF => step_new hiM iM0 rfl) ?_
  intro n6 m6 v6 hn6 hm6 hd6 hf6 a' ha
  simp only [Act.put, List.setIfInBounds_toArray, List.set_cons_succ, List.set_cons_zero] at ha
  subst ha
  obtain rfl := hf6
  refine rg_nil (fun w' hw' hF => ?_)
  obtain ⟨z, rfl⟩ := hw'
  simp only [List.drop_succ_cons, List.drop_zero]
  obtain ⟨hm6, -, hl6, b6⟩ := end_last hF
  have hY := (hF _ (List.mem_append_left _ (List.mem_append_right _ (List.mem_singleton.2 rfl)))).2
  clear hF hd2 hd5 hd6 hm2 hm5
  have hown : z.w.ownsRow W.heap.size 64 2 (.slice A5 n cap5) n (us.flatMap smc) := hY.1
  have hne : (Value.slice A5 n cap5).ownBlock ≠ some n6 := fun h => by
    rcases hown.2 with ⟨q, _⟩ | ⟨g, cap, cur, q, _, q3, _⟩
    · rw [q] at h; cases h
    · rw [q] at h
      cases h
      have hc := b6.symm.trans q3
      cases hc
  refine wpList_put rfl 35 (.tmp 7) (.tmp 22) rfl rfl (cells := mtc m (.slice A m.eps.length cap)) rfl b6 (by rw [List.size_toArray, mtc_len ⟨0, List.replicate 32 0, []⟩ _ rfl, mtc_len m _ hsl]; exact Nat.le_refl _) (by rw [mt_size, mtc_len m _ hsl]) (mtc_one _ _ rfl) (spl_all _ _ (by rw [List.size_toArray, mtc_len ⟨0, List.replicate 32 0, []⟩ _ rfl, mtc_len m _ hsl])) fun X hX bX => ?_
  have hBX : Below W.heap.size W X := below_put z.h hX hn6
  replace hown := own_putN26 hown hX hne
  have hBw := hB.trans (hBX.mono hB.size)
  have b2x := b2'.keep hBX
  have b3x := b3'.keep hBX
  have b4x := b4.keep hBX
  obtain ⟨g7, hg7⟩ : ∃ g, g = n6 := ⟨_, rfl⟩
  rw [← hg7] at bX hne hn6 hX ⊢
  clear b2' b3' b4 k34 c34 b6 hX hY hm6 hl6 hg7
  try simp only [Act.put, List.setIfInBounds_toArray, List.set_cons_succ, List.set_cons_zero]
  obtain ⟨z4, hz4, b4z⟩ : ∃ z : Array Value, z.size = 35 ∧ Blk X (g2 + 1 + 1) 38 z := ⟨_, rfl, b4x⟩
  have hg2w := HG2.out
  have hZs := HZ.out
  have hg7 : g2 + 3 ≤ g7 := by omega
  obtain ⟨ob, hob⟩ : ∃ ob, ob = (Value.slice A5 n cap5).ownBlock := ⟨_, rfl⟩
  have HOB := Lib.hid hob
  rw [← hob] at hne
  have E0 : EpsB ⟨X, SS bs g2 (g2 + 1 + 1) g7 ob⟩ (.slice A m.eps.length cap) m.eps := HE.out.le (Bse.le_ok (c := ⟨X, SS bs g2 (g2 + 1 + 1) g7 ob⟩) (HW.out.below hBw) fun g hg => .inl hg)
  have U0 : Al (StrIB ⟨X, SS bs g2 (g2 + 1 + 1) g7 ob⟩) us ss := HU2.out.mono fun _ _ h => h.le (Bse.le_ok (c := ⟨X, SS bs g2 (g2 + 1 + 1) g7 ob⟩) (HW.out.below hBw) fun g hg => .inl hg)
  have HG7 := Lib.hid hg7
  have HE0 := Lib.hid E0
  have HU0 := Lib.hid U0
  rw [HZ.out] at hown
  have HOW := Lib.hid hown
  have HNE := Lib.hid hne
  have hk0 : X.cell? ⟨g2 + 1, 0, none⟩ = some (.int .u8 (o.kind : Int)) := (b3x.cell 0).trans rfl
  have hk1 : X.cell? ⟨g2 + 1, 1, none⟩ = some (.int .u8 (o.b0 : Int)) := (b3x.cell 1).trans rfl
  have hk2 : X.cell? ⟨g2 + 1, 2, none⟩ = some (.int .u8 (o.b1 : Int)) := (b3x.cell 2).trans rfl
  have hk3 : X.cell? ⟨g2 + 1, 3, none⟩ = some (.int .u8 (o.b2 : Int)) := (b3x.cell 3).trans rfl
  have hk4 : X.cell? ⟨g2 + 1, 4, none⟩ = some (.int .u8 (o.i : Int)) := (b3x.cell 4).trans rfl
  have hk5 : X.cell? ⟨g2 + 1, 5, none⟩ = some (.int .u8 (o.n : Int)) := (b3x.cell 5).trans rfl
  have l3 := b3x.lt
  have hXs := hBX.size
  clear hob b4x hg2w hZs E0 U0 hg7 hn6 hown hne hB HU1 HU2 hWW hul
  go_upto_region 8 with (fail)
  clear l2
  by_cases h0 : o.kind % 8 = 0
  · have e0 : ((o.kind : Int) % 8) = 0 := by omega
    rw [e0]
    clear e0
    go_upto_region 9 with (fail)
    refine wp_region_lit ?_
    clear hk0 hk1 hk2 hk3
    iterate 1 (refine wpList_plain rfl fun K hK => ?_; go_big_op; refine hK _ _ ?_; clear hK K)
    refine wpList_plain rfl fun K3 hK3 => wp_of_step (stepAt_mono (fun v62 w62 hh => ?_) (step_loadR0 (cs := mtc m (.slice A m.eps.length cap)) mt_under rfl (by rw [mt_size, mtc_len m _ hsl]) rfl rfl (st_mt b2x)))
    obtain ⟨rfl, rfl⟩ := hh
    refine hK3 _ _ ?_
    clear hK3 K3
    try simp only [Act.put, List.setIfInBounds_toArray, List.set_cons_succ, List.set_cons_zero]
    iterate 9 (refine wpList_plain rfl fun K hK => ?_; go_big_op; refine hK _ _ ?_; clear hK K)
    obtain ⟨⟨M, c⟩, hx⟩ : ∃ x, x = openM m ((o.i : Int) % 4) (1 + (o.n : Int) % 4) := ⟨_, rfl⟩
    have hM : M.seed.length = 32 := by have := open_seed m ((o.i : Int) % 4) (1 + (o.n : Int) % 4); rw [← hx] at this; rw [this]; exact hsl
    refine wpList_plain rfl fun K5 hK5 => wp_of_step (stepAt_mono (fun v72 w72 hh => ?_) (step_call en_attestor_meter_Open ((gOpenM m (HOK.out.n (by omega)) (by have := HOK.out.eps; dsimp only at this; omega) ((o.i : Int) % 4) (1 + (o.n : Int) % 4) (by omega) (by omega) (.slice A m.eps.length cap) ⟨w62, SS bs g2 (g2 + 1 + 1) g7 ob⟩ w62 (Bse.ok_self _) (HS.out.keep hBw) HE0.out).mono (mres_of hx.symm)) rfl rfl))
    obtain ⟨vE1, rfl, E1, B1⟩ := hh
    refine hK5 _ _ ?_
    clear hK5 K5
    try simp only [Act.put, List.setIfInBounds_toArray, List.set_cons_succ, List.set_cons_zero]
    replace E1 := eps_to E1 (S := SS bs g2 (g2 + 1 + 1) g7 ob) fun g hg _ => ss_new (by have := b2x.lt; omega) b4z.lt bX.lt (fun g hg => (own_block HOW.out (by rw [← HOB.out]; exact hg)).2) g hg
    obtain ⟨A1, c1, rfl⟩ := E1.len
    replace b2x := b2x.keep B1
    replace b3x := b3x.keep B1
    replace b4z := b4z.keep B1
    replace bX := bX.keep B1
    replace HE0 := Lib.hid (HE0.out.fwd B1)
    replace HU0 := Lib.hid (sts_fwd HU0.out B1)
    replace HOW := Lib.hid (own_below HOW.out (Nat.le_refl _) B1)
    replace hBw := hBw.trans ((B1).mono hBw.size)
    clear B1 hk4 hk5 l3
    iterate 1 (refine wpList_plain rfl fun K hK => ?_; go_big_op; refine hK _ _ ?_; clear hK K)
    refine wpList_plain rfl fun K8 hK8 => wp_of_step (stepAt_mono (fun v73 w73 hh => ?_) (step_ext (v := mtV M (.slice A1 M.eps.length c1)) rfl rfl rfl))
    obtain ⟨rfl, rfl⟩ := hh
    refine hK8 _ _ ?_
    clear hK8 K8
    try simp only [Act.put, List.setIfInBounds_toArray, List.set_cons_succ, List.set_cons_zero]
    refine wpList_plain rfl fun K9 hK9 => wp_of_step (stepAt_mono (fun v74 w74 hh => ?_) (step_ext (v := .int .i64 c) rfl rfl rfl))
    obtain ⟨rfl, rfl⟩ := hh
    refine hK9 _ _ ?_
    clear hK9 K9
    try simp only [Act.put, List.setIfInBounds_toArray, List.set_cons_succ, List.set_cons_zero]
    refine wpList_put rfl 35 (.tmp 7) (.tmp 73) rfl rfl (cells := mtc (M) (.slice A1 M.eps.length c1)) rfl bX (by rw [List.size_toArray, mtc_len m _ hsl, mtc_len (M) _ hM]; exact Nat.le_refl _) (by rw [mt_size, mtc_len (M) _ hM]) (mtc_one _ _ rfl) (spl_all _ _ (by rw [List.size_toArray, mtc_len m _ hsl, mtc_len (M) _ hM])) fun Y hY bY => ?_
    have hgw : g2 + 3 ≤ g7 := HG7.out
    have hbw : bs.W.heap.size ≤ g2 := by have := HW.out.1; have := HG2.out; omega
    replace b2x := hY.blk b2x (by omega)
    replace b3x := hY.blk b3x (by omega)
    replace b4z := hY.blk b4z (by omega)
    replace HE0 := Lib.hid (HE0.out.pt hY (ss_not7 hbw (by omega)))
    replace HU0 := Lib.hid (sts_pt HU0.out hY (ss_not7 hbw (by omega)))
    replace E1 := (E1).pt hY (ss_not7 hbw (by omega))
    replace HOW := Lib.hid (own_putN26 HOW.out hY (by rw [← HOB.out]; exact HNE.out))
    replace hBw := below_put hBw hY (by have := HG2.out; omega)
    clear bX hY hgw hbw
    try simp only [Act.put, List.setIfInBounds_toArray, List.set_cons_succ, List.set_cons_zero]
    go_upto_region 10 with (fail)
    refine wp_region_lit ?_
    iterate 2 (refine wpList_plain rfl fun K hK => ?_; go_big_op; refine hK _ _ ?_; clear hK K)
    refine wpList_plain rfl fun K14 hK14 => wp_of_step (stepAt_mono (fun v77 w77 hh => ?_) (step_lit1 (cs := #[.slice none 0 0, .slice none 0 0]) stl_slice hiS iS0 iS1 (by decide) (by decide) rfl rfl rfl))
    obtain ⟨⟨rfl, hl77, b77⟩, B77⟩ := hh
    refine hK14 _ _ ?_
    clear hK14 K14
    try simp only [Act.put, List.setIfInBounds_toArray, List.set_cons_succ, List.set_cons_zero]
    have hN7 : g2 + 1 + 1 + 1 ≤ Y.heap.size := by have := b4z.lt; omega
    have hg7Y := bY.lt
    replace b2x := b2x.keep B77
    replace b3x := b3x.keep B77
    replace b4z := b4z.keep B77
    replace bY := bY.keep B77
    replace HE0 := Lib.hid (HE0.out.fwd B77)
    replace HU0 := Lib.hid (sts_fwd HU0.out B77)
    replace E1 := E1.fwd B77
    replace HOW := Lib.hid (own_below HOW.out (Nat.le_refl _) B77)
    replace hBw := hBw.trans (B77.mono hBw.size)
    have h77 := B77.size
    refine wpList_app3 (u := .slice A5 n cap5) (base := g2 + 1 + 1 + 1) (n := Y.heap.size) (cl := [.slice none 0 0, .slice none 0 0]) (cs := us.flatMap smc) rfl (.tmp 75) (.tmp 77) rfl stl_slice hiS iS0 iS1 iS2 rfl (by decide) rfl (fun v hv => by simp only [List.mem_cons, List.not_mem_nil, or_false] at hv; rcases hv with rfl | rfl <;> rfl) rfl rfl HOW.out b77 (by unfold maxLen; omega) (by omega) (by omega) fun v78 w78 own78 gr78 B78 hat78 => ?_
    obtain ⟨A78, k78, rfl⟩ := own_lenR own78
    have hbw : bs.W.heap.size ≤ g2 := by have := HW.out.1; have := HG2.out; omega
    rw [← HOB.out] at gr78
    have hob2 : ∀ g, ob = some g → g2 ≤ g := fun g hg => by have := (own_block HOW.out (by rw [← HOB.out]; exact hg)).1; omega
    replace b2x := b2x.below B78 (by omega)
    replace b3x := b3x.below B78 (by omega)
    replace b4z := b4z.below B78 (by omega)
    replace bY : Blk w78 g7 35 _ := (gr78.block g7 bY.lt (fun e => HNE.out e.symm)).trans bY
    replace HE0 := Lib.hid (eps_grown HE0.out gr78 hbw hob2)
    replace HU0 := Lib.hid (sts_grown HU0.out gr78 hbw hob2)
    replace E1 := eps_grown E1 gr78 hbw hob2
    replace hBw := hBw.trans (B78.mono (by have := HG2.out; omega))
    have HOY := Lib.hid own78
    have hul : us.length = n := by rw [HU0.out.1, HN.out]
    clear HOW own78 gr78 hat78 hob2 hbw B77 b77 hl77 h77 B78 hg7Y hN7
    by_cases hc : c = 0
    · subst hc
      have HC := Lib.hid (show stepM (m, ss) o = (M, ss ++ [[]]) by rw [stepM_0 h0 hx, if_pos rfl])
      have HU1 : Al (StrIB ⟨w78, SS bs g2 (g2 + 1 + 1) g7 ob⟩) (us ++ [⟨.slice none 0 0, .slice none 0 0⟩]) (ss ++ [[]]) := Al.snoc HU0.out ⟨fun Y _ => nil_rd Y 4, fun Y _ => nil_rd Y 1⟩
      have HOZ : w78.ownsRow (g2 + 1 + 1 + 1) 64 2 (.slice A78 (n + 1) k78) (n + 1) ((us ++ [(⟨.slice none 0 0, .slice none 0 0⟩ : StrW)]).flatMap smc) := by rw [List.flatMap_append]; exact HOY.out
      clear hx
      try simp only [Act.put, List.setIfInBounds_toArray, List.set_cons_succ, List.set_cons_zero]
      go_upto_region 25 with (fail)
      refine wp_region_lit ?_
      refine wpList_plain rfl fun K17 hK17 => wp_of_step (stepAt_mono (fun v162 w162 hh => ?_) (step_loadR0 (cs := mtc (M) (.slice A1 M.eps.length c1)) mt_under rfl (by rw [mt_size, mtc_len _ _ hM]) rfl rfl (blk_range bY)))
      obtain ⟨rfl, rfl⟩ := hh
      refine hK17 _ _ ?_
      clear hK17 K17
      try simp only [Act.put, List.setIfInBounds_toArray, List.set_cons_succ, List.set_cons_zero]
      iterate 1 (refine wpList_plain rfl fun K hK => ?_; go_big_op; refine hK _ _ ?_; clear hK K)
      refine wpList_plain rfl fun K19 hK19 => wp_of_step (stepAt_mono (fun v164 w164 hh => ?_) (step_buildS hM rfl rfl rfl))
      obtain ⟨rfl, rfl⟩ := hh
      refine hK19 _ _ ?_
      clear hK19 K19
      try simp only [Act.put, List.setIfInBounds_toArray, List.set_cons_succ, List.set_cons_zero]
      refine wpList_put rfl 38 (.tmp 4) (.tmp 164) rfl rfl (cells := stC (M) (.slice A1 M.eps.length c1) (.slice A78 (n + 1) k78)) rfl b4z (by rw [hz4, stC_len _ _ _ hM]; exact Nat.le_refl _) (by rw [stt_size26, stC_len _ _ _ hM]) (stC_one _ _ _ rfl rfl) (spl_all _ _ (by rw [hz4, stC_len _ _ _ hM])) fun Z hZ bZ => ?_
      have hBZ := below_put hBw hZ (by have := HG2.out; omega)
      have hbw : bs.W.heap.size ≤ g2 := by have := HW.out.1; have := HG2.out; omega
      have EZ : EpsB (bs.new w Z) (.slice A1 M.eps.length c1) (M).eps := ((E1).pt hZ (ss_not4 hbw (by omega))).sub fun g hg _ => by rw [← HG2.out]; exact ss_out hg
      have TZ : StmsB (bs.new w Z) (.slice A78 (n + 1) k78) (ss ++ [[]]) := stms_own (own_putN26 (HOZ) hZ (fun e => by have := (own_block (HOZ) e).1; omega)) (sts_pt (HU1) hZ (ss_not4 hbw (by omega))) (by rw [List.length_append, hul]; rfl) (by omega) HG2.out (by omega)
      try simp only [Act.put, List.setIfInBounds_toArray, List.set_cons_succ, List.set_cons_zero]
      go_wp2_with fail
      refine bodyPost_ret (v := stV (M) (.slice A1 M.eps.length c1) (.slice A78 (n + 1) k78)) (res_row (cs := stC (M) (.slice A1 M.eps.length c1) (.slice A78 (n + 1) k78)) (g := g2 + 1 + 1) rfl rfl stt_under26 rfl (by rw [stt_size26, stC_len _ _ _ hM]) bZ) rfl ?_
      rw [HC.out]
      exact ⟨_, _, rfl, EZ, TZ, hBZ⟩
    · have HC := Lib.hid (show stepM (m, ss) o = (m, ss) by rw [stepM_0 h0 hx, if_neg hc])
      clear hx
      try simp only [Act.put, List.setIfInBounds_toArray, List.set_cons_succ, List.set_cons_zero]
      go_upto_region 24 with (fail)
      refine wp_region_lit ?_
      refine wpList_plain rfl fun K23 hK23 => wp_of_step (stepAt_mono (fun v161 w161 hh => ?_) (step_loadR0 (cs := stC m (.slice A m.eps.length cap) (.slice AL n cL)) stt_under26 rfl (by rw [stt_size26, stC_len _ _ _ hsl]) rfl rfl (blk_range b2x)))
      obtain ⟨rfl, rfl⟩ := hh
      refine hK23 _ _ ?_
      clear hK23 K23
      try simp only [Act.put, List.setIfInBounds_toArray, List.set_cons_succ, List.set_cons_zero]
      refine wpList_put rfl 38 (.tmp 4) (.tmp 161) rfl rfl (cells := stC m (.slice A m.eps.length cap) (.slice AL n cL)) rfl b4z (by rw [hz4, stC_len _ _ _ hsl]; exact Nat.le_refl _) (by rw [stt_size26, stC_len _ _ _ hsl]) (stC_one _ _ _ rfl rfl) (spl_all _ _ (by rw [hz4, stC_len _ _ _ hsl])) fun Z hZ bZ => ?_
      have hBZ := below_put hBw hZ (by have := HG2.out; omega)
      try simp only [Act.put, List.setIfInBounds_toArray, List.set_cons_succ, List.set_cons_zero]
      go_wp2_with fail
      refine bodyPost_ret (v := stV m (.slice A m.eps.length cap) (.slice AL n cL)) (res_row (cs := stC m (.slice A m.eps.length cap) (.slice AL n cL)) (g := g2 + 1 + 1) rfl rfl stt_under26 rfl (by rw [stt_size26, stC_len _ _ _ hsl]) bZ) rfl ?_
      rw [HC.out]
      exact ⟨_, _, rfl, HE.out.le (Bse.le_new (HW.out.below hBZ)), HT.out.le (Bse.le_new (HW.out.below hBZ)), hBZ⟩
  by_cases h1 : o.kind % 8 = 1
  · have e0 : ((o.kind : Int) % 8) = 1 := by omega
    rw [e0]
    clear e0 h0 hk0 hk1 hk2 hk3 hk4 hk5 l3
    go_upto_region 12 with (fail)
    refine wp_region_lit ?_
    iterate 1 (refine wpList_plain rfl fun K hK => ?_; go_big_op; refine hK _ _ ?_; clear hK K)
    refine wpList_plain rfl fun K26 hK26 => wp_of_step (stepAt_mono (fun v83 w83 hh => ?_) (step_loadR0 (cs := mtc m (.slice A m.eps.length cap)) mt_under rfl (by rw [mt_size, mtc_len m _ hsl]) rfl rfl (st_mt b2x)))
    obtain ⟨rfl, rfl⟩ := hh
    refine hK26 _ _ ?_
    clear hK26 K26
    try simp only [Act.put, List.setIfInBounds_toArray, List.set_cons_succ, List.set_cons_zero]
    obtain ⟨⟨M, c⟩, hx⟩ : ∃ x, x = closeM m := ⟨_, rfl⟩
    have hM : M.seed.length = 32 := by have := close_seed m; rw [← hx] at this; rw [this]; exact hsl
    refine wpList_plain rfl fun K27 hK27 => wp_of_step (stepAt_mono (fun v84 w84 hh => ?_) (step_call en_attestor_meter_Close ((gCloseM m (HOK.out.n (by omega)) (.slice A m.eps.length cap) ⟨w83, SS bs g2 (g2 + 1 + 1) g7 ob⟩ w83 (Bse.ok_self _) HE0.out).mono (mres_of hx.symm)) rfl rfl))
    obtain ⟨vE1, rfl, E1, B1⟩ := hh
    refine hK27 _ _ ?_
    clear hK27 K27
    try simp only [Act.put, List.setIfInBounds_toArray, List.set_cons_succ, List.set_cons_zero]
    replace E1 := eps_to E1 (S := SS bs g2 (g2 + 1 + 1) g7 ob) fun g hg _ => ss_new (by have := b2x.lt; omega) b4z.lt bX.lt (fun g hg => (own_block HOW.out (by rw [← HOB.out]; exact hg)).2) g hg
    obtain ⟨A1, c1, rfl⟩ := E1.len
    replace b2x := b2x.keep B1
    replace b3x := b3x.keep B1
    replace b4z := b4z.keep B1
    replace bX := bX.keep B1
    replace HE0 := Lib.hid (HE0.out.fwd B1)
    replace HU0 := Lib.hid (sts_fwd HU0.out B1)
    replace HOW := Lib.hid (own_below HOW.out (Nat.le_refl _) B1)
    replace hBw := hBw.trans ((B1).mono hBw.size)
    clear B1
    iterate 1 (refine wpList_plain rfl fun K hK => ?_; go_big_op; refine hK _ _ ?_; clear hK K)
    refine wpList_plain rfl fun K31 hK31 => wp_of_step (stepAt_mono (fun v85 w85 hh => ?_) (step_ext (v := mtV M (.slice A1 M.eps.length c1)) rfl rfl rfl))
    obtain ⟨rfl, rfl⟩ := hh
    refine hK31 _ _ ?_
    clear hK31 K31
    try simp only [Act.put, List.setIfInBounds_toArray, List.set_cons_succ, List.set_cons_zero]
    refine wpList_plain rfl fun K32 hK32 => wp_of_step (stepAt_mono (fun v86 w86 hh => ?_) (step_ext (v := .int .i64 c) rfl rfl rfl))
    obtain ⟨rfl, rfl⟩ := hh
    refine hK32 _ _ ?_
    clear hK32 K32
    try simp only [Act.put, List.setIfInBounds_toArray, List.set_cons_succ, List.set_cons_zero]
    refine wpList_put rfl 35 (.tmp 7) (.tmp 85) rfl rfl (cells := mtc (M) (.slice A1 M.eps.length c1)) rfl bX (by rw [List.size_toArray, mtc_len m _ hsl, mtc_len (M) _ hM]; exact Nat.le_refl _) (by rw [mt_size, mtc_len (M) _ hM]) (mtc_one _ _ rfl) (spl_all _ _ (by rw [List.size_toArray, mtc_len m _ hsl, mtc_len (M) _ hM])) fun Y hY bY => ?_
    have hgw : g2 + 3 ≤ g7 := HG7.out
    have hbw : bs.W.heap.size ≤ g2 := by have := HW.out.1; have := HG2.out; omega
    replace b2x := hY.blk b2x (by omega)
    replace b3x := hY.blk b3x (by omega)
    replace b4z := hY.blk b4z (by omega)
    replace HE0 := Lib.hid (HE0.out.pt hY (ss_not7 hbw (by omega)))
    replace HU0 := Lib.hid (sts_pt HU0.out hY (ss_not7 hbw (by omega)))
    replace E1 := (E1).pt hY (ss_not7 hbw (by omega))
    replace HOW := Lib.hid (own_putN26 HOW.out hY (by rw [← HOB.out]; exact HNE.out))
    replace hBw := below_put hBw hY (by have := HG2.out; omega)
    clear bX hY hgw hbw
    have hul : us.length = n := by rw [HU0.out.1, HN.out]
    have HOZ := HOW.out
    have HU1 := HU0.out
    by_cases hc : c = 0
    · subst hc
      have HC := Lib.hid (show stepM (m, ss) o = (M, ss) by rw [stepM_1 h1 hx, if_pos rfl])
      clear hx
      try simp only [Act.put, List.setIfInBounds_toArray, List.set_cons_succ, List.set_cons_zero]
      go_upto_region 25 with (fail)
      refine wp_region_lit ?_
      refine wpList_plain rfl fun K37 hK37 => wp_of_step (stepAt_mono (fun v162 w162 hh => ?_) (step_loadR0 (cs := mtc (M) (.slice A1 M.eps.length c1)) mt_under rfl (by rw [mt_size, mtc_len _ _ hM]) rfl rfl (blk_range bY)))
      obtain ⟨rfl, rfl⟩ := hh
      refine hK37 _ _ ?_
      clear hK37 K37
      try simp only [Act.put, List.setIfInBounds_toArray, List.set_cons_succ, List.set_cons_zero]
      iterate 1 (refine wpList_plain rfl fun K hK => ?_; go_big_op; refine hK _ _ ?_; clear hK K)
      refine wpList_plain rfl fun K39 hK39 => wp_of_step (stepAt_mono (fun v164 w164 hh => ?_) (step_buildS hM rfl rfl rfl))
      obtain ⟨rfl, rfl⟩ := hh
      refine hK39 _ _ ?_
      clear hK39 K39
      try simp only [Act.put, List.setIfInBounds_toArray, List.set_cons_succ, List.set_cons_zero]
      refine wpList_put rfl 38 (.tmp 4) (.tmp 164) rfl rfl (cells := stC (M) (.slice A1 M.eps.length c1) (.slice A5 n cap5)) rfl b4z (by rw [hz4, stC_len _ _ _ hM]; exact Nat.le_refl _) (by rw [stt_size26, stC_len _ _ _ hM]) (stC_one _ _ _ rfl rfl) (spl_all _ _ (by rw [hz4, stC_len _ _ _ hM])) fun Z hZ bZ => ?_
      have hBZ := below_put hBw hZ (by have := HG2.out; omega)
      have hbw : bs.W.heap.size ≤ g2 := by have := HW.out.1; have := HG2.out; omega
      have EZ : EpsB (bs.new w Z) (.slice A1 M.eps.length c1) (M).eps := ((E1).pt hZ (ss_not4 hbw (by omega))).sub fun g hg _ => by rw [← HG2.out]; exact ss_out hg
      have TZ : StmsB (bs.new w Z) (.slice A5 n cap5) (ss) := stms_own (own_putN26 (HOZ) hZ (fun e => by have := (own_block (HOZ) e).1; omega)) (sts_pt (HU1) hZ (ss_not4 hbw (by omega))) hul (by omega) HG2.out (by omega)
      try simp only [Act.put, List.setIfInBounds_toArray, List.set_cons_succ, List.set_cons_zero]
      go_wp2_with fail
      refine bodyPost_ret (v := stV (M) (.slice A1 M.eps.length c1) (.slice A5 n cap5)) (res_row (cs := stC (M) (.slice A1 M.eps.length c1) (.slice A5 n cap5)) (g := g2 + 1 + 1) rfl rfl stt_under26 rfl (by rw [stt_size26, stC_len _ _ _ hM]) bZ) rfl ?_
      rw [HC.out]
      exact ⟨_, _, rfl, EZ, TZ, hBZ⟩
    · have HC := Lib.hid (show stepM (m, ss) o = (m, ss) by rw [stepM_1 h1 hx, if_neg hc])
      clear hx
      try simp only [Act.put, List.setIfInBounds_toArray, List.set_cons_succ, List.set_cons_zero]
      go_upto_region 24 with (fail)
      refine wp_region_lit ?_
      refine wpList_plain rfl fun K43 hK43 => wp_of_step (stepAt_mono (fun v161 w161 hh => ?_) (step_loadR0 (cs := stC m (.slice A m.eps.length cap) (.slice AL n cL)) stt_under26 rfl (by rw [stt_size26, stC_len _ _ _ hsl]) rfl rfl (blk_range b2x)))
      obtain ⟨rfl, rfl⟩ := hh
      refine hK43 _ _ ?_
      clear hK43 K43
      try simp only [Act.put, List.setIfInBounds_toArray, List.set_cons_succ, List.set_cons_zero]
      refine wpList_put rfl 38 (.tmp 4) (.tmp 161) rfl rfl (cells := stC m (.slice A m.eps.length cap) (.slice AL n cL)) rfl b4z (by rw [hz4, stC_len _ _ _ hsl]; exact Nat.le_refl _) (by rw [stt_size26, stC_len _ _ _ hsl]) (stC_one _ _ _ rfl rfl) (spl_all _ _ (by rw [hz4, stC_len _ _ _ hsl])) fun Z hZ bZ => ?_
      have hBZ := below_put hBw hZ (by have := HG2.out; omega)
      try simp only [Act.put, List.setIfInBounds_toArray, List.set_cons_succ, List.set_cons_zero]
      go_wp2_with fail
      refine bodyPost_ret (v := stV m (.slice A m.eps.length cap) (.slice AL n cL)) (res_row (cs := stC m (.slice A m.eps.length cap) (.slice AL n cL)) (g := g2 + 1 + 1) rfl rfl stt_under26 rfl (by rw [stt_size26, stC_len _ _ _ hsl]) bZ) rfl ?_
      rw [HC.out]
      exact ⟨_, _, rfl, HE.out.le (Bse.le_new (HW.out.below hBZ)), HT.out.le (Bse.le_new (HW.out.below hBZ)), hBZ⟩
  by_cases h2 : o.kind % 8 = 2
  · have e0 : ((o.kind : Int) % 8) = 2 := by omega
    rw [e0]
    clear e0 h0 h1 hk0 hk1 hk2 hk3 hk4
    go_upto_region 14 with (fail)
    refine wp_region_lit ?_
    iterate 1 (refine wpList_plain rfl fun K hK => ?_; go_big_op; refine hK _ _ ?_; clear hK K)
    refine wpList_plain rfl fun K46 hK46 => wp_of_step (stepAt_mono (fun v91 w91 hh => ?_) (step_loadR0 (cs := mtc m (.slice A m.eps.length cap)) mt_under rfl (by rw [mt_size, mtc_len m _ hsl]) rfl rfl (st_mt b2x)))
    obtain ⟨rfl, rfl⟩ := hh
    refine hK46 _ _ ?_
    clear hK46 K46
    try simp only [Act.put, List.setIfInBounds_toArray, List.set_cons_succ, List.set_cons_zero]
    iterate 4 (refine wpList_plain rfl fun K hK => ?_; go_big_op; refine hK _ _ ?_; clear hK K)
    obtain ⟨⟨M, l, c⟩, hx⟩ : ∃ x, x = spendM m ((o.n : Int) % 4) := ⟨_, rfl⟩
    have hM : M.seed.length = 32 := by have := spend_seed m ((o.n : Int) % 4); rw [← hx] at this; rw [this]; exact hsl
    refine wpList_plain rfl fun K48 hK48 => wp_of_step (stepAt_mono (fun v96 w96 hh => ?_) (step_call en_attestor_meter_Spend ((gSpendM m (HOK.out.n (by omega)) ((o.n : Int) % 4) (by omega) (.slice A m.eps.length cap) ⟨w91, SS bs g2 (g2 + 1 + 1) g7 ob⟩ w91 (Bse.ok_self _) HE0.out).mono (sres_of hx.symm)) rfl rfl))
    obtain ⟨vE1, vL1, rfl, E1, R1, B1⟩ := hh
    refine hK48 _ _ ?_
    clear hK48 K48
    try simp only [Act.put, List.setIfInBounds_toArray, List.set_cons_succ, List.set_cons_zero]
    replace E1 := eps_to E1 (S := SS bs g2 (g2 + 1 + 1) g7 ob) fun g hg _ => ss_new (by have := b2x.lt; omega) b4z.lt bX.lt (fun g hg => (own_block HOW.out (by rw [← HOB.out]; exact hg)).2) g hg
    obtain ⟨A1, c1, rfl⟩ := E1.len
    replace b2x := b2x.keep B1
    replace b3x := b3x.keep B1
    replace b4z := b4z.keep B1
    replace bX := bX.keep B1
    replace HE0 := Lib.hid (HE0.out.fwd B1)
    replace HU0 := Lib.hid (sts_fwd HU0.out B1)
    replace HOW := Lib.hid (own_below HOW.out (Nat.le_refl _) B1)
    replace hBw := hBw.trans ((B1).mono hBw.size)
    clear B1 R1 hk5 l3
    iterate 1 (refine wpList_plain rfl fun K hK => ?_; go_big_op; refine hK _ _ ?_; clear hK K)
    refine wpList_plain rfl fun K52 hK52 => wp_of_step (stepAt_mono (fun v97 w97 hh => ?_) (step_ext (v := mtV M (.slice A1 M.eps.length c1)) rfl rfl rfl))
    obtain ⟨rfl, rfl⟩ := hh
    refine hK52 _ _ ?_
    clear hK52 K52
    try simp only [Act.put, List.setIfInBounds_toArray, List.set_cons_succ, List.set_cons_zero]
    refine wpList_plain rfl fun K53 hK53 => wp_of_step (stepAt_mono (fun v98 w98 hh => ?_) (step_ext (v := vL1) rfl rfl rfl))
    obtain ⟨rfl, rfl⟩ := hh
    refine hK53 _ _ ?_
    clear hK53 K53
    try simp only [Act.put, List.setIfInBounds_toArray, List.set_cons_succ, List.set_cons_zero]
    refine wpList_plain rfl fun K54 hK54 => wp_of_step (stepAt_mono (fun v99 w99 hh => ?_) (step_ext (v := .int .i64 c) rfl rfl rfl))
    obtain ⟨rfl, rfl⟩ := hh
    refine hK54 _ _ ?_
    clear hK54 K54
    try simp only [Act.put, List.setIfInBounds_toArray, List.set_cons_succ, List.set_cons_zero]
    refine wpList_plain rfl fun K55 hK55 => wp_of_step (stepAt_mono (fun v9 w9 hh => ?_) (step_new0 hiM iM0 rfl))
    obtain ⟨rfl, rfl⟩ := hh
    refine hK55 _ _ ?_
    clear hK55 K55
    try simp only [Act.put, List.setIfInBounds_toArray, List.set_cons_succ, List.set_cons_zero]
    have b9 : Blk (w99.alloc (.cells (Value.agg (mtc ⟨0, List.replicate 32 0, []⟩ (.slice none 0 0)).toArray).cells 35)) w99.heap.size 35 (mtc ⟨0, List.replicate 32 0, []⟩ (.slice none 0 0)).toArray := World.alloc_heap_new w99 _
    have B9 := (Below.refl _ w99).alloc (Nat.le_refl _) (.cells (Value.agg (mtc ⟨0, List.replicate 32 0, []⟩ (.slice none 0 0)).toArray).cells 35)
    generalize w99.alloc (.cells (Value.agg (mtc ⟨0, List.replicate 32 0, []⟩ (.slice none 0 0)).toArray).cells 35) = w9 at *
    refine wpList_put rfl 35 (.tmp 9) (.tmp 97) rfl rfl (cells := mtc M (.slice A1 M.eps.length c1)) rfl b9 (by rw [List.size_toArray, mtc_len ⟨0, List.replicate 32 0, []⟩ _ rfl, mtc_len M _ hM]; exact Nat.le_refl _) (by rw [mt_size, mtc_len M _ hM]) (mtc_one _ _ rfl) (spl_all _ _ (by rw [List.size_toArray, mtc_len ⟨0, List.replicate 32 0, []⟩ _ rfl, mtc_len M _ hM])) fun X9 hX9 bX9 => ?_
    have BB9 : Below w99.heap.size w99 X9 := below_put B9 hX9 (Nat.le_refl _)
    obtain ⟨g9, hg9⟩ : ∃ g, g = w99.heap.size := ⟨_, rfl⟩
    have hne9 : g9 ≠ g7 := by have := bX.lt; omega
    replace b2x := b2x.keep BB9
    replace b3x := b3x.keep BB9
    replace b4z := b4z.keep BB9
    replace bX := bX.keep BB9
    replace HE0 := Lib.hid (HE0.out.fwd BB9)
    replace HU0 := Lib.hid (sts_fwd HU0.out BB9)
    replace HOW := Lib.hid (own_below HOW.out (Nat.le_refl _) BB9)
    replace hBw := hBw.trans ((BB9).mono hBw.size)
    replace E1 := E1.fwd BB9
    rw [← hg9] at bX9 ⊢
    clear b9 B9 hX9 BB9 hg9
    try simp only [Act.put, List.setIfInBounds_toArray, List.set_cons_succ, List.set_cons_zero]
    go_upto_region 15 with (fail)
    refine wp_region_lit ?_
    refine wpList_plain rfl fun K58 hK58 => wp_of_step (stepAt_mono (fun v100 w100 hh => ?_) (step_loadR0 (cs := mtc M (.slice A1 M.eps.length c1)) mt_under rfl (by rw [mt_size, mtc_len _ _ hM]) rfl rfl (blk_range bX9)))
    obtain ⟨rfl, rfl⟩ := hh
    refine hK58 _ _ ?_
    clear hK58 K58
    try simp only [Act.put, List.setIfInBounds_toArray, List.set_cons_succ, List.set_cons_zero]
    refine wpList_put rfl 35 (.tmp 7) (.tmp 100) rfl rfl (cells := mtc (M) (.slice A1 M.eps.length c1)) rfl bX (by rw [List.size_toArray, mtc_len m _ hsl, mtc_len (M) _ hM]; exact Nat.le_refl _) (by rw [mt_size, mtc_len (M) _ hM]) (mtc_one _ _ rfl) (spl_all _ _ (by rw [List.size_toArray, mtc_len m _ hsl, mtc_len (M) _ hM])) fun Y hY bY => ?_
    have hgw : g2 + 3 ≤ g7 := HG7.out
    have hbw : bs.W.heap.size ≤ g2 := by have := HW.out.1; have := HG2.out; omega
    replace b2x := hY.blk b2x (by omega)
    replace b3x := hY.blk b3x (by omega)
    replace b4z := hY.blk b4z (by omega)
    replace HE0 := Lib.hid (HE0.out.pt hY (ss_not7 hbw (by omega)))
    replace HU0 := Lib.hid (sts_pt HU0.out hY (ss_not7 hbw (by omega)))
    replace E1 := (E1).pt hY (ss_not7 hbw (by omega))
    replace HOW := Lib.hid (own_putN26 HOW.out hY (by rw [← HOB.out]; exact HNE.out))
    replace hBw := below_put hBw hY (by have := HG2.out; omega)
    clear bX hY hgw hbw
    have hul : us.length = n := by rw [HU0.out.1, HN.out]
    have HOZ := HOW.out
    have HU1 := HU0.out
    clear bX9 hne9
    by_cases hc : c = 0
    · subst hc
      have HC := Lib.hid (show stepM (m, ss) o = (M, ss) by rw [stepM_2 h2 hx, if_pos rfl])
      clear hx
      try simp only [Act.put, List.setIfInBounds_toArray, List.set_cons_succ, List.set_cons_zero]
      go_upto_region 25 with (fail)
      refine wp_region_lit ?_
      refine wpList_plain rfl fun K63 hK63 => wp_of_step (stepAt_mono (fun v162 w162 hh => ?_) (step_loadR0 (cs := mtc (M) (.slice A1 M.eps.length c1)) mt_under rfl (by rw [mt_size, mtc_len _ _ hM]) rfl rfl (blk_range bY)))
      obtain ⟨rfl, rfl⟩ := hh
      refine hK63 _ _ ?_
      clear hK63 K63
      try simp only [Act.put, List.setIfInBounds_toArray, List.set_cons_succ, List.set_cons_zero]
      iterate 1 (refine wpList_plain rfl fun K hK => ?_; go_big_op; refine hK _ _ ?_; clear hK K)
      refine wpList_plain rfl fun K65 hK65 => wp_of_step (stepAt_mono (fun v164 w164 hh => ?_) (step_buildS hM rfl rfl rfl))
      obtain ⟨rfl, rfl⟩ := hh
      refine hK65 _ _ ?_
      clear hK65 K65
      try simp only [Act.put, List.setIfInBounds_toArray, List.set_cons_succ, List.set_cons_zero]
      refine wpList_put rfl 38 (.tmp 4) (.tmp 164) rfl rfl (cells := stC (M) (.slice A1 M.eps.length c1) (.slice A5 n cap5)) rfl b4z (by rw [hz4, stC_len _ _ _ hM]; exact Nat.le_refl _) (by rw [stt_size26, stC_len _ _ _ hM]) (stC_one _ _ _ rfl rfl) (spl_all _ _ (by rw [hz4, stC_len _ _ _ hM])) fun Z hZ bZ => ?_
      have hBZ := below_put hBw hZ (by have := HG2.out; omega)
      have hbw : bs.W.heap.size ≤ g2 := by have := HW.out.1; have := HG2.out; omega
      have EZ : EpsB (bs.new w Z) (.slice A1 M.eps.length c1) (M).eps := ((E1).pt hZ (ss_not4 hbw (by omega))).sub fun g hg _ => by rw [← HG2.out]; exact ss_out hg
      have TZ : StmsB (bs.new w Z) (.slice A5 n cap5) (ss) := stms_own (own_putN26 (HOZ) hZ (fun e => by have := (own_block (HOZ) e).1; omega)) (sts_pt (HU1) hZ (ss_not4 hbw (by omega))) hul (by omega) HG2.out (by omega)
      try simp only [Act.put, List.setIfInBounds_toArray, List.set_cons_succ, List.set_cons_zero]
      go_wp2_with fail
      refine bodyPost_ret (v := stV (M) (.slice A1 M.eps.length c1) (.slice A5 n cap5)) (res_row (cs := stC (M) (.slice A1 M.eps.length c1) (.slice A5 n cap5)) (g := g2 + 1 + 1) rfl rfl stt_under26 rfl (by rw [stt_size26, stC_len _ _ _ hM]) bZ) rfl ?_
      rw [HC.out]
      exact ⟨_, _, rfl, EZ, TZ, hBZ⟩
    · have HC := Lib.hid (show stepM (m, ss) o = (m, ss) by rw [stepM_2 h2 hx, if_neg hc])
      clear hx
      try simp only [Act.put, List.setIfInBounds_toArray, List.set_cons_succ, List.set_cons_zero]
      go_upto_region 24 with (fail)
      refine wp_region_lit ?_
      refine wpList_plain rfl fun K69 hK69 => wp_of_step (stepAt_mono (fun v161 w161 hh => ?_) (step_loadR0 (cs := stC m (.slice A m.eps.length cap) (.slice AL n cL)) stt_under26 rfl (by rw [stt_size26, stC_len _ _ _ hsl]) rfl rfl (blk_range b2x)))
      obtain ⟨rfl, rfl⟩ := hh
      refine hK69 _ _ ?_
      clear hK69 K69
      try simp only [Act.put, List.setIfInBounds_toArray, List.set_cons_succ, List.set_cons_zero]
      refine wpList_put rfl 38 (.tmp 4) (.tmp 161) rfl rfl (cells := stC m (.slice A m.eps.length cap) (.slice AL n cL)) rfl b4z (by rw [hz4, stC_len _ _ _ hsl]; exact Nat.le_refl _) (by rw [stt_size26, stC_len _ _ _ hsl]) (stC_one _ _ _ rfl rfl) (spl_all _ _ (by rw [hz4, stC_len _ _ _ hsl])) fun Z hZ bZ => ?_
      have hBZ := below_put hBw hZ (by have := HG2.out; omega)
      try simp only [Act.put, List.setIfInBounds_toArray, List.set_cons_succ, List.set_cons_zero]
      go_wp2_with fail
      refine bodyPost_ret (v := stV m (.slice A m.eps.length cap) (.slice AL n cL)) (res_row (cs := stC m (.slice A m.eps.length cap) (.slice AL n cL)) (g := g2 + 1 + 1) rfl rfl stt_under26 rfl (by rw [stt_size26, stC_len _ _ _ hsl]) bZ) rfl ?_
      rw [HC.out]
      exact ⟨_, _, rfl, HE.out.le (Bse.le_new (HW.out.below hBZ)), HT.out.le (Bse.le_new (HW.out.below hBZ)), hBZ⟩
  by_cases h3 : o.kind % 8 = 3
  · have e0 : ((o.kind : Int) % 8) = 3 := by omega
    rw [e0]
    clear e0 h0 h1 h2 hk0 hk1 hk2 hk3 hk5
    go_upto_region 18 with (fail)
    go_upto_region 19 with (fail)
    obtain ⟨q, hq⟩ : ∃ q, q = o.i % 8 := ⟨_, rfl⟩
    have hul : us.length = n := by rw [HU0.out.1, HN.out]
    have e8 : ((o.i : Int) % 8) = (q : Int) := by omega
    rw [e8]
    have HQ := Lib.hid hq
    clear e8 hq hk4 l3
    by_cases hn1 : 0 < n
    rotate_left 1
    · have HC := Lib.hid (show stepM (m, ss) o = (m, ss) by
        refine stepM_3n h3 fun r hr => ?_
        have hz : ss = [] := List.eq_nil_of_length_eq_zero (by have := HN.out; omega)
        rw [hz] at hr
        simp at hr)
      rw [show (n : Int) - 1 = -1 by omega]
      clear hn1 hul
      go_upto_region 23 with (fail)
      go_upto_region 24 with (fail)
      refine wp_region_lit ?_
      refine wpList_plain rfl fun K72 hK72 => wp_of_step (stepAt_mono (fun v161 w161 hh => ?_) (step_loadR0 (cs := stC m (.slice A m.eps.length cap) (.slice AL n cL)) stt_under26 rfl (by rw [stt_size26, stC_len _ _ _ hsl]) rfl rfl (blk_range b2x)))
      obtain ⟨rfl, rfl⟩ := hh
      refine hK72 _ _ ?_
      clear hK72 K72
      try simp only [Act.put, List.setIfInBounds_toArray, List.set_cons_succ, List.set_cons_zero]
      refine wpList_put rfl 38 (.tmp 4) (.tmp 161) rfl rfl (cells := stC m (.slice A m.eps.length cap) (.slice AL n cL)) rfl b4z (by rw [hz4, stC_len _ _ _ hsl]; exact Nat.le_refl _) (by rw [stt_size26, stC_len _ _ _ hsl]) (stC_one _ _ _ rfl rfl) (spl_all _ _ (by rw [hz4, stC_len _ _ _ hsl])) fun Z hZ bZ => ?_
      have hBZ := below_put hBw hZ (by have := HG2.out; omega)
      try simp only [Act.put, List.setIfInBounds_toArray, List.set_cons_succ, List.set_cons_zero]
      go_wp2_with fail
      refine bodyPost_ret (v := stV m (.slice A m.eps.length cap) (.slice AL n cL)) (res_row (cs := stC m (.slice A m.eps.length cap) (.slice AL n cL)) (g := g2 + 1 + 1) rfl rfl stt_under26 rfl (by rw [stt_size26, stC_len _ _ _ hsl]) bZ) rfl ?_
      rw [HC.out]
      exact ⟨_, _, rfl, HE.out.le (Bse.le_new (HW.out.below hBZ)), HT.out.le (Bse.le_new (HW.out.below hBZ)), hBZ⟩
    obtain ⟨j, hj⟩ : ∃ j, j = n - 1 := ⟨_, rfl⟩
    have ej : (n : Int) - 1 = (j : Int) := by omega
    rw [ej]
    have hjn : j < n := by omega
    have hj0 : j < ss.length := by rw [← HN.out]; exact hjn
    obtain ⟨u, s1, hu, hs1, hin⟩ := HU0.out.get hj0
    obtain ⟨gR, cR, rest, hv, hcR, hgR, bR, hset⟩ := own_formS HOW.out hul hn1
    cases hv
    have hgd : ss.getD (ss.length - 1) [] = s1 := by
      rw [← HN.out, ← hj, List.getD_eq_getElem?_getD, hs1]
      rfl
    obtain ⟨⟨Al, cl, hul2⟩, ⟨Ag, cg, hug2⟩⟩ := hin.len
    have hJ : n = j + 1 := by omega
    have HJ := Lib.hid hJ
    have hgRY : gR < X.heap.size := bR.lt
    have cl0 : X.cell? ⟨gR, j * 2, none⟩ = some (.slice Al s1.length cl) := by
      have := st_rng bR hu 0 _ rfl
      rw [← hul2]
      exact this
    have cl1 : X.cell? ⟨gR, j * 2 + 1, none⟩ = some (.slice Ag s1.length cg) := by
      have := st_rng bR hu 1 _ rfl
      rw [← hug2]
      exact this
    have hinn := hin.now
    obtain ⟨kk, hkk⟩ : ∃ kk, kk = s1.length := ⟨_, rfl⟩
    rw [← hkk] at cl0 cl1 hul2 hug2
    have HKK := Lib.hid hkk
    have HIN := Lib.hid hin
    have HSET := Lib.hid hset
    clear hkk hj hJ ej hin hset
    by_cases hqk : q < kk
    rotate_left 1
    · have HC := Lib.hid (show stepM (m, ss) o = (m, ss) by
        refine stepM_3n h3 fun r hr => ?_
        rw [hgd, ← HQ.out, List.getElem?_eq_none (by have := HKK.out; omega)] at hr
        cases hr)
      clear hgd hinn
      go_upto_region 23 with (fail)
      go_upto_region 24 with (fail)
      refine wp_region_lit ?_
      refine wpList_plain rfl fun K75 hK75 => wp_of_step (stepAt_mono (fun v161 w161 hh => ?_) (step_loadR0 (cs := stC m (.slice A m.eps.length cap) (.slice AL n cL)) stt_under26 rfl (by rw [stt_size26, stC_len _ _ _ hsl]) rfl rfl (blk_range b2x)))
      obtain ⟨rfl, rfl⟩ := hh
      refine hK75 _ _ ?_
      clear hK75 K75
      try simp only [Act.put, List.setIfInBounds_toArray, List.set_cons_succ, List.set_cons_zero]
      refine wpList_put rfl 38 (.tmp 4) (.tmp 161) rfl rfl (cells := stC m (.slice A m.eps.length cap) (.slice AL n cL)) rfl b4z (by rw [hz4, stC_len _ _ _ hsl]; exact Nat.le_refl _) (by rw [stt_size26, stC_len _ _ _ hsl]) (stC_one _ _ _ rfl rfl) (spl_all _ _ (by rw [hz4, stC_len _ _ _ hsl])) fun Z hZ bZ => ?_
      have hBZ := below_put hBw hZ (by have := HG2.out; omega)
      try simp only [Act.put, List.setIfInBounds_toArray, List.set_cons_succ, List.set_cons_zero]
      go_wp2_with fail
      refine bodyPost_ret (v := stV m (.slice A m.eps.length cap) (.slice AL n cL)) (res_row (cs := stC m (.slice A m.eps.length cap) (.slice AL n cL)) (g := g2 + 1 + 1) rfl rfl stt_under26 rfl (by rw [stt_size26, stC_len _ _ _ hsl]) bZ) rfl ?_
      rw [HC.out]
      exact ⟨_, _, rfl, HE.out.le (Bse.le_new (HW.out.below hBZ)), HT.out.le (Bse.le_new (HW.out.below hBZ)), hBZ⟩
    obtain ⟨⟨r, b⟩, hrb⟩ : ∃ x, s1[q]? = some x := ⟨_, List.getElem?_eq_getElem (by rw [← HKK.out]; exact hqk)⟩
    obtain ⟨gg, og, cg', hvg, hcg, hgg, hkg⟩ := hinn.2.form (by rw [← HKK.out]; omega)
    rw [hug2] at hvg
    cases hvg
    have kg := hkg q _ (gnc_get hrb)
    clear hkg
    cases b with
    | true =>
      have HC := Lib.hid (show stepM (m, ss) o = (m, ss) by
        refine stepM_3n h3 fun r2 hr => ?_
        rw [hgd, ← HQ.out, hrb] at hr
        cases hr)
      clear hgd hinn hrb
      go_upto_region 23 with (fail)
      go_upto_region 24 with (fail)
      refine wp_region_lit ?_
      refine wpList_plain rfl fun K78 hK78 => wp_of_step (stepAt_mono (fun v161 w161 hh => ?_) (step_loadR0 (cs := stC m (.slice A m.eps.length cap) (.slice AL n cL)) stt_under26 rfl (by rw [stt_size26, stC_len _ _ _ hsl]) rfl rfl (blk_range b2x)))
      obtain ⟨rfl, rfl⟩ := hh
      refine hK78 _ _ ?_
      clear hK78 K78
      try simp only [Act.put, List.setIfInBounds_toArray, List.set_cons_succ, List.set_cons_zero]
      refine wpList_put rfl 38 (.tmp 4) (.tmp 161) rfl rfl (cells := stC m (.slice A m.eps.length cap) (.slice AL n cL)) rfl b4z (by rw [hz4, stC_len _ _ _ hsl]; exact Nat.le_refl _) (by rw [stt_size26, stC_len _ _ _ hsl]) (stC_one _ _ _ rfl rfl) (spl_all _ _ (by rw [hz4, stC_len _ _ _ hsl])) fun Z hZ bZ => ?_
      have hBZ := below_put hBw hZ (by have := HG2.out; omega)
      try simp only [Act.put, List.setIfInBounds_toArray, List.set_cons_succ, List.set_cons_zero]
      go_wp2_with fail
      refine bodyPost_ret (v := stV m (.slice A m.eps.length cap) (.slice AL n cL)) (res_row (cs := stC m (.slice A m.eps.length cap) (.slice AL n cL)) (g := g2 + 1 + 1) rfl rfl stt_under26 rfl (by rw [stt_size26, stC_len _ _ _ hsl]) bZ) rfl ?_
      rw [HC.out]
      exact ⟨_, _, rfl, HE.out.le (Bse.le_new (HW.out.below hBZ)), HT.out.le (Bse.le_new (HW.out.below hBZ)), hBZ⟩
    | false =>
      have HG := Lib.hid hgd
      have HRB := Lib.hid hrb
      clear hgd
      go_upto_region 20 with (fail)
      obtain ⟨gl, ol, cl', hvl, hcl, hgl, hkl⟩ := hinn.1.form (by rw [← HKK.out]; omega)
      rw [hul2] at hvl
      cases hvl
      have hrr : X.rangeAt gl (ol + q * 4) (rdc r) := fun i v hi => by
        rw [Nat.add_assoc]
        exact hkl _ v (rdsc_rng HRB.out i v hi)
      have kcl := gw_cell hgRY cl0
      have hE := HOK.out
      obtain ⟨e, he⟩ : ∃ e, m.eps[j]? = some e := ⟨_, List.getElem?_eq_getElem (by have := hE.len; dsimp only at this; omega)⟩
      have hEp := hE.ep j e s1 he hs1
      have hrok : r.ok := hEp.rd _ (List.mem_of_getElem? HRB.out)
      have hs1n : s1.length ≤ 1000 := by
        have := hEp.le
        have := pow3 e.log hEp.log
        omega
      have hq8 : q < 8 := by have := HQ.out; omega
      obtain ⟨⟨M, c⟩, hx⟩ : ∃ x, x = retractM m ((q : Nat) : Int) r := ⟨_, rfl⟩
      have hM : M.seed.length = 32 := by have := retract_seed m ((q : Nat) : Int) r; rw [← hx] at this; rw [this]; exact hsl
      have HX := Lib.hid hx
      have HRO := Lib.hid hrok
      have HS1 := Lib.hid hs1n
      have hobR : ob = some gR := HOB.out
      clear hx hkl hE hEp he hrok hs1n kg hinn hrb cl1
      apply join26e (Q := fun A1 c1 Y => ∃ W2, Below X.heap.size X W2 ∧ EpsB ⟨W2, SS bs g2 (g2 + 1 + 1) g7 ob⟩ (.slice A1 M.eps.length c1) M.eps ∧ Put W2 Y g7 ∧ Blk Y g7 35 (mtc M (.slice A1 M.eps.length c1)).toArray)
      case h =>
        intro kk
        have KK := Lib.hid kk
        clear kk
        refine wp_region_swap 15 14 undef [(1, Spec.val (mtV m (.slice A m.eps.length cap))), (10, Spec.val (rdV r)), (11, Spec.rel (Was (PM (SS bs g2 (g2 + 1 + 1) g7 ob) M c)) (TupM M c))] (by kernel_rfl) (by kernel_rfl) (by kernel_rfl) rfl rfl rfl rfl ⟨fit_pm, trivial⟩ ?_ ?_
        refine rg_det rfl rfl rfl (fun K hK => ?_)
        go_big_quiet_op
        refine hK _ ?_; clear hK K
        refine rg_val rfl rfl (fun W1 hW1 hF => step_loadR (cs := mtc m (.slice A m.eps.length cap)) mt_under rfl (by rw [mt_size, mtc_len m _ hsl]) rfl rfl (range_keep (st_mt b2x) b2x.lt (grw_below hW1))) ?_
        intro a' ha
        simp only [Act.put, List.setIfInBounds_toArray, List.set_cons_succ, List.set_cons_zero] at ha
        subst ha
        iterate 8 (refine rg_det rfl rfl rfl (fun K hK => ?_); go_big_quiet_op; refine hK _ ?_; clear hK K)
        refine rg_val rfl rfl (fun W1 hW1 hF => step_loadR (cs := rdc r) rd_under rfl rd_size rfl rfl (range_keep hrr hgl (grw_below hW1))) ?_
        intro a' ha
        simp only [Act.put, List.setIfInBounds_toArray, List.set_cons_succ, List.set_cons_zero] at ha
        subst ha
        refine rg_rel rfl rfl (fun W1 hW1 hF => step_callr en_attestor_meter_Retract (((gRetractM m (HOK.out.n (by omega)) HOK.out.n5 ((q : Nat) : Int) (by omega) r (rdgIn_ok HRO.out) (.slice A m.eps.length cap) ⟨W1, SS bs g2 (g2 + 1 + 1) g7 ob⟩ W1 (Bse.ok_self _) (HL.out.keep (hBw.trans ((grw_below hW1).mono hBw.size))) (HE0.out.fwd (grw_below hW1))).mono (rres_of HX.out.symm (ss_new (by have := b2x.lt; have := (grw_below hW1).size; omega) (Nat.lt_of_lt_of_le b4z.lt (grw_below hW1).size) (Nat.lt_of_lt_of_le bX.lt (grw_below hW1).size) (fun g hg => Nat.lt_of_lt_of_le (own_block HOW.out (by rw [← HOB.out]; exact hg)).2 (grw_below hW1).size))))) rfl rfl) ?_
        intro n11 m11 v11 hn11 hm11 hd11 hf11 a' ha
        simp only [Act.put, List.setIfInBounds_toArray, List.set_cons_succ, List.set_cons_zero] at ha
        subst ha
        obtain ⟨A11, cap11, rfl⟩ := hf11
        iterate 3 (refine rg_det rfl rfl rfl (fun K hK => ?_); go_big_quiet_op; refine hK _ ?_; clear hK K)
        refine rg_nil (fun w' hw' hF => ?_)
        obtain ⟨z, rfl⟩ := hw'
        simp only [List.drop_succ_cons, List.drop_zero]
        rotate_left 1
        refine rg_det rfl rfl rfl (fun K hK => ?_)
        go_big_quiet_op
        refine hK _ ?_; clear hK K
        refine rg_val rfl rfl (fun W1 hW1 hF => step_loadR (cs := mtc m (.slice A m.eps.length cap)) mt_under rfl (by rw [mt_size, mtc_len m _ hsl]) rfl rfl (range_keep (st_mt b2x) b2x.lt (grw_below hW1))) ?_
        intro a' ha
        simp only [Act.put, List.setIfInBounds_toArray, List.set_cons_succ, List.set_cons_zero] at ha
        subst ha
        iterate 8 (refine rg_det rfl rfl rfl (fun K hK => ?_); go_big_quiet_op; refine hK _ ?_; clear hK K)
        refine rg_val rfl rfl (fun W1 hW1 hF => step_loadR (cs := rdc r) rd_under rfl rd_size rfl rfl (range_keep hrr hgl (grw_below hW1))) ?_
        intro a' ha
        simp only [Act.put, List.setIfInBounds_toArray, List.set_cons_succ, List.set_cons_zero] at ha
        subst ha
        refine rg_rel rfl rfl (fun W1 hW1 hF => step_callr en_attestor_meter_Retract (((gRetractM m (HOK.out.n (by omega)) HOK.out.n5 ((q : Nat) : Int) (by omega) r (rdgIn_ok HRO.out) (.slice A m.eps.length cap) ⟨W1, SS bs g2 (g2 + 1 + 1) g7 ob⟩ W1 (Bse.ok_self _) (HL.out.keep (hBw.trans ((grw_below hW1).mono hBw.size))) (HE0.out.fwd (grw_below hW1))).mono (rres_of HX.out.symm (ss_new (by have := b2x.lt; have := (grw_below hW1).size; omega) (Nat.lt_of_lt_of_le b4z.lt (grw_below hW1).size) (Nat.lt_of_lt_of_le bX.lt (grw_below hW1).size) (fun g hg => Nat.lt_of_lt_of_le (own_block HOW.out (by rw [← HOB.out]; exact hg)).2 (grw_below hW1).size))))) rfl rfl) ?_
        intro n11 m11 v11 hn11 hm11 hd11 hf11 a' ha
        simp only [Act.put, List.setIfInBounds_toArray, List.set_cons_succ, List.set_cons_zero] at ha
        subst ha
        obtain ⟨A11, cap11, rfl⟩ := hf11
        iterate 2 (refine rg_det rfl rfl rfl (fun K hK => ?_); go_big_quiet_op; refine hK _ ?_; clear hK K)
        refine rg_pass rfl rfl ?_
        intro a' ha
        simp only [Act.put, List.setIfInBounds_toArray, List.set_cons_succ, List.set_cons_zero] at ha
        subst ha
        refine rg_nil (fun w' hw' hF => ?_)
        obtain ⟨z, rfl⟩ := hw'
        simp only [List.drop_succ_cons, List.drop_zero]
        refine wpList_putS ?_
        intro a' ha
        simp only [Act.put, List.setIfInBounds_toArray, List.set_cons_succ, List.set_cons_zero] at ha
        subst ha
        rotate_right 1
        all_goals
          have hP := pm_of (end_last hF).2
          clear hF
          have bz := bX.keep z.h
          refine wpList_put rfl 35 (.tmp 7) (.tmp 144) rfl rfl (cells := mtc M (.slice A11 M.eps.length cap11)) rfl bz (by rw [List.size_toArray, mtc_len m _ hsl, mtc_len M _ hM]; exact Nat.le_refl _) (by rw [mt_size, mtc_len M _ hM]) (mtc_one _ _ rfl) (spl_all _ _ (by rw [List.size_toArray, mtc_len m _ hsl, mtc_len M _ hM])) fun Y hY bY => ?_
          try simp only [Act.put, List.setIfInBounds_toArray, List.set_cons_succ, List.set_cons_zero]
          go_upto_region 21 with (fail)
          rename_i K hK
          revert K
          exact KK.out A11 cap11 Y ⟨z.w, z.h, hP, hY, bY⟩
      intro A1 c1 Y hQ K hK
      obtain ⟨W2, B2, E1, hY, bY⟩ := hQ
      have hneR : gR ≠ g7 := fun e => HNE.out (by rw [hobR, e])
      replace bR := hY.blk (bR.keep B2) hneR
      replace b2x := b2x.keep B2
      replace b3x := b3x.keep B2
      replace b4z := b4z.keep B2
      replace bX := bX.keep B2
      replace HE0 := Lib.hid (HE0.out.fwd B2)
      replace HU0 := Lib.hid (sts_fwd HU0.out B2)
      replace HOW := Lib.hid (own_below HOW.out (Nat.le_refl _) B2)
      replace hBw := hBw.trans ((B2).mono hBw.size)
      have hgw : g2 + 3 ≤ g7 := HG7.out
      have hbw : bs.W.heap.size ≤ g2 := by have := HW.out.1; have := HG2.out; omega
      replace b2x := hY.blk b2x (by omega)
      replace b3x := hY.blk b3x (by omega)
      replace b4z := hY.blk b4z (by omega)
      replace HE0 := Lib.hid (HE0.out.pt hY (ss_not7 hbw (by omega)))
      replace HU0 := Lib.hid (sts_pt HU0.out hY (ss_not7 hbw (by omega)))
      replace E1 := (E1).pt hY (ss_not7 hbw (by omega))
      replace HOW := Lib.hid (own_putN26 HOW.out hY (by rw [← HOB.out]; exact HNE.out))
      replace hBw := below_put hBw hY (by have := HG2.out; omega)
      clear bX hY hgw hbw
      have hx := HX.out
      clear HX B2 kcl hrr cl0 hgl
      obtain ⟨v1, w1, hin, hvv⟩ : ∃ (u1 s2 : Unit), Al (StrIB ⟨Y, SS bs g2 (g2 + 1 + 1) g7 ob⟩) us ss ∧ True := ⟨(), (), HU0.out, trivial⟩
      clear hvv
      have hi2 := hin.2 j u s1 hu hs1
      have HI2 := Lib.hid hi2
      clear hin hi2 HIN
      refine wp_region_lit ?_
      iterate 3 (refine wpList_plain rfl fun K hK => ?_; go_big_op; refine hK _ _ ?_; clear hK K)
      refine wpList_plain rfl fun K84 hK84 => wp_of_step (stepAt_mono (fun v150 w150 hh => ?_) (step_loadR0 (cs := smc u) strm_under rfl strm_size rfl rfl (st_rng bR hu)))
      obtain ⟨rfl, rfl⟩ := hh
      refine hK84 _ _ ?_
      clear hK84 K84
      try simp only [Act.put, List.setIfInBounds_toArray, List.set_cons_succ, List.set_cons_zero]
      iterate 1 (refine wpList_plain rfl fun K hK => ?_; go_big_op; refine hK _ _ ?_; clear hK K)
      refine wpList_plain rfl fun K86 hK86 => wp_of_step (stepAt_mono (fun v152 w152 hh => ?_) (step_call (R := fun v W2 => ∃ x' : StrW, v = .tuple #[.agg (smc x').toArray, .int .i64 0] ∧ StrIB (Bse.new ⟨w150, SS bs g2 (g2 + 1 + 1) g7 ob⟩ w150 W2) x' (s1.set q (r, true)) ∧ Below w150.heap.size w150 W2) en_attestor_attestorref12_Retract ((gRetrS s1 HS1.out q r HRB.out ⟨w150, SS bs g2 (g2 + 1 + 1) g7 ob⟩ w150 (Bse.ok_self _) u HI2.out).mono fun r W2 ⟨x', h1, h2, h3⟩ => ⟨_, h1, x', rfl, h2, h3⟩) rfl rfl))
      obtain ⟨x, rfl, hin, B152⟩ := hh
      refine hK86 _ _ ?_
      clear hK86 K86
      try simp only [Act.put, List.setIfInBounds_toArray, List.set_cons_succ, List.set_cons_zero]
      have hgRl := bR.lt
      replace hin := str_to hin (ss_new (by have := b2x.lt; omega) b4z.lt bY.lt (fun g hg => by rw [hobR] at hg; cases hg; exact hgRl))
      replace b2x := b2x.keep B152
      replace b4z := b4z.keep B152
      replace bY := bY.keep B152
      replace bR := bR.keep B152
      replace HE0 := Lib.hid (HE0.out.fwd B152)
      replace HU0 := Lib.hid (sts_fwd HU0.out B152)
      replace E1 := E1.fwd B152
      replace hBw := hBw.trans (B152.mono hBw.size)
      clear b3x B152 hgRl
      iterate 1 (refine wpList_plain rfl fun K hK => ?_; go_big_op; refine hK _ _ ?_; clear hK K)
      refine wpList_plain rfl fun K88 hK88 => wp_of_step (stepAt_mono (fun v153 w153 hh => ?_) (step_ext (v := .agg (smc x).toArray) rfl rfl rfl))
      obtain ⟨rfl, rfl⟩ := hh
      refine hK88 _ _ ?_
      clear hK88 K88
      try simp only [Act.put, List.setIfInBounds_toArray, List.set_cons_succ, List.set_cons_zero]
      refine wpList_plain rfl fun K89 hK89 => wp_of_step (stepAt_mono (fun v154 w154 hh => ?_) (step_ext (v := .int .i64 0) rfl rfl rfl))
      obtain ⟨rfl, rfl⟩ := hh
      refine hK89 _ _ ?_
      clear hK89 K89
      try simp only [Act.put, List.setIfInBounds_toArray, List.set_cons_succ, List.set_cons_zero]
      refine wpList_plain rfl fun K90 hK90 => wp_of_step (stepAt_mono (fun v13 w13 hh => ?_) (step_new0 hiS iS0 rfl))
      obtain ⟨rfl, rfl⟩ := hh
      refine hK90 _ _ ?_
      clear hK90 K90
      try simp only [Act.put, List.setIfInBounds_toArray, List.set_cons_succ, List.set_cons_zero]
      have b13 : Blk (w154.alloc (.cells (Value.agg #[Value.slice none 0 0, Value.slice none 0 0]).cells 64)) w154.heap.size 64 #[.slice none 0 0, .slice none 0 0] := World.alloc_heap_new w154 _
      have B13 := (Below.refl _ w154).alloc (Nat.le_refl _) (.cells (Value.agg #[Value.slice none 0 0, Value.slice none 0 0]).cells 64)
      generalize w154.alloc (.cells (Value.agg #[Value.slice none 0 0, Value.slice none 0 0]).cells 64) = w13 at *
      refine wpList_put rfl 64 (.tmp 13) (.tmp 153) rfl rfl (cells := smc x) rfl b13 (by rw [smc_len]; exact Nat.le_refl _) strm_size (List.all_eq_true.2 fun v hv => smc_one hin v hv) rfl fun X13 hX13 bX13 => ?_
      have BZ : Below w154.heap.size w154 X13 := below_put B13 hX13 (Nat.le_refl _)
      obtain ⟨gN, hgN⟩ : ∃ g, g = w154.heap.size := ⟨_, rfl⟩
      rw [← hgN] at bX13 ⊢
      have hbw : bs.W.heap.size ≤ g2 := by have := HW.out.1; have := HG2.out; omega
      replace b2x := b2x.keep BZ
      replace b4z := b4z.keep BZ
      replace bY := bY.keep BZ
      replace bR := bR.keep BZ
      replace HE0 := Lib.hid (HE0.out.fwd BZ)
      replace HU0 := Lib.hid (sts_fwd HU0.out BZ)
      replace E1 := E1.fwd BZ
      replace hin := hin.fwd BZ
      replace hBw := hBw.trans (BZ.mono hBw.size)
      have bN : Blk X13 gN 64 (smc x).toArray := bX13
      clear BZ b13 B13 hX13 hgN bX13
      try simp only [Act.put, List.setIfInBounds_toArray, List.set_cons_succ, List.set_cons_zero]
      go_upto_region 22 with (fail)
      refine wp_region_lit ?_
      iterate 2 (refine wpList_plain rfl fun K hK => ?_; go_big_op; refine hK _ _ ?_; clear hK K)
      refine wpList_plain rfl fun K93 hK93 => wp_of_step (stepAt_mono (fun v157 w157 hh => ?_) (step_loadR0 (cs := smc x) strm_under rfl strm_size rfl rfl (blk_range bN)))
      obtain ⟨rfl, rfl⟩ := hh
      refine hK93 _ _ ?_
      clear hK93 K93
      try simp only [Act.put, List.setIfInBounds_toArray, List.set_cons_succ, List.set_cons_zero]
      iterate 1 (refine wpList_plain rfl fun K hK => ?_; go_big_op; refine hK _ _ ?_; clear hK K)
      refine wpList_put (i := j * 2) rfl 64 (.tmp 158) (.tmp 157) rfl rfl (cells := smc x) rfl bR (by rw [List.size_toArray, List.length_append, flat_length smc_len, hul, smc_len]; omega) strm_size (List.all_eq_true.2 fun v hv => smc_one hin v hv) (spl_st us rest j x (by omega)) fun V hV bV => ?_
      have HOZ := HSET.out j x V hjn bV
      replace b2x := hV.blk b2x (by omega)
      replace b4z := hV.blk b4z (by omega)
      replace bY := hV.blk bY hneR.symm
      replace HE0 := Lib.hid (HE0.out.pt hV (ss_notO hobR hbw (by omega)))
      replace E1 := E1.pt hV (ss_notO hobR hbw (by omega))
      replace hBw := below_put hBw hV (by have := HG2.out; omega)
      have HU1 := Al.set (i := j) (sts_pt HU0.out hV (ss_notO hobR hbw (by omega))) (hin.pt hV (ss_notO hobR hbw (by omega)))
      clear hV bV bN bR HU0 hin hbw
      have hx2 : (M, c) = retractM m ((o.i % 8 : Nat) : Int) r := by rw [← HQ.out]; exact hx
      have hr2 : (ss.getD (ss.length - 1) [])[o.i % 8]? = some (r, false) := by rw [HG.out, ← HQ.out]; exact HRB.out
      have hst := stepM_3 h3 hr2 hx2
      rw [HG.out, ← HQ.out, show ss.length - 1 = j by have := HN.out; have := HJ.out; omega] at hst
      by_cases hc : c = 0
      · subst hc
        have HC := Lib.hid (show stepM (m, ss) o = (M, ss.set j (s1.set q (r, true))) by rw [hst, if_pos rfl])
        clear hx hx2 hr2 hst
        try simp only [Act.put, List.setIfInBounds_toArray, List.set_cons_succ, List.set_cons_zero]
        go_upto_region 25 with (fail)
        refine wp_region_lit ?_
        refine wpList_plain rfl fun K97 hK97 => wp_of_step (stepAt_mono (fun v162 w162 hh => ?_) (step_loadR0 (cs := mtc (M) (.slice A1 M.eps.length c1)) mt_under rfl (by rw [mt_size, mtc_len _ _ hM]) rfl rfl (blk_range bY)))
        obtain ⟨rfl, rfl⟩ := hh
        refine hK97 _ _ ?_
        clear hK97 K97
        try simp only [Act.put, List.setIfInBounds_toArray, List.set_cons_succ, List.set_cons_zero]
        iterate 1 (refine wpList_plain rfl fun K hK => ?_; go_big_op; refine hK _ _ ?_; clear hK K)
        refine wpList_plain rfl fun K99 hK99 => wp_of_step (stepAt_mono (fun v164 w164 hh => ?_) (step_buildS hM rfl rfl rfl))
        obtain ⟨rfl, rfl⟩ := hh
        refine hK99 _ _ ?_
        clear hK99 K99
        try simp only [Act.put, List.setIfInBounds_toArray, List.set_cons_succ, List.set_cons_zero]
        refine wpList_put rfl 38 (.tmp 4) (.tmp 164) rfl rfl (cells := stC (M) (.slice A1 M.eps.length c1) (.slice (some ⟨gR, 0, none⟩) n cap5)) rfl b4z (by rw [hz4, stC_len _ _ _ hM]; exact Nat.le_refl _) (by rw [stt_size26, stC_len _ _ _ hM]) (stC_one _ _ _ rfl rfl) (spl_all _ _ (by rw [hz4, stC_len _ _ _ hM])) fun Z hZ bZ => ?_
        have hBZ := below_put hBw hZ (by have := HG2.out; omega)
        have hbw : bs.W.heap.size ≤ g2 := by have := HW.out.1; have := HG2.out; omega
        have EZ : EpsB (bs.new w Z) (.slice A1 M.eps.length c1) (M).eps := ((E1).pt hZ (ss_not4 hbw (by omega))).sub fun g hg _ => by rw [← HG2.out]; exact ss_out hg
        have TZ : StmsB (bs.new w Z) (.slice (some ⟨gR, 0, none⟩) n cap5) (ss.set j (s1.set q (r, true))) := stms_own (own_putN26 (HOZ) hZ (fun e => by have := (own_block (HOZ) e).1; omega)) (sts_pt (HU1) hZ (ss_not4 hbw (by omega))) (by rw [List.length_set]; exact hul) (by omega) HG2.out (by omega)
        try simp only [Act.put, List.setIfInBounds_toArray, List.set_cons_succ, List.set_cons_zero]
        go_wp2_with fail
        refine bodyPost_ret (v := stV (M) (.slice A1 M.eps.length c1) (.slice (some ⟨gR, 0, none⟩) n cap5)) (res_row (cs := stC (M) (.slice A1 M.eps.length c1) (.slice (some ⟨gR, 0, none⟩) n cap5)) (g := g2 + 1 + 1) rfl rfl stt_under26 rfl (by rw [stt_size26, stC_len _ _ _ hM]) bZ) rfl ?_
        rw [HC.out]
        exact ⟨_, _, rfl, EZ, TZ, hBZ⟩
      · have HC := Lib.hid (show stepM (m, ss) o = (m, ss) by rw [hst, if_neg hc])
        clear hx hx2 hr2 hst HOZ
        try simp only [Act.put, List.setIfInBounds_toArray, List.set_cons_succ, List.set_cons_zero]
        go_upto_region 24 with (fail)
        refine wp_region_lit ?_
        refine wpList_plain rfl fun K103 hK103 => wp_of_step (stepAt_mono (fun v161 w161 hh => ?_) (step_loadR0 (cs := stC m (.slice A m.eps.length cap) (.slice AL n cL)) stt_under26 rfl (by rw [stt_size26, stC_len _ _ _ hsl]) rfl rfl (blk_range b2x)))
        obtain ⟨rfl, rfl⟩ := hh
        refine hK103 _ _ ?_
        clear hK103 K103
        try simp only [Act.put, List.setIfInBounds_toArray, List.set_cons_succ, List.set_cons_zero]
        refine wpList_put rfl 38 (.tmp 4) (.tmp 161) rfl rfl (cells := stC m (.slice A m.eps.length cap) (.slice AL n cL)) rfl b4z (by rw [hz4, stC_len _ _ _ hsl]; exact Nat.le_refl _) (by rw [stt_size26, stC_len _ _ _ hsl]) (stC_one _ _ _ rfl rfl) (spl_all _ _ (by rw [hz4, stC_len _ _ _ hsl])) fun Z hZ bZ => ?_
        have hBZ := below_put hBw hZ (by have := HG2.out; omega)
        try simp only [Act.put, List.setIfInBounds_toArray, List.set_cons_succ, List.set_cons_zero]
        go_wp2_with fail
        refine bodyPost_ret (v := stV m (.slice A m.eps.length cap) (.slice AL n cL)) (res_row (cs := stC m (.slice A m.eps.length cap) (.slice AL n cL)) (g := g2 + 1 + 1) rfl rfl stt_under26 rfl (by rw [stt_size26, stC_len _ _ _ hsl]) bZ) rfl ?_
        rw [HC.out]
        exact ⟨_, _, rfl, HE.out.le (Bse.le_new (HW.out.below hBZ)), HT.out.le (Bse.le_new (HW.out.below hBZ)), hBZ⟩
  have h4 : 4 ≤ o.kind % 8 := by omega
  have e0 : ¬ ((o.kind : Int) % 8 = 0) := by omega
  have e1 : ¬ ((o.kind : Int) % 8 = 1) := by omega
  have e2 : ¬ ((o.kind : Int) % 8 = 2) := by omega
  have e3 : ¬ ((o.kind : Int) % 8 = 3) := by omega
  clear h0 h1 h2 h3 hk0 hk1 hk2 hk3 hk4 hk5 l3
  go_upto_region 4 with (fail)
  clear e0 e1 e2 e3
  obtain ⟨⟨M, c⟩, hx⟩ : ∃ x, x = takeM m o.rdg := ⟨_, rfl⟩
  have hM : M.seed.length = 32 := by have := take_seed m o.rdg; rw [← hx] at this; rw [this]; exact hsl
  have hbw : bs.W.heap.size ≤ g2 := by have := HW.out.1; have := HG2.out; omega
  have HX := Lib.hid hx
  clear hx
  apply join26e (Q := fun A1 c1 Y => ∃ W2, Below X.heap.size X W2 ∧ EpsB ⟨W2, SS bs g2 (g2 + 1 + 1) g7 ob⟩ (.slice A1 M.eps.length c1) M.eps ∧ Put W2 Y g7 ∧ Blk Y g7 35 (mtc M (.slice A1 M.eps.length c1)).toArray)
  case h =>
    intro kk
    have KK := Lib.hid kk
    clear kk
    refine wp_region_swap 8 7 undef [(1, Spec.val (mtV m (.slice A m.eps.length cap))), (2, Spec.val (.agg (opc o).toArray)), (3, Spec.val (rdV o.rdg)), (4, Spec.rel (Was (PM (SS bs g2 (g2 + 1 + 1) g7 ob) M c)) (TupM M c))] (by kernel_rfl) (by kernel_rfl) (by kernel_rfl) rfl rfl rfl rfl ⟨fit_pm, trivial⟩ ?_ ?_
    refine rg_det rfl rfl rfl (fun K hK => ?_)
    go_big_quiet_op
    refine hK _ ?_; clear hK K
    refine rg_val rfl rfl (fun W1 hW1 hF => step_loadR (cs := mtc m (.slice A m.eps.length cap)) mt_under rfl (by rw [mt_size, mtc_len m _ hsl]) rfl rfl (range_keep (st_mt b2x) b2x.lt (grw_below hW1))) ?_
    intro a' ha
    simp only [Act.put, List.setIfInBounds_toArray, List.set_cons_succ, List.set_cons_zero] at ha
    subst ha
    refine rg_val rfl rfl (fun W1 hW1 hF => step_loadR (cs := opc o) opp_under26 rfl opp_size26 rfl rfl (blk_range (b3x.keep (grw_below hW1)))) ?_
    intro a' ha
    simp only [Act.put, List.setIfInBounds_toArray, List.set_cons_succ, List.set_cons_zero] at ha
    subst ha
    refine rg_val rfl rfl (fun W1 hW1 hF => step_callv en_attestor_attestorref26_Reading (gReading26 o HO.out W1) rfl rfl) ?_
    intro a' ha
    simp only [Act.put, List.setIfInBounds_toArray, List.set_cons_succ, List.set_cons_zero] at ha
    subst ha
    refine rg_rel rfl rfl (fun W1 hW1 hF => step_callr en_attestor_meter_Take (((gTakeM m (HOK.out.n (by omega)) HOK.out.n5 HOK.out.cnt o.rdg (rdgIn26 HO.out) (.slice A m.eps.length cap) ⟨W1, SS bs g2 (g2 + 1 + 1) g7 ob⟩ W1 (Bse.ok_self _) (HL.out.keep (hBw.trans ((grw_below hW1).mono hBw.size))) (HS.out.keep (hBw.trans ((grw_below hW1).mono hBw.size))) (HD.out.keep (hBw.trans ((grw_below hW1).mono hBw.size))) (HE0.out.fwd (grw_below hW1))).mono (rres_of HX.out.symm (ss_new (by have := b2x.lt; have := (grw_below hW1).size; omega) (Nat.lt_of_lt_of_le b4z.lt (grw_below hW1).size) (Nat.lt_of_lt_of_le bX.lt (grw_below hW1).size) (fun g hg => Nat.lt_of_lt_of_le (own_block HOW.out (by rw [← HOB.out]; exact hg)).2 (grw_below hW1).size))))) rfl rfl) ?_
    intro n4 m4 v4 hn4 hm4 hd4 hf4 a' ha
    simp only [Act.put, List.setIfInBounds_toArray, List.set_cons_succ, List.set_cons_zero] at ha
    subst ha
    obtain ⟨A4, cap4, rfl⟩ := hf4
    iterate 3 (refine rg_det rfl rfl rfl (fun K hK => ?_); go_big_quiet_op; refine hK _ ?_; clear hK K)
    refine rg_nil (fun w' hw' hF => ?_)
    obtain ⟨z, rfl⟩ := hw'
    simp only [List.drop_succ_cons, List.drop_zero]
    rotate_left 1
    refine rg_det rfl rfl rfl (fun K hK => ?_)
    go_big_quiet_op
    refine hK _ ?_; clear hK K
    refine rg_val rfl rfl (fun W1 hW1 hF => step_loadR (cs := mtc m (.slice A m.eps.length cap)) mt_under rfl (by rw [mt_size, mtc_len m _ hsl]) rfl rfl (range_keep (st_mt b2x) b2x.lt (grw_below hW1))) ?_
    intro a' ha
    simp only [Act.put, List.setIfInBounds_toArray, List.set_cons_succ, List.set_cons_zero] at ha
    subst ha
    refine rg_val rfl rfl (fun W1 hW1 hF => step_loadR (cs := opc o) opp_under26 rfl opp_size26 rfl rfl (blk_range (b3x.keep (grw_below hW1)))) ?_
    intro a' ha
    simp only [Act.put, List.setIfInBounds_toArray, List.set_cons_succ, List.set_cons_zero] at ha
    subst ha
    refine rg_val rfl rfl (fun W1 hW1 hF => step_callv en_attestor_attestorref26_Reading (gReading26 o HO.out W1) rfl rfl) ?_
    intro a' ha
    simp only [Act.put, List.setIfInBounds_toArray, List.set_cons_succ, List.set_cons_zero] at ha
    subst ha
    refine rg_rel rfl rfl (fun W1 hW1 hF => step_callr en_attestor_meter_Take (((gTakeM m (HOK.out.n (by omega)) HOK.out.n5 HOK.out.cnt o.rdg (rdgIn26 HO.out) (.slice A m.eps.length cap) ⟨W1, SS bs g2 (g2 + 1 + 1) g7 ob⟩ W1 (Bse.ok_self _) (HL.out.keep (hBw.trans ((grw_below hW1).mono hBw.size))) (HS.out.keep (hBw.trans ((grw_below hW1).mono hBw.size))) (HD.out.keep (hBw.trans ((grw_below hW1).mono hBw.size))) (HE0.out.fwd (grw_below hW1))).mono (rres_of HX.out.symm (ss_new (by have := b2x.lt; have := (grw_below hW1).size; omega) (Nat.lt_of_lt_of_le b4z.lt (grw_below hW1).size) (Nat.lt_of_lt_of_le bX.lt (grw_below hW1).size) (fun g hg => Nat.lt_of_lt_of_le (own_block HOW.out (by rw [← HOB.out]; exact hg)).2 (grw_below hW1).size))))) rfl rfl) ?_
    intro n4 m4 v4 hn4 hm4 hd4 hf4 a' ha
    simp only [Act.put, List.setIfInBounds_toArray, List.set_cons_succ, List.set_cons_zero] at ha
    subst ha
    obtain ⟨A4, cap4, rfl⟩ := hf4
    iterate 2 (refine rg_det rfl rfl rfl (fun K hK => ?_); go_big_quiet_op; refine hK _ ?_; clear hK K)
    refine rg_pass rfl rfl ?_
    intro a' ha
    simp only [Act.put, List.setIfInBounds_toArray, List.set_cons_succ, List.set_cons_zero] at ha
    subst ha
    refine rg_nil (fun w' hw' hF => ?_)
    obtain ⟨z, rfl⟩ := hw'
    simp only [List.drop_succ_cons, List.drop_zero]
    refine wpList_putS ?_
    intro a' ha
    simp only [Act.put, List.setIfInBounds_toArray, List.set_cons_succ, List.set_cons_zero] at ha
    subst ha
    rotate_right 1
    all_goals
      have hP := pm_of (end_last hF).2
      clear hF
      have bz := bX.keep z.h
      refine wpList_put rfl 35 (.tmp 7) (.tmp 36) rfl rfl (cells := mtc M (.slice A4 M.eps.length cap4)) rfl bz (by rw [List.size_toArray, mtc_len m _ hsl, mtc_len M _ hM]; exact Nat.le_refl _) (by rw [mt_size, mtc_len M _ hM]) (mtc_one _ _ rfl) (spl_all _ _ (by rw [List.size_toArray, mtc_len m _ hsl, mtc_len M _ hM])) fun Y hY bY => ?_
      try simp only [Act.put, List.setIfInBounds_toArray, List.set_cons_succ, List.set_cons_zero]
      go_upto_region 5 with (fail)
      rename_i K hK
      revert K
      exact KK.out A4 cap4 Y ⟨z.w, z.h, hP, hY, bY⟩
  intro A1 c1 Y hQ K hK
  obtain ⟨W2, B2, E1, hY, bY⟩ := hQ
  replace b2x := b2x.keep B2
  replace b3x := b3x.keep B2
  replace b4z := b4z.keep B2
  replace bX := bX.keep B2
  replace HE0 := Lib.hid (HE0.out.fwd B2)
  replace HU0 := Lib.hid (sts_fwd HU0.out B2)
  replace HOW := Lib.hid (own_below HOW.out (Nat.le_refl _) B2)
  replace hBw := hBw.trans ((B2).mono hBw.size)
  have hgw : g2 + 3 ≤ g7 := HG7.out
  have hbw : bs.W.heap.size ≤ g2 := by have := HW.out.1; have := HG2.out; omega
  replace b2x := hY.blk b2x (by omega)
  replace b3x := hY.blk b3x (by omega)
  replace b4z := hY.blk b4z (by omega)
  replace HE0 := Lib.hid (HE0.out.pt hY (ss_not7 hbw (by omega)))
  replace HU0 := Lib.hid (sts_pt HU0.out hY (ss_not7 hbw (by omega)))
  replace E1 := (E1).pt hY (ss_not7 hbw (by omega))
  replace HOW := Lib.hid (own_putN26 HOW.out hY (by rw [← HOB.out]; exact HNE.out))
  replace hBw := below_put hBw hY (by have := HG2.out; omega)
  clear bX hY hgw hbw
  have hx := HX.out
  have hbw : bs.W.heap.size ≤ g2 := by have := HW.out.1; have := HG2.out; omega
  have hul : us.length = n := by rw [HU0.out.1, HN.out]
  clear HX B2
  by_cases hc : c = 0
  rotate_left 1
  · have HC := Lib.hid (show stepM (m, ss) o = (m, ss) by rw [stepM_4 h4 hx, if_neg hc])
    clear hx
    try simp only [Act.put, List.setIfInBounds_toArray, List.set_cons_succ, List.set_cons_zero]
    go_upto_region 24 with (fail)
    refine wp_region_lit ?_
    refine wpList_plain rfl fun K110 hK110 => wp_of_step (stepAt_mono (fun v161 w161 hh => ?_) (step_loadR0 (cs := stC m (.slice A m.eps.length cap) (.slice AL n cL)) stt_under26 rfl (by rw [stt_size26, stC_len _ _ _ hsl]) rfl rfl (blk_range b2x)))
    obtain ⟨rfl, rfl⟩ := hh
    refine hK110 _ _ ?_
    clear hK110 K110
    try simp only [Act.put, List.setIfInBounds_toArray, List.set_cons_succ, List.set_cons_zero]
    refine wpList_put rfl 38 (.tmp 4) (.tmp 161) rfl rfl (cells := stC m (.slice A m.eps.length cap) (.slice AL n cL)) rfl b4z (by rw [hz4, stC_len _ _ _ hsl]; exact Nat.le_refl _) (by rw [stt_size26, stC_len _ _ _ hsl]) (stC_one _ _ _ rfl rfl) (spl_all _ _ (by rw [hz4, stC_len _ _ _ hsl])) fun Z hZ bZ => ?_
    have hBZ := below_put hBw hZ (by have := HG2.out; omega)
    try simp only [Act.put, List.setIfInBounds_toArray, List.set_cons_succ, List.set_cons_zero]
    go_wp2_with fail
    refine bodyPost_ret (v := stV m (.slice A m.eps.length cap) (.slice AL n cL)) (res_row (cs := stC m (.slice A m.eps.length cap) (.slice AL n cL)) (g := g2 + 1 + 1) rfl rfl stt_under26 rfl (by rw [stt_size26, stC_len _ _ _ hsl]) bZ) rfl ?_
    rw [HC.out]
    exact ⟨_, _, rfl, HE.out.le (Bse.le_new (HW.out.below hBZ)), HT.out.le (Bse.le_new (HW.out.below hBZ)), hBZ⟩
  subst hc
  have hn1 : 0 < n := by have := take_c hx; have := HOK.out.len; dsimp only at this; rw [HN.out]; omega
  obtain ⟨j, hj⟩ : ∃ j, j = n - 1 := ⟨_, rfl⟩
  have ej : (n : Int) - 1 = (j : Int) := by omega
  rw [ej]
  have hjn : j < n := by omega
  have hj0 : j < ss.length := by rw [← HN.out]; exact hjn
  obtain ⟨u, s1, hu, hs1, hin⟩ := HU0.out.get hj0
  obtain ⟨gR, cR, rest, hv, hcR, hgR, bR, hset⟩ := own_formS HOW.out hul hn1
  cases hv
  have hC : stepM (m, ss) o = (M, ss.set j (s1 ++ [(o.rdg, false)])) := by
    rw [stepM_4 h4 hx, if_pos rfl, ← HN.out, ← hj, List.getD_eq_getElem?_getD, hs1]
    rfl
  have hs1n : s1.length ≤ 1000 := by
    obtain ⟨e, he⟩ : ∃ e, m.eps[j]? = some e := ⟨_, List.getElem?_eq_getElem (by have := HOK.out.len; dsimp only at this; omega)⟩
    have hE := HOK.out.ep j e s1 he hs1
    have := hE.le
    have := pow3 e.log hE.log
    omega
  have HC := Lib.hid hC
  have HIN := Lib.hid hin
  have HSET := Lib.hid hset
  have HS1 := Lib.hid hs1n
  have HJ := Lib.hid hj
  clear hC hin hset hs1n hx ej hj
  go_upto_region 6 with (fail)
  have hg7Y : g7 < Y.heap.size := bY.lt
  have hgRY : gR < Y.heap.size := bR.lt
  have hobR : ob = some gR := HOB.out
  apply join26s (Q := fun gN x Z => Below Y.heap.size Y Z ∧ Y.heap.size ≤ gN ∧ StrIB ⟨Z, SS bs g2 (g2 + 1 + 1) g7 ob⟩ x (s1 ++ [(o.rdg, false)]) ∧ Blk Z gN 64 (smc x).toArray)
  case h =>
    intro kk
    have KK := Lib.hid kk
    clear kk
    refine wp_region_swap 11 9 undef [(3, Spec.val (.agg (smc u).toArray)), (4, Spec.val (.agg (opc o).toArray)), (5, Spec.val (rdV o.rdg)), (6, Spec.rel (RstI (InB ⟨Y, SS bs g2 (g2 + 1 + 1) g7 ob⟩) (s1 ++ [(o.rdg, false)])) (TupS)), (10, Spec.rel (New 64 #[.slice none 0 0, .slice none 0 0]) (NewF))] (by kernel_rfl) (by kernel_rfl) (by kernel_rfl) rfl rfl rfl rfl ⟨fit_rsti, fit_new, trivial⟩ ?_ ?_
    iterate 3 (refine rg_det rfl rfl rfl (fun K hK => ?_); go_big_quiet_op; refine hK _ ?_; clear hK K)
    refine rg_val rfl rfl (fun W1 hW1 hF => step_loadR (cs := smc u) strm_under rfl strm_size rfl rfl (range_keep (st_rng bR hu) hgRY (grw_below hW1))) ?_
    intro a' ha
    simp only [Act.put, List.setIfInBounds_toArray, List.set_cons_succ, List.set_cons_zero] at ha
    subst ha
    refine rg_val rfl rfl (fun W1 hW1 hF => step_loadR (cs := opc o) opp_under26 rfl opp_size26 rfl rfl (blk_range (b3x.keep (grw_below hW1)))) ?_
    intro a' ha
    simp only [Act.put, List.setIfInBounds_toArray, List.set_cons_succ, List.set_cons_zero] at ha
    subst ha
    refine rg_val rfl rfl (fun W1 hW1 hF => step_callv en_attestor_attestorref26_Reading (gReading26 o HO.out W1) rfl rfl) ?_
    intro a' ha
    simp only [Act.put, List.setIfInBounds_toArray, List.set_cons_succ, List.set_cons_zero] at ha
    subst ha
    refine rg_rel rfl rfl (fun W1 hW1 hF => step_callr en_attestor_attestorref12_Take (((gTakeS s1 HS1.out o.rdg (Op26.rdg_ok HO.out) (rdgIn26 HO.out) ⟨Y, SS bs g2 (g2 + 1 + 1) g7 ob⟩ W1 ((Bse.ok_self _).below (grw_below hW1)) u HIN.out).mono (sresI (grw_below hW1).size))) rfl rfl) ?_
    intro n6 m6 v6 hn6 hm6 hd6 hf6 a' ha
    simp only [Act.put, List.setIfInBounds_toArray, List.set_cons_succ, List.set_cons_zero] at ha
    subst ha
    obtain ⟨A6, cap6, rfl⟩ := hf6
    iterate 3 (refine rg_det rfl rfl rfl (fun K hK => ?_); go_big_quiet_op; refine hK _ ?_; clear hK K)
    refine rg_rel rfl rfl (fun W1 hW1 hF => step_new hiS iS0 rfl) ?_
    intro n10 m10 v10 hn10 hm10 hd10 hf10 a' ha
    simp only [Act.put, List.setIfInBounds_toArray, List.set_cons_succ, List.set_cons_zero] at ha
    subst ha
    obtain rfl := hf10
    refine rg_nil (fun w' hw' hF => ?_)
    obtain ⟨z, rfl⟩ := hw'
    simp only [List.drop_succ_cons, List.drop_zero]
    rotate_left 1
    iterate 3 (refine rg_det rfl rfl rfl (fun K hK => ?_); go_big_quiet_op; refine hK _ ?_; clear hK K)
    refine rg_val rfl rfl (fun W1 hW1 hF => step_loadR (cs := smc u) strm_under rfl strm_size rfl rfl (range_keep (st_rng bR hu) hgRY (grw_below hW1))) ?_
    intro a' ha
    simp only [Act.put, List.setIfInBounds_toArray, List.set_cons_succ, List.set_cons_zero] at ha
    subst ha
    refine rg_val rfl rfl (fun W1 hW1 hF => step_loadR (cs := opc o) opp_under26 rfl opp_size26 rfl rfl (blk_range (b3x.keep (grw_below hW1)))) ?_
    intro a' ha
    simp only [Act.put, List.setIfInBounds_toArray, List.set_cons_succ, List.set_cons_zero] at ha
    subst ha
    refine rg_val rfl rfl (fun W1 hW1 hF => step_callv en_attestor_attestorref26_Reading (gReading26 o HO.out W1) rfl rfl) ?_
    intro a' ha
    simp only [Act.put, List.setIfInBounds_toArray, List.set_cons_succ, List.set_cons_zero] at ha
    subst ha
    refine rg_rel rfl rfl (fun W1 hW1 hF => step_callr en_attestor_attestorref12_Take (((gTakeS s1 HS1.out o.rdg (Op26.rdg_ok HO.out) (rdgIn26 HO.out) ⟨Y, SS bs g2 (g2 + 1 + 1) g7 ob⟩ W1 ((Bse.ok_self _).below (grw_below hW1)) u HIN.out).mono (sresI (grw_below hW1).size))) rfl rfl) ?_
    intro n6 m6 v6 hn6 hm6 hd6 hf6 a' ha
    simp only [Act.put, List.setIfInBounds_toArray, List.set_cons_succ, List.set_cons_zero] at ha
    subst ha
    obtain ⟨A6, cap6, rfl⟩ := hf6
    iterate 2 (refine rg_det rfl rfl rfl (fun K hK => ?_); go_big_quiet_op; refine hK _ ?_; clear hK K)
    refine rg_pass rfl rfl ?_
    intro a' ha
    simp only [Act.put, List.setIfInBounds_toArray, List.set_cons_succ, List.set_cons_zero] at ha
    subst ha
    refine rg_rel rfl rfl (fun W1 hW1 hF => step_new hiS iS0 rfl) ?_
    intro n10 m10 v10 hn10 hm10 hd10 hf10 a' ha
    simp only [Act.put, List.setIfInBounds_toArray, List.set_cons_succ, List.set_cons_zero] at ha
    subst ha
    obtain rfl := hf10
    refine rg_nil (fun w' hw' hF => ?_)
    obtain ⟨z, rfl⟩ := hw'
    simp only [List.drop_succ_cons, List.drop_zero]
    refine wpList_putS ?_
    intro a' ha
    simp only [Act.put, List.setIfInBounds_toArray, List.set_cons_succ, List.set_cons_zero] at ha
    subst ha
    rotate_right 1
    all_goals
      obtain ⟨hm10, -, hl10, b10⟩ := end_last hF
      have hP := rsti_of (hF _ (List.mem_append_left _ (List.mem_append_right _ (List.mem_singleton.2 rfl)))).2
      have hd := hd10 _ (List.mem_append_right _ (List.mem_singleton.2 rfl))
      dsimp only at hd
      clear hF hd10
      refine wpList_put rfl 64 (.tmp 15) (.tmp 52) rfl rfl (cells := smc A6) rfl b10 (by rw [smc_len]; exact Nat.le_refl _) strm_size (List.all_eq_true.2 fun v hv => smc_one hP v hv) rfl fun Z hZ bZ => ?_
      have hBZ : Below Y.heap.size Y Z := below_put z.h hZ hn10
      have hin2 : StrIB ⟨Z, SS bs g2 (g2 + 1 + 1) g7 ob⟩ A6 (s1 ++ [(o.rdg, false)]) := (hP.pt hZ (fun hh => by
        rcases hh with hh | hh
        · have := hh.2
          dsimp only at this
          omega
        · omega)).sub fun g hg hl => by
          rcases hg with hh | hh
          · exact hh.1
          · exact ss_new (N := Y.heap.size) (by have := b4z.lt; omega) b4z.lt hg7Y (fun g hg => by rw [hobR] at hg; cases hg; exact hgRY) g (by omega)
      try simp only [Act.put, List.setIfInBounds_toArray, List.set_cons_succ, List.set_cons_zero]
      go_upto_region 7 with (fail)
      exact KK.out n10 A6 Z ⟨hBZ, hn10, hin2, bZ⟩
  intro gN x Z hQ
  obtain ⟨BZ, hgN, hin, bN⟩ := hQ
  have hbw : bs.W.heap.size ≤ g2 := by have := HW.out.1; have := HG2.out; omega
  replace b2x := b2x.keep BZ
  replace b4z := b4z.keep BZ
  replace bY := bY.keep BZ
  replace bR := bR.keep BZ
  replace HE0 := Lib.hid (HE0.out.fwd BZ)
  replace HU0 := Lib.hid (sts_fwd HU0.out BZ)
  replace E1 := E1.fwd BZ
  replace hBw := hBw.trans (BZ.mono hBw.size)
  clear b3x BZ
  refine wp_region_lit ?_
  iterate 2 (refine wpList_plain rfl fun K hK => ?_; go_big_op; refine hK _ _ ?_; clear hK K)
  refine wpList_plain rfl fun K114 hK114 => wp_of_step (stepAt_mono (fun v56 w56 hh => ?_) (step_loadR0 (cs := smc x) strm_under rfl strm_size rfl rfl (blk_range bN)))
  obtain ⟨rfl, rfl⟩ := hh
  refine hK114 _ _ ?_
  clear hK114 K114
  try simp only [Act.put, List.setIfInBounds_toArray, List.set_cons_succ, List.set_cons_zero]
  iterate 1 (refine wpList_plain rfl fun K hK => ?_; go_big_op; refine hK _ _ ?_; clear hK K)
  refine wpList_put (i := j * 2) rfl 64 (.tmp 57) (.tmp 56) rfl rfl (cells := smc x) rfl bR (by rw [List.size_toArray, List.length_append, flat_length smc_len, hul, smc_len]; omega) strm_size (List.all_eq_true.2 fun v hv => smc_one hin v hv) (spl_st us rest j x (by omega)) fun V hV bV => ?_
  have hneR : gR ≠ g7 := fun e => HNE.out (by rw [hobR, e])
  have HOZ := HSET.out j x V hjn bV
  replace b2x := hV.blk b2x (by omega)
  replace b4z := hV.blk b4z (by omega)
  replace bY := hV.blk bY hneR.symm
  replace HE0 := Lib.hid (HE0.out.pt hV (ss_notO hobR hbw (by omega)))
  replace E1 := E1.pt hV (ss_notO hobR hbw (by omega))
  replace hBw := below_put hBw hV (by have := HG2.out; omega)
  have HU1 := Al.set (i := j) (sts_pt HU0.out hV (ss_notO hobR hbw (by omega))) (hin.pt hV (ss_notO hobR hbw (by omega)))
  clear hV bV bN bR HU0 hin HIN hbw
  try simp only [Act.put, List.setIfInBounds_toArray, List.set_cons_succ, List.set_cons_zero]
  go_upto_region 25 with (fail)
  refine wp_region_lit ?_
  refine wpList_plain rfl fun K118 hK118 => wp_of_step (stepAt_mono (fun v162 w162 hh => ?_) (step_loadR0 (cs := mtc (M) (.slice A1 M.eps.length c1)) mt_under rfl (by rw [mt_size, mtc_len _ _ hM]) rfl rfl (blk_range bY)))
  obtain ⟨rfl, rfl⟩ := hh
  refine hK118 _ _ ?_
  clear hK118 K118
  try simp only [Act.put, List.setIfInBounds_toArray, List.set_cons_succ, List.set_cons_zero]
  iterate 1 (refine wpList_plain rfl fun K hK => ?_; go_big_op; refine hK _ _ ?_; clear hK K)
  refine wpList_plain rfl fun K120 hK120 => wp_of_step (stepAt_mono (fun v164 w164 hh => ?_) (step_buildS hM rfl rfl rfl))
  obtain ⟨rfl, rfl⟩ := hh
  refine hK120 _ _ ?_
  clear hK120 K120
  try simp only [Act.put, List.setIfInBounds_toArray, List.set_cons_succ, List.set_cons_zero]
  refine wpList_put rfl 38 (.tmp 4) (.tmp 164) rfl rfl (cells := stC (M) (.slice A1 M.eps.length c1) (.slice (some ⟨gR, 0, none⟩) n cap5)) rfl b4z (by rw [hz4, stC_len _ _ _ hM]; exact Nat.le_refl _) (by rw [stt_size26, stC_len _ _ _ hM]) (stC_one _ _ _ rfl rfl) (spl_all _ _ (by rw [hz4, stC_len _ _ _ hM])) fun Z hZ bZ => ?_
  have hBZ := below_put hBw hZ (by have := HG2.out; omega)
  have hbw : bs.W.heap.size ≤ g2 := by have := HW.out.1; have := HG2.out; omega
  have EZ : EpsB (bs.new w Z) (.slice A1 M.eps.length c1) (M).eps := ((E1).pt hZ (ss_not4 hbw (by omega))).sub fun g hg _ => by rw [← HG2.out]; exact ss_out hg
  have TZ : StmsB (bs.new w Z) (.slice (some ⟨gR, 0, none⟩) n cap5) (ss.set j (s1 ++ [(o.rdg, false)])) := stms_own (own_putN26 (HOZ) hZ (fun e => by have := (own_block (HOZ) e).1; omega)) (sts_pt (HU1) hZ (ss_not4 hbw (by omega))) (by rw [List.length_set]; exact hul) (by omega) HG2.out (by omega)
  try simp only [Act.put, List.setIfInBounds_toArray, List.set_cons_succ, List.set_cons_zero]
  go_wp2_with fail
  refine bodyPost_ret (v := stV (M) (.slice A1 M.eps.length c1) (.slice (some ⟨gR, 0, none⟩) n cap5)) (res_row (cs := stC (M) (.slice A1 M.eps.length c1) (.slice (some ⟨gR, 0, none⟩) n cap5)) (g := g2 + 1 + 1) rfl rfl stt_under26 rfl (by rw [stt_size26, stC_len _ _ _ hM]) bZ) rfl ?_
  rw [HC.out]
  exact ⟨_, _, rfl, EZ, TZ, hBZ⟩
end Go.Proofs.YtoiampgfnidfdaaGreatDoor
