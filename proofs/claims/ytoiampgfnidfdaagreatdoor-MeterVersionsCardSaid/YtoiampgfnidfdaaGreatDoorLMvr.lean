/-
  MeterVersions: the walk.
-/
import Derived.Test.YtoiampgfnidfdaaGreatDoorVsm26
import Derived.Test.YtoiampgfnidfdaaGreatDoorEnl26
import Derived.Test.YtoiampgfnidfdaaGreatDoorLen
namespace Go.Proofs.YtoiampgfnidfdaaGreatDoor
open Go.RowKit

def chN (ne : Bool) (i j : Nat) : Nat := if ne = true ∧ i < j then 1 else 0
theorem chN_zero (ne : Bool) (i : Nat) : chN ne i 0 = 0 := by unfold chN; rw [if_neg (by omega)]
theorem chN_same {ne : Bool} {i j : Nat} (h : ¬ (ne = true ∧ j = i)) : chN ne i (j + 1) = chN ne i j := by
  unfold chN
  by_cases h1 : ne = true ∧ i < j
  · rw [if_pos h1, if_pos ⟨h1.1, by omega⟩]
  · rw [if_neg h1, if_neg fun h2 => ?_]
    by_cases h3 : j = i
    · exact h ⟨h2.1, h3⟩
    · exact h1 ⟨h2.1, by omega⟩
theorem chN_new {ne : Bool} {i : Nat} (h : ne = true) : chN ne i (i + 1) = chN ne i i + 1 := by
  unfold chN
  rw [if_pos ⟨h, by omega⟩, if_neg (by omega)]
attribute [local irreducible] wpRg keyD sha leafD pairD
set_option maxRecDepth 100000 in
set_option maxHeartbeats 8000000 in
theorem wkMeterVersions (seed : Dg) (hs : DgOk seed) (l : List Op26) (hl : l.length ≤ 140737488355327) (ho : ∀ o ∈ l, o.ok) (vO : Value) (o : Op26) (hoo : o.ok) (w : World) (hO : RdA 6 w vO l.length (l.flatMap opc)) (hL : Laid w) (hSh : Lsh w) (hDb : Ldb w) : Calls Tryz.prog 5 #[qv26 seed vO, .agg (opc o).toArray] w (Ret (.bool true) w) := by
  obtain ⟨AO, cO, rfl⟩ := Rd.len hO
  have HO := Lib.hid hO
  have HL := Lib.hid hL
  have HS := Lib.hid hSh
  have HD := Lib.hid hDb
  have HS0 := Lib.hid hs
  have HOO := Lib.hid ho
  have HLL := Lib.hid hl
  have hsl : seed.length = 32 := hs.1
  obtain ⟨nl, hnl⟩ : ∃ n, n = l.length := ⟨_, rfl⟩
  rw [← hnl]
  have HNL := Lib.hid hnl
  obtain ⟨Qv, hQv⟩ : ∃ S, S = qv26 seed (.slice AO nl cO) := ⟨_, rfl⟩
  rw [← hQv]
  obtain ⟨Ov, hOv⟩ : ∃ S, S = Value.agg (opc o).toArray := ⟨_, rfl⟩
  rw [← hOv]
  have HO1 := Lib.hid hoo
  clear hoo hnl hO hL hSh hDb hs ho hl
  go_enter Tryz.func5, Tryz.ntmps5
  go_upto_region 1 with (fail)
  refine wp_stk2 fun W hB hz b1 b3 => ?_
  have b3' : Blk W (w.heap.size + 1) 70 (opc o).toArray := by first | exact b3 | (rw [hOv] at b3; exact b3)
  have b1' : Blk W w.heap.size 26 (qc26 seed (.slice AO nl cO)).toArray := by first | exact b1 | (rw [hQv] at b1; exact b1)
  obtain ⟨g1, hg1⟩ : ∃ g, g = w.heap.size := ⟨_, rfl⟩
  rw [← hg1] at b1' b3' ⊢
  have HG1 := Lib.hid hg1
  clear b1 b3 hz hQv hOv hg1
  refine wp_region_lit ?_
  refine wpList_plain rfl fun K1 hK1 => wp_of_step (stepAt_mono (fun v14 w14 hh => ?_) (step_callv en_attestor_attestorlaw26_sanity (lSanity26 W (HL.out.keep hB) (HS.out.keep hB) (HD.out.keep hB)) rfl rfl))
  obtain ⟨rfl, B14⟩ := hh
  refine hK1 _ _ ?_
  clear hK1 K1
  try simp only [Act.put, List.setIfInBounds_toArray, List.set_cons_succ, List.set_cons_zero]
  replace b1' := b1'.keep B14
  replace b3' := b3'.keep B14
  replace hB := hB.trans (B14.mono hB.size)
  clear B14
  try simp only [Act.put, List.setIfInBounds_toArray, List.set_cons_succ, List.set_cons_zero]
  go_upto_region 2 with (fail)
  refine wp_region_lit ?_
  refine wpList_plain rfl fun K3 hK3 => wp_of_step (stepAt_mono (fun v15 w15 hh => ?_) (step_loadR0 (cs := qc26 seed (.slice AO nl cO)) q26_under rfl (by rw [q26_size, qc26_len _ _ hsl]) rfl rfl (blk_range b1')))
  obtain ⟨rfl, rfl⟩ := hh
  refine hK3 _ _ ?_
  clear hK3 K3
  try simp only [Act.put, List.setIfInBounds_toArray, List.set_cons_succ, List.set_cons_zero]
  obtain ⟨s, hs⟩ : ∃ s, s = playM seed l := ⟨_, rfl⟩
  have hP := gPlay seed HS0.out l HLL.out HOO.out (.slice AO nl cO) w15 (by rw [HNL.out]; exact RdA.keep HO.out hB) (HL.out.keep hB) (HS.out.keep hB) (HD.out.keep hB)
  rw [← hs] at hP
  refine wpList_plain rfl fun K4 hK4 => wp_of_step (stepAt_mono (fun v16 w16 hh => ?_) (step_call (R := fun v W2 => ∃ vE vL, v = stV s.1 vE vL ∧ EpsB ⟨W2, fun g => w15.heap.size ≤ g⟩ vE s.1.eps ∧ StmsB ⟨W2, fun g => w15.heap.size ≤ g⟩ vL s.2 ∧ Below w15.heap.size w15 W2) en_attestor_attestorlaw26_play (hP.mono fun r W2 ⟨vE, vL, h1, h2, h3, h4⟩ => ⟨_, h1, vE, vL, rfl, h2, h3, h4⟩) rfl rfl))
  obtain ⟨vE, vL, rfl, hE, hT, B16⟩ := hh
  refine hK4 _ _ ?_
  clear hK4 K4
  try simp only [Act.put, List.setIfInBounds_toArray, List.set_cons_succ, List.set_cons_zero]
  have hok : StOk26 25 s := by rw [hs]; exact play_ok26 seed HS0.out l
  replace b3' := b3'.keep B16
  replace hB := hB.trans (B16.mono hB.size)
  clear B16 hP b1' hs
  obtain ⟨iS, hiS, iS0, iS1, iS2⟩ := info_parts stt_info26
  have hvs := step_vs hok o
  have hok2 := step_ok26 hok o
  obtain ⟨m, ss⟩ := s
  have hms : m.seed.length = 32 := hok.seed.1
  dsimp only at hE hT ⊢
  obtain ⟨A, cap, rfl⟩ := hE.len
  obtain ⟨n, hn⟩ : ∃ n, n = ss.length := ⟨_, rfl⟩
  obtain ⟨AL, cL, rfl⟩ := hT.len
  rw [← hn] at hT ⊢
  have hml : m.eps.length = n := by rw [hn]; exact hok.len.symm
  rw [hml] at hE ⊢
  have HML := Lib.hid hml
  have HN := Lib.hid hn
  clear hn hml
  refine wpList_plain rfl fun K5 hK5 => wp_of_step (stepAt_mono (fun v4 w4 hh => ?_) (step_new0 hiS iS0 rfl))
  obtain ⟨rfl, rfl⟩ := hh
  refine hK5 _ _ ?_
  clear hK5 K5
  try simp only [Act.put, List.setIfInBounds_toArray, List.set_cons_succ, List.set_cons_zero]
  have b4 : Blk (w16.alloc (.cells (Value.agg (stC ⟨0, List.replicate 32 0, []⟩ (.slice none 0 0) (.slice none 0 0)).toArray).cells 38)) w16.heap.size 38 (stC ⟨0, List.replicate 32 0, []⟩ (.slice none 0 0) (.slice none 0 0)).toArray := World.alloc_heap_new w16 _
  have B4 := (Below.refl _ w16).alloc (Nat.le_refl _) (.cells (Value.agg (stC ⟨0, List.replicate 32 0, []⟩ (.slice none 0 0) (.slice none 0 0)).toArray).cells 38)
  generalize w16.alloc (.cells (Value.agg (stC ⟨0, List.replicate 32 0, []⟩ (.slice none 0 0) (.slice none 0 0)).toArray).cells 38) = w4 at *
  refine wpList_put rfl 38 (.tmp 6) (.tmp 19) rfl rfl (cells := stC m (.slice A n cap) (.slice AL n cL)) rfl b4 (by rw [List.size_toArray, stC_len ⟨0, List.replicate 32 0, []⟩ _ _ rfl, stC_len m _ _ hms]; exact Nat.le_refl _) (by rw [stt_size26, stC_len m _ _ hms]) (stC_one _ _ _ rfl rfl) (spl_all _ _ (by rw [List.size_toArray, stC_len ⟨0, List.replicate 32 0, []⟩ _ _ rfl, stC_len m _ _ hms])) fun X hX bX => ?_
  have BX : Below w16.heap.size w16 X := below_put B4 hX (Nat.le_refl _)
  have b3x := (b3'.keep BX)
  have hLx := HL.out.keep (hB.trans (BX.mono hB.size))
  have hSx := HS.out.keep (hB.trans (BX.mono hB.size))
  have hDx := HD.out.keep (hB.trans (BX.mono hB.size))
  have hEx := hE.fwd BX
  have hTx := hT.fwd BX
  have HBX := Lib.hid (hB.trans (BX.mono hB.size))
  have HOK := Lib.hid hok
  have HOK2 := Lib.hid hok2
  have HVS := Lib.hid hvs
  have hw15 := BX.size
  obtain ⟨g6, hg6⟩ : ∃ g, g = w16.heap.size := ⟨_, rfl⟩
  rw [← hg6] at bX ⊢
  have hms2 : (stepM (m, ss) o).1.seed.length = 32 := hok2.seed.1
  have hms2 : (stepM (m, ss) o).1.seed = m.seed := by
    rcases hvs with h | ⟨i, ne, gr, h⟩
    · rw [h]
    · exact h.seed
  clear hok hok2 hvs hE hT hB b4 B4 hX BX hg6 b3'
  try simp only [Act.put, List.setIfInBounds_toArray, List.set_cons_succ, List.set_cons_zero]
  go_upto_region 3 with (fail)
  refine wp_region_lit ?_
  iterate 1 (refine wpList_plain rfl fun K hK => ?_; go_big_op; refine hK _ _ ?_; clear hK K)
  refine wpList_plain rfl fun K8 hK8 => wp_of_step (stepAt_mono (fun v21 w21 hh => ?_) (step_loadR0 (cs := mtc m (.slice A n cap)) mt_under rfl (by rw [mt_size, mtc_len m _ hms]) rfl rfl (st_mt bX)))
  obtain ⟨rfl, rfl⟩ := hh
  refine hK8 _ _ ?_
  clear hK8 K8
  try simp only [Act.put, List.setIfInBounds_toArray, List.set_cons_succ, List.set_cons_zero]
  have hEn := gEncodeM m (HOK.out.n (by omega)) (enc_small HOK.out (by omega) (peaks_ok hEx.now)) (.slice A n cap) w21 hEx.now
  refine wpList_plain rfl fun K9 hK9 => wp_of_step (stepAt_mono (fun v22 w22 hh => ?_) (step_call (R := fun v W2 => RdA 1 W2 v (encM m).length (byc (encM m)) ∧ Below w21.heap.size w21 W2) en_attestor_meter_Encode (hEn.mono fun e W2 ⟨v, h1, h2, h3⟩ => ⟨v, h1, h2, h3⟩) rfl rfl))
  obtain ⟨hrow, B22⟩ := hh
  refine hK9 _ _ ?_
  clear hK9 K9
  try simp only [Act.put, List.setIfInBounds_toArray, List.set_cons_succ, List.set_cons_zero]
  have b6 := bX.keep B22
  have b3y := b3x.keep B22
  have hEy := hEx.fwd B22
  have hTy := hTx.fwd B22
  have hLy := hLx.keep B22
  have hSy := hSx.keep B22
  have hDy := hDx.keep B22
  have HBY := Lib.hid (HBX.out.trans (B22.mono HBX.out.size))
  clear hEn bX b3x hEx hTx hLx hSx hDx B22
  try simp only [Act.put, List.setIfInBounds_toArray, List.set_cons_succ, List.set_cons_zero]
  go_upto_region 4 with (fail)
  refine wp_region_lit ?_
  refine wpList_plain rfl fun K11 hK11 => wp_of_step (stepAt_mono (fun v23 w23 hh => ?_) (step_loadR0 (cs := stC m (.slice A n cap) (.slice AL n cL)) stt_under26 rfl (by rw [stt_size26, stC_len m _ _ hms]) rfl rfl (blk_range b6)))
  obtain ⟨rfl, rfl⟩ := hh
  refine hK11 _ _ ?_
  clear hK11 K11
  try simp only [Act.put, List.setIfInBounds_toArray, List.set_cons_succ, List.set_cons_zero]
  refine wpList_plain rfl fun K12 hK12 => wp_of_step (stepAt_mono (fun v24 w24 hh => ?_) (step_loadR0 (cs := opc o) opp_under26 rfl opp_size26 rfl rfl (blk_range b3y)))
  obtain ⟨rfl, rfl⟩ := hh
  refine hK12 _ _ ?_
  clear hK12 K12
  try simp only [Act.put, List.setIfInBounds_toArray, List.set_cons_succ, List.set_cons_zero]
  have hSt := gStep 25 (by omega) (m, ss) HOK.out o HO1.out (.slice A n cap) (.slice AL n cL) ⟨w24, fun g => w15.heap.size ≤ g⟩ w24 (Bse.ok_self _) hLy hSy hDy hEy hTy
  obtain ⟨⟨m2, ss2⟩, hs2⟩ : ∃ s, s = stepM (m, ss) o := ⟨_, rfl⟩
  rw [← hs2] at hSt hms2 HVS HOK2
  dsimp only at hSt hms2 HVS HOK2
  have hms3 : m2.seed.length = 32 := by rw [hms2]; exact hms
  refine wpList_plain rfl fun K13 hK13 => wp_of_step (stepAt_mono (fun v25 w25 hh => ?_) (step_call (R := fun v W2 => ∃ vE vL, v = stV m2 vE vL ∧ EpsA W2 vE m2.eps ∧ Below w24.heap.size w24 W2 ∧ vL.oneCell' = true) en_attestor_attestorlaw26_step (hSt.mono fun e W2 ⟨vE, vL, h1, h2, h3, h4⟩ => ⟨_, h1, vE, vL, rfl, h2.old (Bse.ok_self _), h4, by obtain ⟨A, c, rfl⟩ := h3.len; rfl⟩) rfl rfl))
  obtain ⟨vE2, vL2, rfl, hE2, B25, hvL2⟩ := hh
  refine hK13 _ _ ?_
  clear hK13 K13
  try simp only [Act.put, List.setIfInBounds_toArray, List.set_cons_succ, List.set_cons_zero]
  clear hSt hs2
  obtain ⟨A2, cap2, rfl⟩ := hE2.len
  obtain ⟨n2, hn2⟩ : ∃ n, n = m2.eps.length := ⟨_, rfl⟩
  rw [← hn2] at hE2 ⊢
  have HN2 := Lib.hid hn2
  clear hn2
  refine wpList_plain rfl fun K14 hK14 => wp_of_step (stepAt_mono (fun v8 w8 hh => ?_) (step_new0 hiS iS0 rfl))
  obtain ⟨rfl, rfl⟩ := hh
  refine hK14 _ _ ?_
  clear hK14 K14
  try simp only [Act.put, List.setIfInBounds_toArray, List.set_cons_succ, List.set_cons_zero]
  have b8 : Blk (w25.alloc (.cells (Value.agg (stC ⟨0, List.replicate 32 0, []⟩ (.slice none 0 0) (.slice none 0 0)).toArray).cells 38)) w25.heap.size 38 (stC ⟨0, List.replicate 32 0, []⟩ (.slice none 0 0) (.slice none 0 0)).toArray := World.alloc_heap_new w25 _
  have B8 := (Below.refl _ w25).alloc (Nat.le_refl _) (.cells (Value.agg (stC ⟨0, List.replicate 32 0, []⟩ (.slice none 0 0) (.slice none 0 0)).toArray).cells 38)
  generalize w25.alloc (.cells (Value.agg (stC ⟨0, List.replicate 32 0, []⟩ (.slice none 0 0) (.slice none 0 0)).toArray).cells 38) = w8 at *
  refine wpList_put rfl 38 (.tmp 8) (.tmp 25) rfl rfl (cells := stC m2 (.slice A2 n2 cap2) vL2) rfl b8 (by rw [List.size_toArray, stC_len ⟨0, List.replicate 32 0, []⟩ _ _ rfl, stC_len m2 _ _ hms3]; exact Nat.le_refl _) (by rw [stt_size26, stC_len m2 _ _ hms3]) (stC_one _ _ _ rfl hvL2) (spl_all _ _ (by rw [List.size_toArray, stC_len ⟨0, List.replicate 32 0, []⟩ _ _ rfl, stC_len m2 _ _ hms3])) fun Y hY bY => ?_
  have BY : Below w25.heap.size w25 Y := below_put B8 hY (Nat.le_refl _)
  have BYX : Below w24.heap.size w24 Y := B25.trans (BY.mono B25.size)
  have HE2 := Lib.hid (hE2.keep BY)
  have HE1 := Lib.hid (hEy.fwd BYX).now
  have HB6 := Lib.hid (b6.keep BYX)
  have HB3 := Lib.hid (b3y.keep BYX)
  have HRW := Lib.hid (RdA.keep hrow BYX)
  have HBZ := Lib.hid (HBY.out.trans (BYX.mono HBY.out.size))
  obtain ⟨g8, hg8⟩ : ∃ g, g = w25.heap.size := ⟨_, rfl⟩
  rw [← hg8] at bY ⊢
  have HB8 := Lib.hid bY
  clear b8 B8 hY BY BYX hE2 hEy hTy b6 b3y hrow hLy hSy hDy B25 hg8 bY hvL2
  obtain ⟨iM, hiM, iM0, iM1, iM2⟩ := info_parts mt_info
  try simp only [Act.put, List.setIfInBounds_toArray, List.set_cons_succ, List.set_cons_zero]
  go_upto_region 5 with (fail)
  apply join2n (Q := fun g9 g10 X => g9 ≠ g10 ∧ Y.heap.size ≤ g9 ∧ Y.heap.size ≤ g10 ∧ Blk X g9 35 (mtc m (.slice A n cap)).toArray ∧ Blk X g10 35 (mtc m2 (.slice A2 n2 cap2)).toArray ∧ Below Y.heap.size Y X)
  case h =>
    intro kk
    have KK := Lib.hid kk
    clear kk
    have c6 := HB6.out.keep (below_Dw Y)
    have c8 := HB8.out.keep (below_Dw Y)
    have KD := And.intro (st_mt c6) (st_mt c8)
    refine wp_region_held_drew (S := fun X => X.rangeAt g6 0 (mtc m (.slice A n cap)) ∧ X.rangeAt g8 0 (mtc m2 (.slice A2 n2 cap2))) (by kernel_rfl) KD (fun hHeld => ?_)
    refine wpAnyH_take (i := 0) (oi := { dst := _, op := _, type := _, pos := _, after := _, guard := none }) (v := ?v16) rfl (by kernel_rfl) (by kernel_rfl) (by kernel_rfl) (fun _ _ _ h => h) (Or.inl ⟨by rfl, ?hy⟩) (by assumption) ?_
    case hy =>
      intro w hSw
      try dsimp only at hSw
      go_simp
      try with_reducible rfl
    try simp only [Act.put, List.setIfInBounds_toArray, List.set_cons_zero, List.set_cons_succ]
    refine wpAnyH_take (i := 2) (oi := { dst := _, op := _, type := _, pos := _, after := _, guard := none }) (v := ?v17) rfl (by kernel_rfl) (by kernel_rfl) (by kernel_rfl) (fun _ _ _ h => h) (Or.inl ⟨by rfl, ?hy⟩) (by assumption) ?_
    case hy =>
      intro w hSw
      try dsimp only at hSw
      go_simp
      try with_reducible rfl
    try simp only [Act.put, List.setIfInBounds_toArray, List.set_cons_zero, List.set_cons_succ]
    refine wpAnyH_take (i := 1) (oi := { dst := _, op := _, type := _, pos := _, after := _, guard := none }) (v := .agg (mtc m (.slice A n cap)).toArray) rfl (by kernel_rfl) (by kernel_rfl) (by kernel_rfl) (fun _ _ _ h => h) (yields_load rfl mt_under rfl (by rw [mt_size, mtc_len m _ hms]) rfl rfl fun X hX => hX.1) (by assumption) ?_
    try simp only [Act.put, List.setIfInBounds_toArray, List.set_cons_zero, List.set_cons_succ]
    refine wpAnyH_take (i := 3) (oi := { dst := _, op := _, type := _, pos := _, after := _, guard := none }) (v := .agg (mtc m2 (.slice A2 n2 cap2)).toArray) rfl (by kernel_rfl) (by kernel_rfl) (by kernel_rfl) (fun _ _ _ h => h) (yields_load rfl mt_under rfl (by rw [mt_size, mtc_len m2 _ hms3]) rfl rfl fun X hX => hX.2) (by assumption) ?_
    try simp only [Act.put, List.setIfInBounds_toArray, List.set_cons_zero, List.set_cons_succ]
    refine wpAnyH_ready (rs := [4, 5]) (by kernel_rfl) (by simp) ?_
    refine AllReadyH.cons (o := { dst := _, op := _, type := _, pos := _, after := _, guard := none }) rfl (fun K hK => ?_) (AllReadyH.cons (o := { dst := _, op := _, type := _, pos := _, after := _, guard := none }) rfl (fun K hK => ?_) AllReadyH.nil)
    · skip
      refine step_H rfl (step_newB hiM iM0 rfl) fun v w1 hh => ?_
      obtain ⟨ga, rfl, hga, ba, Ba⟩ := hh
      have Ba' : Below Y.drew.heap.size Y.drew w1 := by rw [hga]; exact Ba
      have ba : Blk w1 ga 35 (mtc ⟨0, List.replicate 32 0, []⟩ (.slice none 0 0)).toArray := ba
      have c6a := c6.keep Ba'
      have c8a := c8.keep Ba'
      have KD1 := And.intro (st_mt c6a) (st_mt c8a)
      refine hK.out _ _ KD1 (fun hHeld => ?_)
      clear hK K
      try simp only [Act.put, List.setIfInBounds_toArray, List.set_cons_zero, List.set_cons_succ]
      refine wpAnyH_ready (rs := [5]) (by kernel_rfl) (by simp) ?_
      refine AllReadyH.cons (o := { dst := _, op := _, type := _, pos := _, after := _, guard := none }) rfl (fun K hK => ?_) AllReadyH.nil
      refine step_H rfl (step_newB hiM iM0 rfl) fun v w2 hh => ?_
      obtain ⟨gb, rfl, hgb, bb, Bb⟩ := hh
      have Bb' : Below w1.heap.size w1 w2 := by rw [hgb]; exact Bb
      have bb : Blk w2 gb 35 (mtc ⟨0, List.replicate 32 0, []⟩ (.slice none 0 0)).toArray := bb
      have c6b := c6a.keep Bb'
      have c8b := c8a.keep Bb'
      have ba2 := ba.keep Bb'
      have KD2 := And.intro (st_mt c6b) (st_mt c8b)
      have l1 := c6.lt
      have l2 := c8.lt
      have l3 := ba.lt
      refine hK.out _ _ KD2 (fun hHeld => ?_)
      clear hK K
      try simp only [Act.put, List.setIfInBounds_toArray, List.set_cons_zero, List.set_cons_succ]
      refine wpAnyH_ready (rs := [6]) (by kernel_rfl) (by simp) ?_
      refine AllReadyH.cons (o := { dst := _, op := _, type := _, pos := _, after := _, guard := none }) rfl (fun K hK => ?_) AllReadyH.nil
      refine step_H rfl (step_put (cells := mtc m (.slice A n cap)) 35 (.tmp 9) (.tmp 27) rfl rfl rfl ba2 (by rw [List.size_toArray, mtc_len ⟨0, List.replicate 32 0, []⟩ _ rfl, mtc_len m _ hms]; exact Nat.le_refl _) (by rw [mt_size, mtc_len m _ hms]) (mtc_one _ _ rfl) (spl_all _ _ (by rw [List.size_toArray, mtc_len ⟨0, List.replicate 32 0, []⟩ _ rfl, mtc_len m _ hms]))) fun v V1 hh => ?_
      obtain ⟨rfl, hV1, bV1⟩ := hh
      have c6c := hV1.blk c6b (by omega)
      have c8c := hV1.blk c8b (by omega)
      have bo2 := hV1.blk bb (by omega)
      have KD3 := And.intro (st_mt c6c) (st_mt c8c)
      refine hK.out _ _ KD3 (fun hHeld => ?_)
      clear hK K
      try simp only [Act.put, List.setIfInBounds_toArray, List.set_cons_zero, List.set_cons_succ]
      refine wpAnyH_ready (rs := [7]) (by kernel_rfl) (by simp) ?_
      refine AllReadyH.cons (o := { dst := _, op := _, type := _, pos := _, after := _, guard := none }) rfl (fun K hK => ?_) AllReadyH.nil
      refine step_H rfl (step_put (cells := mtc m2 (.slice A2 n2 cap2)) 35 (.tmp 10) (.tmp 29) rfl rfl rfl bo2 (by rw [List.size_toArray, mtc_len ⟨0, List.replicate 32 0, []⟩ _ rfl, mtc_len m2 _ hms3]; exact Nat.le_refl _) (by rw [mt_size, mtc_len m2 _ hms3]) (mtc_one _ _ rfl) (spl_all _ _ (by rw [List.size_toArray, mtc_len ⟨0, List.replicate 32 0, []⟩ _ rfl, mtc_len m2 _ hms3]))) fun v V2 hh => ?_
      obtain ⟨rfl, hV2, bV2⟩ := hh
      have c6d := hV2.blk c6c (by omega)
      have c8d := hV2.blk c8c (by omega)
      have b9 := hV2.blk bV1 (by omega)
      have KD4 := And.intro (st_mt c6d) (st_mt c8d)
      refine hK.out _ _ KD4 (fun hHeld => ?_)
      clear hK K
      try simp only [Act.put, List.setIfInBounds_toArray, List.set_cons_zero, List.set_cons_succ]
      refine wpAnyH_done (by kernel_rfl) ?_ _
      have hsz : Y.heap.size ≤ Y.drew.heap.size := (below_Dw Y).size
      have BY2 : Below Y.heap.size Y V2 := below_put (below_put (((below_Dw Y).trans (Ba'.mono hsz)).trans (Bb'.mono (by have := Ba'.size; omega))) hV1 (by omega)) hV2 (by omega)
      have hq : ga ≠ gb ∧ Y.heap.size ≤ ga ∧ Y.heap.size ≤ gb := ⟨by omega, by omega, by omega⟩
      clear hHeld KD KD1 KD2 KD3 KD4 c6 c6a c6b c6c c6d c8 c8a c8b c8c c8d
      try simp only [Act.put, List.setIfInBounds_toArray, List.set_cons_succ, List.set_cons_zero]
      go_upto_region 6 with (fail)
      rename_i K1 hK1 K hK
      revert K
      revert K1
      exact KK.out ga gb V2 ⟨hq.1, hq.2.1, hq.2.2, b9, bV2, BY2⟩
    · skip
      refine step_H rfl (step_newB hiM iM0 rfl) fun v w1 hh => ?_
      obtain ⟨ga, rfl, hga, ba, Ba⟩ := hh
      have Ba' : Below Y.drew.heap.size Y.drew w1 := by rw [hga]; exact Ba
      have ba : Blk w1 ga 35 (mtc ⟨0, List.replicate 32 0, []⟩ (.slice none 0 0)).toArray := ba
      have c6a := c6.keep Ba'
      have c8a := c8.keep Ba'
      have KD1 := And.intro (st_mt c6a) (st_mt c8a)
      refine hK.out _ _ KD1 (fun hHeld => ?_)
      clear hK K
      try simp only [Act.put, List.setIfInBounds_toArray, List.set_cons_zero, List.set_cons_succ]
      refine wpAnyH_ready (rs := [4]) (by kernel_rfl) (by simp) ?_
      refine AllReadyH.cons (o := { dst := _, op := _, type := _, pos := _, after := _, guard := none }) rfl (fun K hK => ?_) AllReadyH.nil
      refine step_H rfl (step_newB hiM iM0 rfl) fun v w2 hh => ?_
      obtain ⟨gb, rfl, hgb, bb, Bb⟩ := hh
      have Bb' : Below w1.heap.size w1 w2 := by rw [hgb]; exact Bb
      have bb : Blk w2 gb 35 (mtc ⟨0, List.replicate 32 0, []⟩ (.slice none 0 0)).toArray := bb
      have c6b := c6a.keep Bb'
      have c8b := c8a.keep Bb'
      have ba2 := ba.keep Bb'
      have KD2 := And.intro (st_mt c6b) (st_mt c8b)
      have l1 := c6.lt
      have l2 := c8.lt
      have l3 := ba.lt
      refine hK.out _ _ KD2 (fun hHeld => ?_)
      clear hK K
      try simp only [Act.put, List.setIfInBounds_toArray, List.set_cons_zero, List.set_cons_succ]
      refine wpAnyH_ready (rs := [6]) (by kernel_rfl) (by simp) ?_
      refine AllReadyH.cons (o := { dst := _, op := _, type := _, pos := _, after := _, guard := none }) rfl (fun K hK => ?_) AllReadyH.nil
      refine step_H rfl (step_put (cells := mtc m (.slice A n cap)) 35 (.tmp 9) (.tmp 27) rfl rfl rfl bb (by rw [List.size_toArray, mtc_len ⟨0, List.replicate 32 0, []⟩ _ rfl, mtc_len m _ hms]; exact Nat.le_refl _) (by rw [mt_size, mtc_len m _ hms]) (mtc_one _ _ rfl) (spl_all _ _ (by rw [List.size_toArray, mtc_len ⟨0, List.replicate 32 0, []⟩ _ rfl, mtc_len m _ hms]))) fun v V1 hh => ?_
      obtain ⟨rfl, hV1, bV1⟩ := hh
      have c6c := hV1.blk c6b (by omega)
      have c8c := hV1.blk c8b (by omega)
      have bo2 := hV1.blk ba2 (by omega)
      have KD3 := And.intro (st_mt c6c) (st_mt c8c)
      refine hK.out _ _ KD3 (fun hHeld => ?_)
      clear hK K
      try simp only [Act.put, List.setIfInBounds_toArray, List.set_cons_zero, List.set_cons_succ]
      refine wpAnyH_ready (rs := [7]) (by kernel_rfl) (by simp) ?_
      refine AllReadyH.cons (o := { dst := _, op := _, type := _, pos := _, after := _, guard := none }) rfl (fun K hK => ?_) AllReadyH.nil
      refine step_H rfl (step_put (cells := mtc m2 (.slice A2 n2 cap2)) 35 (.tmp 10) (.tmp 29) rfl rfl rfl bo2 (by rw [List.size_toArray, mtc_len ⟨0, List.replicate 32 0, []⟩ _ rfl, mtc_len m2 _ hms3]; exact Nat.le_refl _) (by rw [mt_size, mtc_len m2 _ hms3]) (mtc_one _ _ rfl) (spl_all _ _ (by rw [List.size_toArray, mtc_len ⟨0, List.replicate 32 0, []⟩ _ rfl, mtc_len m2 _ hms3]))) fun v V2 hh => ?_
      obtain ⟨rfl, hV2, bV2⟩ := hh
      have c6d := hV2.blk c6c (by omega)
      have c8d := hV2.blk c8c (by omega)
      have b9 := hV2.blk bV1 (by omega)
      have KD4 := And.intro (st_mt c6d) (st_mt c8d)
      refine hK.out _ _ KD4 (fun hHeld => ?_)
      clear hK K
      try simp only [Act.put, List.setIfInBounds_toArray, List.set_cons_zero, List.set_cons_succ]
      refine wpAnyH_done (by kernel_rfl) ?_ _
      have hsz : Y.heap.size ≤ Y.drew.heap.size := (below_Dw Y).size
      have BY2 : Below Y.heap.size Y V2 := below_put (below_put (((below_Dw Y).trans (Ba'.mono hsz)).trans (Bb'.mono (by have := Ba'.size; omega))) hV1 (by omega)) hV2 (by omega)
      have hq : gb ≠ ga ∧ Y.heap.size ≤ gb ∧ Y.heap.size ≤ ga := ⟨by omega, by omega, by omega⟩
      clear hHeld KD KD1 KD2 KD3 KD4 c6 c6a c6b c6c c6d c8 c8a c8b c8c c8d
      try simp only [Act.put, List.setIfInBounds_toArray, List.set_cons_succ, List.set_cons_zero]
      go_upto_region 6 with (fail)
      rename_i K1 hK1 K hK
      revert K
      revert K1
      exact KK.out gb ga V2 ⟨hq.1, hq.2.1, hq.2.2, b9, bV2, BY2⟩
  intro g9 g10 X5 hX5 K1 hK1 K hK
  obtain ⟨hne, hg9, hg10, b9, b10, B5⟩ := hX5
  have HE1 := Lib.hid (HE1.out.keep B5)
  have HE2 := Lib.hid (HE2.out.keep B5)
  have HB3 := Lib.hid (HB3.out.keep B5)
  have HRW := Lib.hid (RdA.keep HRW.out B5)
  have HBZ := Lib.hid (HBZ.out.trans (B5.mono HBZ.out.size))
  clear HB6 HB8 B5
  have hnn : n ≤ n2 ∧ n2 ≤ n + 1 := by
    have h1 := HML.out
    have h2 := HN2.out
    rcases HVS.out with h | ⟨i, ne, gr, h⟩
    · have := congrArg (fun s : St26 => s.1.eps.length) h
      dsimp only at this
      omega
    · have := h.len
      split at this <;> omega
  obtain ⟨hna, hnb⟩ := hnn
  have hn25 : n ≤ 25 := by
    have h1 := HOK.out.eps
    have h2 := HML.out
    dsimp only at h1
    omega
  have hna2 : ¬ ((n2 : Int) < (n : Int)) := by omega
  have hnb2 : ¬ ((n : Int) + 1 < (n2 : Int)) := by omega
  have hw1 : wrap64 ((n : Int) + 1) = (n : Int) + 1 := by unfold wrap64; omega
  refine wp_region_lit ?_
  refine wpList_plain rfl fun K36 hK36 => wp_of_step (stepAt_mono (fun v30 w30 hh => ?_) (step_loadR0 (cs := mtc m (.slice A n cap)) mt_under rfl (by rw [mt_size, mtc_len m _ hms]) rfl rfl (blk_range b9)))
  obtain ⟨rfl, rfl⟩ := hh
  refine hK36 _ _ ?_
  clear hK36 K36
  try simp only [Act.put, List.setIfInBounds_toArray, List.set_cons_succ, List.set_cons_zero]
  have hEn := gEncodeM m (HOK.out.n (by omega)) (enc_small HOK.out (by omega) (peaks_ok HE1.out)) (.slice A n cap) w30 HE1.out
  refine wpList_plain rfl fun K37 hK37 => wp_of_step (stepAt_mono (fun v31 w31 hh => ?_) (step_call (R := fun v W2 => RdA 1 W2 v (encM m).length (byc (encM m)) ∧ Below w30.heap.size w30 W2) en_attestor_meter_Encode (hEn.mono fun e W2 ⟨v, h1, h2, h3⟩ => ⟨v, h1, h2, h3⟩) rfl rfl))
  obtain ⟨hrow2, B31⟩ := hh
  refine hK37 _ _ ?_
  clear hK37 K37
  try simp only [Act.put, List.setIfInBounds_toArray, List.set_cons_succ, List.set_cons_zero]
  iterate 1 (refine wpList_plain rfl fun K hK => ?_; go_big_op; refine hK _ _ ?_; clear hK K)
  refine wpList_plain rfl fun K39 hK39 => wp_of_step (stepAt_mono (fun v33 w33 hh => ?_) (step_callv en_attestor_attestorref07_SameBytes (rSameBytes (encM m) v31 v22 w31 hrow2 (RdA.keep HRW.out B31)) rfl rfl))
  obtain ⟨rfl, B33⟩ := hh
  refine hK39 _ _ ?_
  clear hK39 K39
  try simp only [Act.put, List.setIfInBounds_toArray, List.set_cons_succ, List.set_cons_zero]
  have B6 := B31.trans (B33.mono B31.size)
  replace b9 := b9.keep B6
  replace b10 := b10.keep B6
  have HE1 := Lib.hid (HE1.out.keep B6)
  have HE2 := Lib.hid (HE2.out.keep B6)
  have HB3 := Lib.hid (HB3.out.keep B6)
  have HBZ := Lib.hid (HBZ.out.trans (B6.mono HBZ.out.size))
  have c90 := mt_cell0 b9
  have c93 := mt_cell b9 hms
  have c100 := mt_cell0 b10
  have c103 := mt_cell b10 hms3
  have l9 := b9.lt
  have l10 := b10.lt
  have HB9 := Lib.hid b9
  have HB10 := Lib.hid b10
  clear hEn hrow2 B31 B33 B6 HRW b9 b10
  try simp only [Act.put, List.setIfInBounds_toArray, List.set_cons_succ, List.set_cons_zero]
  go_upto_region 8 with (fail)
  rcases HVS.out with h | ⟨i, ne, gr, h⟩
  · obtain ⟨rfl, rfl⟩ := Prod.mk.inj h
    clear h
    go_upto_region 9 with (fail)
    refine wp_region_lit ?_
    refine wpList_plain rfl fun K41 hK41 => wp_of_step (stepAt_mono (fun v59 w59 hh => ?_) (step_loadR0 (cs := mtc m2 (.slice A n cap)) mt_under rfl (by rw [mt_size, mtc_len m2 _ hms]) rfl rfl (blk_range HB9.out)))
    obtain ⟨rfl, rfl⟩ := hh
    refine hK41 _ _ ?_
    clear hK41 K41
    try simp only [Act.put, List.setIfInBounds_toArray, List.set_cons_succ, List.set_cons_zero]
    refine wpList_plain rfl fun K42 hK42 => wp_of_step (stepAt_mono (fun v60 w60 hh => ?_) (step_loadR0 (cs := mtc m2 (.slice A2 n2 cap2)) mt_under rfl (by rw [mt_size, mtc_len m2 _ hms]) rfl rfl (blk_range HB10.out)))
    obtain ⟨rfl, rfl⟩ := hh
    refine hK42 _ _ ?_
    clear hK42 K42
    try simp only [Act.put, List.setIfInBounds_toArray, List.set_cons_succ, List.set_cons_zero]
    refine wpList_plain rfl fun K43 hK43 => wp_of_step (stepAt_mono (fun v61 w61 hh => ?_) (step_callv en_attestor_attestorref26_Same (rSameM m2 HOK.out.seed (.slice A n cap) (.slice A2 n2 cap2) w60 HE1.out HE2.out) rfl rfl))
    obtain ⟨rfl, B61⟩ := hh
    refine hK43 _ _ ?_
    clear hK43 K43
    try simp only [Act.put, List.setIfInBounds_toArray, List.set_cons_succ, List.set_cons_zero]
    have hBz := HBZ.out.trans (B61.mono HBZ.out.size)
    clear B61 c90 c93 c100 c103
    try simp only [Act.put, List.setIfInBounds_toArray, List.set_cons_succ, List.set_cons_zero]
    go_wp2_with fail
    go_ret
    exact ⟨rfl, hBz⟩
  clear hna2 hnb2 hw1
  have hver := h.ver
  have hvl := HOK.out.ver
  have hlen := h.len
  rw [HML.out, ← HN2.out] at hlen
  have HH := Lib.hid h
  have hok := HO1.out.1
  obtain ⟨v1, hv1⟩ : ∃ v, v = m.ver := ⟨_, rfl⟩
  obtain ⟨v2, hv2⟩ : ∃ v, v = m2.ver := ⟨_, rfl⟩
  rw [← hv1] at c90
  rw [← hv2] at c100
  dsimp only at hver hvl
  have hvne : (((v2 : Nat) : Int) == (v1 : Int)) = false := by rw [beq_eq_false_iff_ne]; omega
  have hvb : v1 ≤ 25 := by omega
  have hv12 : v2 = v1 + 1 := by omega
  have HV12 := Lib.hid hv12
  have HLEN := Lib.hid hlen
  have HVE := Lib.hid (show m.ver = v1 ∧ m2.ver = v1 + 1 from ⟨hv1.symm, by omega⟩)
  clear h hver hvl hv1 hv2 hv12 hlen
  go_upto_region 12 with (fail)
  clear c90 c93 c100 c103 l9 l10
  obtain ⟨iE, hiE, iE0, iE1, iE2⟩ := info_parts ep_info26
  go_loopw [11, 12] (fun q p wr => ∃ j ch : Nat, j ≤ n ∧ q = .int .i64 ch ∧ p = .int .i64 j ∧ Hid (ch = chN ne i j) ∧ ch ≤ 1 ∧ Below w33.heap.size w33 wr) (fun _ p _ => n - (intOf p).toNat)
  case atStart => exact ⟨0, 0, Nat.zero_le _, rfl, rfl, Lib.hid (chN_zero ne i).symm, by omega, Below.refl _ _⟩
  case round =>
    obtain ⟨j, ch, hj, rfl, rfl, HCH, hch, hBr⟩ := hrel
    have b9 := HB9.out.keep hBr
    have b10 := HB10.out.keep hBr
    have c93 := mt_cell b9 hms
    have c103 := mt_cell b10 hms3
    have l9 := b9.lt
    have l10 := b10.lt
    have hBz := HBZ.out.trans (hBr.mono HBZ.out.size)
    by_cases hlt : j < n
    rotate_left 1
    · obtain rfl : n = j := by omega
      have hch2 : (ne = true ∧ ch = 1 ∧ n2 = n) ∨ (ne = false ∧ ch = 0 ∧ gr = true ∧ n2 = n + 1) ∨ (ne = false ∧ ch = 0 ∧ n2 = n ∧ o.kind % 8 = 3) := by
        have h1 := HCH.out
        have h2 := HLEN.out
        have h3 := HH.out.nei
        have h4 := HH.out.any
        have h5 := HH.out.one
        have h6 := HML.out
        unfold chN at h1
        cases ne with
        | true =>
          refine .inl ⟨rfl, ?_, ?_⟩
          · rw [h1, if_pos ⟨rfl, by have := h3 rfl; omega⟩]
          · rcases h5 with h5 | h5
            · cases h5
            · rw [h5] at h2
              exact h2
        | false =>
          have h0 : ch = 0 := by rw [h1, if_neg (fun h => by cases h.1)]
          cases gr with
          | true => exact .inr (.inl ⟨rfl, h0, rfl, h2⟩)
          | false =>
            refine .inr (.inr ⟨rfl, h0, h2, ?_⟩)
            rcases h4 with h4 | h4 | h4
            · cases h4
            · cases h4
            · exact h4
      have c30 : wr.cell? ⟨g1 + 1, 0, none⟩ = some (.int .u8 (o.kind : Int)) := ((HB3.out.keep hBr).cell 0).trans rfl
      have c90 := mt_cell0 b9
      have c100 := mt_cell0 b10
      obtain ⟨hvx, hvy⟩ : m.ver = v1 ∧ m2.ver = v1 + 1 := HVE.out
      rw [hvx] at c90
      rw [hvy] at c100
      clear hvx hvy b9 b10 hBr
      rcases hch2 with ⟨-, rfl, rfl⟩ | ⟨-, rfl, -, rfl⟩ | ⟨-, rfl, rfl, h3⟩
      · go_wp2_with fail
        go_ret
        exact ⟨rfl, hBz⟩
      · go_wp2_with fail
        go_ret
        exact ⟨rfl, hBz⟩
      · go_wp2_with fail
        go_ret
        exact ⟨rfl, hBz⟩
    have hlt2 : j < n2 := by omega
    obtain ⟨us, hr, ha⟩ := HE1.out.keep hBr
    obtain ⟨u, e, hu, he, hin⟩ := ha.get (k := j) (by rw [HML.out]; exact hlt)
    obtain ⟨g, off, cap', hv, hcp, hg, hcs⟩ := RdA.at epc_len hr hu
    rw [ha.1, HML.out] at hv hcp
    cases hv
    have r1 : wr.rangeAt g (off + j * 5) (epc u) := fun q x hj => by rw [Nat.add_assoc]; exact hcs q x hj
    obtain ⟨us2, hr2, ha2⟩ := HE2.out.keep hBr
    obtain ⟨u2, e2, hu2, he2, hin2⟩ := ha2.get (k := j) (by rw [← HN2.out]; omega)
    obtain ⟨g', off', cap'', hv, hcp2, hg2, hcs2⟩ := RdA.at epc_len hr2 hu2
    rw [ha2.1, ← HN2.out] at hv hcp2
    cases hv
    have r2 : wr.rangeAt g' (off' + j * 5) (epc u2) := fun q x hj => by rw [Nat.add_assoc]; exact hcs2 q x hj
    have hold := HH.out.old j e e2 he he2
    have hone := hin.one
    have hone2 := hin2.one
    have HOLD := Lib.hid hold
    have HIN := Lib.hid hin
    have HIN2 := Lib.hid hin2
    have HB9r := Lib.hid b9
    have HB10r := Lib.hid b10
    have HR1 := Lib.hid r1
    have HR2 := Lib.hid r2
    have HBR := Lib.hid hBr
    have HBZr := Lib.hid hBz
    clear hr ha hu he hcs hr2 ha2 hu2 he2 hcs2 hold hin hin2 b9 b10 r1 r2 hBr hBz
    go_upto_region 14 with (fail)
    clear c93 c103
    apply join2n (Q := fun g13 g14 X => g13 ≠ g14 ∧ wr.heap.size ≤ g13 ∧ wr.heap.size ≤ g14 ∧ Blk X g13 75 (epc u).toArray ∧ Blk X g14 75 (epc u2).toArray ∧ Below wr.heap.size wr X)
    case h =>
      intro kk
      have KK := Lib.hid kk
      clear kk
      have c6 := HB9r.out.keep (below_Dw wr)
      have c8 := HB10r.out.keep (below_Dw wr)
      have r1 := range_keep HR1.out hg (below_Dw wr)
      have r2 := range_keep HR2.out hg2 (below_Dw wr)
      have lr1 := Nat.lt_of_lt_of_le hg (below_Dw wr).size
      have lr2 := Nat.lt_of_lt_of_le hg2 (below_Dw wr).size
      have KD := And.intro (mt_cell c6 hms) (And.intro (mt_cell c8 hms3) (And.intro r1 r2))
      refine wp_region_held_drew (S := fun X => X.cell? ⟨g9, 33, none⟩ = some (.slice (some ⟨g, off, none⟩) n cap) ∧ X.cell? ⟨g10, 33, none⟩ = some (.slice (some ⟨g', off', none⟩) n2 cap2) ∧ X.rangeAt g (off + j * 5) (epc u) ∧ X.rangeAt g' (off' + j * 5) (epc u2)) (by kernel_rfl) KD (fun hHeld => ?_)
      refine wpAnyH_take (i := 0) (oi := { dst := _, op := _, type := _, pos := _, after := _, guard := none }) (v := ?v45) rfl (by kernel_rfl) (by kernel_rfl) (by kernel_rfl) (fun _ _ _ h => h) (Or.inl ⟨by rfl, ?hy⟩) (by assumption) ?_
      case hy =>
        intro w hSw
        try dsimp only at hSw
        go_simp
        try with_reducible rfl
      try simp only [Act.put, List.setIfInBounds_toArray, List.set_cons_zero, List.set_cons_succ]
      refine wpAnyH_take (i := 5) (oi := { dst := _, op := _, type := _, pos := _, after := _, guard := none }) (v := ?v46) rfl (by kernel_rfl) (by kernel_rfl) (by kernel_rfl) (fun _ _ _ h => h) (Or.inl ⟨by rfl, ?hy⟩) (by assumption) ?_
      case hy =>
        intro w hSw
        try dsimp only at hSw
        go_simp
        try with_reducible rfl
      try simp only [Act.put, List.setIfInBounds_toArray, List.set_cons_zero, List.set_cons_succ]
      refine wpAnyH_take (i := 1) (oi := { dst := _, op := _, type := _, pos := _, after := _, guard := none }) (v := ?v47) rfl (by kernel_rfl) (by kernel_rfl) (by kernel_rfl) (fun _ _ _ h => h) (Or.inl ⟨by rfl, ?hy⟩) (by assumption) ?_
      case hy =>
        intro w hSw
        try dsimp only at hSw
        go_split_ands
        go_simp
        try with_reducible rfl
      try simp only [Act.put, List.setIfInBounds_toArray, List.set_cons_zero, List.set_cons_succ]
      refine wpAnyH_take (i := 6) (oi := { dst := _, op := _, type := _, pos := _, after := _, guard := none }) (v := ?v48) rfl (by kernel_rfl) (by kernel_rfl) (by kernel_rfl) (fun _ _ _ h => h) (Or.inl ⟨by rfl, ?hy⟩) (by assumption) ?_
      case hy =>
        intro w hSw
        try dsimp only at hSw
        go_split_ands
        go_simp
        try with_reducible rfl
      try simp only [Act.put, List.setIfInBounds_toArray, List.set_cons_zero, List.set_cons_succ]
      refine wpAnyH_take (i := 2) (oi := { dst := _, op := _, type := _, pos := _, after := _, guard := none }) (v := ?v49) rfl (by kernel_rfl) (by kernel_rfl) (by kernel_rfl) (fun _ _ _ h => h) (Or.inl ⟨by rfl, ?hy⟩) (by assumption) ?_
      case hy =>
        intro w hSw
        try dsimp only at hSw
        go_simp
        try with_reducible rfl
      try simp only [Act.put, List.setIfInBounds_toArray, List.set_cons_zero, List.set_cons_succ]
      refine wpAnyH_take (i := 7) (oi := { dst := _, op := _, type := _, pos := _, after := _, guard := none }) (v := ?v50) rfl (by kernel_rfl) (by kernel_rfl) (by kernel_rfl) (fun _ _ _ h => h) (Or.inl ⟨by rfl, ?hy⟩) (by assumption) ?_
      case hy =>
        intro w hSw
        try dsimp only at hSw
        go_simp
        try with_reducible rfl
      try simp only [Act.put, List.setIfInBounds_toArray, List.set_cons_zero, List.set_cons_succ]
      refine wpAnyH_take (i := 3) (oi := { dst := _, op := _, type := _, pos := _, after := _, guard := none }) (v := ?v51) rfl (by kernel_rfl) (by kernel_rfl) (by kernel_rfl) (fun _ _ _ h => h) (Or.inl ⟨by rfl, ?hy⟩) (by assumption) ?_
      case hy =>
        intro w hSw
        try dsimp only at hSw
        go_simp
        try with_reducible rfl
      try simp only [Act.put, List.setIfInBounds_toArray, List.set_cons_zero, List.set_cons_succ]
      refine wpAnyH_take (i := 8) (oi := { dst := _, op := _, type := _, pos := _, after := _, guard := none }) (v := ?v52) rfl (by kernel_rfl) (by kernel_rfl) (by kernel_rfl) (fun _ _ _ h => h) (Or.inl ⟨by rfl, ?hy⟩) (by assumption) ?_
      case hy =>
        intro w hSw
        try dsimp only at hSw
        go_simp
        try with_reducible rfl
      try simp only [Act.put, List.setIfInBounds_toArray, List.set_cons_zero, List.set_cons_succ]
      refine wpAnyH_take (i := 4) (oi := { dst := _, op := _, type := _, pos := _, after := _, guard := none }) (v := .agg (epc u).toArray) rfl (by kernel_rfl) (by kernel_rfl) (by kernel_rfl) (fun _ _ _ h => h) (yields_load rfl ep_under rfl ep_size rfl rfl fun X hX => hX.2.2.1) (by assumption) ?_
      try simp only [Act.put, List.setIfInBounds_toArray, List.set_cons_zero, List.set_cons_succ]
      refine wpAnyH_take (i := 9) (oi := { dst := _, op := _, type := _, pos := _, after := _, guard := none }) (v := .agg (epc u2).toArray) rfl (by kernel_rfl) (by kernel_rfl) (by kernel_rfl) (fun _ _ _ h => h) (yields_load rfl ep_under rfl ep_size rfl rfl fun X hX => hX.2.2.2) (by assumption) ?_
      try simp only [Act.put, List.setIfInBounds_toArray, List.set_cons_zero, List.set_cons_succ]
      refine wpAnyH_ready (rs := [10, 11]) (by kernel_rfl) (by simp) ?_
      refine AllReadyH.cons (o := { dst := _, op := _, type := _, pos := _, after := _, guard := none }) rfl (fun K hK => ?_) (AllReadyH.cons (o := { dst := _, op := _, type := _, pos := _, after := _, guard := none }) rfl (fun K hK => ?_) AllReadyH.nil)
      · skip
        refine step_H rfl (step_newB hiE iE0 rfl) fun v w1 hh => ?_
        obtain ⟨ga, rfl, hga, ba, Ba⟩ := hh
        have Ba' : Below wr.drew.heap.size wr.drew w1 := by rw [hga]; exact Ba
        have ba : Blk w1 ga 75 #[Value.int .i64 0, .int .i64 0, .bool false, .slice none 0 0, .slice none 0 0] := ba
        have c6a := c6.keep Ba'
        have c8a := c8.keep Ba'
        have r1a := range_keep r1 lr1 Ba'
        have r2a := range_keep r2 lr2 Ba'
        have hsa := Ba'.size
        have KD1 := And.intro (mt_cell c6a hms) (And.intro (mt_cell c8a hms3) (And.intro r1a r2a))
        refine hK.out _ _ KD1 (fun hHeld => ?_)
        clear hK K
        try simp only [Act.put, List.setIfInBounds_toArray, List.set_cons_zero, List.set_cons_succ]
        refine wpAnyH_ready (rs := [11]) (by kernel_rfl) (by simp) ?_
        refine AllReadyH.cons (o := { dst := _, op := _, type := _, pos := _, after := _, guard := none }) rfl (fun K hK => ?_) AllReadyH.nil
        refine step_H rfl (step_newB hiE iE0 rfl) fun v w2 hh => ?_
        obtain ⟨gb, rfl, hgb, bb, Bb⟩ := hh
        have Bb' : Below w1.heap.size w1 w2 := by rw [hgb]; exact Bb
        have bb : Blk w2 gb 75 #[Value.int .i64 0, .int .i64 0, .bool false, .slice none 0 0, .slice none 0 0] := bb
        have c6b := c6a.keep Bb'
        have c8b := c8a.keep Bb'
        have ba2 := ba.keep Bb'
        have r1b := range_keep r1a (by omega) Bb'
        have r2b := range_keep r2a (by omega) Bb'
        have KD2 := And.intro (mt_cell c6b hms) (And.intro (mt_cell c8b hms3) (And.intro r1b r2b))
        have l1 := c6.lt
        have l2 := c8.lt
        have l3 := ba.lt
        refine hK.out _ _ KD2 (fun hHeld => ?_)
        clear hK K
        try simp only [Act.put, List.setIfInBounds_toArray, List.set_cons_zero, List.set_cons_succ]
        refine wpAnyH_ready (rs := [12]) (by kernel_rfl) (by simp) ?_
        refine AllReadyH.cons (o := { dst := _, op := _, type := _, pos := _, after := _, guard := none }) rfl (fun K hK => ?_) AllReadyH.nil
        refine step_H rfl (step_put (cells := epc u) 75 (.tmp 13) (.tmp 76) rfl rfl rfl ba2 (by rw [epc_len]; exact Nat.le_refl _) ep_size (List.all_eq_true.2 hone) rfl) fun v V1 hh => ?_
        obtain ⟨rfl, hV1, bV1⟩ := hh
        have c6c := hV1.blk c6b (by omega)
        have c8c := hV1.blk c8b (by omega)
        have bo2 := hV1.blk bb (by omega)
        have r1c : V1.rangeAt g (off + j * 5) (epc u) := fun q x hx => (World.cell?_of_block (hV1.other g (by omega))).trans (r1b q x hx)
        have r2c : V1.rangeAt g' (off' + j * 5) (epc u2) := fun q x hx => (World.cell?_of_block (hV1.other g' (by omega))).trans (r2b q x hx)
        have KD3 := And.intro (mt_cell c6c hms) (And.intro (mt_cell c8c hms3) (And.intro r1c r2c))
        refine hK.out _ _ KD3 (fun hHeld => ?_)
        clear hK K
        try simp only [Act.put, List.setIfInBounds_toArray, List.set_cons_zero, List.set_cons_succ]
        refine wpAnyH_ready (rs := [13]) (by kernel_rfl) (by simp) ?_
        refine AllReadyH.cons (o := { dst := _, op := _, type := _, pos := _, after := _, guard := none }) rfl (fun K hK => ?_) AllReadyH.nil
        refine step_H rfl (step_put (cells := epc u2) 75 (.tmp 14) (.tmp 81) rfl rfl rfl bo2 (by rw [epc_len]; exact Nat.le_refl _) ep_size (List.all_eq_true.2 hone2) rfl) fun v V2 hh => ?_
        obtain ⟨rfl, hV2, bV2⟩ := hh
        have c6d := hV2.blk c6c (by omega)
        have c8d := hV2.blk c8c (by omega)
        have b9 := hV2.blk bV1 (by omega)
        have r1d : V2.rangeAt g (off + j * 5) (epc u) := fun q x hx => (World.cell?_of_block (hV2.other g (by omega))).trans (r1c q x hx)
        have r2d : V2.rangeAt g' (off' + j * 5) (epc u2) := fun q x hx => (World.cell?_of_block (hV2.other g' (by omega))).trans (r2c q x hx)
        have KD4 := And.intro (mt_cell c6d hms) (And.intro (mt_cell c8d hms3) (And.intro r1d r2d))
        refine hK.out _ _ KD4 (fun hHeld => ?_)
        clear hK K
        try simp only [Act.put, List.setIfInBounds_toArray, List.set_cons_zero, List.set_cons_succ]
        refine wpAnyH_done (by kernel_rfl) ?_ _
        have hsz : wr.heap.size ≤ wr.drew.heap.size := (below_Dw wr).size
        have BY2 : Below wr.heap.size wr V2 := below_put (below_put (((below_Dw wr).trans (Ba'.mono hsz)).trans (Bb'.mono (by omega))) hV1 (by omega)) hV2 (by omega)
        have hq : ga ≠ gb ∧ wr.heap.size ≤ ga ∧ wr.heap.size ≤ gb := ⟨by omega, by omega, by omega⟩
        clear hHeld KD KD1 KD2 KD3 KD4 c6 c6a c6b c6c c6d c8 c8a c8b c8c c8d r1 r1a r1b r1c r1d r2 r2a r2b r2c r2d
        try simp only [Act.put, List.setIfInBounds_toArray, List.set_cons_succ, List.set_cons_zero]
        go_upto_region 15 with (fail)
        rename_i K1 hK1 K hK
        revert K
        revert K1
        exact KK.out ga gb V2 ⟨hq.1, hq.2.1, hq.2.2, show Blk V2 ga 75 (epc u).toArray from b9, show Blk V2 gb 75 (epc u2).toArray from bV2, BY2⟩
      · skip
        refine step_H rfl (step_newB hiE iE0 rfl) fun v w1 hh => ?_
        obtain ⟨ga, rfl, hga, ba, Ba⟩ := hh
        have Ba' : Below wr.drew.heap.size wr.drew w1 := by rw [hga]; exact Ba
        have ba : Blk w1 ga 75 #[Value.int .i64 0, .int .i64 0, .bool false, .slice none 0 0, .slice none 0 0] := ba
        have c6a := c6.keep Ba'
        have c8a := c8.keep Ba'
        have r1a := range_keep r1 lr1 Ba'
        have r2a := range_keep r2 lr2 Ba'
        have hsa := Ba'.size
        have KD1 := And.intro (mt_cell c6a hms) (And.intro (mt_cell c8a hms3) (And.intro r1a r2a))
        refine hK.out _ _ KD1 (fun hHeld => ?_)
        clear hK K
        try simp only [Act.put, List.setIfInBounds_toArray, List.set_cons_zero, List.set_cons_succ]
        refine wpAnyH_ready (rs := [10]) (by kernel_rfl) (by simp) ?_
        refine AllReadyH.cons (o := { dst := _, op := _, type := _, pos := _, after := _, guard := none }) rfl (fun K hK => ?_) AllReadyH.nil
        refine step_H rfl (step_newB hiE iE0 rfl) fun v w2 hh => ?_
        obtain ⟨gb, rfl, hgb, bb, Bb⟩ := hh
        have Bb' : Below w1.heap.size w1 w2 := by rw [hgb]; exact Bb
        have bb : Blk w2 gb 75 #[Value.int .i64 0, .int .i64 0, .bool false, .slice none 0 0, .slice none 0 0] := bb
        have c6b := c6a.keep Bb'
        have c8b := c8a.keep Bb'
        have ba2 := ba.keep Bb'
        have r1b := range_keep r1a (by omega) Bb'
        have r2b := range_keep r2a (by omega) Bb'
        have KD2 := And.intro (mt_cell c6b hms) (And.intro (mt_cell c8b hms3) (And.intro r1b r2b))
        have l1 := c6.lt
        have l2 := c8.lt
        have l3 := ba.lt
        refine hK.out _ _ KD2 (fun hHeld => ?_)
        clear hK K
        try simp only [Act.put, List.setIfInBounds_toArray, List.set_cons_zero, List.set_cons_succ]
        refine wpAnyH_ready (rs := [12]) (by kernel_rfl) (by simp) ?_
        refine AllReadyH.cons (o := { dst := _, op := _, type := _, pos := _, after := _, guard := none }) rfl (fun K hK => ?_) AllReadyH.nil
        refine step_H rfl (step_put (cells := epc u) 75 (.tmp 13) (.tmp 76) rfl rfl rfl bb (by rw [epc_len]; exact Nat.le_refl _) ep_size (List.all_eq_true.2 hone) rfl) fun v V1 hh => ?_
        obtain ⟨rfl, hV1, bV1⟩ := hh
        have c6c := hV1.blk c6b (by omega)
        have c8c := hV1.blk c8b (by omega)
        have bo2 := hV1.blk ba2 (by omega)
        have r1c : V1.rangeAt g (off + j * 5) (epc u) := fun q x hx => (World.cell?_of_block (hV1.other g (by omega))).trans (r1b q x hx)
        have r2c : V1.rangeAt g' (off' + j * 5) (epc u2) := fun q x hx => (World.cell?_of_block (hV1.other g' (by omega))).trans (r2b q x hx)
        have KD3 := And.intro (mt_cell c6c hms) (And.intro (mt_cell c8c hms3) (And.intro r1c r2c))
        refine hK.out _ _ KD3 (fun hHeld => ?_)
        clear hK K
        try simp only [Act.put, List.setIfInBounds_toArray, List.set_cons_zero, List.set_cons_succ]
        refine wpAnyH_ready (rs := [13]) (by kernel_rfl) (by simp) ?_
        refine AllReadyH.cons (o := { dst := _, op := _, type := _, pos := _, after := _, guard := none }) rfl (fun K hK => ?_) AllReadyH.nil
        refine step_H rfl (step_put (cells := epc u2) 75 (.tmp 14) (.tmp 81) rfl rfl rfl bo2 (by rw [epc_len]; exact Nat.le_refl _) ep_size (List.all_eq_true.2 hone2) rfl) fun v V2 hh => ?_
        obtain ⟨rfl, hV2, bV2⟩ := hh
        have c6d := hV2.blk c6c (by omega)
        have c8d := hV2.blk c8c (by omega)
        have b9 := hV2.blk bV1 (by omega)
        have r1d : V2.rangeAt g (off + j * 5) (epc u) := fun q x hx => (World.cell?_of_block (hV2.other g (by omega))).trans (r1c q x hx)
        have r2d : V2.rangeAt g' (off' + j * 5) (epc u2) := fun q x hx => (World.cell?_of_block (hV2.other g' (by omega))).trans (r2c q x hx)
        have KD4 := And.intro (mt_cell c6d hms) (And.intro (mt_cell c8d hms3) (And.intro r1d r2d))
        refine hK.out _ _ KD4 (fun hHeld => ?_)
        clear hK K
        try simp only [Act.put, List.setIfInBounds_toArray, List.set_cons_zero, List.set_cons_succ]
        refine wpAnyH_done (by kernel_rfl) ?_ _
        have hsz : wr.heap.size ≤ wr.drew.heap.size := (below_Dw wr).size
        have BY2 : Below wr.heap.size wr V2 := below_put (below_put (((below_Dw wr).trans (Ba'.mono hsz)).trans (Bb'.mono (by omega))) hV1 (by omega)) hV2 (by omega)
        have hq : gb ≠ ga ∧ wr.heap.size ≤ gb ∧ wr.heap.size ≤ ga := ⟨by omega, by omega, by omega⟩
        clear hHeld KD KD1 KD2 KD3 KD4 c6 c6a c6b c6c c6d c8 c8a c8b c8c c8d r1 r1a r1b r1c r1d r2 r2a r2b r2c r2d
        try simp only [Act.put, List.setIfInBounds_toArray, List.set_cons_succ, List.set_cons_zero]
        go_upto_region 15 with (fail)
        rename_i K1 hK1 K hK
        revert K
        revert K1
        exact KK.out gb ga V2 ⟨hq.1, hq.2.1, hq.2.2, show Blk V2 gb 75 (epc u).toArray from b9, show Blk V2 ga 75 (epc u2).toArray from bV2, BY2⟩
    intro g13 g14 X6 hX6 K1 hK1 K hK
    obtain ⟨hne, hg13, hg14, b13, b14, B6⟩ := hX6
    have hin6 := HIN.out.keep B6
    have hin6' := HIN2.out.keep B6
    have hBj := HBR.out.trans (B6.mono HBR.out.size)
    have HBZ6 := Lib.hid (HBZr.out.trans (B6.mono HBZr.out.size))
    have b9 := HB9r.out.keep B6
    have b3x := HB3.out.keep hBj
    rcases HOLD.out with ⟨hn1, hji, hab, hchg⟩ | ⟨hnot, hab⟩
    rotate_left 1
    · subst hab
      have HSE := rSameEp e e (fun _ _ _ _ => rfl) u u2 X6 hin6 hin6'
      rw [decide_eq_true rfl] at HSE
      refine wp_region_lit ?_
      refine wpList_plain rfl fun K71 hK71 => wp_of_step (stepAt_mono (fun v82 w82 hh => ?_) (step_loadR0 (cs := epc u) ep_under rfl ep_size rfl rfl (blk_range b13)))
      obtain ⟨rfl, rfl⟩ := hh
      refine hK71 _ _ ?_
      clear hK71 K71
      try simp only [Act.put, List.setIfInBounds_toArray, List.set_cons_succ, List.set_cons_zero]
      refine wpList_plain rfl fun K72 hK72 => wp_of_step (stepAt_mono (fun v83 w83 hh => ?_) (step_loadR0 (cs := epc u2) ep_under rfl ep_size rfl rfl (blk_range b14)))
      obtain ⟨rfl, rfl⟩ := hh
      refine hK72 _ _ ?_
      clear hK72 K72
      try simp only [Act.put, List.setIfInBounds_toArray, List.set_cons_succ, List.set_cons_zero]
      refine wpList_plain rfl fun K73 hK73 => wp_of_step (stepAt_mono (fun v84 w84 hh => ?_) (step_callv en_attestor_attestorref26_SameEpoch HSE rfl rfl))
      obtain ⟨rfl, B84⟩ := hh
      refine hK73 _ _ ?_
      clear hK73 K73
      try simp only [Act.put, List.setIfInBounds_toArray, List.set_cons_succ, List.set_cons_zero]
      have hBj2 := hBj.trans (B84.mono hBj.size)
      clear HSE B84 hin6 hin6' b9 b3x b13 b14
      try simp only [Act.put, List.setIfInBounds_toArray, List.set_cons_succ, List.set_cons_zero]
      go_wp2_with fail
      exact ⟨⟨j + 1, ch, by omega, rfl, by go_num, Lib.hid (by rw [chN_same hnot]; exact HCH.out), hch, hBj2⟩, by simp [intOf]; omega⟩
    obtain ⟨hHd, hcl, hop⟩ := hchg
    have HSE := rSameEp e e2 hHd u u2 X6 hin6 hin6'
    rw [decide_eq_false hab] at HSE
    subst hji
    have hc0 : ch = 0 := by
      rw [HCH.out]
      unfold chN
      rw [if_neg (by omega)]
    have hc1 : 1 = chN ne j (j + 1) := by
      rw [chN_new hn1, ← HCH.out, hc0]
    subst hc0
    have HC1 := Lib.hid hc1
    have HCL := Lib.hid hcl
    have HOP := Lib.hid hop
    obtain ⟨l1', c1', f1', ps1, k1⟩ := e
    obtain ⟨l2', c2', f2', ps2, k2⟩ := e2
    obtain ⟨l1, c1, f1, up1, uk1⟩ := u
    obtain ⟨l2, c2, f2, up2, uk2⟩ := u2
    obtain ⟨⟨q1, q2, q3⟩, hp1, -⟩ := hin6
    obtain ⟨⟨q4, q5, q6⟩, hp2, -⟩ := hin6'
    dsimp only at q1 q2 q3 q4 q5 q6 hp1 hp2
    subst q1 q2 q3 q4 q5 q6
    obtain ⟨Aa, ca, rfl⟩ := hp1.len
    obtain ⟨Ab, cb, rfl⟩ := hp2.len
    have hs1 := hp1.small
    have hs2 := hp2.small
    obtain ⟨pn1, hpn1⟩ : ∃ p, p = ps1.length := ⟨_, rfl⟩
    obtain ⟨pn2, hpn2⟩ : ∃ p, p = ps2.length := ⟨_, rfl⟩
    rw [← hpn1] at b13 HSE hp1 hs1
    rw [← hpn2] at b14 HSE hp2 hs2
    refine wp_region_lit ?_
    refine wpList_plain rfl fun K75 hK75 => wp_of_step (stepAt_mono (fun v82 w82 hh => ?_) (step_loadR0 (cs := epc ⟨l1, c1, f1, .slice Aa pn1 ca, uk1⟩) ep_under rfl ep_size rfl rfl (blk_range b13)))
    obtain ⟨rfl, rfl⟩ := hh
    refine hK75 _ _ ?_
    clear hK75 K75
    try simp only [Act.put, List.setIfInBounds_toArray, List.set_cons_succ, List.set_cons_zero]
    refine wpList_plain rfl fun K76 hK76 => wp_of_step (stepAt_mono (fun v83 w83 hh => ?_) (step_loadR0 (cs := epc ⟨l2, c2, f2, .slice Ab pn2 cb, uk2⟩) ep_under rfl ep_size rfl rfl (blk_range b14)))
    obtain ⟨rfl, rfl⟩ := hh
    refine hK76 _ _ ?_
    clear hK76 K76
    try simp only [Act.put, List.setIfInBounds_toArray, List.set_cons_succ, List.set_cons_zero]
    refine wpList_plain rfl fun K77 hK77 => wp_of_step (stepAt_mono (fun v84 w84 hh => ?_) (step_callv en_attestor_attestorref26_SameEpoch HSE rfl rfl))
    obtain ⟨rfl, B84⟩ := hh
    refine hK77 _ _ ?_
    clear hK77 K77
    try simp only [Act.put, List.setIfInBounds_toArray, List.set_cons_succ, List.set_cons_zero]
    have b13w := b13.keep B84
    have b14w := b14.keep B84
    have b9w := b9.keep B84
    have b3w := b3x.keep B84
    have HPA := Lib.hid (hp1.keep B84)
    have HPB := Lib.hid (hp2.keep B84)
    have HBJ := Lib.hid (hBj.trans (B84.mono hBj.size))
    have HPN1 := Lib.hid hpn1
    have HPN2 := Lib.hid hpn2
    have HB13 := Lib.hid b13w
    have HB14 := Lib.hid b14w
    have c131 : w84.cell? ⟨g13, 1, none⟩ = some (.int .i64 (c1 : Int)) := (b13w.cell 1).trans rfl
    have c132 : w84.cell? ⟨g13, 2, none⟩ = some (.bool f1) := (b13w.cell 2).trans rfl
    have c133 : w84.cell? ⟨g13, 3, none⟩ = some (.slice Aa pn1 ca) := (b13w.cell 3).trans rfl
    have c141 : w84.cell? ⟨g14, 1, none⟩ = some (.int .i64 (c2 : Int)) := (b14w.cell 1).trans rfl
    have c142 : w84.cell? ⟨g14, 2, none⟩ = some (.bool f2) := (b14w.cell 2).trans rfl
    have c143 : w84.cell? ⟨g14, 3, none⟩ = some (.slice Ab pn2 cb) := (b14w.cell 3).trans rfl
    have l13 := b13w.lt
    have l14 := b14w.lt
    have l9 := b9w.lt
    have c93 := mt_cell b9w hms
    have c30 : w84.cell? ⟨g1 + 1, 0, none⟩ = some (.int .u8 (o.kind : Int)) := (b3w.cell 0).trans rfl
    have l30 := b3w.lt
    clear HSE B84 b9 b3x b13 b14 b13w b14w b9w b3w hp1 hp2 hBj hc1 hcl hop hpn1 hpn2 hab hHd
    try simp only [Act.put, List.setIfInBounds_toArray, List.set_cons_succ, List.set_cons_zero]
    go_upto_region 17 with (fail)
    cases f1 with
    | false =>
      have hjn : j = n - 1 := by
        have := HOP.out rfl
        have h2 := HML.out
        rw [h2] at this
        exact of_decide_eq_true this
      have hjz : ((j : Int) != (n : Int) - 1) = false := by rw [bne_eq_false_iff_eq]; omega
      have hw1 : wrap64 ((n : Int) - 1) = (n : Int) - 1 := by unfold wrap64; omega
      clear hjn
      go_upto_region 20 with (fail)
      obtain ⟨wo, hwo⟩ : ∃ wo, wo = wr := ⟨_, rfl⟩
      subst hwo
      go_loopw [15] (fun i wq => i = .int .i64 0 ∧ wq = w84) (fun _ _ => 0)
      case atStart => exact ⟨rfl, rfl⟩
      case round =>
        obtain ⟨rfl, rfl⟩ := hrel
        go_wp2_with fail
        exact ⟨⟨j + 1, 1, by omega, by go_num, by go_num, HC1, by omega, HBJ.out⟩, by simp [intOf]; omega⟩
    | true =>
      obtain ⟨hf2, hcc, hpl, hkd, hpts⟩ := HCL.out rfl
      dsimp only at hf2 hcc hpl hpts
      subst hf2 hcc
      have hpl2 : pn1 = pn2 := by rw [HPN1.out, HPN2.out]; exact hpl
      subst hpl2
      have HPS := Lib.hid hpts
      clear hpts hpl
      go_upto_region 20 with (fail)
      clear c131 c132 c133 c141 c142 c143 l13 l14 c30 l30 c93 l9 hkd
      obtain ⟨wo, hwo⟩ : ∃ wo, wo = wr := ⟨_, rfl⟩
      subst hwo
      go_loopw [15] (fun i wr => ∃ k : Nat, k ≤ pn1 ∧ i = .int .i64 k ∧ Below w84.heap.size w84 wr) (fun i _ => pn1 - (intOf i).toNat)
      case atStart => exact ⟨0, Nat.zero_le _, rfl, Below.refl _ _⟩
      case round =>
        obtain ⟨k, hk, rfl, hBk⟩ := hrel
        have b13 := HB13.out.keep hBk
        have b14 := HB14.out.keep hBk
        have c132 : wr.cell? ⟨g13, 2, none⟩ = some (.bool true) := (b13.cell 2).trans rfl
        have c133 : wr.cell? ⟨g13, 3, none⟩ = some (.slice Aa pn1 ca) := (b13.cell 3).trans rfl
        have c143 : wr.cell? ⟨g14, 3, none⟩ = some (.slice Ab pn1 cb) := (b14.cell 3).trans rfl
        have l13 := b13.lt
        have l14 := b14.lt
        by_cases hkp : k < pn1
        rotate_left 1
        · obtain rfl : k = pn1 := by omega
          have hBe := HBJ.out.trans (hBk.mono HBJ.out.size)
          clear hBk b13 b14
          go_wp2_with fail
          exact ⟨⟨j + 1, 1, by omega, by go_num, by go_num, HC1, by omega, hBe⟩, by simp [intOf]; omega⟩
        obtain ⟨p, hp⟩ : ∃ p, ps1[k]? = some p := ⟨_, List.getElem?_eq_getElem (by rw [← HPN1.out]; exact hkp)⟩
        obtain ⟨q, hq⟩ : ∃ p, ps2[k]? = some p := ⟨_, List.getElem?_eq_getElem (by rw [← HPN2.out]; exact hkp)⟩
        obtain ⟨ga, oa, caa, ra, va, hv, -, hga, -, y1, y2, -, hVa⟩ := (HPA.out.keep hBk).at hp
        rw [← HPN1.out] at hv
        cases hv
        obtain ⟨gc, oc, cc, rc, vc, hv, -, hgc, -, z1, z2, -, hVc⟩ := (HPB.out.keep hBk).at hq
        rw [← HPN2.out] at hv
        cases hv
        obtain ⟨hVV, hUU⟩ := HPS.out k p q hp hq
        rw [← hVV] at hVc
        have SV := Lib.hid (show ∀ W1, Below wr.heap.size wr W1 → Calls Tryz.prog 38 #[va, vc] W1 (Ret (.bool true) W1) from fun W1 hW => by
          have := rSame2 p.V p.V va vc _ _ _ _ W1 (RdA.keep hVa hW) (RdA.keep hVc hW)
          rwa [decide_eq_true rfl] at this)
        have f2 := gw_cell (W := wr) l13 c133
        have f3 := gw_cell (W := wr) l14 c143
        have m1 := gw_cell (W := wr) hga y1
        have m2' := gw_cell (W := wr) hga y2
        have n1 := gw_cell (W := wr) hgc z1
        have n2' := gw_cell (W := wr) hgc z2
        have HBK := Lib.hid hBk
        obtain ⟨pu, hpu⟩ : ∃ b, b = p.used := ⟨_, rfl⟩
        obtain ⟨qu, hqu⟩ : ∃ b, b = q.used := ⟨_, rfl⟩
        rw [← hpu] at m2' hUU
        rw [← hqu] at n2' hUU
        clear y1 y2 z1 z2 hVa hVc hp hq hVV hBk b13 b14 hpu hqu
        go_upto_region 22 with (fail)
        cases pu with
        | false =>
          refine wp_region_rg 31 [(12, Spec.val (.bool true))] (by kernel_rfl) (by kernel_rfl) (by kernel_rfl) trivial ?_
          iterate 12 (refine rg_det rfl rfl rfl (fun K hK => ?_); go_big_quiet_op; refine hK _ ?_; clear hK K)
          refine rg_val rfl rfl (fun W1 hW1 hF => step_callv en_attestor_attestorref02_Same (SV.out W1 (grw_below hW1)) rfl rfl) ?_
          intro a' ha
          simp only [Act.put, List.setIfInBounds_toArray, List.set_cons_succ, List.set_cons_zero] at ha
          subst ha
          iterate 9 (refine rg_det rfl rfl rfl (fun K hK => ?_); go_big_quiet_op; refine hK _ ?_; clear hK K)
          iterate 7 (refine rg_skip (by kernel_rfl) ?_; intro a' ha; simp only [Act.put, List.setIfInBounds_toArray, List.set_cons_succ, List.set_cons_zero] at ha; subst ha)
          iterate 2 (refine rg_det rfl rfl rfl (fun K hK => ?_); go_big_quiet_op; refine hK _ ?_; clear hK K)
          refine rg_nil (fun w' hw' hF => ?_)
          obtain ⟨z, rfl⟩ := hw'
          simp only [List.drop_succ_cons, List.drop_zero]
          clear hF
          go_wp2_with fail
          exact ⟨⟨k + 1, by omega, by go_num, HBK.out.trans (z.h.mono HBK.out.size)⟩, by simp [intOf]; omega⟩
        | true =>
          obtain rfl : qu = true := hUU rfl
          refine wp_region_rg 31 [(12, Spec.val (.bool true))] (by kernel_rfl) (by kernel_rfl) (by kernel_rfl) trivial ?_
          iterate 12 (refine rg_det rfl rfl rfl (fun K hK => ?_); go_big_quiet_op; refine hK _ ?_; clear hK K)
          refine rg_val rfl rfl (fun W1 hW1 hF => step_callv en_attestor_attestorref02_Same (SV.out W1 (grw_below hW1)) rfl rfl) ?_
          intro a' ha
          simp only [Act.put, List.setIfInBounds_toArray, List.set_cons_succ, List.set_cons_zero] at ha
          subst ha
          iterate 18 (refine rg_det rfl rfl rfl (fun K hK => ?_); go_big_quiet_op; refine hK _ ?_; clear hK K)
          refine rg_nil (fun w' hw' hF => ?_)
          obtain ⟨z, rfl⟩ := hw'
          simp only [List.drop_succ_cons, List.drop_zero]
          clear hF
          go_wp2_with fail
          exact ⟨⟨k + 1, by omega, by go_num, HBK.out.trans (z.h.mono HBK.out.size)⟩, by simp [intOf]; omega⟩
end Go.Proofs.YtoiampgfnidfdaaGreatDoor
