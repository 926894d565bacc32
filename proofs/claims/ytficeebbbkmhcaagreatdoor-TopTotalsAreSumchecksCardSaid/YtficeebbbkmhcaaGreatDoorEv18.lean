/-
  The reference's Take and Retract of a stream.
  Plain mathematics, no program: the total of a column over the live readings as a sum of products.
  The iterator over the live readings of a stream.
  The live readings of a stream.
  The value of a column of a reading; its square.
  Match: no condition; the fixed condition.
-/
import Derived.Test.YtficeebbbkmhcaaGreatDoorStm26
import Derived.Test.YtficeebbbkmhcaaGreatDoorFw26
import Derived.Test.YtficeebbbkmhcaaGreatDoorGrow
namespace Go.Proofs.YtficeebbbkmhcaaGreatDoor
open Go.RowKit

theorem en_attestor_attestorref12_Take : ∀ args w, (callFunc 21 args).run Tryz.prog w = .ok (.enter 21 args) w := enters_of Tryz.func21 (by kernel_rfl) rfl
theorem en_attestor_attestorref12_Retract : ∀ args w, (callFunc 20 args).run Tryz.prog w = .ok (.enter 20 args) w := enters_of Tryz.func20 (by kernel_rfl) rfl
theorem rdl_slice : Tryz.prog.underlying 25 = some (.slice 69) := by kernel_rfl
theorem gnl_slice : Tryz.prog.underlying 26 = some (.slice 4) := by kernel_rfl
theorem rd_info26 : (Tryz.prog.info? 69).map (fun i => (i.zero, i.size, i.bytes)) = some (some (.agg #[.int .i64 0, .int .i64 0, .int .i64 0, .int .i64 0]), 4, 32) := by kernel_rfl
theorem bo_info26 : (Tryz.prog.info? 4).map (fun i => (i.zero, i.size, i.bytes)) = some (some (.bool false), 1, 1) := by kernel_rfl
theorem strm_under : Tryz.prog.underlying 28 = some (.struct (Tryz.prog.fieldsOf 28)) := by kernel_rfl
theorem strm_size : (Tryz.prog.info? 28).map (·.size) = some 2 := by kernel_rfl
theorem own_grown26 {base n size : Nat} {e : TypeId} {v : Value} {xs : List Value} {w X : World} {row : Option Nat} (h : w.ownsRow base e size v n xs) (hg : w.grownBy X row) (hv : ∀ g, v.ownBlock = some g → row ≠ some g) : X.ownsRow base e size v n xs := by
  obtain ⟨h1, h2⟩ := h
  refine ⟨h1, h2.imp id ?_⟩
  rintro ⟨g, cap, cur, rfl, q2, q3, q4⟩
  exact ⟨g, cap, cur, rfl, q2, (hg.block g (Array.getElem?_eq_some_iff.1 q3).1 (fun e => hv g rfl e.symm)).trans q3, q4⟩
theorem own_keepB {base n size hi : Nat} {e : TypeId} {v : Value} {xs : List Value} {w X : World} (h : w.ownsRow base e size v n xs) (hb : Below hi w X) (hv : ∀ g, v.ownBlock = some g → g < hi) : X.ownsRow base e size v n xs := by
  obtain ⟨h1, h2⟩ := h
  refine ⟨h1, h2.imp id ?_⟩
  rintro ⟨g, cap, cur, rfl, q2, q3, q4⟩
  exact ⟨g, cap, cur, rfl, q2, (hb.block g (hv g rfl)).trans q3, q4⟩
attribute [local irreducible] wpRg
set_option maxRecDepth 100000 in
set_option maxHeartbeats 4000000 in
theorem gTakeS (s : Stm) (hs : s.length ≤ 1000) (r : Rdg) (hr : r.ok) (hri : RdgIn r) (bs : Bse) (w : World) (hw : bs.ok w) (x : StrW) (hx : StrIB bs x s) : Calls Tryz.prog 21 #[.agg (smc x).toArray, rdV r] w fun e W2 => ∃ x' : StrW, e = .returned (.tuple #[.agg (smc x').toArray, .int .i64 0]) ∧ StrIB (bs.new w W2) x' (s ++ [(r, false)]) ∧ Below w.heap.size w W2 := by
  obtain ⟨⟨Al, cl, hl⟩, ⟨Ag, cg, hg⟩⟩ := hx.len
  obtain ⟨xl, xg⟩ := x
  dsimp only at hl hg
  obtain ⟨n, hn⟩ : ∃ n, n = s.length := ⟨_, rfl⟩
  rw [← hn] at hl hg hs
  have HN := Lib.hid hn
  clear hn
  subst hl
  subst hg
  have HX := Lib.hid hx
  have HW := Lib.hid hw
  have HR := Lib.hid hr
  have HRI := Lib.hid hri
  obtain ⟨Sr, hSr⟩ : ∃ S, S = rdV r := ⟨_, rfl⟩
  rw [← hSr]
  unfold smc
  dsimp only
  clear hx hw hr hri
  go_enter Tryz.func21, Tryz.ntmps21
  go_upto_region 1 with (fail)
  refine wp_stk3 fun W hB hz b2 b3 b4 => ?_
  have b3' : Blk W (w.heap.size + 1) 69 (rdc r).toArray := by first | exact b3 | (rw [hSr] at b3; exact b3)
  have hWs : w.heap.size + 3 ≤ W.heap.size := by have := hz.out; omega
  clear b3 hz hSr
  refine wp_region_lit ?_
  refine wpList_plain rfl fun K1 hK1 => wp_of_step (stepAt_mono (fun v8 w8 hh => ?_) (step_loadR0 (cs := rdc r) rd_under rfl rd_size rfl rfl (blk_range b3')))
  obtain ⟨rfl, rfl⟩ := hh
  refine hK1 _ _ ?_
  clear hK1 K1
  try simp only [Act.put, List.setIfInBounds_toArray, List.set_cons_succ, List.set_cons_zero]
  have hval := rValid12 r HRI.out w8
  rw [decide_eq_true HR.out] at hval
  refine wpList_plain rfl fun K2 hK2 => wp_of_step (stepAt_mono (fun v9 w9 hh => ?_) (step_callv en_attestor_attestorref12_Valid hval rfl rfl))
  obtain ⟨rfl, B9⟩ := hh
  refine hK2 _ _ ?_
  clear hK2 K2
  try simp only [Act.put, List.setIfInBounds_toArray, List.set_cons_succ, List.set_cons_zero]
  have b2w := b2.keep B9
  have b3w := b3'.keep B9
  have b4w := b4.keep B9
  have hBw := hB.trans (B9.mono hB.size)
  have hw9 := B9.size
  have c2 := b2w.cell
  have l2 := b2w.lt
  have c20 := c2 0
  simp only [List.getElem?_toArray, List.getElem?_cons_zero] at c20
  obtain ⟨g2, hg2⟩ : ∃ g, g = w.heap.size := ⟨_, rfl⟩
  rw [← hg2] at b2w b3w b4w c20 l2 ⊢
  have HG2 := Lib.hid hg2
  have HWS := Lib.hid hWs
  have HW9 := Lib.hid hw9
  clear hval B9 b2 b3' b4 hB c2 hg2 hWs hw9
  try simp only [Act.put, List.setIfInBounds_toArray, List.set_cons_succ, List.set_cons_zero]
  have hge : decide ((65536 : Int) ≤ (n : Int)) = false := by simp; omega
  go_upto_region 5 with (fail)
  refine wp_region_lit ?_
  obtain ⟨iR, hiR, iR0, iR1, iR2⟩ := info_parts rd_info26
  obtain ⟨iB, hiB, iB0, iB1, iB2⟩ := info_parts bo_info26
  obtain ⟨N, hN⟩ : ∃ N, N = w.heap.size + 3 := ⟨_, rfl⟩
  have hN9 : N ≤ w9.heap.size := by have := HWS.out; have := HW9.out; omega
  have HNE := Lib.hid hN
  have c21 : w9.cell? ⟨g2, 1, none⟩ = some (.slice Ag n cg) := (b2w.cell 1).trans rfl
  clear hge hN
  iterate 1 (refine wpList_plain rfl fun K hK => ?_; go_big_op; refine hK _ _ ?_; clear hK K)
  refine stk1 (M := fun W => wpList _ _ _ _ _ W) fun W10 hB10 hz10 b17 => ?_
  have own17 : W10.ownsRow N 69 4 (.slice (some ⟨w9.heap.size, 0, none⟩) 0 0) 0 [] := ⟨rfl, .inr ⟨w9.heap.size, 0, #[], rfl, hN9, b17, Nat.le_refl _, Nat.zero_le _, rfl, rfl⟩⟩
  have d0 := (hB10.cell (p := ⟨g2, 0, none⟩) l2).trans c20
  have d1 := (hB10.cell (p := ⟨g2, 1, none⟩) l2).trans c21
  have l2a := Nat.lt_of_lt_of_le l2 hB10.size
  have hBa := hBw.trans (hB10.mono hBw.size)
  have hNa : N ≤ W10.heap.size := Nat.le_trans hN9 hB10.size
  have b3a := b3w.keep hB10
  have b4a := b4w.keep hB10
  have hr1 := HX.out.1 W10 (HW.out.below hBa)
  clear hz10 b17 c20 c21 b2w b3w b4w hB10 hBw
  dsimp only at hr1
  rw [← HN.out] at hr1
  iterate 2 (refine wpList_plain rfl fun K hK => ?_; go_big_op; refine hK _ _ ?_; clear hK K)
  refine wpList_appB (base := N) (cl := rdsc s) (cs := []) rfl (.tmp 17) (.tmp 19) rfl rdl_slice hiR iR0 iR1 iR2 rfl (by decide) (rdsc_one s) rfl rfl hr1 own17 (by unfold maxLen; omega) (by omega) hNa fun v20 w20 own20 gr20 B20 => ?_
  rw [Nat.zero_add, List.nil_append] at own20
  obtain ⟨A20, k20, rfl⟩ := own_lenR own20
  have hg2N : g2 < N := by have := HNE.out; have := HG2.out; omega
  have d1b := (B20.cell (p := ⟨g2, 1, none⟩) hg2N).trans d1
  have l2b := Nat.lt_of_lt_of_le l2a B20.size
  have hBb : Below w.heap.size w w20 := hBa.trans (B20.mono (by have := HNE.out; omega))
  have hNb : N ≤ w20.heap.size := Nat.le_trans hNa B20.size
  have b3b := b3a.below B20 (by have := HNE.out; have := HG2.out; omega)
  have b4b := b4a.below B20 (by have := HNE.out; have := HG2.out; omega)
  clear hr1 own17 gr20 B20 d0 d1 l2a b3a b4a hBa
  have HO20 := Lib.hid own20
  have HO20w := Lib.hid own20
  clear own20
  try simp only [Act.put, List.setIfInBounds_toArray, List.set_cons_succ, List.set_cons_zero]
  go_upto_region 6 with (fail)
  refine wp_region_lit ?_
  iterate 1 (refine wpList_plain rfl fun K hK => ?_; go_big_op; refine hK _ _ ?_; clear hK K)
  refine stk1 (M := fun W => wpList _ _ _ _ _ W) fun W11 hB11 hz11 b21 => ?_
  have own21 : W11.ownsRow w20.heap.size 4 1 (.slice (some ⟨w20.heap.size, 0, none⟩) 0 0) 0 [] := ⟨rfl, .inr ⟨w20.heap.size, 0, #[], rfl, Nat.le_refl _, b21, Nat.le_refl _, Nat.zero_le _, rfl, rfl⟩⟩
  have d1c := (hB11.cell (p := ⟨g2, 1, none⟩) l2b).trans d1b
  have l2c := Nat.lt_of_lt_of_le l2b hB11.size
  have hBc := hBb.trans (hB11.mono hBb.size)
  have HO20c := Lib.hid (own_below HO20.out (Nat.le_refl _) hB11)
  have b3c := b3b.keep hB11
  have b4c := b4b.keep hB11
  have hr2 := HX.out.2 W11 (HW.out.below hBc)
  have hNc := hB11.size
  clear hz11 b21 d1b b3b b4b hB11 hBb HO20
  dsimp only at hr2
  rw [← HN.out] at hr2
  iterate 2 (refine wpList_plain rfl fun K hK => ?_; go_big_op; refine hK _ _ ?_; clear hK K)
  refine wpList_appB (base := w20.heap.size) (cl := gnc s) (cs := []) rfl (.tmp 21) (.tmp 23) rfl gnl_slice hiB iB0 iB1 iB2 rfl (by decide) (gnc_one s) rfl rfl hr2 own21 (by unfold maxLen; omega) (by omega) hNc fun v24 w24 own24 gr24 B24 => ?_
  rw [Nat.zero_add, List.nil_append] at own24
  obtain ⟨A24, k24, rfl⟩ := own_lenR own24
  have hBd : Below w.heap.size w w24 := hBc.trans (B24.mono (by have := HNE.out; omega))
  have own20d : w24.ownsRow N 69 4 (.slice A20 n k20) n (rdsc s) := own_keepB HO20c.out B24 (fun g hg => (own_block HO20w.out hg).2)
  have b3d := b3c.below B24 (by have := HNE.out; have := HG2.out; omega)
  have b4d := b4c.below B24 (by have := HNE.out; have := HG2.out; omega)
  have hNd : w20.heap.size ≤ w24.heap.size := Nat.le_trans hNc B24.size
  clear hr2 own21 gr24 d1c l2c b3c b4c hBc
  have HO24 := Lib.hid own24
  have HO20d := Lib.hid own20d
  clear own24 own20d
  try simp only [Act.put, List.setIfInBounds_toArray, List.set_cons_succ, List.set_cons_zero]
  go_upto_region 7 with (fail)
  refine wp_region_lit ?_
  iterate 1 (refine wpList_plain rfl fun K hK => ?_; go_big_op; refine hK _ _ ?_; clear hK K)
  refine wpList_plain rfl fun K11 hK11 => wp_of_step (stepAt_mono (fun v26 w26 hh => ?_) (step_loadR0 (cs := rdc r) rd_under rfl rd_size rfl rfl (blk_range b3d)))
  obtain ⟨rfl, rfl⟩ := hh
  refine hK11 _ _ ?_
  clear hK11 K11
  try simp only [Act.put, List.setIfInBounds_toArray, List.set_cons_succ, List.set_cons_zero]
  refine wpList_plain rfl fun K12 hK12 => wp_of_step (stepAt_mono (fun v27 w27 hh => ?_) (step_lit1 (cs := (rdc r).toArray) rdl_slice hiR iR0 iR1 (by decide) (by decide) rfl rfl rfl))
  obtain ⟨⟨rfl, hl27, b27⟩, B27⟩ := hh
  refine hK12 _ _ ?_
  clear hK12 K12
  try simp only [Act.put, List.setIfInBounds_toArray, List.set_cons_succ, List.set_cons_zero]
  have o20 := own_below HO20d.out (Nat.le_refl _) B27
  have o24 := own_below HO24.out (Nat.le_refl _) B27
  have b4e := b4d.keep B27
  have hBe := hBd.trans (B27.mono hBd.size)
  have hNe : w20.heap.size ≤ w27.heap.size := Nat.le_trans hNd B27.size
  have h24 : ∀ g, (Value.slice A24 n k24).ownBlock = some g → w20.heap.size ≤ g ∧ g < w26.heap.size := fun g hg => own_block HO24.out hg
  have h20 : ∀ g, (Value.slice A20 n k20).ownBlock = some g → N ≤ g ∧ g < w20.heap.size := fun g hg => own_block HO20w.out hg
  have H24 := Lib.hid h24
  have H20 := Lib.hid h20
  have hg2w : g2 + 2 < N := by have := HNE.out; have := HG2.out; omega
  clear h24 h20 HO24 HO20d b3d b4d hBd hNd
  refine wpList_app3 (u := .slice A20 n k20) (base := N) (n := w26.heap.size) (cl := rdc r) (cs := rdsc s) rfl (.tmp 25) (.tmp 27) rfl rdl_slice hiR iR0 iR1 iR2 rfl (by decide) rfl (fun v hv => by simp only [rdc, List.mem_cons, List.not_mem_nil, or_false] at hv; rcases hv with rfl | rfl | rfl | rfl <;> rfl) rfl rfl o20 b27 (by unfold maxLen; omega) (by omega) (by omega) fun v28 w28 own28 gr28 B28 hat28 => ?_
  obtain ⟨A28, k28, rfl⟩ := own_lenR own28
  have b4f := b4e.below B28 (by omega)
  have hBf := hBe.trans (B28.mono (by have := HNE.out; omega))
  have o24f := own_grown26 o24 gr28 (fun g hg e => by have := (H20.out g e).2; have := (H24.out g hg).1; omega)
  have h27 := B27.size
  have h28 := B28.size
  have hat : ∀ g, (Value.slice A28 (n + 1) k28).ownBlock = some g → N ≤ g ∧ (g < w20.heap.size ∨ w26.heap.size ≤ g) := fun g hg => ⟨(own_block own28 hg).1, by
    rcases hat28 with h | h
    · exact .inl (H20.out g (by rw [← h]; exact hg)).2
    · rw [h] at hg; cases hg; exact .inr h27⟩
  have HAT := Lib.hid hat
  have HO28 := Lib.hid own28
  have HO24f := Lib.hid o24f
  clear o20 o24 b4e hBe b27 hl27 B27 gr28 B28 hat28 hat own28 o24f
  try simp only [Act.put, List.setIfInBounds_toArray, List.set_cons_succ, List.set_cons_zero]
  iterate 1 (refine wpList_plain rfl fun K hK => ?_; go_big_op; refine hK _ _ ?_; clear hK K)
  refine wpList_plain rfl fun K15 hK15 => wp_of_step (stepAt_mono (fun v30 w30 hh => ?_) (step_lit1 (cs := #[.bool false]) gnl_slice hiB iB0 iB1 (by decide) (by decide) rfl rfl rfl))
  obtain ⟨⟨rfl, hl30, b30⟩, B30⟩ := hh
  refine hK15 _ _ ?_
  clear hK15 K15
  try simp only [Act.put, List.setIfInBounds_toArray, List.set_cons_succ, List.set_cons_zero]
  have o28 := own_below HO28.out (Nat.le_refl _) B30
  have o24 := own_below HO24f.out (Nat.le_refl _) B30
  have b4g := b4f.keep B30
  have hBg := hBf.trans (B30.mono hBf.size)
  have h30 := B30.size
  refine wpList_app3 (u := .slice A24 n k24) (base := w20.heap.size) (n := w28.heap.size) (cl := [.bool false]) (cs := gnc s) rfl (.tmp 29) (.tmp 30) rfl gnl_slice hiB iB0 iB1 iB2 rfl (by decide) rfl (fun v hv => by rw [List.mem_singleton.1 hv]; rfl) rfl rfl o24 b30 (by unfold maxLen; omega) (by omega) (by omega) fun v31 w31 own31 gr31 B31 hat31 => ?_
  obtain ⟨A31, k31, rfl⟩ := own_lenR own31
  have o28f := own_grown26 o28 gr31 (fun g hg e => by have := H24.out g e; have := HAT.out g hg; omega)
  have b4h := b4g.below B31 (by omega)
  have hBh := hBg.trans (B31.mono (by have := HNE.out; omega))
  have HO28f := Lib.hid o28f
  have HO31 := Lib.hid own31
  have hw20N : N ≤ w20.heap.size := hNb
  clear o28 o24 b4g hBg b30 hl30 B30 gr31 B31 hat31 own31 o28f HO28 HO24f b4f hBf
  try simp only [Act.put, List.setIfInBounds_toArray, List.set_cons_succ, List.set_cons_zero]
  iterate 1 (refine wpList_plain rfl fun K hK => ?_; go_big_op; refine hK _ _ ?_; clear hK K)
  refine wpList_put rfl 28 (.tmp 4) (.tmp 32) rfl rfl (cells := [.slice A28 (n + 1) k28, .slice A31 (n + 1) k31]) rfl b4h (by simp) strm_size rfl rfl fun X hX bX => ?_
  have hBX := below_put hBh hX (by have := HG2.out; omega)
  have p28 := own_putN26 HO28f.out hX (fun e => by have := (HAT.out _ e).1; omega)
  have p31 := own_putN26 HO31.out hX (fun e => by have := (own_block HO31.out e).1; omega)
  have P28 := Lib.hid p28
  have P31 := Lib.hid p31
  clear hX b4h hBh p28 p31
  try simp only [Act.put, List.setIfInBounds_toArray, List.set_cons_succ, List.set_cons_zero]
  go_wp2_with fail
  refine bodyPost_ret (v := .tuple #[.agg #[.slice A28 (n + 1) k28, .slice A31 (n + 1) k31], .int .i64 0]) (res_mt (c1 := [.slice A28 (n + 1) k28, .slice A31 (n + 1) k31]) (g1 := g2 + 1 + 1) rfl rfl rfl strm_under rfl strm_size bX) rfl ⟨⟨.slice A28 (n + 1) k28, .slice A31 (n + 1) k31⟩, rfl, ?_, hBX⟩
  have hw0 : w.heap.size ≤ N := by have := HNE.out; omega
  refine ⟨?_, ?_⟩
  · rw [show rdsc (s ++ [(r, false)]) = rdsc s ++ rdc r by simp [rdsc], List.length_append, ← HN.out]
    show RdB _ 4 _ (n + 1) _
    exact own_rdB P28.out (by omega) (fun g hg => .inr (by omega))
  · rw [show gnc (s ++ [(r, false)]) = gnc s ++ [.bool false] by simp [gnc], List.length_append, ← HN.out]
    show RdB _ 1 _ (n + 1) _
    exact own_rdB P31.out (by omega) (fun g hg => .inr (by omega))
theorem gnc_set (s : Stm) (i : Nat) (r : Rdg) : (gnc s).set i (.bool true) = gnc (s.set i (r, true)) := by
  unfold gnc
  rw [List.map_set]
theorem rdsc_set (s : Stm) (i : Nat) (r : Rdg) (h : s[i]? = some (r, false)) : rdsc (s.set i (r, true)) = rdsc s := by
  unfold rdsc
  rw [List.flatMap_def, List.flatMap_def, List.map_set]
  congr 1
  refine set_self26 _ _ _ ?_
  rw [List.getElem?_map, h]
  rfl
set_option maxRecDepth 100000 in
set_option maxHeartbeats 4000000 in
theorem gRetrS (s : Stm) (hs : s.length ≤ 1000) (i : Nat) (r : Rdg) (hi : s[i]? = some (r, false)) (bs : Bse) (w : World) (hw : bs.ok w) (x : StrW) (hx : StrIB bs x s) : Calls Tryz.prog 20 #[.agg (smc x).toArray, .int .i64 (i : Int)] w fun e W2 => ∃ x' : StrW, e = .returned (.tuple #[.agg (smc x').toArray, .int .i64 0]) ∧ StrIB (bs.new w W2) x' (s.set i (r, true)) ∧ Below w.heap.size w W2 := by
  obtain ⟨⟨Al, cl, hl⟩, ⟨Ag, cg, hg⟩⟩ := hx.len
  obtain ⟨xl, xg⟩ := x
  dsimp only at hl hg
  have hil : i < s.length := (List.getElem?_eq_some_iff.1 hi).1
  obtain ⟨n, hn⟩ : ∃ n, n = s.length := ⟨_, rfl⟩
  rw [← hn] at hl hg hs hil
  have HN := Lib.hid hn
  clear hn
  subst hl
  subst hg
  have HX := Lib.hid hx
  have HW := Lib.hid hw
  have HI := Lib.hid hi
  unfold smc
  dsimp only
  clear hx hw hi
  go_enter Tryz.func20, Tryz.ntmps20
  go_upto_region 1 with (fail)
  refine wp_stk2 fun W hB hz b2 b4 => ?_
  obtain ⟨g2, hg2⟩ : ∃ g, g = w.heap.size := ⟨_, rfl⟩
  rw [← hg2] at b2 b4 ⊢
  have HG2 := Lib.hid hg2
  have HWS := Lib.hid hz.out
  have hr1 := HX.out.1 W (HW.out.below hB)
  have hr2 := HX.out.2 W (HW.out.below hB)
  dsimp only at hr1 hr2
  rw [← HN.out] at hr1 hr2
  obtain ⟨gg, og, cg', hvg, hcg, hgg, hkg⟩ := hr2.form (by omega)
  cases hvg
  have kg := hkg i (.bool false) (by simp [gnc, HI.out])
  have c21 := (b2.cell 1).trans rfl
  have c20 := (b2.cell 0).trans rfl
  have l2 := b2.lt
  have f4 := b4.frozen
  obtain ⟨iR, hiR, iR0, iR1, iR2⟩ := info_parts rd_info26
  obtain ⟨iB, hiB, iB0, iB1, iB2⟩ := info_parts bo_info26
  have hz1 : ¬ ((i : Int) < 0) := by omega
  have hz2 : ¬ ((n : Int) ≤ (i : Int)) := by omega
  clear hg2 hz hkg
  go_upto_region 5 with (fail)
  have HC1 := Lib.hid c21
  have HC0 := Lib.hid c20
  have HR1 := Lib.hid hr1
  have HR2 := Lib.hid hr2
  have hWs := HWS.out
  have HWB := Lib.hid (show W.heap.size = g2 + 2 by have := HG2.out; omega)
  clear hWs c20 kg hr1 hr2 hz1 hz2 hgg
  refine wp_region_lit ?_
  iterate 1 (refine wpList_plain rfl fun K hK => ?_; go_big_op; refine hK _ _ ?_; clear hK K)
  refine stk1 (M := fun W => wpList _ _ _ _ _ W) fun W10 hB10 hz10 b23 => ?_
  have own23 : W10.ownsRow W.heap.size 4 1 (.slice (some ⟨W.heap.size, 0, none⟩) 0 0) 0 [] := ⟨rfl, .inr ⟨W.heap.size, 0, #[], rfl, Nat.le_refl _, b23, Nat.le_refl _, Nat.zero_le _, rfl, rfl⟩⟩
  have d1 := (hB10.cell (p := ⟨g2, 1, none⟩) l2).trans HC1.out
  have l2a := Nat.lt_of_lt_of_le l2 hB10.size
  have hr2 := Rd.keep HR2.out hB10
  have hNa := hB10.size
  clear hz10 b23 c21
  iterate 2 (refine wpList_plain rfl fun K hK => ?_; go_big_op; refine hK _ _ ?_; clear hK K)
  refine wpList_appB (base := W.heap.size) (cl := gnc s) (cs := []) rfl (.tmp 23) (.tmp 25) rfl gnl_slice hiB iB0 iB1 iB2 rfl (by decide) (gnc_one s) rfl rfl hr2 own23 (by unfold maxLen; omega) (by omega) hNa fun v26 w26 own26 gr26 B26 => ?_
  rw [Nat.zero_add, List.nil_append] at own26
  obtain ⟨g26, c26, rest26, hv26, hc26, hg26, hl26, b26⟩ := (own_a own26).form (by omega)
  subst hv26
  have hBX : Below W.heap.size W w26 := (hB10.mono (Nat.le_refl _)).trans B26
  have HO26 := Lib.hid own26
  have f26 := b26.frozen
  clear hr2 own23 gr26 B26 d1 l2a hB10 own26
  have hnl : (gnc s).length = n := by rw [gnc_len, HN.out]
  have k26 : w26.cell? ⟨g26, i, none⟩ = some (.bool false) := by
    rw [b26.cell]
    simp only [List.getElem?_toArray]
    rw [List.getElem?_append_left (by rw [hnl]; exact hil)]
    simp [gnc, HI.out]
  have HNL := Lib.hid hnl
  clear hnl
  try simp only [Act.put, List.setIfInBounds_toArray, List.set_cons_succ, List.set_cons_zero]
  go_upto_region 7 with (fail)
  obtain ⟨Z, hZ⟩ : ∃ Z, Z = w26.setCell ⟨g26, i, none⟩ (.bool true) := ⟨_, rfl⟩
  have hZp : Put w26 Z g26 := by rw [hZ]; exact Put.set _ _ _ _
  have hownZ := own_setC (idx := i) (x := Value.bool true) HO26.out (by rw [HNL.out]; exact hil)
  rw [← hZ] at hownZ ⊢
  rw [gnc_set s i r] at hownZ
  have hBZ : Below W.heap.size W Z := below_put hBX hZp hg26
  have d0 := (hBZ.cell (p := ⟨g2, 0, none⟩) l2).trans HC0.out
  have l2z := Nat.lt_of_lt_of_le l2 hBZ.size
  have b4Z := b4.below hBZ (by have := HWB.out; omega)
  have HOZ := Lib.hid hownZ
  have hZs := hBZ.size
  clear hZ hZp hownZ k26 f26 b26 hBX HO26
  refine wp_region_lit ?_
  iterate 1 (refine wpList_plain rfl fun K hK => ?_; go_big_op; refine hK _ _ ?_; clear hK K)
  refine stk1 (M := fun W => wpList _ _ _ _ _ W) fun W11 hB11 hz11 b30 => ?_
  have own30 : W11.ownsRow Z.heap.size 69 4 (.slice (some ⟨Z.heap.size, 0, none⟩) 0 0) 0 [] := ⟨rfl, .inr ⟨Z.heap.size, 0, #[], rfl, Nat.le_refl _, b30, Nat.le_refl _, Nat.zero_le _, rfl, rfl⟩⟩
  have d0c := (hB11.cell (p := ⟨g2, 0, none⟩) l2z).trans d0
  have l2c := Nat.lt_of_lt_of_le l2z hB11.size
  have hr1 := (HX.out.1 W11 (HW.out.below (hB.trans ((hBZ.mono hB.size).trans (hB11.mono (Nat.le_trans hB.size hZs))))))
  dsimp only at hr1
  rw [← HN.out] at hr1
  have o6 := own_below HOZ.out (Nat.le_refl _) hB11
  have b4c := b4Z.keep hB11
  have hNc := hB11.size
  clear hz11 b30 d0
  iterate 2 (refine wpList_plain rfl fun K hK => ?_; go_big_op; refine hK _ _ ?_; clear hK K)
  refine wpList_appB (base := Z.heap.size) (cl := rdsc s) (cs := []) rfl (.tmp 30) (.tmp 32) rfl rdl_slice hiR iR0 iR1 iR2 rfl (by decide) (rdsc_one s) rfl rfl hr1 own30 (by unfold maxLen; omega) (by omega) hNc fun v33 w33 own33 gr33 B33 => ?_
  rw [Nat.zero_add, List.nil_append] at own33
  obtain ⟨A33, c33, rfl⟩ := own_lenR own33
  have o6f := own_keepB o6 B33 (fun g hg => (own_block HOZ.out hg).2)
  have b4d := b4c.below B33 (by have := HWB.out; omega)
  have hBd : Below w.heap.size w w33 := (hB.trans ((hBZ.mono hB.size).trans (hB11.mono (Nat.le_trans hB.size hZs)))).trans (B33.mono (Nat.le_trans hB.size hZs))
  have HO6 := Lib.hid o6f
  have HO33 := Lib.hid own33
  clear o6 own30 gr33 B33 d0c l2c b4c hr1 own33 o6f hB11
  try simp only [Act.put, List.setIfInBounds_toArray, List.set_cons_succ, List.set_cons_zero]
  iterate 2 (refine wpList_plain rfl fun K hK => ?_; go_big_op; refine hK _ _ ?_; clear hK K)
  refine wpList_put rfl 28 (.tmp 4) (.tmp 35) rfl rfl (cells := [.slice A33 n c33, .slice (some ⟨g26, 0, none⟩) n c26]) rfl b4d (by simp) strm_size rfl rfl fun X hX bX => ?_
  have hBX := below_put hBd hX (by have := HG2.out; omega)
  have p33 := own_putN26 HO33.out hX (fun e => by have := (own_block HO33.out e).1; have := HWB.out; omega)
  have p6 := own_putN26 HO6.out hX (fun e => by have := (own_block HO6.out e).1; have := HWB.out; omega)
  have P33 := Lib.hid p33
  have P6 := Lib.hid p6
  clear hX b4d hBd p33 p6
  try simp only [Act.put, List.setIfInBounds_toArray, List.set_cons_succ, List.set_cons_zero]
  go_wp2_with fail
  refine bodyPost_ret (v := .tuple #[.agg #[.slice A33 n c33, .slice (some ⟨g26, 0, none⟩) n c26], .int .i64 0]) (res_mt (c1 := [.slice A33 n c33, .slice (some ⟨g26, 0, none⟩) n c26]) (g1 := g2 + 1) rfl rfl rfl strm_under rfl strm_size bX) rfl ⟨⟨.slice A33 n c33, .slice (some ⟨g26, 0, none⟩) n c26⟩, rfl, ?_, hBX⟩
  have hw0 : w.heap.size ≤ W.heap.size := hB.size
  refine ⟨?_, ?_⟩
  · rw [rdsc_set s i r HI.out, List.length_set, ← HN.out]
    exact own_rdB P33.out (by omega) (fun g hg => .inr (by omega))
  · rw [List.length_set, ← HN.out]
    exact own_rdB P6.out (by omega) (fun g hg => .inr (by omega))
end Go.Proofs.YtficeebbbkmhcaaGreatDoor
namespace Go.Proofs.YtficeebbbkmhcaaGreatDoor

def liveR (s : Stm) : List Rdg := (s.filter fun x => !x.2).map fun x => x.1
def fldR (c : Nat) (r : Rdg) : Int := [r.who, r.when, r.kind, r.value].getD c 0
def sumR (c : Nat) (l : List Rdg) : Int := l.foldl (fun a r => a + fldR c r) 0
theorem sumR_snoc (c : Nat) (l : List Rdg) (r : Rdg) : sumR c (l ++ [r]) = sumR c l + fldR c r := by
  unfold sumR; rw [List.foldl_append]; rfl
theorem liveR_len (s : Stm) : (liveR s).length ≤ s.length := by
  unfold liveR; rw [List.length_map]; exact List.length_filter_le _ _
theorem liveR_mem (s : Stm) (h : ∀ x ∈ s, x.1.ok) : ∀ r ∈ liveR s, r.ok := by
  intro r hr
  obtain ⟨x, hx, rfl⟩ := List.mem_map.1 hr
  exact h x (List.mem_filter.1 hx).1
theorem fldR_rng (c : Nat) (r : Rdg) (h : r.ok) : 0 ≤ fldR c r ∧ fldR c r < 256 := by
  obtain ⟨⟨a1, a2⟩, ⟨b1, b2⟩, ⟨c1, c2⟩, ⟨d1, d2⟩⟩ := h
  unfold fldR
  match c with
  | 0 => exact ⟨a1, Int.lt_trans a2 (by decide)⟩
  | 1 => exact ⟨b1, b2⟩
  | 2 => exact ⟨c1, Int.lt_trans c2 (by decide)⟩
  | 3 => exact ⟨d1, d2⟩
  | _ + 4 => exact ⟨Int.le_refl _, show (0 : Int) < 256 by decide⟩
theorem sumR_take (c : Nat) (l : List Rdg) (h : ∀ r ∈ l, r.ok) : ∀ k, k ≤ l.length → 0 ≤ sumR c (l.take k) ∧ sumR c (l.take k) ≤ 256 * k := by
  intro k
  induction k with
  | zero => intro _; exact ⟨Int.le_refl _, Int.le_refl _⟩
  | succ k ih =>
    intro hk
    obtain ⟨r, hr⟩ : ∃ r, l[k]? = some r := ⟨_, List.getElem?_eq_getElem (by omega)⟩
    rw [List.take_add_one, hr, Option.toList_some, sumR_snoc]
    have := ih (by omega)
    have := fldR_rng c r (h r (List.mem_of_getElem? hr))
    omega
def trm01 : List Trm := [⟨1, [0, 1]⟩]
theorem fz_addE (x y : Int) : eb (fz (x + y)) = eb (fz x) + eb (fz y) := by
  rw [← eb_add]
  congr 1
  exact fv_inj (by rw [fv_fz, fv_add, fv_fz, fv_fz]; omega)
theorem fin01 (f : Nat → E) : finE f trm01 = f 0 * f 1 := by
  show esum [(1 * f 0) * f 1] = _
  rw [esum_cons, esum_nil, E.add_zero, E.one_mul]
theorem val01 (c n : Nat) (s : Stm) (hn : n < 2 ^ 4) : finE (valT [colM 4 4 s, colM c 4 s] n) trm01 = (match s[n]? with | some x => eb (fz (amt 4 x)) | none => 0) * (match s[n]? with | some x => eb (fz (amt c x)) | none => 0) := by
  rw [fin01]
  show (colM 4 4 s).getD n 0 * (colM c 4 s).getD n 0 = _
  rw [List.getD_eq_getElem?_getD, List.getD_eq_getElem?_getD, colM_get _ _ _ _ hn, colM_get _ _ _ _ hn]
  rfl
theorem amt_fld (c : Nat) (hc : c < 4) (x : Rdg × Bool) : amt c x = fldR c x.1 := by
  obtain rfl | rfl | rfl | rfl : c = 0 ∨ c = 1 ∨ c = 2 ∨ c = 3 := by omega
  all_goals rfl
theorem tot01 (c : Nat) (hc : c < 4) (s : Stm) : ∀ n, n ≤ 2 ^ 4 → esum ((List.range n).map fun i => finE (valT [colM 4 4 s, colM c 4 s] i) trm01) = eb (fz (sumR c (liveR (s.take n)))) := by
  intro n
  induction n with
  | zero => intro _; rfl
  | succ n ih =>
    intro hn
    rw [esum_range, ih (by omega), val01 c n s (by omega), List.take_add_one]
    cases hs : s[n]? with
    | none =>
      show _ + (0 : E) * 0 = _
      rw [E.zero_mul, E.add_zero, Option.toList_none, List.append_nil]
    | some x =>
      obtain ⟨r, g⟩ := x
      show _ + eb (fz (if g then 0 else 1)) * eb (fz (amt c (r, g))) = _
      have e : liveR (s.take n ++ [(r, g)]) = if g then liveR (s.take n) else liveR (s.take n) ++ [r] := by
        unfold liveR
        cases g <;> simp
      rw [Option.toList_some, e]
      cases g with
      | true =>
        show _ + (0 : E) * _ = _
        rw [E.zero_mul, E.add_zero]
        rfl
      | false =>
        show _ + (1 : E) * _ = eb (fz (sumR c (liveR (s.take n) ++ [r])))
        rw [E.one_mul, sumR_snoc, fz_addE, amt_fld c hc]
theorem totLive (c : Nat) (hc : c < 4) (s : Stm) (hs : s.length ≤ 16) : totE [colM 4 4 s, colM c 4 s] trm01 = eb (fz (sumR c (liveR s))) := by
  have h := tot01 c hc s (2 ^ 4) (Nat.le_refl _)
  rw [List.take_of_length_le (by exact hs)] at h
  rw [← h]
  unfold totE totK
  rw [show lenT [colM 4 4 s, colM c 4 s] = 2 ^ 4 from colM_length 4 4 s]
end Go.Proofs.YtficeebbbkmhcaaGreatDoor
namespace Go.Proofs.YtficeebbbkmhcaaGreatDoor
open Go.RowKit

theorem gLiveI (x : StrW) (w : World) : Calls Tryz.prog 66 #[.agg (smc x).toArray] w fun e w' =>
    e = .returned (.func (.func 105) #[] #[.pointer (some ⟨w.heap.size, 0, none⟩)]) ∧ w' = w.alloc (.cells (smc x).toArray 28) := by
  have hmf : ∀ (fn : Fn) (first cap : Array Value) (w : World), (Instr.makeFunc fn first cap).run Tryz.prog w = .ok (.func fn first cap) w := fun _ _ _ _ => rfl
  unfold smc
  go_enter Tryz.func66, Tryz.ntmps66
  go_wp2
  go_ret
  exact ⟨rfl, rfl⟩
theorem liveR_next (s : Stm) (k : Nat) (r : Rdg) (g : Bool) (h : s[k]? = some (r, g)) : liveR (s.take (k + 1)) = if g = true then liveR (s.take k) else liveR (s.take k) ++ [r] := by
  unfold liveR
  rw [List.take_add_one, h]
  cases g <;> simp
theorem liveR_lt (s : Stm) (k : Nat) (r : Rdg) (h : s[k]? = some (r, false)) : (liveR (s.take k)).length < (liveR s).length := by
  have h1 := liveR_next s k r false h
  rw [if_neg (by decide)] at h1
  have h2 : liveR s = liveR (s.take (k + 1)) ++ liveR (s.drop (k + 1)) := by
    unfold liveR
    rw [← List.map_append, ← List.filter_append, List.take_append_drop]
  rw [h2, h1, List.length_append, List.length_append]
  simp
  omega
theorem gnc_get15 {s : Stm} {i : Nat} {r : Rdg} {b : Bool} (h : s[i]? = some (r, b)) : (gnc s)[i]? = some (.bool b) := by simp [gnc, h]
theorem rdsc_rng15 {s : Stm} {i : Nat} {r : Rdg} {b : Bool} (h : s[i]? = some (r, b)) (j : Nat) (v : Value) (hv : (rdc r)[j]? = some v) : (rdsc s)[i * 4 + j]? = some v :=
  flat_get (f := fun y : Rdg × Bool => rdc y.1) (fun _ => rfl) s i j _ v h hv
theorem rd_info15 : (Tryz.prog.info? 69).map (fun i => (i.zero, i.size, i.bytes)) = some (some (.agg #[.int .i64 0, .int .i64 0, .int .i64 0, .int .i64 0]), 4, 32) := by kernel_rfl
theorem rd_under15 : Tryz.prog.underlying 69 = some (.struct (Tryz.prog.fieldsOf 69)) := by kernel_rfl
theorem rd_size15 : (Tryz.prog.info? 69).map (·.size) = some 4 := by kernel_rfl
theorem rdc_one15 (r : Rdg) : ∀ x ∈ rdc r, x.oneCell' = true := by
  intro x hx
  unfold rdc at hx
  simp only [List.mem_cons, List.mem_nil_iff, or_false] at hx
  rcases hx with rfl | rfl | rfl | rfl <;> rfl
attribute [local go_sem] Oper.semAt_some
set_option maxRecDepth 100000 in
set_option maxHeartbeats 4000000 in
theorem lIter (s : Stm) (hps : s.length ≤ 1000) (vl vg : Value) (n hi Bs : Nat) (hn : 1 ≤ n) (S : Nat → Prop) (w : World) (hl : Rd 0 hi 4 w vl s.length (rdsc s)) (hg : Rd 0 hi 1 w vg s.length (gnc s)) (hhi : hi ≤ w.heap.size) (hB0 : w.cell? ⟨Bs, 0, none⟩ = some vl) (hB1 : w.cell? ⟨Bs, 1, none⟩ = some vg) (hB : Bs < w.heap.size) (hS0 : S Bs) (hS1 : ∀ g, g < hi → S g) :
    SeqStopsK .wide n Tryz.prog 105 #[.pointer (some ⟨Bs, 0, none⟩)] (fun r : Rdg => #[rdV r]) (Keeps S) (fun ys => ys = liveR s) (fun _ => True) (liveR s).length w := fun d J Jx W hW hJ hJx hY h0 => by
  obtain ⟨A, cap, hv0⟩ := hl.len
  obtain ⟨A2, cap2, hv2⟩ := hg.len
  subst hv0
  subst hv2
  have hBs' := (hW.cell (p := ⟨Bs, 0, none⟩) hB).trans hB0
  have hBg' := (hW.cell (p := ⟨Bs, 1, none⟩) hB).trans hB1
  have hp' := Rd.keep hl hW
  have hq' := Rd.keep hg hW
  have hop := open_wide Tryz.prog
  have hSB := hS0
  have hBW := Nat.lt_of_lt_of_le hB hW.size
  obtain ⟨iP, hiP, iP0, iP1, iP2⟩ := info_parts rd_info15
  refine callsIn_of_wp Tryz.func105 rfl trivial ?_ rfl
  simp only [Tryz.ntmps105, List.size_toArray, List.length_cons, List.length_nil, Nat.reduceAdd, Nat.reduceSub, Array.replicate_succ, Array.replicate_zero, List.push_toArray, List.append_toArray, List.nil_append, List.cons_append]
  gi_wp2
  gi_loopw [8] (fun i wr => ∃ k : Nat, k ≤ s.length ∧ i = .int .i64 (k : Int) ∧ J (liveR (s.take k)) wr ∧ Keeps S W wr) (fun i _ => s.length - (intOf i).toNat)
  case atStart => exact ⟨0, Nat.zero_le _, rfl, h0, Keeps.refl _⟩
  case round =>
    obtain ⟨k, hk, rfl, hJs, hnx⟩ := hrel
    by_cases hkl : k < s.length
    · obtain ⟨⟨r, gn⟩, hrb⟩ : ∃ x, s[k]? = some x := ⟨_, List.getElem?_eq_getElem hkl⟩
      obtain ⟨g, off, cap', hv, q1, q2, q3, q4, q5⟩ := Rd.form hp' (by omega)
      cases hv
      obtain ⟨g2, off2, cap3, hv, p1, p2, p3, p4, p5⟩ := Rd.form hq' (by omega)
      cases hv
      have hrg : wr.rangeAt g (off + k * 4) (rdc r) := fun j x hj => by
        rw [Nat.add_assoc]
        exact hnx.cell (hS1 g q3) (q5 _ _ (rdsc_rng15 hrb j _ hj))
      have c26 := hnx.cell (hS1 g2 p3) (p5 k (.bool gn) (gnc_get15 hrb))
      have cb1 := hnx.cell hSB hBg'
      have hgz : g < wr.heap.size := by have := hnx.size; omega
      have hgz2 : g2 < wr.heap.size := by have := hnx.size; omega
      have hone := rdc_one15 r
      gi_upto_region 2 with (fail)
      refine wpIn_region_lit ?_
      iterate 2 (refine wpListIn_plain rfl fun K hK => ?_; gi_step; refine hK _ _ ?_; clear hK K)
      refine wpListIn_plain rfl fun K2 hK2 => wpIn_of_step hop rfl (stepAt_mono (fun v12 w12 hh => ?_) (step_loadR0 (cs := rdc r) rd_under15 rfl rd_size15 rfl rfl hrg))
      obtain ⟨rfl, rfl⟩ := hh
      refine hK2 _ _ ?_
      clear hK2 K2
      try simp only [Act.put, List.setIfInBounds_toArray, List.set_cons_succ, List.set_cons_zero]
      refine wpListIn_plain rfl fun K3 hK3 => wpIn_of_step hop rfl (stepAt_mono (fun v4 w4 hh => ?_) (step_new0 hiP iP0 rfl))
      obtain ⟨rfl, rfl⟩ := hh
      refine hK3 _ _ ?_
      clear hK3 K3
      try simp only [Act.put, List.setIfInBounds_toArray, List.set_cons_succ, List.set_cons_zero]
      have b4 : Blk (w12.alloc (.cells (Value.agg #[.int .i64 0, .int .i64 0, .int .i64 0, .int .i64 0]).cells 69)) w12.heap.size 69 #[.int .i64 0, .int .i64 0, .int .i64 0, .int .i64 0] := World.alloc_heap_new w12 _
      have B4 := (Below.refl _ w12).alloc (Nat.le_refl _) (.cells (Value.agg #[.int .i64 0, .int .i64 0, .int .i64 0, .int .i64 0]).cells 69)
      generalize w12.alloc (.cells (Value.agg #[.int .i64 0, .int .i64 0, .int .i64 0, .int .i64 0]).cells 69) = w4 at *
      iterate 1 (refine wpListIn_plain rfl fun K hK => ?_; gi_step; refine hK _ _ ?_; clear hK K)
      refine wpListIn_plain rfl fun K5 hK5 => wpIn_of_step hop rfl (stepAt_mono (fun v0 X hh => ?_) (step_put (cells := rdc r) 69 (.tmp 4) (.tmp 12) rfl rfl rfl b4 (by simp [rdc]) rd_size15 (List.all_eq_true.2 hone) (spl_all _ _ rfl)))
      obtain ⟨rfl, hX, bX⟩ := hh
      refine hK5 _ _ ?_
      clear hK5 K5
      try simp only [Act.put, List.setIfInBounds_toArray, List.set_cons_succ, List.set_cons_zero]
      have BX : Below w12.heap.size w12 X := below_put B4 hX (Nat.le_refl _)
      have hJX := abides hJ hJs BX
      have hnX := hnx.trans (Keeps.of_below BX)
      have cg := (BX.cell (p := ⟨g2, off2 + k, none⟩) hgz2).trans c26
      have cb := hnX.cell hSB hBg'
      have hlB : Bs < X.heap.size := Nat.lt_of_lt_of_le hBW hnX.size
      have hl2 : g2 < X.heap.size := Nat.lt_of_lt_of_le hgz2 BX.size
      obtain ⟨g4, hg4⟩ : ∃ g, g = w12.heap.size := ⟨_, rfl⟩
      rw [← hg4] at bX ⊢
      have c40 : X.cell? ⟨g4, 0, none⟩ = some (.int .i64 r.who) := (bX.cell 0).trans rfl
      have c41 : X.cell? ⟨g4, 1, none⟩ = some (.int .i64 r.when) := (bX.cell 1).trans rfl
      have c42 : X.cell? ⟨g4, 2, none⟩ = some (.int .i64 r.kind) := (bX.cell 2).trans rfl
      have c43 : X.cell? ⟨g4, 3, none⟩ = some (.int .i64 r.value) := (bX.cell 3).trans rfl
      have l4 := bX.lt
      have HFN := Lib.hid (liveR_next s k r gn hrb)
      have HLT := Lib.hid (fun (e : gn = false) => liveR_lt s k r (by rw [hrb, e]))
      have HY := Lib.hid hY
      clear b4 B4 hX hrg hgz hgz2 hg4 bX BX hJs hnx hY hJ hJx c26 cb1 hrb
      cases gn with
      | true =>
        have hF1 : liveR (s.take (k + 1)) = liveR (s.take k) := by rw [HFN.out, if_pos rfl]
        have HF1 := Lib.hid hF1
        clear hF1
        gi_wp2
        refine ⟨fun f h => by (first | cases h), ?_⟩
        gi_wp2
        go_roundw
        case rel => exact ⟨k + 1, by omega, by go_num, by rw [HF1.out]; exact hJX, hnX⟩
        case measure => simp [intOf]; omega
      | false =>
        have hF1 : liveR (s.take (k + 1)) = liveR (s.take k) ++ [r] := by rw [HFN.out, if_neg (by decide)]
        have HF1 := Lib.hid hF1
        have hlt := HLT.out rfl
        obtain ⟨fn, tmps, assign, body, hy, hR⟩ := HY.out (liveR (s.take k)) r X hJX hlt
        change Sem.run _ (Instr.yield d #[.agg #[.int .i64 r.who, .int .i64 r.when, .int .i64 r.kind, .int .i64 r.value]]) X = _ at hy
        clear hF1
        gi_wp2
        refine hR.mono ?_
        rintro e W3 (⟨rfl, hJ3, hk3⟩ | ⟨rfl, hJx3⟩)
        · gi_wp2
          go_roundw
          case rel => exact ⟨k + 1, by omega, by go_num, by rw [HF1.out]; exact hJ3, hnX.trans hk3⟩
          case measure => simp [intOf]; omega
        · gi_wp2
          refine bodyPost_ret (results_none rfl _ _ _) rfl ?_
          exact ⟨⟨_, rfl⟩, .inr ⟨_, trivial, hJx3⟩⟩
    · obtain rfl : k = s.length := by omega
      rw [List.take_length] at hJs
      gi_wp2
      go_end0
      exact ⟨⟨_, rfl⟩, .inl ⟨_, rfl, hJs⟩⟩
end Go.Proofs.YtficeebbbkmhcaaGreatDoor
namespace Go.Proofs.YtficeebbbkmhcaaGreatDoor
open Go.RowKit

theorem rds_slice15 : Tryz.prog.underlying 25 = some (.slice 69) := by kernel_rfl
attribute [local go_sem] Oper.semAt_some
set_option maxRecDepth 100000 in
set_option maxHeartbeats 4000000 in
theorem gLiveR (s : Stm) (hps : s.length ≤ 1000) (x : StrW) (w : World) (hx : StrIn w x s) : Calls Tryz.prog 32 #[.agg (smc x).toArray] w fun e w' => ∃ v, e = .returned v ∧ Rd w.heap.size w'.heap.size 4 w' v (liveR s).length ((liveR s).flatMap rdc) ∧ Below w.heap.size w w' := by
  obtain ⟨h1, h2⟩ := hx
  have H1 := Lib.hid h1
  have H2 := Lib.hid h2
  have hop := open_wide Tryz.prog
  obtain ⟨x1, x2⟩ := x
  obtain ⟨A1, cap1, hv1⟩ := Rd.len h1
  obtain ⟨A2, cap2, hv2⟩ := Rd.len h2
  dsimp only at hv1 hv2
  subst hv1
  subst hv2
  have HLI := Lib.hid (fun W => gLiveI ⟨.slice A1 s.length cap1, .slice A2 s.length cap2⟩ W)
  unfold smc at *
  dsimp only at *
  clear h1 h2
  refine (callsIn_wide (n := 3)).1 ?_
  refine callsIn_of_wp_marks Tryz.func32 rfl trivial ?_ rfl
  simp only [Tryz.ntmps32, List.size_toArray, List.length_cons, List.length_nil, Nat.reduceAdd, Nat.reduceSub, Array.replicate_succ, Array.replicate_zero, List.push_toArray, List.append_toArray, List.nil_append, List.cons_append]
  gi_upto_region 2 with (fail)
  refine stk2 (M := fun W => Code.wpIn _ _ _ _ _ _ W) fun W hB hz b1 b3 => ?_
  have hWs : W.heap.size = w.heap.size + 1 + 1 := hz.out
  obtain ⟨g1, hg1⟩ : ∃ g, g = w.heap.size := ⟨_, rfl⟩
  obtain ⟨g3, hg3⟩ : ∃ g, g = w.heap.size + 1 := ⟨_, rfl⟩
  rw [← hg3] at b3 ⊢
  rw [← hg1] at b1 ⊢
  have c1 := b1.cell
  have l1 := b1.lt
  have HG1 := Lib.hid hg1
  have HG3 := Lib.hid hg3
  have HWS := Lib.hid hWs
  clear hz hg1 hg3 hWs
  gi_wp2_with fail
  refine ⟨trivial, (callsIn_wide.2 (HLI.out W)).mono ?_⟩
  rintro e' w2 ⟨rfl, rfl⟩
  gi_wp2_with fail
  refine stk1 (M := fun W => Code.wpIn _ _ _ _ _ _ W) fun Y hBY hzY bs => ?_
  have hYs : Y.heap.size = W.heap.size + 1 := hzY.out
  have b3Y := b3.keep hBY
  have hBw := hB.trans (hBY.mono hB.size)
  have cs0 := (bs.cell 0).trans rfl
  have cs1 := (bs.cell 1).trans rfl
  have ls := bs.lt
  have h3W := b3.lt
  have hR1 : Rd 0 w.heap.size 4 Y (.slice A1 s.length cap1) s.length (rdsc s) := Rd.keep (Rd.keep H1.out hB) hBY
  have hR2 : Rd 0 w.heap.size 1 Y (.slice A2 s.length cap2) s.length (gnc s) := Rd.keep (Rd.keep H2.out hB) hBY
  have hg3 : g3 = w.heap.size + 1 := HG3.out
  have hg1 : g1 = w.heap.size := HG1.out
  have hWs := HWS.out
  obtain ⟨Bs, hBs⟩ : ∃ B, B = W.heap.size := ⟨_, rfl⟩
  rw [← hBs] at cs0 cs1 ls bs hYs ⊢
  have HLN := Lib.hid (liveR_len s)
  have k1 : w.heap.size ≤ g3 := by omega
  have k2 : g3 < Y.heap.size := by omega
  have k3 : w.heap.size ≤ Bs := by omega
  have k4 : Bs < Y.heap.size := by omega
  have k5 : g3 ≠ Bs := by omega
  have k6 : w.heap.size ≤ Y.heap.size := by omega
  have HR1 := Lib.hid hR1
  have HR2 := Lib.hid hR2
  clear hzY hBY hR1 hR2 c1 hg3 hg1 hBs hWs hYs HG1 HG3 HWS l1 h3W b1 b3
  refine wpIn_seqT1 (S := fun g => g < w.heap.size ∨ g = Bs) (lIter s hps _ _ 2 w.heap.size Bs (by decide) _ Y HR1.out HR2.out (by omega) cs0 cs1 ls (.inr rfl) (fun g hg => .inl hg)) (by decide) rfl (enters_of Tryz.func105 (by kernel_rfl) rfl) (fun g hg => by rcases hg with hg | hg <;> omega)
    (fun (pre : List Rdg) X => ∃ v, Blk X g3 25 #[v] ∧ X.ownsRow Y.heap.size 69 4 v pre.length (pre.flatMap rdc) ∧ Below w.heap.size w X ∧ Y.heap.size ≤ X.heap.size)
    ?hI (fun pre W h => by obtain ⟨v, h1, h2, h3, h4⟩ := h; exact h4) ?h0
    (fun (y : Rdg) a' X => ∃ g4, Y.heap.size ≤ g4 ∧ Blk X g4 69 (rdc y).toArray ∧ a' = { tmps := #[.agg #[.slice A1 s.length cap1, .slice A2 s.length cap2], .pointer (some ⟨g1, 0, none⟩), .slice none 0 0, .pointer (some ⟨g3, 0, none⟩), .pointer (some ⟨g4, 0, none⟩), .agg #[.slice A1 s.length cap1, .slice A2 s.length cap2], .func (.func 105) #[] #[.pointer (some ⟨Bs, 0, none⟩)], rdV y, undef, undef, undef, undef, undef], defers := [] }) ?hAx ?assign ?body ?done
  case hI =>
    rintro pre X X' row ⟨v, q1, q2, q3, q4⟩ hg hr
    exact ⟨v, blk_own (β := Unit) () X X' row q1 hg hr, own_ownF (β := Unit) () X X' row q2 hg hr, ownFrom_below (β := Unit) (Nat.le_refl _) (by omega) () X X' row q3 hg hr, Nat.le_trans q4 hg.size⟩
  case hAx =>
    rintro y a' t X X' row ⟨g4, q1, q2, q3⟩ hg hr
    exact ⟨g4, q1, blk_own (β := Unit) () X X' row q2 hg hr, q3⟩
  case h0 => exact ⟨_, b3Y, ⟨rfl, .inl ⟨rfl, rfl⟩⟩, hBw, Nat.le_refl _⟩
  case assign =>
    intro l y X K hsz hK
    have hop := open_round hop l
    simp only [List.setIfInBounds_toArray, List.set_cons_succ, List.set_cons_zero]
    unfold rdV rdc
    gi_wp2_with fail
    refine stk1 (M := fun V => K _ V) fun V hV hz b4 => ?_
    exact hK _ _ hV ⟨X.heap.size, hsz, b4, rfl⟩
  case body =>
    rintro l pre y X a' ⟨g4, q0, q9, rfl⟩ ⟨v, q1, q2, q3, q4⟩ hlt
    have hpr : pre.length ≤ 1000 := by have := HLN.out; omega
    have hop := open_round hop l
    obtain ⟨iI, hiI, iI0, iI1, iI2⟩ := info_parts rd_info15
    have c1 := (q1.cell 0).trans rfl
    have ll := q1.lt
    gi_upto_region 4 with (fail)
    refine wpIn_region_lit ?_
    iterate 1 (refine wpListIn_plain rfl fun K hK => ?_; gi_step; refine hK _ _ ?_; clear hK K)
    refine wpListIn_plain rfl fun K2 hK2 => wpIn_of_step hop rfl (stepAt_mono (fun v9 X9 hh => ?_) (step_loadR0 (cs := rdc y) rd_under15 rfl rd_size15 rfl rfl (blk_range q9)))
    obtain ⟨rfl, rfl⟩ := hh
    refine hK2 _ _ ?_
    clear hK2 K2
    try simp only [Act.put, List.setIfInBounds_toArray, List.set_cons_succ, List.set_cons_zero]
    refine wpListIn_plain rfl fun K3 hK3 => wpIn_of_step hop rfl (stepAt_mono (fun v10 w10 hh => ?_) (step_lit1 (cs := (rdc y).toArray) rds_slice15 hiI iI0 iI1 (by decide) (by decide) rfl rfl rfl))
    obtain ⟨⟨rfl, hl10, b10⟩, B10⟩ := hh
    refine hK3 _ _ ?_
    clear hK3 K3
    try simp only [Act.put, List.setIfInBounds_toArray, List.set_cons_succ, List.set_cons_zero]
    have q1w := q1.keep B10
    have q2w := own_below q2 (Nat.le_refl _) B10
    have hB10s := B10.size
    refine wpListIn_append_own_at (P := Tryz.prog) (w := w10) rfl (.tmp 8) (.tmp 10) 25 rfl Y.heap.size 69 iI _ 4 32 rds_slice15 hiI iI0 iI1 iI2 rfl (by decide) v pre.length (pre.flatMap rdc) rfl q2w ⟨X9.heap.size, 0, none⟩ 1 1 (rdc y) rfl rfl (blk_news b10) (rdc_one15 y) (by unfold maxLen; omega) (by omega) (by omega) fun v' w' hown hgr _ hat => ?_
    have hne : some g3 ≠ v.ownBlock := fun e => by have := (own_block q2w e.symm).1; omega
    have q1g := grown_blk hgr q1w hne
    have c1 := (q1g.cell 0).trans rfl
    have ll := q1g.lt
    have f1 := q1g.frozen
    have hne' : v'.ownBlock ≠ some g3 := fun e => by have := (own_block hown e).1; omega
    have hBg : Below w.heap.size w10 w' := (Below.refl _ _).grown hgr (by omega) (fun g hg => by have := (own_block q2w hg).1; omega)
    have hKO : KeepsOthers X9 w' := (keepsOthers_of_below B10).trans (keepsOthers_of_grown hgr fun r o e ho => by
      rcases q2w.2 with ⟨h0, _⟩ | ⟨b, cap, cur, h0, _, h3, _⟩
      · rw [h0] at e; cases e
      · rw [h0] at e; cases e; rw [h3] at ho; cases ho; rfl)
    have hKS : Keeps (fun g => g < w.heap.size ∨ g = Bs) X9 w' := (Keeps.of_below B10).trans ⟨hgr.size, fun g hg hl => hgr.block g hl (fun e => by have := (own_block q2w e.symm).1; rcases hg with hg | hg <;> omega)⟩
    obtain ⟨A', c', rfl⟩ := own_lenR hown
    have HOWN := Lib.hid hown
    have hBt := (q3.trans (B10.mono q3.size)).trans hBg
    have hst : Y.heap.size ≤ w'.heap.size := Nat.le_trans q4 (Nat.le_trans B10.size hgr.size)
    clear B10 q1 q2 b10 hl10 q1w hat hown
    simp only [Act.put, List.setIfInBounds_toArray, List.set_cons_succ, List.set_cons_zero]
    gi_wp2_with fail
    refine ⟨hKO.trans (KeepsOthers.setCell _ _ _), hKS.trans (keepsS_set _ _ _ (fun h => by rcases h with h | h <;> simp at h <;> omega)), _, q1g.set_ 0 _, ?_, hBt.setCell (p := ⟨g3, 0, none⟩) (by show w.heap.size ≤ g3; omega) _⟩
    exact own_putN26 HOWN.out (Put.set _ _ _ _) hne'
  case done =>
    intro D V hD ⟨v, q1, q2, q3, q4⟩ hK
    have c1 := (q1.cell 0).trans rfl
    have ll := q1.lt
    gi_wp2_with fail
    refine ⟨by simp, .inl ⟨_, _, rfl, run_takeDeferred hK, ?_⟩⟩
    refine ⟨v, by simp [results, Tryz.results32, go_sem], ⟨v, rfl, ?_, below_putObj q3 D _ (by omega)⟩⟩
    have hne : v.ownBlock ≠ some D := fun e => by
      rcases q2.2 with ⟨h0, _⟩ | ⟨b, cap, cur, h0, _, h3, _⟩
      · rw [h0] at e; cases e
      · rw [h0] at e; cases e; rw [h3] at hK; cases hK
    have hl := HLN.out
    refine (Rd.of_own (base := Y.heap.size) (e := 69) ?_ (by omega) (Nat.le_refl _)).wide k6 (Nat.le_refl _)
    obtain ⟨r1, r2⟩ := q2
    refine ⟨r1, r2.imp id ?_⟩
    rintro ⟨b, cap, cur, h0, h1, h3, h4⟩
    exact ⟨b, cap, cur, h0, by omega, (World.putObj_heap_other (fun e => hne (by rw [h0, e]; rfl))).trans h3, h4⟩
end Go.Proofs.YtficeebbbkmhcaaGreatDoor
namespace Go.Proofs.YtficeebbbkmhcaaGreatDoor
open Go.RowKit

theorem gRow0 (r : Rdg) (w : World) : Calls Tryz.prog 101 #[rdV r] w (Ret (.int .i64 r.who) w) := by
  have hn : (-9223372036854775808 : Int) ≤ 0 := by decide
  unfold rdV rdc
  go_enter Tryz.func101, Tryz.ntmps101
  go_upto_region 1 with (fail)
  refine wp_stk1 fun W hW hz b1 => ?_
  have HW := Lib.hid hW
  have c1 := b1.cell
  have l1 := b1.lt
  clear hW hz b1
  go_wp2_with fail
  exact bodyPost_ret (v := .int .i64 r.who) (by simp [results, Tryz.results101, go_sem]) rfl ⟨rfl, HW.out⟩
theorem gRow1 (r : Rdg) (w : World) : Calls Tryz.prog 102 #[rdV r] w (Ret (.int .i64 r.when) w) := by
  have hn : (-9223372036854775808 : Int) ≤ 0 := by decide
  unfold rdV rdc
  go_enter Tryz.func102, Tryz.ntmps102
  go_upto_region 1 with (fail)
  refine wp_stk1 fun W hW hz b1 => ?_
  have HW := Lib.hid hW
  have c1 := b1.cell
  have l1 := b1.lt
  clear hW hz b1
  go_wp2_with fail
  exact bodyPost_ret (v := .int .i64 r.when) (by simp [results, Tryz.results102, go_sem]) rfl ⟨rfl, HW.out⟩
theorem gRow2 (r : Rdg) (w : World) : Calls Tryz.prog 103 #[rdV r] w (Ret (.int .i64 r.kind) w) := by
  have hn : (-9223372036854775808 : Int) ≤ 0 := by decide
  unfold rdV rdc
  go_enter Tryz.func103, Tryz.ntmps103
  go_upto_region 1 with (fail)
  refine wp_stk1 fun W hW hz b1 => ?_
  have HW := Lib.hid hW
  have c1 := b1.cell
  have l1 := b1.lt
  clear hW hz b1
  go_wp2_with fail
  exact bodyPost_ret (v := .int .i64 r.kind) (by simp [results, Tryz.results103, go_sem]) rfl ⟨rfl, HW.out⟩
theorem gRow3 (r : Rdg) (w : World) : Calls Tryz.prog 104 #[rdV r] w (Ret (.int .i64 r.value) w) := by
  have hn : (-9223372036854775808 : Int) ≤ 0 := by decide
  unfold rdV rdc
  go_enter Tryz.func104, Tryz.ntmps104
  go_upto_region 1 with (fail)
  refine wp_stk1 fun W hW hz b1 => ?_
  have HW := Lib.hid hW
  have c1 := b1.cell
  have l1 := b1.lt
  clear hW hz b1
  go_wp2_with fail
  exact bodyPost_ret (v := .int .i64 r.value) (by simp [results, Tryz.results104, go_sem]) rfl ⟨rfl, HW.out⟩
theorem en_attestor_eval_column : ∀ args w, (callFunc 61 args).run Tryz.prog w = .ok (.enter 61 args) w := enters_of Tryz.func61 (by kernel_rfl) rfl
theorem en_row_who : ∀ args w, (callFunc 101 args).run Tryz.prog w = .ok (.enter 101 args) w := enters_of Tryz.func101 (by kernel_rfl) rfl
theorem en_row_when : ∀ args w, (callFunc 102 args).run Tryz.prog w = .ok (.enter 102 args) w := enters_of Tryz.func102 (by kernel_rfl) rfl
theorem en_row_kind : ∀ args w, (callFunc 103 args).run Tryz.prog w = .ok (.enter 103 args) w := enters_of Tryz.func103 (by kernel_rfl) rfl
theorem en_row_value : ∀ args w, (callFunc 104 args).run Tryz.prog w = .ok (.enter 104 args) w := enters_of Tryz.func104 (by kernel_rfl) rfl
set_option maxRecDepth 100000 in
theorem gColV0 (r : Rdg) (w : World) : Calls Tryz.prog 61 #[rdV r, .int .i64 0] w (Ret (.int .i64 r.who) w) := by
  have HR := Lib.hid (fun W => gRow0 r W)
  have hix : ∀ w, (Instr.index 165 (.agg #[.func (.func 101) #[] #[], .func (.func 102) #[] #[], .func (.func 103) #[] #[], .func (.func 104) #[] #[]]) (.int .i64 0)).run Tryz.prog w = .ok (.func (.func 101) #[] #[]) w := fun w => by kernel_rfl
  unfold rdV rdc at *
  go_enter Tryz.func61, Tryz.ntmps61
  go_upto_region 1 with (fail)
  refine wp_stk1 fun W hW hz b1 => ?_
  have HW := Lib.hid hW
  have f1 := gw_blk b1
  clear hW hz b1
  refine wp_region_rg 5 [(4, Spec.val (.int .i64 r.who))] (by kernel_rfl) (by kernel_rfl) (by kernel_rfl) trivial ?_
  iterate 4 (refine rg_det rfl rfl rfl (fun K hK => ?_); go_big_quiet_op; refine hK _ ?_; clear hK K)
  refine rg_val rfl rfl (fun W1 hW1 hF => step_callvs (first := []) (cap := []) en_row_who (HR.out W1) rfl rfl rfl rfl) ?_
  intro a' ha
  simp only [Act.put, List.setIfInBounds_toArray, List.set_cons_succ, List.set_cons_zero] at ha
  subst ha
  refine rg_nil (fun w' hw' hF => ?_)
  obtain ⟨z, rfl⟩ := hw'
  simp only [List.drop_succ_cons, List.drop_zero]
  obtain ⟨X, hX⟩ : ∃ X, X = z.w := ⟨_, rfl⟩
  have HX := Lib.hid (HW.out.trans (z.h.mono HW.out.size))
  rw [← hX] at HX ⊢
  clear hF hX z f1
  go_wp2_with fail
  exact bodyPost_ret (v := .int .i64 r.who) (by simp [results, Tryz.results61, go_sem]) rfl ⟨rfl, HX.out⟩
set_option maxRecDepth 100000 in
theorem gColV1 (r : Rdg) (w : World) : Calls Tryz.prog 61 #[rdV r, .int .i64 1] w (Ret (.int .i64 r.when) w) := by
  have HR := Lib.hid (fun W => gRow1 r W)
  have hix : ∀ w, (Instr.index 165 (.agg #[.func (.func 101) #[] #[], .func (.func 102) #[] #[], .func (.func 103) #[] #[], .func (.func 104) #[] #[]]) (.int .i64 1)).run Tryz.prog w = .ok (.func (.func 102) #[] #[]) w := fun w => by kernel_rfl
  unfold rdV rdc at *
  go_enter Tryz.func61, Tryz.ntmps61
  go_upto_region 1 with (fail)
  refine wp_stk1 fun W hW hz b1 => ?_
  have HW := Lib.hid hW
  have f1 := gw_blk b1
  clear hW hz b1
  refine wp_region_rg 5 [(4, Spec.val (.int .i64 r.when))] (by kernel_rfl) (by kernel_rfl) (by kernel_rfl) trivial ?_
  iterate 4 (refine rg_det rfl rfl rfl (fun K hK => ?_); go_big_quiet_op; refine hK _ ?_; clear hK K)
  refine rg_val rfl rfl (fun W1 hW1 hF => step_callvs (first := []) (cap := []) en_row_when (HR.out W1) rfl rfl rfl rfl) ?_
  intro a' ha
  simp only [Act.put, List.setIfInBounds_toArray, List.set_cons_succ, List.set_cons_zero] at ha
  subst ha
  refine rg_nil (fun w' hw' hF => ?_)
  obtain ⟨z, rfl⟩ := hw'
  simp only [List.drop_succ_cons, List.drop_zero]
  obtain ⟨X, hX⟩ : ∃ X, X = z.w := ⟨_, rfl⟩
  have HX := Lib.hid (HW.out.trans (z.h.mono HW.out.size))
  rw [← hX] at HX ⊢
  clear hF hX z f1
  go_wp2_with fail
  exact bodyPost_ret (v := .int .i64 r.when) (by simp [results, Tryz.results61, go_sem]) rfl ⟨rfl, HX.out⟩
set_option maxRecDepth 100000 in
theorem gColV2 (r : Rdg) (w : World) : Calls Tryz.prog 61 #[rdV r, .int .i64 2] w (Ret (.int .i64 r.kind) w) := by
  have HR := Lib.hid (fun W => gRow2 r W)
  have hix : ∀ w, (Instr.index 165 (.agg #[.func (.func 101) #[] #[], .func (.func 102) #[] #[], .func (.func 103) #[] #[], .func (.func 104) #[] #[]]) (.int .i64 2)).run Tryz.prog w = .ok (.func (.func 103) #[] #[]) w := fun w => by kernel_rfl
  unfold rdV rdc at *
  go_enter Tryz.func61, Tryz.ntmps61
  go_upto_region 1 with (fail)
  refine wp_stk1 fun W hW hz b1 => ?_
  have HW := Lib.hid hW
  have f1 := gw_blk b1
  clear hW hz b1
  refine wp_region_rg 5 [(4, Spec.val (.int .i64 r.kind))] (by kernel_rfl) (by kernel_rfl) (by kernel_rfl) trivial ?_
  iterate 4 (refine rg_det rfl rfl rfl (fun K hK => ?_); go_big_quiet_op; refine hK _ ?_; clear hK K)
  refine rg_val rfl rfl (fun W1 hW1 hF => step_callvs (first := []) (cap := []) en_row_kind (HR.out W1) rfl rfl rfl rfl) ?_
  intro a' ha
  simp only [Act.put, List.setIfInBounds_toArray, List.set_cons_succ, List.set_cons_zero] at ha
  subst ha
  refine rg_nil (fun w' hw' hF => ?_)
  obtain ⟨z, rfl⟩ := hw'
  simp only [List.drop_succ_cons, List.drop_zero]
  obtain ⟨X, hX⟩ : ∃ X, X = z.w := ⟨_, rfl⟩
  have HX := Lib.hid (HW.out.trans (z.h.mono HW.out.size))
  rw [← hX] at HX ⊢
  clear hF hX z f1
  go_wp2_with fail
  exact bodyPost_ret (v := .int .i64 r.kind) (by simp [results, Tryz.results61, go_sem]) rfl ⟨rfl, HX.out⟩
set_option maxRecDepth 100000 in
theorem gColV3 (r : Rdg) (w : World) : Calls Tryz.prog 61 #[rdV r, .int .i64 3] w (Ret (.int .i64 r.value) w) := by
  have HR := Lib.hid (fun W => gRow3 r W)
  have hix : ∀ w, (Instr.index 165 (.agg #[.func (.func 101) #[] #[], .func (.func 102) #[] #[], .func (.func 103) #[] #[], .func (.func 104) #[] #[]]) (.int .i64 3)).run Tryz.prog w = .ok (.func (.func 104) #[] #[]) w := fun w => by kernel_rfl
  unfold rdV rdc at *
  go_enter Tryz.func61, Tryz.ntmps61
  go_upto_region 1 with (fail)
  refine wp_stk1 fun W hW hz b1 => ?_
  have HW := Lib.hid hW
  have f1 := gw_blk b1
  clear hW hz b1
  refine wp_region_rg 5 [(4, Spec.val (.int .i64 r.value))] (by kernel_rfl) (by kernel_rfl) (by kernel_rfl) trivial ?_
  iterate 4 (refine rg_det rfl rfl rfl (fun K hK => ?_); go_big_quiet_op; refine hK _ ?_; clear hK K)
  refine rg_val rfl rfl (fun W1 hW1 hF => step_callvs (first := []) (cap := []) en_row_value (HR.out W1) rfl rfl rfl rfl) ?_
  intro a' ha
  simp only [Act.put, List.setIfInBounds_toArray, List.set_cons_succ, List.set_cons_zero] at ha
  subst ha
  refine rg_nil (fun w' hw' hF => ?_)
  obtain ⟨z, rfl⟩ := hw'
  simp only [List.drop_succ_cons, List.drop_zero]
  obtain ⟨X, hX⟩ : ∃ X, X = z.w := ⟨_, rfl⟩
  have HX := Lib.hid (HW.out.trans (z.h.mono HW.out.size))
  rw [← hX] at HX ⊢
  clear hF hX z f1
  go_wp2_with fail
  exact bodyPost_ret (v := .int .i64 r.value) (by simp [results, Tryz.results61, go_sem]) rfl ⟨rfl, HX.out⟩
theorem gColV (c : Nat) (hc : c < 4) (r : Rdg) (w : World) : Calls Tryz.prog 61 #[rdV r, .int .i64 (c : Int)] w (Ret (.int .i64 (fldR c r)) w) := by
  obtain rfl | rfl | rfl | rfl : c = 0 ∨ c = 1 ∨ c = 2 ∨ c = 3 := by omega
  · exact gColV0 r w
  · exact gColV1 r w
  · exact gColV2 r w
  · exact gColV3 r w
theorem en_attestor_eval_power : ∀ args w, (callFunc 63 args).run Tryz.prog w = .ok (.enter 63 args) w := enters_of Tryz.func63 (by kernel_rfl) rfl
theorem gPow2 (v m : Int) (h0 : 0 ≤ v) (h1 : v < 256) (hm : v * v = m) (w : World) : Calls Tryz.prog 63 #[.int .i64 v, .int .i64 2] w (Ret (.int .i64 m) w) := by
  have hmb : 0 ≤ m ∧ m < 65536 := by
    rw [← hm]
    exact ⟨Int.mul_nonneg h0 h0, Int.lt_of_le_of_lt (Int.mul_le_mul (show v ≤ 255 by omega) (show v ≤ 255 by omega) h0 (by decide)) (by decide)⟩
  obtain ⟨m0, m1⟩ := hmb
  have hw1 : IntKind.i64.wrap v = v := IntWalk.i64_in _ (by omega)
  have hw2 : IntKind.i64.wrap m = m := IntWalk.i64_in _ (by omega)
  go_enter Tryz.func63, Tryz.ntmps63
  go_wp2
  go_loopw [5, 7] (fun p i wr => ((p = .int .i64 1 ∧ i = .int .i64 0) ∨ (p = .int .i64 v ∧ i = .int .i64 1) ∨ (p = .int .i64 m ∧ i = .int .i64 2)) ∧ wr = w) (fun _ i _ => 3 - (intOf i).toNat)
  case atStart => exact ⟨.inl ⟨rfl, rfl⟩, rfl⟩
  case round =>
    obtain ⟨⟨rfl, rfl⟩ | ⟨rfl, rfl⟩ | ⟨rfl, rfl⟩, rfl⟩ := hrel
    · go_wp2
      exact ⟨⟨.inr (.inl ⟨rfl, rfl⟩), trivial⟩, by simp [intOf]⟩
    · go_wp2
      exact ⟨⟨.inr (.inr ⟨rfl, rfl⟩), trivial⟩, by simp [intOf]⟩
    · go_wp2
      go_ret
      exact ⟨rfl, Below.refl _ _⟩
end Go.Proofs.YtficeebbbkmhcaaGreatDoor
namespace Go.Proofs.YtficeebbbkmhcaaGreatDoor
open Go.RowKit

theorem en_attestor_query_Match_1 : ∀ args w, (callFunc 68 args).run Tryz.prog w = .ok (.enter 68 args) w := enters_of Tryz.func68 (by kernel_rfl) rfl
set_option maxRecDepth 100000 in
theorem gMat5 (a b c : Int) (bx : Nat) (w : World) (hb : Blk w bx 133 #[.int .i64 a, .int .i64 b, .int .i64 5, .int .i64 c]) :
    Calls Tryz.prog 68 #[.agg #[.int .i64 2, .int .i64 5, .int .i64 5], .pointer (some ⟨bx, 0, none⟩)] w (Ret (.bool false) w) := by
  go_enter Tryz.func68, Tryz.ntmps68
  go_upto_region 1 with (fail)
  refine wp_stk1 fun W hW hz b2 => ?_
  have HW := Lib.hid hW
  have f1 := gw_blk b2
  have f2 := gw_blk (hb.keep hW)
  have l1 := (hb.keep hW).lt
  clear hW hz b2 hb
  refine wp_region_rg 16 [] (by kernel_rfl) (by kernel_rfl) (by kernel_rfl) trivial ?_
  iterate 16 (refine rg_det rfl rfl rfl (fun K hK => ?_); go_big_quiet_op; refine hK _ ?_; clear hK K)
  refine rg_nil (fun w' hw' hF => ?_)
  obtain ⟨z, rfl⟩ := hw'
  simp only [List.drop_succ_cons, List.drop_zero]
  obtain ⟨X, hX⟩ : ∃ X, X = z.w := ⟨_, rfl⟩
  have HX := Lib.hid (HW.out.trans (z.h.mono HW.out.size))
  rw [← hX] at HX ⊢
  clear hF hX z f1 f2
  go_wp2_with fail
  exact bodyPost_ret (v := .bool false) (by simp [results, Tryz.results68, go_sem]) rfl ⟨rfl, HX.out⟩
set_option maxRecDepth 100000 in
theorem gMat4 (a b c : Int) (bx : Nat) (w : World) (hb : Blk w bx 133 #[.int .i64 a, .int .i64 b, .int .i64 4, .int .i64 c]) :
    Calls Tryz.prog 68 #[.agg #[.int .i64 2, .int .i64 5, .int .i64 5], .pointer (some ⟨bx, 0, none⟩)] w (Ret (.bool true) w) := by
  go_enter Tryz.func68, Tryz.ntmps68
  go_upto_region 1 with (fail)
  refine wp_stk1 fun W hW hz b2 => ?_
  have HW := Lib.hid hW
  have f1 := gw_blk b2
  have f2 := gw_blk (hb.keep hW)
  have l1 := (hb.keep hW).lt
  clear hW hz b2 hb
  refine wp_region_rg 16 [] (by kernel_rfl) (by kernel_rfl) (by kernel_rfl) trivial ?_
  iterate 8 (refine rg_det rfl rfl rfl (fun K hK => ?_); go_big_quiet_op; refine hK _ ?_; clear hK K)
  simp only [List.take_succ_cons, List.take_zero]
  iterate 7 (with_reducible refine rg_skip (by kernel_rfl) ?_; intro a' ha; simp only [Act.put, List.setIfInBounds_toArray, List.set_cons_succ, List.set_cons_zero] at ha; subst ha)
  refine rg_det rfl rfl rfl (fun K hK => ?_)
  go_big_quiet_op
  refine hK _ ?_; clear hK K
  refine rg_nil (fun w' hw' hF => ?_)
  obtain ⟨z, rfl⟩ := hw'
  simp only [List.drop_succ_cons, List.drop_zero]
  obtain ⟨X, hX⟩ : ∃ X, X = z.w := ⟨_, rfl⟩
  have HX := Lib.hid (HW.out.trans (z.h.mono HW.out.size))
  rw [← hX] at HX ⊢
  clear hF hX z f1 f2
  go_wp2_with fail
  exact bodyPost_ret (v := .bool true) (by simp [results, Tryz.results68, go_sem]) rfl ⟨rfl, HX.out⟩
end Go.Proofs.YtficeebbbkmhcaaGreatDoor
