/-
  The reference's Take and Retract of a stream.
-/
import Derived.Test.YtoiampgfnidfdaaGreatDoorStm26
set_option maxRecDepth 100000
set_option maxHeartbeats 8000000
namespace Go.Proofs.YtoiampgfnidfdaaGreatDoor
open Go.RowKit
section
open Go.RowKit

theorem J3r : En Tryz.prog 81 := enters_of Tryz.func81 (by kernel_rfl) rfl
theorem J37 : En Tryz.prog 79 := enters_of Tryz.func79 (by kernel_rfl) rfl
theorem J8o : Tryz.prog.underlying 61 = some (.slice 28) := by kernel_rfl
theorem J8p : Tryz.prog.underlying 62 = some (.slice 4) := by kernel_rfl
theorem Jd9 : (Tryz.prog.info? 28).map (fun i => (i.zero, i.size, i.bytes)) = some (some (.agg #[.int .i64 0, .int .i64 0, .int .i64 0, .int .i64 0]), 4, 32) := by kernel_rfl
theorem Jda : (Tryz.prog.info? 4).map (fun i => (i.zero, i.size, i.bytes)) = some (some (.bool false), 1, 1) := by kernel_rfl
theorem J3s : Tryz.prog.underlying 64 = some (.struct (Tryz.prog.fieldsOf 64)) := by kernel_rfl
theorem J25 : (Tryz.prog.info? 64).map (·.size) = some 2 := by kernel_rfl
theorem Jb0 {base n size : Nat} {e : TypeId} {v : Value} {xs : List Value} {w X : World} {row : Option Nat} (h : w.ownsRow base e size v n xs) (hg : w.grownBy X row) (hv : ∀ g, v.ownBlock = some g → row ≠ some g) : X.ownsRow base e size v n xs := by
 obtain ⟨h1, h2⟩ := h
 refine ⟨h1, h2.imp id ?_⟩
 rintro ⟨g, cap, cur, rfl, q2, q3, q4⟩
 exact ⟨g, cap, cur, rfl, q2, (hg.block g (Array.getElem?_eq_some_iff.1 q3).1 (fun e => hv g rfl e.symm)).trans q3, q4⟩
theorem Jdb {base n size hi : Nat} {e : TypeId} {v : Value} {xs : List Value} {w X : World} (h : w.ownsRow base e size v n xs) (hb : Below hi w X) (hv : ∀ g, v.ownBlock = some g → g < hi) : X.ownsRow base e size v n xs := by
 obtain ⟨h1, h2⟩ := h
 refine ⟨h1, h2.imp id ?_⟩
 rintro ⟨g, cap, cur, rfl, q2, q3, q4⟩
 exact ⟨g, cap, cur, rfl, q2, (hb.block g (hv g rfl)).trans q3, q4⟩
attribute [local irreducible] wpRg
theorem gTakeS (s : Stm) (hs : s.length ≤ 1000) (r : Rdg) (hr : r.ok) (hri : RdgIn r) (bs : Bse) (w : World) (hw : bs.ok w) (x : StrW) (hx : StrIB bs x s) : Calls Tryz.prog 81 #[.agg (smc x).toArray, rdV r] w fun e W2 => ∃ x' : StrW, e = .returned (.tuple #[.agg (smc x').toArray, .int .i64 0]) ∧ StrIB (bs.new w W2) x' (s ++ [(r, false)]) ∧ Below w.heap.size w W2 := by
 obtain ⟨⟨Al, cl, hl⟩, ⟨Ag, cg, hg⟩⟩ := hx.len
 obtain ⟨xl, xg⟩ := x
 dsimp only at hl hg
 obtain ⟨n, hn⟩ : ∃ n, n = s.length := ⟨_, rfl⟩
 rw [← hn] at hl hg hs
 have HN := Lib.hid hn
 clear hn
 subst hl
 subst hg
 have HX := Lib.hid hx
 have HW := Lib.hid hw
 have HR := Lib.hid hr
 have HRI := Lib.hid hri
 obtain ⟨Sr, hSr⟩ : ∃ S, S = rdV r := ⟨_, rfl⟩
 rw [← hSr]
 unfold smc
 dsimp only
 clear hx hw hr hri
 go_enter Tryz.func81, Tryz.ntmps81
 go_upto_region 1 with (fail)
 refine J26 fun W hB hz b2 b3 b4 => ?_
 have b3' : Blk W (w.heap.size + 1) 28 (rdc r).toArray := by first | exact b3 | (rw [hSr] at b3; exact b3)
 have hWs : w.heap.size + 3 ≤ W.heap.size := by have := hz.out; omega
 clear b3 hz hSr
 refine wp_region_lit ?_
 refine wpSk rfl (J1 (cs := rdc r) J1c rfl J1f rfl rfl (J4 b3')) fun v8 w8 hh => ?_
 obtain ⟨rfl, rfl⟩ := hh
 try simp only [PutS]
 have hval := rValid12 r HRI.out w8
 rw [decide_eq_true HR.out] at hval
 refine wpSk rfl (J7 J2f hval rfl rfl) fun v9 w9 hh => ?_
 obtain ⟨rfl, B9⟩ := hh
 try simp only [PutS]
 have b2w := b2.keep B9
 have b3w := b3'.keep B9
 have b4w := b4.keep B9
 have hBw := hB.trans (B9.mono hB.size)
 have hw9 := B9.size
 have c2 := b2w.cell
 have l2 := b2w.lt
 have c20 := c2 0
 simp only [List.getElem?_toArray, List.getElem?_cons_zero] at c20
 obtain ⟨g2, hg2⟩ : ∃ g, g = w.heap.size := ⟨_, rfl⟩
 rw [← hg2] at b2w b3w b4w c20 l2 ⊢
 have HG2 := Lib.hid hg2
 have HWS := Lib.hid hWs
 have HW9 := Lib.hid hw9
 clear hval B9 b2 b3' b4 hB c2 hg2 hWs hw9
 try simp only [PutS]
 have hge : decide ((65536 : Int) ≤ (n : Int)) = false := by simp; omega
 go_upto_region 5 with (fail)
 refine wp_region_lit ?_
 obtain ⟨iR, hiR, iR0, iR1, iR2⟩ := info_parts Jd9
 obtain ⟨iB, hiB, iB0, iB1, iB2⟩ := info_parts Jda
 obtain ⟨N, hN⟩ : ∃ N, N = w.heap.size + 3 := ⟨_, rfl⟩
 have hN9 : N ≤ w9.heap.size := by have := HWS.out; have := HW9.out; omega
 have HNE := Lib.hid hN
 have c21 : w9.cell? ⟨g2, 1, none⟩ = some (.slice Ag n cg) := (b2w.cell 1).trans rfl
 clear hge hN
 refine wpList_plain rfl fun K hK => ?_; go_big_op; refine hK _ _ ?_; clear hK K
 refine stk1 (M := fun W => wpList _ _ _ _ _ W) fun W10 hB10 hz10 b17 => ?_
 have own17 : W10.ownsRow N 28 4 (.slice (some ⟨w9.heap.size, 0, none⟩) 0 0) 0 [] := ⟨rfl, .inr ⟨w9.heap.size, 0, #[], rfl, hN9, b17, Nat.le_refl _, Nat.zero_le _, rfl, rfl⟩⟩
 have d0 := (hB10.cell (p := ⟨g2, 0, none⟩) l2).trans c20
 have d1 := (hB10.cell (p := ⟨g2, 1, none⟩) l2).trans c21
 have l2a := Nat.lt_of_lt_of_le l2 hB10.size
 have hBa := hBw.trans (hB10.mono hBw.size)
 have hNa : N ≤ W10.heap.size := Nat.le_trans hN9 hB10.size
 have b3a := b3w.keep hB10
 have b4a := b4w.keep hB10
 have hr1 := HX.out.1 W10 (HW.out.below hBa)
 clear hz10 b17 c20 c21 b2w b3w b4w hB10 hBw
 dsimp only at hr1
 rw [← HN.out] at hr1
 iterate 2 (refine wpList_plain rfl fun K hK => ?_; go_big_op; refine hK _ _ ?_; clear hK K)
 refine J21 (base := N) (cl := rdsc s) (cs := []) rfl (.tmp 17) (.tmp 19) rfl J8o hiR iR0 iR1 iR2 rfl (by decide) (Jes s) rfl rfl hr1 own17 (by unfold maxLen; omega) (by omega) hNa fun v20 w20 own20 gr20 B20 => ?_
 rw [Nat.zero_add, List.nil_append] at own20
 obtain ⟨A20, k20, rfl⟩ := Jy own20
 have hg2N : g2 < N := by have := HNE.out; have := HG2.out; omega
 have d1b := (B20.cell (p := ⟨g2, 1, none⟩) hg2N).trans d1
 have l2b := Nat.lt_of_lt_of_le l2a B20.size
 have hBb : Below w.heap.size w w20 := hBa.trans (B20.mono (by have := HNE.out; omega))
 have hNb : N ≤ w20.heap.size := Nat.le_trans hNa B20.size
 have b3b := b3a.below B20 (by have := HNE.out; have := HG2.out; omega)
 have b4b := b4a.below B20 (by have := HNE.out; have := HG2.out; omega)
 clear hr1 own17 gr20 B20 d0 d1 l2a b3a b4a hBa
 have HO20 := Lib.hid own20
 have HO20w := Lib.hid own20
 clear own20
 try simp only [PutS]
 go_upto_region 6 with (fail)
 refine wp_region_lit ?_
 refine wpList_plain rfl fun K hK => ?_; go_big_op; refine hK _ _ ?_; clear hK K
 refine stk1 (M := fun W => wpList _ _ _ _ _ W) fun W11 hB11 hz11 b21 => ?_
 have own21 : W11.ownsRow w20.heap.size 4 1 (.slice (some ⟨w20.heap.size, 0, none⟩) 0 0) 0 [] := ⟨rfl, .inr ⟨w20.heap.size, 0, #[], rfl, Nat.le_refl _, b21, Nat.le_refl _, Nat.zero_le _, rfl, rfl⟩⟩
 have d1c := (hB11.cell (p := ⟨g2, 1, none⟩) l2b).trans d1b
 have l2c := Nat.lt_of_lt_of_le l2b hB11.size
 have hBc := hBb.trans (hB11.mono hBb.size)
 have HO20c := Lib.hid (Jq HO20.out (Nat.le_refl _) hB11)
 have b3c := b3b.keep hB11
 have b4c := b4b.keep hB11
 have hr2 := HX.out.2 W11 (HW.out.below hBc)
 have hNc := hB11.size
 clear hz11 b21 d1b b3b b4b hB11 hBb HO20
 dsimp only at hr2
 rw [← HN.out] at hr2
 iterate 2 (refine wpList_plain rfl fun K hK => ?_; go_big_op; refine hK _ _ ?_; clear hK K)
 refine J21 (base := w20.heap.size) (cl := gnc s) (cs := []) rfl (.tmp 21) (.tmp 23) rfl J8p hiB iB0 iB1 iB2 rfl (by decide) (Jgi s) rfl rfl hr2 own21 (by unfold maxLen; omega) (by omega) hNc fun v24 w24 own24 gr24 B24 => ?_
 rw [Nat.zero_add, List.nil_append] at own24
 obtain ⟨A24, k24, rfl⟩ := Jy own24
 have hBd : Below w.heap.size w w24 := hBc.trans (B24.mono (by have := HNE.out; omega))
 have own20d : w24.ownsRow N 28 4 (.slice A20 n k20) n (rdsc s) := Jdb HO20c.out B24 (fun g hg => (Jk HO20w.out hg).2)
 have b3d := b3c.below B24 (by have := HNE.out; have := HG2.out; omega)
 have b4d := b4c.below B24 (by have := HNE.out; have := HG2.out; omega)
 have hNd : w20.heap.size ≤ w24.heap.size := Nat.le_trans hNc B24.size
 clear hr2 own21 gr24 d1c l2c b3c b4c hBc
 have HO24 := Lib.hid own24
 have HO20d := Lib.hid own20d
 clear own24 own20d
 try simp only [PutS]
 go_upto_region 7 with (fail)
 refine wp_region_lit ?_
 refine wpList_plain rfl fun K hK => ?_; go_big_op; refine hK _ _ ?_; clear hK K
 refine wpSk rfl (J1 (cs := rdc r) J1c rfl J1f rfl rfl (J4 b3d)) fun v26 w26 hh => ?_
 obtain ⟨rfl, rfl⟩ := hh
 try simp only [PutS]
 refine wpSk rfl (J15 (cs := (rdc r).toArray) J8o hiR iR0 iR1 (by decide) (by decide) rfl rfl rfl) fun v27 w27 hh => ?_
 obtain ⟨⟨rfl, hl27, b27⟩, B27⟩ := hh
 try simp only [PutS]
 have o20 := Jq HO20d.out (Nat.le_refl _) B27
 have o24 := Jq HO24.out (Nat.le_refl _) B27
 have b4e := b4d.keep B27
 have hBe := hBd.trans (B27.mono hBd.size)
 have hNe : w20.heap.size ≤ w27.heap.size := Nat.le_trans hNd B27.size
 have h24 : ∀ g, (Value.slice A24 n k24).ownBlock = some g → w20.heap.size ≤ g ∧ g < w26.heap.size := fun g hg => Jk HO24.out hg
 have h20 : ∀ g, (Value.slice A20 n k20).ownBlock = some g → N ≤ g ∧ g < w20.heap.size := fun g hg => Jk HO20w.out hg
 have H24 := Lib.hid h24
 have H20 := Lib.hid h20
 have hg2w : g2 + 2 < N := by have := HNE.out; have := HG2.out; omega
 clear h24 h20 HO24 HO20d b3d b4d hBd hNd
 refine J29 (u := .slice A20 n k20) (base := N) (n := w26.heap.size) (cl := rdc r) (cs := rdsc s) rfl (.tmp 25) (.tmp 27) rfl J8o hiR iR0 iR1 iR2 rfl (by decide) rfl (fun v hv => by simp only [rdc, List.mem_cons, List.not_mem_nil, or_false] at hv; rcases hv with rfl | rfl | rfl | rfl <;> rfl) rfl rfl o20 b27 (by unfold maxLen; omega) (by omega) (by omega) fun v28 w28 own28 gr28 B28 hat28 => ?_
 obtain ⟨A28, k28, rfl⟩ := Jy own28
 have b4f := b4e.below B28 (by omega)
 have hBf := hBe.trans (B28.mono (by have := HNE.out; omega))
 have o24f := Jb0 o24 gr28 (fun g hg e => by have := (H20.out g e).2; have := (H24.out g hg).1; omega)
 have h27 := B27.size
 have h28 := B28.size
 have hat : ∀ g, (Value.slice A28 (n + 1) k28).ownBlock = some g → N ≤ g ∧ (g < w20.heap.size ∨ w26.heap.size ≤ g) := fun g hg => ⟨(Jk own28 hg).1, by
  rcases hat28 with h | h
  · exact .inl (H20.out g (by rw [← h]; exact hg)).2
  · rw [h] at hg; cases hg; exact .inr h27⟩
 have HAT := Lib.hid hat
 have HO28 := Lib.hid own28
 have HO24f := Lib.hid o24f
 clear o20 o24 b4e hBe b27 hl27 B27 gr28 B28 hat28 hat own28 o24f
 try simp only [PutS]
 refine wpList_plain rfl fun K hK => ?_; go_big_op; refine hK _ _ ?_; clear hK K
 refine wpSk rfl (J15 (cs := #[.bool false]) J8p hiB iB0 iB1 (by decide) (by decide) rfl rfl rfl) fun v30 w30 hh => ?_
 obtain ⟨⟨rfl, hl30, b30⟩, B30⟩ := hh
 try simp only [PutS]
 have o28 := Jq HO28.out (Nat.le_refl _) B30
 have o24 := Jq HO24f.out (Nat.le_refl _) B30
 have b4g := b4f.keep B30
 have hBg := hBf.trans (B30.mono hBf.size)
 have h30 := B30.size
 refine J29 (u := .slice A24 n k24) (base := w20.heap.size) (n := w28.heap.size) (cl := [.bool false]) (cs := gnc s) rfl (.tmp 29) (.tmp 30) rfl J8p hiB iB0 iB1 iB2 rfl (by decide) rfl (fun v hv => by rw [List.mem_singleton.1 hv]; rfl) rfl rfl o24 b30 (by unfold maxLen; omega) (by omega) (by omega) fun v31 w31 own31 gr31 B31 hat31 => ?_
 obtain ⟨A31, k31, rfl⟩ := Jy own31
 have o28f := Jb0 o28 gr31 (fun g hg e => by have := H24.out g e; have := HAT.out g hg; omega)
 have b4h := b4g.below B31 (by omega)
 have hBh := hBg.trans (B31.mono (by have := HNE.out; omega))
 have HO28f := Lib.hid o28f
 have HO31 := Lib.hid own31
 have hw20N : N ≤ w20.heap.size := hNb
 clear o28 o24 b4g hBg b30 hl30 B30 gr31 B31 hat31 own31 o28f HO28 HO24f b4f hBf
 try simp only [PutS]
 refine wpList_plain rfl fun K hK => ?_; go_big_op; refine hK _ _ ?_; clear hK K
 refine J6 rfl 64 (.tmp 4) (.tmp 32) rfl rfl (cells := [.slice A28 (n + 1) k28, .slice A31 (n + 1) k31]) rfl b4h (by simp) J25 rfl rfl fun X hX bX => ?_
 have hBX := J2 hBh hX (by have := HG2.out; omega)
 have p28 := Jt HO28f.out hX (fun e => by have := (HAT.out _ e).1; omega)
 have p31 := Jt HO31.out hX (fun e => by have := (Jk HO31.out e).1; omega)
 have P28 := Lib.hid p28
 have P31 := Lib.hid p31
 clear hX b4h hBh p28 p31
 try simp only [PutS]
 go_wp2_with fail
 refine bodyPost_ret (v := .tuple #[.agg #[.slice A28 (n + 1) k28, .slice A31 (n + 1) k31], .int .i64 0]) (res_mt (c1 := [.slice A28 (n + 1) k28, .slice A31 (n + 1) k31]) (g1 := g2 + 1 + 1) rfl rfl rfl J3s rfl J25 bX) rfl ⟨⟨.slice A28 (n + 1) k28, .slice A31 (n + 1) k31⟩, rfl, ?_, hBX⟩
 have hw0 : w.heap.size ≤ N := by have := HNE.out; omega
 refine ⟨?_, ?_⟩
 ·
  rw [show rdsc (s ++ [(r, false)]) = rdsc s ++ rdc r by simp [rdsc], List.length_append, ← HN.out]
  show RdB _ 4 _ (n + 1) _
  exact Jan P28.out (by omega) (fun g hg => .inr (by omega))
 ·
  rw [show gnc (s ++ [(r, false)]) = gnc s ++ [.bool false] by simp [gnc], List.length_append, ← HN.out]
  show RdB _ 1 _ (n + 1) _
  exact Jan P31.out (by omega) (fun g hg => .inr (by omega))
theorem Jmm (s : Stm) (i : Nat) (r : Rdg) : (gnc s).set i (.bool true) = gnc (s.set i (r, true)) := by
 unfold gnc
 rw [List.map_set]
theorem Jki (s : Stm) (i : Nat) (r : Rdg) (h : s[i]? = some (r, false)) : rdsc (s.set i (r, true)) = rdsc s := by
 unfold rdsc
 rw [List.flatMap_def, List.flatMap_def, List.map_set]
 congr 1
 refine J64 _ _ _ ?_
 rw [List.getElem?_map, h]
 rfl
theorem gRetrS (s : Stm) (hs : s.length ≤ 1000) (i : Nat) (r : Rdg) (hi : s[i]? = some (r, false)) (bs : Bse) (w : World) (hw : bs.ok w) (x : StrW) (hx : StrIB bs x s) : Calls Tryz.prog 79 #[.agg (smc x).toArray, .int .i64 (i : Int)] w fun e W2 => ∃ x' : StrW, e = .returned (.tuple #[.agg (smc x').toArray, .int .i64 0]) ∧ StrIB (bs.new w W2) x' (s.set i (r, true)) ∧ Below w.heap.size w W2 := by
 obtain ⟨⟨Al, cl, hl⟩, ⟨Ag, cg, hg⟩⟩ := hx.len
 obtain ⟨xl, xg⟩ := x
 dsimp only at hl hg
 have hil : i < s.length := (List.getElem?_eq_some_iff.1 hi).1
 obtain ⟨n, hn⟩ : ∃ n, n = s.length := ⟨_, rfl⟩
 rw [← hn] at hl hg hs hil
 have HN := Lib.hid hn
 clear hn
 subst hl
 subst hg
 have HX := Lib.hid hx
 have HW := Lib.hid hw
 have HI := Lib.hid hi
 unfold smc
 dsimp only
 clear hx hw hi
 go_enter Tryz.func79, Tryz.ntmps79
 go_upto_region 1 with (fail)
 refine J1h fun W hB hz b2 b4 => ?_
 obtain ⟨g2, hg2⟩ : ∃ g, g = w.heap.size := ⟨_, rfl⟩
 rw [← hg2] at b2 b4 ⊢
 have HG2 := Lib.hid hg2
 have HWS := Lib.hid hz.out
 have hr1 := HX.out.1 W (HW.out.below hB)
 have hr2 := HX.out.2 W (HW.out.below hB)
 dsimp only at hr1 hr2
 rw [← HN.out] at hr1 hr2
 obtain ⟨gg, og, cg', hvg, hcg, hgg, hkg⟩ := hr2.form (by omega)
 cases hvg
 have kg := hkg i (.bool false) (by simp [gnc, HI.out])
 have c21 := (b2.cell 1).trans rfl
 have c20 := (b2.cell 0).trans rfl
 have l2 := b2.lt
 have f4 := b4.frozen
 obtain ⟨iR, hiR, iR0, iR1, iR2⟩ := info_parts Jd9
 obtain ⟨iB, hiB, iB0, iB1, iB2⟩ := info_parts Jda
 have hz1 : ¬ ((i : Int) < 0) := by omega
 have hz2 : ¬ ((n : Int) ≤ (i : Int)) := by omega
 clear hg2 hz hkg
 go_upto_region 5 with (fail)
 have HC1 := Lib.hid c21
 have HC0 := Lib.hid c20
 have HR1 := Lib.hid hr1
 have HR2 := Lib.hid hr2
 have hWs := HWS.out
 have HWB := Lib.hid (show W.heap.size = g2 + 2 by have := HG2.out; omega)
 clear hWs c20 kg hr1 hr2 hz1 hz2 hgg
 refine wp_region_lit ?_
 refine wpList_plain rfl fun K hK => ?_; go_big_op; refine hK _ _ ?_; clear hK K
 refine stk1 (M := fun W => wpList _ _ _ _ _ W) fun W10 hB10 hz10 b23 => ?_
 have own23 : W10.ownsRow W.heap.size 4 1 (.slice (some ⟨W.heap.size, 0, none⟩) 0 0) 0 [] := ⟨rfl, .inr ⟨W.heap.size, 0, #[], rfl, Nat.le_refl _, b23, Nat.le_refl _, Nat.zero_le _, rfl, rfl⟩⟩
 have d1 := (hB10.cell (p := ⟨g2, 1, none⟩) l2).trans HC1.out
 have l2a := Nat.lt_of_lt_of_le l2 hB10.size
 have hr2 := Rd.keep HR2.out hB10
 have hNa := hB10.size
 clear hz10 b23 c21
 iterate 2 (refine wpList_plain rfl fun K hK => ?_; go_big_op; refine hK _ _ ?_; clear hK K)
 refine J21 (base := W.heap.size) (cl := gnc s) (cs := []) rfl (.tmp 23) (.tmp 25) rfl J8p hiB iB0 iB1 iB2 rfl (by decide) (Jgi s) rfl rfl hr2 own23 (by unfold maxLen; omega) (by omega) hNa fun v26 w26 own26 gr26 B26 => ?_
 rw [Nat.zero_add, List.nil_append] at own26
 obtain ⟨g26, c26, rest26, hv26, hc26, hg26, hl26, b26⟩ := (own_a own26).form (by omega)
 subst hv26
 have hBX : Below W.heap.size W w26 := (hB10.mono (Nat.le_refl _)).trans B26
 have HO26 := Lib.hid own26
 have f26 := b26.frozen
 clear hr2 own23 gr26 B26 d1 l2a hB10 own26
 have hnl : (gnc s).length = n := by rw [Jml, HN.out]
 have k26 : w26.cell? ⟨g26, i, none⟩ = some (.bool false) := by
  rw [b26.cell]
  simp only [List.getElem?_toArray]
  rw [List.getElem?_append_left (by rw [hnl]; exact hil)]
  simp [gnc, HI.out]
 have HNL := Lib.hid hnl
 clear hnl
 try simp only [PutS]
 go_upto_region 7 with (fail)
 obtain ⟨Z, hZ⟩ : ∃ Z, Z = w26.setCell ⟨g26, i, none⟩ (.bool true) := ⟨_, rfl⟩
 have hZp : Put w26 Z g26 := by rw [hZ]; exact Put.set _ _ _ _
 have hownZ := J9l (idx := i) (x := Value.bool true) HO26.out (by rw [HNL.out]; exact hil)
 rw [← hZ] at hownZ ⊢
 rw [Jmm s i r] at hownZ
 have hBZ : Below W.heap.size W Z := J2 hBX hZp hg26
 have d0 := (hBZ.cell (p := ⟨g2, 0, none⟩) l2).trans HC0.out
 have l2z := Nat.lt_of_lt_of_le l2 hBZ.size
 have b4Z := b4.below hBZ (by have := HWB.out; omega)
 have HOZ := Lib.hid hownZ
 have hZs := hBZ.size
 clear hZ hZp hownZ k26 f26 b26 hBX HO26
 refine wp_region_lit ?_
 refine wpList_plain rfl fun K hK => ?_; go_big_op; refine hK _ _ ?_; clear hK K
 refine stk1 (M := fun W => wpList _ _ _ _ _ W) fun W11 hB11 hz11 b30 => ?_
 have own30 : W11.ownsRow Z.heap.size 28 4 (.slice (some ⟨Z.heap.size, 0, none⟩) 0 0) 0 [] := ⟨rfl, .inr ⟨Z.heap.size, 0, #[], rfl, Nat.le_refl _, b30, Nat.le_refl _, Nat.zero_le _, rfl, rfl⟩⟩
 have d0c := (hB11.cell (p := ⟨g2, 0, none⟩) l2z).trans d0
 have l2c := Nat.lt_of_lt_of_le l2z hB11.size
 have hr1 := (HX.out.1 W11 (HW.out.below (hB.trans ((hBZ.mono hB.size).trans (hB11.mono (Nat.le_trans hB.size hZs))))))
 dsimp only at hr1
 rw [← HN.out] at hr1
 have o6 := Jq HOZ.out (Nat.le_refl _) hB11
 have b4c := b4Z.keep hB11
 have hNc := hB11.size
 clear hz11 b30 d0
 iterate 2 (refine wpList_plain rfl fun K hK => ?_; go_big_op; refine hK _ _ ?_; clear hK K)
 refine J21 (base := Z.heap.size) (cl := rdsc s) (cs := []) rfl (.tmp 30) (.tmp 32) rfl J8o hiR iR0 iR1 iR2 rfl (by decide) (Jes s) rfl rfl hr1 own30 (by unfold maxLen; omega) (by omega) hNc fun v33 w33 own33 gr33 B33 => ?_
 rw [Nat.zero_add, List.nil_append] at own33
 obtain ⟨A33, c33, rfl⟩ := Jy own33
 have o6f := Jdb o6 B33 (fun g hg => (Jk HOZ.out hg).2)
 have b4d := b4c.below B33 (by have := HWB.out; omega)
 have hBd : Below w.heap.size w w33 := (hB.trans ((hBZ.mono hB.size).trans (hB11.mono (Nat.le_trans hB.size hZs)))).trans (B33.mono (Nat.le_trans hB.size hZs))
 have HO6 := Lib.hid o6f
 have HO33 := Lib.hid own33
 clear o6 own30 gr33 B33 d0c l2c b4c hr1 own33 o6f hB11
 try simp only [PutS]
 iterate 2 (refine wpList_plain rfl fun K hK => ?_; go_big_op; refine hK _ _ ?_; clear hK K)
 refine J6 rfl 64 (.tmp 4) (.tmp 35) rfl rfl (cells := [.slice A33 n c33, .slice (some ⟨g26, 0, none⟩) n c26]) rfl b4d (by simp) J25 rfl rfl fun X hX bX => ?_
 have hBX := J2 hBd hX (by have := HG2.out; omega)
 have p33 := Jt HO33.out hX (fun e => by have := (Jk HO33.out e).1; have := HWB.out; omega)
 have p6 := Jt HO6.out hX (fun e => by have := (Jk HO6.out e).1; have := HWB.out; omega)
 have P33 := Lib.hid p33
 have P6 := Lib.hid p6
 clear hX b4d hBd p33 p6
 try simp only [PutS]
 go_wp2_with fail
 refine bodyPost_ret (v := .tuple #[.agg #[.slice A33 n c33, .slice (some ⟨g26, 0, none⟩) n c26], .int .i64 0]) (res_mt (c1 := [.slice A33 n c33, .slice (some ⟨g26, 0, none⟩) n c26]) (g1 := g2 + 1) rfl rfl rfl J3s rfl J25 bX) rfl ⟨⟨.slice A33 n c33, .slice (some ⟨g26, 0, none⟩) n c26⟩, rfl, ?_, hBX⟩
 have hw0 : w.heap.size ≤ W.heap.size := hB.size
 refine ⟨?_, ?_⟩
 ·
  rw [Jki s i r HI.out, List.length_set, ← HN.out]
  exact Jan P33.out (by omega) (fun g hg => .inr (by omega))
 ·
  rw [List.length_set, ← HN.out]
  exact Jan P6.out (by omega) (fun g hg => .inr (by omega))
end
end Go.Proofs.YtoiampgfnidfdaaGreatDoor
