/-
  The law's sanity (chapter 26).
-/
import Derived.Test.YtoiampgfnidfdaaGreatDoorStm26
set_option maxRecDepth 100000
set_option maxHeartbeats 8000000
namespace Go.Proofs.YtoiampgfnidfdaaGreatDoor
open Go.RowKit
section
open Go.RowKit

theorem J5o : En Tryz.prog 8 := enters_of Tryz.func8 (by kernel_rfl) rfl
theorem rdIn_a : RdgIn ra26 := by unfold RdgIn; decide
theorem rdIn_b : RdgIn rb26 := by unfold RdgIn; decide
def S6 (g6 : Nat) (g : Nat) : Prop := g ≠ g6
def S7 (g6 g17 : Nat) (g : Nat) : Prop := g ≠ g6 ∧ g ≠ g17
attribute [local irreducible] wpRg keyD sha leafD pairD r26 w26
theorem lSanity26 (w : World) (hL : Laid w) (hS : Lsh w) (hD : Ldb w) : Calls Tryz.prog 8 #[] w (Ret (.bool true) w) := by
 have HL := Lib.hid hL
 have HS := Lib.hid hS
 have HD := Lib.hid hD
 clear hL hS hD
 go_enter Tryz.func8, Tryz.ntmps8
 go_upto_region 1 with (fail)
 refine wp_region_lit ?_
 refine wpSk rfl (Jkg rfl) fun v41 w41 hh => ?_
 obtain ⟨rfl, rfl⟩ := hh
 try simp only [PutS]
 obtain ⟨iD, hiD, iD0, iD1, iD2⟩ := info_parts J2b
 refine wpSk rfl (Jl hiD iD0 rfl) fun v1 w1 hh => ?_
 obtain ⟨rfl, rfl⟩ := hh
 try simp only [PutS]
 have b1 : Blk (w41.alloc (.cells (Value.agg (zb 32).toArray).cells 23)) w41.heap.size 23 (zb 32).toArray := World.alloc_heap_new w41 _
 have B1 := (Below.refl _ w41).alloc (Nat.le_refl _) (.cells (Value.agg (zb 32).toArray).cells 23)
 generalize w41.alloc (.cells (Value.agg (zb 32).toArray).cells 23) = w1 at *
 refine J6 rfl 23 (.tmp 1) (.tmp 41) rfl rfl (cells := byc sd26) rfl b1 (by decide) (by rw [Jc]; rfl) (Jw _) (Ja _ _ rfl) fun X1 hX1 f1 => ?_
 have hB : Below w41.heap.size w41 X1 := J2 B1 hX1 (Nat.le_refl _)
 obtain ⟨g1, hg1⟩ : ∃ g, g = w41.heap.size := ⟨_, rfl⟩
 rw [← hg1] at f1 ⊢
 clear b1 B1 hX1 hg1
 try simp only [PutS]
 go_upto_region 3 with (fail)
 refine J1h fun X2 hX2 hz2 f2 f3 => ?_
 have f2' : Blk X2 X1.heap.size 28 (rdc ra26).toArray := f2
 have f3' : Blk X2 (X1.heap.size + 1) 28 (rdc rb26).toArray := f3
 obtain ⟨g2, hg2⟩ : ∃ g, g = X1.heap.size := ⟨_, rfl⟩
 rw [← hg2] at f2' f3' ⊢
 replace f1 := f1.keep hX2
 replace hB := hB.trans (hX2.mono hB.size)
 clear f2 f3 hX2 hz2 hg2
 have hsd : DgOk sd26 := Jgg
 have hwz := hB.size
 obtain ⟨iM, hiM, iM0, iM1, iM2⟩ := info_parts J2q
 apply join26 (Q := fun n A c X => Below X2.heap.size X2 X)
 case h =>
  intro kk
  have KK := Lib.hid kk
  clear kk
  refine J47 8 6 undef [(0, Spec.val (dgv sd26)), (1, Spec.val (mtV m26z (.slice none 0 0))), (2, Spec.val (rdV ra26)), (3, Spec.rel (Was (PM (fun _ => True) m26z 260)) (TupM m26z 260)), (7, Spec.rel (New 35 (mtc ⟨0, List.replicate 32 0, []⟩ (.slice none 0 0)).toArray) (NewF))] (by kernel_rfl) (by kernel_rfl) (by kernel_rfl) rfl rfl rfl rfl ⟨fit_pm, J8x, trivial⟩ ?_ ?_
  refine rg_val rfl rfl (fun W1 hW1 hF => Jf (cs := byc sd26) Jg rfl (by rw [Jc]; rfl) rfl rfl (J4 (f1.keep (J8 hW1)))) ?_
  intro a' ha
  simp only [PutS] at ha
  subst ha
  refine rg_val rfl rfl (fun W1 hW1 hF => J7 J2z (gNew sd26 hsd W1) rfl rfl) ?_
  intro a' ha
  simp only [PutS] at ha
  subst ha
  refine rg_val rfl rfl (fun W1 hW1 hF => Jf (cs := rdc ra26) J1c rfl J1f rfl rfl (J4 (f2'.keep (J8 hW1)))) ?_
  intro a' ha
  simp only [PutS] at ha
  subst ha
  refine rg_rel rfl rfl (fun W1 hW1 hF => Jp J1t (((gTakeM m26z (z26_ok.n (by decide)) z26_ok.n5 z26_ok.cnt ra26 rdIn_a (.slice none 0 0) ⟨W1, fun _ => True⟩ W1 (Bse.ok_self _) (HL.out.keep (hB.trans ((J8 hW1).mono hB.size))) (HS.out.keep (hB.trans ((J8 hW1).mono hB.size))) (HD.out.keep (hB.trans ((J8 hW1).mono hB.size))) (J7o _)).mono (J7p x26a fun _ _ => trivial))) rfl rfl) ?_
  intro n3 m3 v3 hn3 hm3 hd3 hf3 a' ha
  simp only [PutS] at ha
  subst ha
  obtain ⟨A3, cap3, rfl⟩ := hf3
  iterate 3 (refine rg_det rfl rfl rfl (fun K hK => ?_); go_big_quiet_op; refine hK _ ?_; clear hK K)
  refine rg_rel rfl rfl (fun W1 hW1 hF => J4m hiM iM0 rfl) ?_
  intro n7 m7 v7 hn7 hm7 hd7 hf7 a' ha
  simp only [PutS] at ha
  subst ha
  obtain rfl := hf7
  refine rg_nil (fun w' hw' hF => ?_)
  obtain ⟨z, rfl⟩ := hw'
  simp only [List.drop_succ_cons, List.drop_zero]
  rotate_left 1
  refine rg_val rfl rfl (fun W1 hW1 hF => Jf (cs := byc sd26) Jg rfl (by rw [Jc]; rfl) rfl rfl (J4 (f1.keep (J8 hW1)))) ?_
  intro a' ha
  simp only [PutS] at ha
  subst ha
  refine rg_val rfl rfl (fun W1 hW1 hF => J7 J2z (gNew sd26 hsd W1) rfl rfl) ?_
  intro a' ha
  simp only [PutS] at ha
  subst ha
  refine rg_val rfl rfl (fun W1 hW1 hF => Jf (cs := rdc ra26) J1c rfl J1f rfl rfl (J4 (f2'.keep (J8 hW1)))) ?_
  intro a' ha
  simp only [PutS] at ha
  subst ha
  refine rg_rel rfl rfl (fun W1 hW1 hF => Jp J1t (((gTakeM m26z (z26_ok.n (by decide)) z26_ok.n5 z26_ok.cnt ra26 rdIn_a (.slice none 0 0) ⟨W1, fun _ => True⟩ W1 (Bse.ok_self _) (HL.out.keep (hB.trans ((J8 hW1).mono hB.size))) (HS.out.keep (hB.trans ((J8 hW1).mono hB.size))) (HD.out.keep (hB.trans ((J8 hW1).mono hB.size))) (J7o _)).mono (J7p x26a fun _ _ => trivial))) rfl rfl) ?_
  intro n3 m3 v3 hn3 hm3 hd3 hf3 a' ha
  simp only [PutS] at ha
  subst ha
  obtain ⟨A3, cap3, rfl⟩ := hf3
  iterate 2 (refine rg_det rfl rfl rfl (fun K hK => ?_); go_big_quiet_op; refine hK _ ?_; clear hK K)
  refine J90 rfl rfl ?_
  intro a' ha
  simp only [PutS] at ha
  subst ha
  refine rg_rel rfl rfl (fun W1 hW1 hF => J4m hiM iM0 rfl) ?_
  intro n7 m7 v7 hn7 hm7 hd7 hf7 a' ha
  simp only [PutS] at ha
  subst ha
  obtain rfl := hf7
  refine rg_nil (fun w' hw' hF => ?_)
  obtain ⟨z, rfl⟩ := hw'
  simp only [List.drop_succ_cons, List.drop_zero]
  refine J5c ?_
  intro a' ha
  simp only [PutS] at ha
  subst ha
  rotate_right 1
  all_goals
   obtain ⟨hm7, -, hl7, b7⟩ := J30 hF
   clear hF
   refine J6 rfl 35 (.tmp 4) (.tmp 49) rfl rfl (cells := mtc m26z (.slice A3 m26z.eps.length cap3)) rfl b7 (by rw [List.size_toArray, J0 ⟨0, List.replicate 32 0, []⟩ _ rfl, J0 m26z _ rfl]; exact Nat.le_refl _) (by rw [J5, J0 m26z _ rfl]) (Ji _ _ rfl) (Ja _ _ (by rw [List.size_toArray, J0 ⟨0, List.replicate 32 0, []⟩ _ rfl, J0 m26z _ rfl])) fun X4 hX4 bX4 => ?_
   try simp only [PutS]
   go_upto_region 4 with (fail)
   rename_i K hK
   revert K
   exact KK.out n7 A3 cap3 X4 (J2 z.h hX4 hn7)
 intro n4 A4 c4 X4 BB4 K hK
 clear hiM iM0 iM1 iM2
 replace f1 := f1.keep BB4
 replace f2' := f2'.keep BB4
 replace f3' := f3'.keep BB4
 replace hB := hB.trans (BB4.mono hB.size)
 clear BB4
 refine wp_region_lit ?_
 refine wpSk rfl (J1 (cs := byc sd26) Jg rfl (by rw [Jc]; rfl) rfl rfl (J4 f1)) fun v52 w52 hh => ?_
 obtain ⟨rfl, rfl⟩ := hh
 try simp only [PutS]
 refine wpSk rfl (J7 J2z (gNew sd26 hsd w52) rfl rfl) fun v53 w53 hh => ?_
 obtain ⟨rfl, B53⟩ := hh
 try simp only [PutS]
 replace f1 := f1.keep B53
 replace f2' := f2'.keep B53
 replace f3' := f3'.keep B53
 replace hB := hB.trans (B53.mono hB.size)
 clear B53
 refine wpSk rfl (Jm J2u ((gOpenM m26z (z26_ok.n (by decide)) (by decide) 1 2 (by decide) (by decide) (.slice none 0 0) ⟨w53, fun _ => True⟩ w53 (Bse.ok_self _) (HS.out.keep hB) (J7o _)).mono (J1v x26b)) rfl rfl) fun v54 w54 hh => ?_
 obtain ⟨vE55, rfl, E55, B54⟩ := hh
 try simp only [PutS]
 have hw54 : w41.heap.size ≤ w54.heap.size := by have := hB.size; have := B54.size; omega
 replace E55 : EpsB ⟨w54, fun _ => True⟩ vE55 m26a.eps := eps_to E55 fun _ _ _ => trivial
 obtain ⟨AE55, cE55, hvE⟩ := E55.len
 have HV55 := Lib.hid hvE
 clear hvE
 replace f1 := f1.keep B54
 replace f2' := f2'.keep B54
 replace f3' := f3'.keep B54
 replace hB := hB.trans (B54.mono hB.size)
 clear B54
 refine wpList_plain rfl fun K hK => ?_; go_big_op; refine hK _ _ ?_; clear hK K
 refine wpSk rfl (Jh (v := mtV m26a vE55) rfl rfl rfl) fun v55 w55 hh => ?_
 obtain ⟨rfl, rfl⟩ := hh
 try simp only [PutS]
 refine wpSk rfl (Jh (v := .int .i64 0) rfl rfl rfl) fun v56 w56 hh => ?_
 obtain ⟨rfl, rfl⟩ := hh
 try simp only [PutS]
 obtain ⟨iM, hiM, iM0, iM1, iM2⟩ := info_parts J2q
 refine wpSk rfl (Jl hiM iM0 rfl) fun v6 w6 hh => ?_
 obtain ⟨rfl, rfl⟩ := hh
 try simp only [PutS]
 have b6 : Blk (w56.alloc (.cells (Value.agg (mtc ⟨0, List.replicate 32 0, []⟩ (.slice none 0 0)).toArray).cells 35)) (w56).heap.size 35 (mtc ⟨0, List.replicate 32 0, []⟩ (.slice none 0 0)).toArray := World.alloc_heap_new w56 _
 have B6 := (Below.refl _ w56).alloc (Nat.le_refl _) (.cells (Value.agg (mtc ⟨0, List.replicate 32 0, []⟩ (.slice none 0 0)).toArray).cells 35)
 generalize (w56).alloc (.cells (Value.agg (mtc ⟨0, List.replicate 32 0, []⟩ (.slice none 0 0)).toArray).cells 35) = w6 at *
 refine J6 rfl 35 (.tmp 6) (.tmp 55) rfl rfl (cells := mtc m26a vE55) rfl b6 (by rw [List.size_toArray, J0 ⟨0, List.replicate 32 0, []⟩ _ rfl, J0 m26a _ rfl]; exact Nat.le_refl _) (by rw [J5, J0 m26a _ rfl]) (Ji _ _ (by rw [HV55.out]; rfl)) (Ja _ _ (by rw [List.size_toArray, J0 ⟨0, List.replicate 32 0, []⟩ _ rfl, J0 m26a _ rfl])) fun X6 hX6 bX6 => ?_
 have BB6 : Below (w56).heap.size w56 X6 := J2 B6 hX6 (Nat.le_refl _)
 clear b6 B6 hX6 hiM iM0 iM1 iM2
 obtain ⟨g6, hg6⟩ : ∃ g, g = w56.heap.size := ⟨_, rfl⟩
 have hl6 : w56.heap.size ≤ X6.heap.size := BB6.size
 replace E55 : EpsB ⟨w56, S6 g6⟩ vE55 m26a.eps := E55.sub fun g _ hg => by unfold S6; omega
 replace E55 := E55.fwd BB6
 rw [← hg6] at bX6 ⊢
 have HG6 := Lib.hid (show w41.heap.size ≤ g6 by omega)
 have HNf1_6 := Lib.hid (show g1 ≠ g6 by have := f1.lt; omega)
 have HNf2q_6 := Lib.hid (show g2 ≠ g6 by have := f2'.lt; omega)
 have HNf3q_6 := Lib.hid (show g2 + 1 ≠ g6 by have := f3'.lt; omega)
 have hg6X := bX6.lt
 replace f1 := f1.keep BB6
 replace f2' := f2'.keep BB6
 replace f3' := f3'.keep BB6
 replace hB := hB.trans (BB6.mono hB.size)
 clear BB6 hg6 hw54 hl6 hg6X
 try simp only [PutS]
 go_upto_region 5 with (fail)
 refine wp_region_lit ?_
 refine wpSk rfl (J1 (cs := mtc m26a vE55) J9 rfl (by rw [J5, J0 m26a _ rfl]) rfl rfl (J4 bX6)) fun v58 w58 hh => ?_
 obtain ⟨rfl, rfl⟩ := hh
 try simp only [PutS]
 refine wpSk rfl (Jm J2u ((gOpenM m26a (a26_ok.n (by decide)) (by decide) 1 2 (by decide) (by decide) vE55 ⟨w58, S6 g6⟩ w58 (Bse.ok_self _) (HS.out.keep hB) E55).mono (J1v x26c)) rfl rfl) fun v59 w59 hh => ?_
 obtain ⟨vE60, rfl, E60, B59⟩ := hh
 try simp only [PutS]
 replace E60 := eps_to E60 fun g hg hg2 => by unfold S6; have := bX6.lt; omega
 obtain ⟨AE60, cE60, hvE⟩ := E60.len
 have HV60 := Lib.hid hvE
 clear hvE
 replace f1 := f1.keep B59
 replace f2' := f2'.keep B59
 replace f3' := f3'.keep B59
 replace bX6 := bX6.keep B59
 replace E55 := E55.fwd B59
 replace hB := hB.trans (B59.mono hB.size)
 clear B59
 refine wpList_plain rfl fun K hK => ?_; go_big_op; refine hK _ _ ?_; clear hK K
 refine wpSk rfl (Jh (v := mtV m26a vE60) rfl rfl rfl) fun v60 w60 hh => ?_
 obtain ⟨rfl, rfl⟩ := hh
 try simp only [PutS]
 refine wpSk rfl (Jh (v := .int .i64 260) rfl rfl rfl) fun v61 w61 hh => ?_
 obtain ⟨rfl, rfl⟩ := hh
 try simp only [PutS]
 obtain ⟨iM, hiM, iM0, iM1, iM2⟩ := info_parts J2q
 refine wpSk rfl (Jl hiM iM0 rfl) fun v8 w8 hh => ?_
 obtain ⟨rfl, rfl⟩ := hh
 try simp only [PutS]
 have b8 : Blk (w61.alloc (.cells (Value.agg (mtc ⟨0, List.replicate 32 0, []⟩ (.slice none 0 0)).toArray).cells 35)) (w61).heap.size 35 (mtc ⟨0, List.replicate 32 0, []⟩ (.slice none 0 0)).toArray := World.alloc_heap_new w61 _
 have B8 := (Below.refl _ w61).alloc (Nat.le_refl _) (.cells (Value.agg (mtc ⟨0, List.replicate 32 0, []⟩ (.slice none 0 0)).toArray).cells 35)
 generalize (w61).alloc (.cells (Value.agg (mtc ⟨0, List.replicate 32 0, []⟩ (.slice none 0 0)).toArray).cells 35) = w8 at *
 refine J6 rfl 35 (.tmp 8) (.tmp 60) rfl rfl (cells := mtc m26a vE60) rfl b8 (by rw [List.size_toArray, J0 ⟨0, List.replicate 32 0, []⟩ _ rfl, J0 m26a _ rfl]; exact Nat.le_refl _) (by rw [J5, J0 m26a _ rfl]) (Ji _ _ (by rw [HV60.out]; rfl)) (Ja _ _ (by rw [List.size_toArray, J0 ⟨0, List.replicate 32 0, []⟩ _ rfl, J0 m26a _ rfl])) fun X8 hX8 bX8 => ?_
 have BB8 : Below (w61).heap.size w61 X8 := J2 B8 hX8 (Nat.le_refl _)
 clear b8 B8 hX8 hiM iM0 iM1 iM2
 replace f1 := f1.keep BB8
 replace f2' := f2'.keep BB8
 replace f3' := f3'.keep BB8
 replace bX6 := bX6.keep BB8
 replace E55 := E55.fwd BB8
 replace E60 := E60.fwd BB8
 replace hB := hB.trans (BB8.mono hB.size)
 clear BB8
 clear bX8 E60 HV60
 try simp only [PutS]
 go_upto_region 6 with (fail)
 refine wp_region_lit ?_
 refine wpSk rfl (J1 (cs := mtc m26a vE55) J9 rfl (by rw [J5, J0 m26a _ rfl]) rfl rfl (J4 bX6)) fun v63 w63 hh => ?_
 obtain ⟨rfl, rfl⟩ := hh
 try simp only [PutS]
 refine wpSk rfl (Jm J2u ((gOpenM m26a (a26_ok.n (by decide)) (by decide) 17 2 (by decide) (by decide) vE55 ⟨w63, S6 g6⟩ w63 (Bse.ok_self _) (HS.out.keep hB) E55).mono (J1v x26d)) rfl rfl) fun v64 w64 hh => ?_
 obtain ⟨vE65, rfl, E65, B64⟩ := hh
 try simp only [PutS]
 replace E65 := eps_to E65 fun g hg hg2 => by unfold S6; have := bX6.lt; omega
 obtain ⟨AE65, cE65, hvE⟩ := E65.len
 have HV65 := Lib.hid hvE
 clear hvE
 replace f1 := f1.keep B64
 replace f2' := f2'.keep B64
 replace f3' := f3'.keep B64
 replace bX6 := bX6.keep B64
 replace E55 := E55.fwd B64
 replace hB := hB.trans (B64.mono hB.size)
 clear B64
 refine wpList_plain rfl fun K hK => ?_; go_big_op; refine hK _ _ ?_; clear hK K
 refine wpSk rfl (Jh (v := mtV m26a vE65) rfl rfl rfl) fun v65 w65 hh => ?_
 obtain ⟨rfl, rfl⟩ := hh
 try simp only [PutS]
 refine wpSk rfl (Jh (v := .int .i64 1) rfl rfl rfl) fun v66 w66 hh => ?_
 obtain ⟨rfl, rfl⟩ := hh
 try simp only [PutS]
 obtain ⟨iM, hiM, iM0, iM1, iM2⟩ := info_parts J2q
 refine wpSk rfl (Jl hiM iM0 rfl) fun v10 w10 hh => ?_
 obtain ⟨rfl, rfl⟩ := hh
 try simp only [PutS]
 have b10 : Blk (w66.alloc (.cells (Value.agg (mtc ⟨0, List.replicate 32 0, []⟩ (.slice none 0 0)).toArray).cells 35)) (w66).heap.size 35 (mtc ⟨0, List.replicate 32 0, []⟩ (.slice none 0 0)).toArray := World.alloc_heap_new w66 _
 have B10 := (Below.refl _ w66).alloc (Nat.le_refl _) (.cells (Value.agg (mtc ⟨0, List.replicate 32 0, []⟩ (.slice none 0 0)).toArray).cells 35)
 generalize (w66).alloc (.cells (Value.agg (mtc ⟨0, List.replicate 32 0, []⟩ (.slice none 0 0)).toArray).cells 35) = w10 at *
 refine J6 rfl 35 (.tmp 10) (.tmp 65) rfl rfl (cells := mtc m26a vE65) rfl b10 (by rw [List.size_toArray, J0 ⟨0, List.replicate 32 0, []⟩ _ rfl, J0 m26a _ rfl]; exact Nat.le_refl _) (by rw [J5, J0 m26a _ rfl]) (Ji _ _ (by rw [HV65.out]; rfl)) (Ja _ _ (by rw [List.size_toArray, J0 ⟨0, List.replicate 32 0, []⟩ _ rfl, J0 m26a _ rfl])) fun X10 hX10 bX10 => ?_
 have BB10 : Below (w66).heap.size w66 X10 := J2 B10 hX10 (Nat.le_refl _)
 clear b10 B10 hX10 hiM iM0 iM1 iM2
 replace f1 := f1.keep BB10
 replace f2' := f2'.keep BB10
 replace f3' := f3'.keep BB10
 replace bX6 := bX6.keep BB10
 replace E55 := E55.fwd BB10
 replace E65 := E65.fwd BB10
 replace hB := hB.trans (BB10.mono hB.size)
 clear BB10
 clear bX10 E65 HV65
 try simp only [PutS]
 go_upto_region 7 with (fail)
 refine wp_region_lit ?_
 refine wpSk rfl (J1 (cs := mtc m26a vE55) J9 rfl (by rw [J5, J0 m26a _ rfl]) rfl rfl (J4 bX6)) fun v68 w68 hh => ?_
 obtain ⟨rfl, rfl⟩ := hh
 try simp only [PutS]
 refine wpSk rfl (J1 (cs := rdc ra26) J1c rfl J1f rfl rfl (J4 f2')) fun v69 w69 hh => ?_
 obtain ⟨rfl, rfl⟩ := hh
 try simp only [PutS]
 refine wpSk rfl (Jm J1t ((gTakeM m26a (a26_ok.n (by decide)) a26_ok.n5 a26_ok.cnt ra26 rdIn_a vE55 ⟨w69, S6 g6⟩ w69 (Bse.ok_self _) (HL.out.keep hB) (HS.out.keep hB) (HD.out.keep hB) E55).mono (J1v x26e)) rfl rfl) fun v70 w70 hh => ?_
 obtain ⟨vE71, rfl, E71, B70⟩ := hh
 try simp only [PutS]
 replace E71 := eps_to E71 fun g hg hg2 => by unfold S6; have := bX6.lt; omega
 obtain ⟨AE71, cE71, hvE⟩ := E71.len
 have HV71 := Lib.hid hvE
 clear hvE
 replace f1 := f1.keep B70
 replace f2' := f2'.keep B70
 replace f3' := f3'.keep B70
 replace bX6 := bX6.keep B70
 replace E55 := E55.fwd B70
 replace hB := hB.trans (B70.mono hB.size)
 clear B70
 refine wpList_plain rfl fun K hK => ?_; go_big_op; refine hK _ _ ?_; clear hK K
 refine wpSk rfl (Jh (v := mtV m26b vE71) rfl rfl rfl) fun v71 w71 hh => ?_
 obtain ⟨rfl, rfl⟩ := hh
 try simp only [PutS]
 refine wpSk rfl (Jh (v := .int .i64 0) rfl rfl rfl) fun v72 w72 hh => ?_
 obtain ⟨rfl, rfl⟩ := hh
 try simp only [PutS]
 refine J6 rfl 35 (.tmp 6) (.tmp 71) rfl rfl (cells := mtc m26b vE71) rfl bX6 (by rw [List.size_toArray, J0 m26a _ rfl, J0 m26b _ rfl]; exact Nat.le_refl _) (by rw [J5, J0 m26b _ rfl]) (Ji _ _ (by rw [HV71.out]; rfl)) (Ja _ _ (by rw [List.size_toArray, J0 m26a _ rfl, J0 m26b _ rfl])) fun Y7 hY7 bY7 => ?_
 have hgw7 : w41.heap.size ≤ g6 := HG6.out
 replace f1 := hY7.blk f1 (HNf1_6.out)
 replace f2' := hY7.blk f2' (HNf2q_6.out)
 replace f3' := hY7.blk f3' (HNf3q_6.out)
 replace hB := J2 hB hY7 hgw7
 clear E55
 replace E71 := E71.pt hY7 (fun h => h rfl)
 clear bX6
 have bX6 := bY7
 clear bY7 hY7 hgw7
 try simp only [PutS]
 go_upto_region 8 with (fail)
 refine wp_region_lit ?_
 refine wpSk rfl (J1 (cs := mtc m26b vE71) J9 rfl (by rw [J5, J0 m26b _ rfl]) rfl rfl (J4 bX6)) fun v74 w74 hh => ?_
 obtain ⟨rfl, rfl⟩ := hh
 try simp only [PutS]
 refine wpSk rfl (J1 (cs := rdc rb26) J1c rfl J1f rfl rfl (J4 f3')) fun v75 w75 hh => ?_
 obtain ⟨rfl, rfl⟩ := hh
 try simp only [PutS]
 refine wpSk rfl (Jm J1t ((gTakeM m26b (b26_ok.n (by decide)) b26_ok.n5 b26_ok.cnt rb26 rdIn_b vE71 ⟨w75, S6 g6⟩ w75 (Bse.ok_self _) (HL.out.keep hB) (HS.out.keep hB) (HD.out.keep hB) E71).mono (J1v x26f)) rfl rfl) fun v76 w76 hh => ?_
 obtain ⟨vE77, rfl, E77, B76⟩ := hh
 try simp only [PutS]
 replace E77 := eps_to E77 fun g hg hg2 => by unfold S6; have := bX6.lt; omega
 obtain ⟨AE77, cE77, hvE⟩ := E77.len
 have HV77 := Lib.hid hvE
 clear hvE
 replace f1 := f1.keep B76
 replace f2' := f2'.keep B76
 replace f3' := f3'.keep B76
 replace bX6 := bX6.keep B76
 replace E71 := E71.fwd B76
 replace hB := hB.trans (B76.mono hB.size)
 clear B76
 refine wpList_plain rfl fun K hK => ?_; go_big_op; refine hK _ _ ?_; clear hK K
 refine wpSk rfl (Jh (v := mtV m26c vE77) rfl rfl rfl) fun v77 w77 hh => ?_
 obtain ⟨rfl, rfl⟩ := hh
 try simp only [PutS]
 refine wpSk rfl (Jh (v := .int .i64 0) rfl rfl rfl) fun v78 w78 hh => ?_
 obtain ⟨rfl, rfl⟩ := hh
 try simp only [PutS]
 refine J6 rfl 35 (.tmp 6) (.tmp 77) rfl rfl (cells := mtc m26c vE77) rfl bX6 (by rw [List.size_toArray, J0 m26b _ rfl, J0 m26c _ rfl]; exact Nat.le_refl _) (by rw [J5, J0 m26c _ rfl]) (Ji _ _ (by rw [HV77.out]; rfl)) (Ja _ _ (by rw [List.size_toArray, J0 m26b _ rfl, J0 m26c _ rfl])) fun Y8 hY8 bY8 => ?_
 have hgw8 : w41.heap.size ≤ g6 := HG6.out
 replace f1 := hY8.blk f1 (HNf1_6.out)
 replace f2' := hY8.blk f2' (HNf2q_6.out)
 replace f3' := hY8.blk f3' (HNf3q_6.out)
 replace hB := J2 hB hY8 hgw8
 clear E71
 replace E77 := E77.pt hY8 (fun h => h rfl)
 clear bX6
 have bX6 := bY8
 clear bY8 hY8 hgw8
 try simp only [PutS]
 go_upto_region 9 with (fail)
 refine wp_region_lit ?_
 refine wpSk rfl (J1 (cs := mtc m26c vE77) J9 rfl (by rw [J5, J0 m26c _ rfl]) rfl rfl (J4 bX6)) fun v80 w80 hh => ?_
 obtain ⟨rfl, rfl⟩ := hh
 try simp only [PutS]
 refine wpSk rfl (J1 (cs := rdc rb26) J1c rfl J1f rfl rfl (J4 f3')) fun v81 w81 hh => ?_
 obtain ⟨rfl, rfl⟩ := hh
 try simp only [PutS]
 refine wpSk rfl (Jm J1t ((gTakeM m26c (c26_ok.n (by decide)) c26_ok.n5 c26_ok.cnt rb26 rdIn_b vE77 ⟨w81, S6 g6⟩ w81 (Bse.ok_self _) (HL.out.keep hB) (HS.out.keep hB) (HD.out.keep hB) E77).mono (J1v x26g)) rfl rfl) fun v82 w82 hh => ?_
 obtain ⟨vE83, rfl, E83, B82⟩ := hh
 try simp only [PutS]
 replace E83 := eps_to E83 fun g hg hg2 => by unfold S6; have := bX6.lt; omega
 obtain ⟨AE83, cE83, hvE⟩ := E83.len
 have HV83 := Lib.hid hvE
 clear hvE
 replace f1 := f1.keep B82
 replace f2' := f2'.keep B82
 replace f3' := f3'.keep B82
 replace bX6 := bX6.keep B82
 replace E77 := E77.fwd B82
 replace hB := hB.trans (B82.mono hB.size)
 clear B82
 refine wpList_plain rfl fun K hK => ?_; go_big_op; refine hK _ _ ?_; clear hK K
 refine wpSk rfl (Jh (v := mtV m26c vE83) rfl rfl rfl) fun v83 w83 hh => ?_
 obtain ⟨rfl, rfl⟩ := hh
 try simp only [PutS]
 refine wpSk rfl (Jh (v := .int .i64 2) rfl rfl rfl) fun v84 w84 hh => ?_
 obtain ⟨rfl, rfl⟩ := hh
 try simp only [PutS]
 obtain ⟨iM, hiM, iM0, iM1, iM2⟩ := info_parts J2q
 refine wpSk rfl (Jl hiM iM0 rfl) fun v14 w14 hh => ?_
 obtain ⟨rfl, rfl⟩ := hh
 try simp only [PutS]
 have b14 : Blk (w84.alloc (.cells (Value.agg (mtc ⟨0, List.replicate 32 0, []⟩ (.slice none 0 0)).toArray).cells 35)) (w84).heap.size 35 (mtc ⟨0, List.replicate 32 0, []⟩ (.slice none 0 0)).toArray := World.alloc_heap_new w84 _
 have B14 := (Below.refl _ w84).alloc (Nat.le_refl _) (.cells (Value.agg (mtc ⟨0, List.replicate 32 0, []⟩ (.slice none 0 0)).toArray).cells 35)
 generalize (w84).alloc (.cells (Value.agg (mtc ⟨0, List.replicate 32 0, []⟩ (.slice none 0 0)).toArray).cells 35) = w14 at *
 refine J6 rfl 35 (.tmp 14) (.tmp 83) rfl rfl (cells := mtc m26c vE83) rfl b14 (by rw [List.size_toArray, J0 ⟨0, List.replicate 32 0, []⟩ _ rfl, J0 m26c _ rfl]; exact Nat.le_refl _) (by rw [J5, J0 m26c _ rfl]) (Ji _ _ (by rw [HV83.out]; rfl)) (Ja _ _ (by rw [List.size_toArray, J0 ⟨0, List.replicate 32 0, []⟩ _ rfl, J0 m26c _ rfl])) fun X14 hX14 bX14 => ?_
 have BB14 : Below (w84).heap.size w84 X14 := J2 B14 hX14 (Nat.le_refl _)
 clear b14 B14 hX14 hiM iM0 iM1 iM2
 replace f1 := f1.keep BB14
 replace f2' := f2'.keep BB14
 replace f3' := f3'.keep BB14
 replace bX6 := bX6.keep BB14
 replace E77 := E77.fwd BB14
 replace E83 := E83.fwd BB14
 replace hB := hB.trans (BB14.mono hB.size)
 clear BB14
 clear bX14 E83 HV83
 try simp only [PutS]
 obtain ⟨p10, q10, hpq10, hV10, -⟩ := v26_c
 go_upto_region 10 with (fail)
 refine wp_region_lit ?_
 refine wpSk rfl (J1 (cs := mtc m26c vE77) J9 rfl (by rw [J5, J0 m26c _ rfl]) rfl rfl (J4 bX6)) fun v85 w85 hh => ?_
 obtain ⟨rfl, rfl⟩ := hh
 try simp only [PutS]
 refine wpSk rfl (Jm (R := fun v W2 => ExB ⟨w85, S6 g6⟩ v p10.V ∧ Below w85.heap.size w85 W2) J3f ((gFirst m26c (c26_ok.n (by decide)) _ p10 rfl (by rw [show _ = [p10, q10] from hpq10]; rfl) (by rw [hV10]; rfl) vE77 ⟨w85, S6 g6⟩ w85 (Bse.ok_self _) E77).mono fun r W2 ⟨v, h1, h2, h3⟩ => ⟨v, h1, h2, h3⟩) rfl rfl) fun v86 w86 hh => ?_
 obtain ⟨X86v, B86⟩ := hh
 try simp only [PutS]
 replace X86v := X86v.fwd B86
 obtain ⟨AX86, cX86, hvX⟩ := Rd.len X86v.now
 rw [show p10.V.length = 5 from (by rw [hV10]; rfl)] at hvX
 subst hvX
 replace f1 := f1.keep B86
 replace f2' := f2'.keep B86
 replace f3' := f3'.keep B86
 replace bX6 := bX6.keep B86
 replace E77 := E77.fwd B86
 replace hB := hB.trans (B86.mono hB.size)
 clear B86
 try simp only [PutS]
 go_upto_region 11 with (fail)
 refine wp_region_lit ?_
 refine wpSk rfl (J1 (cs := mtc m26c vE77) J9 rfl (by rw [J5, J0 m26c _ rfl]) rfl rfl (J4 bX6)) fun v88 w88 hh => ?_
 obtain ⟨rfl, rfl⟩ := hh
 try simp only [PutS]
 refine wpSk rfl (J1 (cs := rdc ra26) J1c rfl J1f rfl rfl (J4 f2')) fun v89 w89 hh => ?_
 obtain ⟨rfl, rfl⟩ := hh
 try simp only [PutS]
 refine wpSk rfl (Jm J33 ((gRetractM m26c (c26_ok.n (by decide)) c26_ok.n5 0 (by decide) ra26 rdIn_a vE77 ⟨w89, S6 g6⟩ w89 (Bse.ok_self _) (HL.out.keep hB) E77).mono (J1v x26h)) rfl rfl) fun v90 w90 hh => ?_
 obtain ⟨vE91, rfl, E91, B90⟩ := hh
 try simp only [PutS]
 replace E91 := eps_to E91 fun g hg hg2 => by unfold S6; have := bX6.lt; omega
 obtain ⟨AE91, cE91, hvE⟩ := E91.len
 have HV91 := Lib.hid hvE
 clear hvE
 replace f1 := f1.keep B90
 replace f2' := f2'.keep B90
 replace f3' := f3'.keep B90
 replace bX6 := bX6.keep B90
 replace E77 := E77.fwd B90
 replace X86v := X86v.fwd B90
 replace hB := hB.trans (B90.mono hB.size)
 clear B90
 refine wpList_plain rfl fun K hK => ?_; go_big_op; refine hK _ _ ?_; clear hK K
 refine wpSk rfl (Jh (v := mtV m26d vE91) rfl rfl rfl) fun v91 w91 hh => ?_
 obtain ⟨rfl, rfl⟩ := hh
 try simp only [PutS]
 refine wpSk rfl (Jh (v := .int .i64 0) rfl rfl rfl) fun v92 w92 hh => ?_
 obtain ⟨rfl, rfl⟩ := hh
 try simp only [PutS]
 obtain ⟨iM, hiM, iM0, iM1, iM2⟩ := info_parts J2q
 refine wpSk rfl (Jl hiM iM0 rfl) fun v17 w17 hh => ?_
 obtain ⟨rfl, rfl⟩ := hh
 try simp only [PutS]
 have b17 : Blk (w92.alloc (.cells (Value.agg (mtc ⟨0, List.replicate 32 0, []⟩ (.slice none 0 0)).toArray).cells 35)) (w92).heap.size 35 (mtc ⟨0, List.replicate 32 0, []⟩ (.slice none 0 0)).toArray := World.alloc_heap_new w92 _
 have B17 := (Below.refl _ w92).alloc (Nat.le_refl _) (.cells (Value.agg (mtc ⟨0, List.replicate 32 0, []⟩ (.slice none 0 0)).toArray).cells 35)
 generalize (w92).alloc (.cells (Value.agg (mtc ⟨0, List.replicate 32 0, []⟩ (.slice none 0 0)).toArray).cells 35) = w17 at *
 refine J6 rfl 35 (.tmp 17) (.tmp 91) rfl rfl (cells := mtc m26d vE91) rfl b17 (by rw [List.size_toArray, J0 ⟨0, List.replicate 32 0, []⟩ _ rfl, J0 m26d _ rfl]; exact Nat.le_refl _) (by rw [J5, J0 m26d _ rfl]) (Ji _ _ (by rw [HV91.out]; rfl)) (Ja _ _ (by rw [List.size_toArray, J0 ⟨0, List.replicate 32 0, []⟩ _ rfl, J0 m26d _ rfl])) fun X17 hX17 bX17 => ?_
 have BB17 : Below (w92).heap.size w92 X17 := J2 B17 hX17 (Nat.le_refl _)
 clear b17 B17 hX17 hiM iM0 iM1 iM2
 obtain ⟨g17, hg17⟩ : ∃ g, g = w92.heap.size := ⟨_, rfl⟩
 have HG17 := Lib.hid (show w41.heap.size ≤ g17 by have := hB.size; omega)
 have HNf1_17 := Lib.hid (show g1 ≠ g17 by have := f1.lt; omega)
 have HNf2q_17 := Lib.hid (show g2 ≠ g17 by have := f2'.lt; omega)
 have HNf3q_17 := Lib.hid (show g2 + 1 ≠ g17 by have := f3'.lt; omega)
 have HNbX6_17 := Lib.hid (show g6 ≠ g17 by have := bX6.lt; omega)
 replace E77 := E77.sub (T := S7 g6 g17) fun g hg hl => ⟨hg, by omega⟩
 replace E91 := E91.sub (T := S7 g6 g17) fun g hg hl => ⟨hg, by omega⟩
 replace X86v := X86v.sub (T := S7 g6 g17) fun g hg hl => ⟨hg, by omega⟩
 replace f1 := f1.keep BB17
 replace f2' := f2'.keep BB17
 replace f3' := f3'.keep BB17
 replace bX6 := bX6.keep BB17
 replace E77 := E77.fwd BB17
 replace E91 := E91.fwd BB17
 replace X86v := X86v.fwd BB17
 replace hB := hB.trans (BB17.mono hB.size)
 clear BB17
 rw [← hg17] at bX17 ⊢
 clear hg17
 try simp only [PutS]
 obtain ⟨p12, q12, hpq12, hl12, hV12, hU12⟩ := v26_d
 go_upto_region 12 with (fail)
 refine wp_region_lit ?_
 refine wpSk rfl (J1 (cs := mtc m26d vE91) J9 rfl (by rw [J5, J0 m26d _ rfl]) rfl rfl (J4 bX17)) fun v93 w93 hh => ?_
 obtain ⟨rfl, rfl⟩ := hh
 try simp only [PutS]
 refine wpSk rfl (Jm (R := fun v W2 => ExB ⟨w93, S7 g6 g17⟩ v p12.V ∧ Below w93.heap.size w93 W2) J3f ((gFirst m26d (d26_ok.n (by decide)) _ p12 rfl (by rw [show _ = [p12, q12] from hpq12]; rfl) hl12 vE91 ⟨w93, S7 g6 g17⟩ w93 (Bse.ok_self _) E91).mono fun r W2 ⟨v, h1, h2, h3⟩ => ⟨v, h1, h2, h3⟩) rfl rfl) fun v94 w94 hh => ?_
 obtain ⟨X94v, B94⟩ := hh
 try simp only [PutS]
 replace X94v := X94v.fwd B94
 obtain ⟨AX94, cX94, hvX⟩ := Rd.len X94v.now
 rw [show p12.V.length = 5 from hl12] at hvX
 subst hvX
 replace f1 := f1.keep B94
 replace f2' := f2'.keep B94
 replace f3' := f3'.keep B94
 replace bX6 := bX6.keep B94
 replace bX17 := bX17.keep B94
 replace E77 := E77.fwd B94
 replace E91 := E91.fwd B94
 replace X86v := X86v.fwd B94
 replace hB := hB.trans (B94.mono hB.size)
 clear B94
 try simp only [PutS]
 go_upto_region 13 with (fail)
 refine wp_region_lit ?_
 refine wpSk rfl (J1 (cs := mtc m26c vE77) J9 rfl (by rw [J5, J0 m26c _ rfl]) rfl rfl (J4 bX6)) fun v96 w96 hh => ?_
 obtain ⟨rfl, rfl⟩ := hh
 try simp only [PutS]
 refine wpSk rfl (J1 (cs := rdc ra26) J1c rfl J1f rfl rfl (J4 f2')) fun v97 w97 hh => ?_
 obtain ⟨rfl, rfl⟩ := hh
 try simp only [PutS]
 refine wpSk rfl (Jm J33 ((gRetractM m26c (c26_ok.n (by decide)) c26_ok.n5 2 (by decide) ra26 rdIn_a vE77 ⟨w97, S7 g6 g17⟩ w97 (Bse.ok_self _) (HL.out.keep hB) E77).mono (J1v x26i)) rfl rfl) fun v98 w98 hh => ?_
 obtain ⟨vE99, rfl, E99, B98⟩ := hh
 try simp only [PutS]
 replace E99 := eps_to E99 fun g hg hg2 => ⟨by have := bX6.lt; omega, by have := bX17.lt; omega⟩
 obtain ⟨AE99, cE99, hvE⟩ := E99.len
 have HV99 := Lib.hid hvE
 clear hvE
 replace f1 := f1.keep B98
 replace f2' := f2'.keep B98
 replace f3' := f3'.keep B98
 replace bX6 := bX6.keep B98
 replace bX17 := bX17.keep B98
 replace E77 := E77.fwd B98
 replace E91 := E91.fwd B98
 replace X86v := X86v.fwd B98
 replace X94v := X94v.fwd B98
 replace hB := hB.trans (B98.mono hB.size)
 clear B98
 refine wpList_plain rfl fun K hK => ?_; go_big_op; refine hK _ _ ?_; clear hK K
 refine wpSk rfl (Jh (v := mtV m26c vE99) rfl rfl rfl) fun v99 w99 hh => ?_
 obtain ⟨rfl, rfl⟩ := hh
 try simp only [PutS]
 refine wpSk rfl (Jh (v := .int .i64 4) rfl rfl rfl) fun v100 w100 hh => ?_
 obtain ⟨rfl, rfl⟩ := hh
 try simp only [PutS]
 obtain ⟨iM, hiM, iM0, iM1, iM2⟩ := info_parts J2q
 refine wpSk rfl (Jl hiM iM0 rfl) fun v20 w20 hh => ?_
 obtain ⟨rfl, rfl⟩ := hh
 try simp only [PutS]
 have b20 : Blk (w100.alloc (.cells (Value.agg (mtc ⟨0, List.replicate 32 0, []⟩ (.slice none 0 0)).toArray).cells 35)) (w100).heap.size 35 (mtc ⟨0, List.replicate 32 0, []⟩ (.slice none 0 0)).toArray := World.alloc_heap_new w100 _
 have B20 := (Below.refl _ w100).alloc (Nat.le_refl _) (.cells (Value.agg (mtc ⟨0, List.replicate 32 0, []⟩ (.slice none 0 0)).toArray).cells 35)
 generalize (w100).alloc (.cells (Value.agg (mtc ⟨0, List.replicate 32 0, []⟩ (.slice none 0 0)).toArray).cells 35) = w20 at *
 refine J6 rfl 35 (.tmp 20) (.tmp 99) rfl rfl (cells := mtc m26c vE99) rfl b20 (by rw [List.size_toArray, J0 ⟨0, List.replicate 32 0, []⟩ _ rfl, J0 m26c _ rfl]; exact Nat.le_refl _) (by rw [J5, J0 m26c _ rfl]) (Ji _ _ (by rw [HV99.out]; rfl)) (Ja _ _ (by rw [List.size_toArray, J0 ⟨0, List.replicate 32 0, []⟩ _ rfl, J0 m26c _ rfl])) fun X20 hX20 bX20 => ?_
 have BB20 : Below (w100).heap.size w100 X20 := J2 B20 hX20 (Nat.le_refl _)
 clear b20 B20 hX20 hiM iM0 iM1 iM2
 replace f1 := f1.keep BB20
 replace f2' := f2'.keep BB20
 replace f3' := f3'.keep BB20
 replace bX6 := bX6.keep BB20
 replace bX17 := bX17.keep BB20
 replace E77 := E77.fwd BB20
 replace E91 := E91.fwd BB20
 replace E99 := E99.fwd BB20
 replace X86v := X86v.fwd BB20
 replace X94v := X94v.fwd BB20
 replace hB := hB.trans (BB20.mono hB.size)
 clear BB20
 clear bX20 E99 HV99
 try simp only [PutS]
 go_upto_region 14 with (fail)
 refine wp_region_lit ?_
 refine wpSk rfl (J1 (cs := mtc m26d vE91) J9 rfl (by rw [J5, J0 m26d _ rfl]) rfl rfl (J4 bX17)) fun v102 w102 hh => ?_
 obtain ⟨rfl, rfl⟩ := hh
 try simp only [PutS]
 refine wpSk rfl (Jm J23 ((gSpendM m26d (d26_ok.n (by decide)) 0 (by decide) vE91 ⟨w102, S7 g6 g17⟩ w102 (Bse.ok_self _) E91).mono (J71 x26j)) rfl rfl) fun v103 w103 hh => ?_
 obtain ⟨vE104, vL104, rfl, E104, R104, B103⟩ := hh
 try simp only [PutS]
 replace E104 := eps_to E104 fun g hg hg2 => ⟨by have := bX6.lt; omega, by have := bX17.lt; omega⟩
 obtain ⟨AE104, cE104, hvE⟩ := E104.len
 have HV104 := Lib.hid hvE
 clear hvE
 replace f1 := f1.keep B103
 replace f2' := f2'.keep B103
 replace f3' := f3'.keep B103
 replace bX6 := bX6.keep B103
 replace bX17 := bX17.keep B103
 replace E77 := E77.fwd B103
 replace E91 := E91.fwd B103
 replace X86v := X86v.fwd B103
 replace X94v := X94v.fwd B103
 replace hB := hB.trans (B103.mono hB.size)
 clear B103
 refine wpList_plain rfl fun K hK => ?_; go_big_op; refine hK _ _ ?_; clear hK K
 refine wpSk rfl (Jh (v := mtV m26d vE104) rfl rfl rfl) fun v104 w104 hh => ?_
 obtain ⟨rfl, rfl⟩ := hh
 try simp only [PutS]
 refine wpSk rfl (Jh (v := vL104) rfl rfl rfl) fun v105 w105 hh => ?_
 obtain ⟨rfl, rfl⟩ := hh
 try simp only [PutS]
 refine wpSk rfl (Jh (v := .int .i64 260) rfl rfl rfl) fun v106 w106 hh => ?_
 obtain ⟨rfl, rfl⟩ := hh
 try simp only [PutS]
 obtain ⟨iM, hiM, iM0, iM1, iM2⟩ := info_parts J2q
 refine wpSk rfl (Jl hiM iM0 rfl) fun v22 w22 hh => ?_
 obtain ⟨rfl, rfl⟩ := hh
 try simp only [PutS]
 have b22 : Blk (w106.alloc (.cells (Value.agg (mtc ⟨0, List.replicate 32 0, []⟩ (.slice none 0 0)).toArray).cells 35)) (w106).heap.size 35 (mtc ⟨0, List.replicate 32 0, []⟩ (.slice none 0 0)).toArray := World.alloc_heap_new w106 _
 have B22 := (Below.refl _ w106).alloc (Nat.le_refl _) (.cells (Value.agg (mtc ⟨0, List.replicate 32 0, []⟩ (.slice none 0 0)).toArray).cells 35)
 generalize (w106).alloc (.cells (Value.agg (mtc ⟨0, List.replicate 32 0, []⟩ (.slice none 0 0)).toArray).cells 35) = w22 at *
 refine J6 rfl 35 (.tmp 22) (.tmp 104) rfl rfl (cells := mtc m26d vE104) rfl b22 (by rw [List.size_toArray, J0 ⟨0, List.replicate 32 0, []⟩ _ rfl, J0 m26d _ rfl]; exact Nat.le_refl _) (by rw [J5, J0 m26d _ rfl]) (Ji _ _ (by rw [HV104.out]; rfl)) (Ja _ _ (by rw [List.size_toArray, J0 ⟨0, List.replicate 32 0, []⟩ _ rfl, J0 m26d _ rfl])) fun X22 hX22 bX22 => ?_
 have BB22 : Below (w106).heap.size w106 X22 := J2 B22 hX22 (Nat.le_refl _)
 clear b22 B22 hX22 hiM iM0 iM1 iM2
 replace f1 := f1.keep BB22
 replace f2' := f2'.keep BB22
 replace f3' := f3'.keep BB22
 replace bX6 := bX6.keep BB22
 replace bX17 := bX17.keep BB22
 replace E77 := E77.fwd BB22
 replace E91 := E91.fwd BB22
 replace E104 := E104.fwd BB22
 replace X86v := X86v.fwd BB22
 replace X94v := X94v.fwd BB22
 replace R104 := R104.keep BB22
 replace hB := hB.trans (BB22.mono hB.size)
 clear BB22
 clear bX22 E104 HV104
 clear R104
 try simp only [PutS]
 go_upto_region 15 with (fail)
 refine wp_region_lit ?_
 refine wpSk rfl (J1 (cs := mtc m26d vE91) J9 rfl (by rw [J5, J0 m26d _ rfl]) rfl rfl (J4 bX17)) fun v108 w108 hh => ?_
 obtain ⟨rfl, rfl⟩ := hh
 try simp only [PutS]
 refine wpSk rfl (Jm J53 ((gCloseM m26d (d26_ok.n (by decide)) vE91 ⟨w108, S7 g6 g17⟩ w108 (Bse.ok_self _) E91).mono (J1v x26k)) rfl rfl) fun v109 w109 hh => ?_
 obtain ⟨vE110, rfl, E110, B109⟩ := hh
 try simp only [PutS]
 replace E110 := eps_to E110 fun g hg hg2 => ⟨by have := bX6.lt; omega, by have := bX17.lt; omega⟩
 obtain ⟨AE110, cE110, hvE⟩ := E110.len
 have HV110 := Lib.hid hvE
 clear hvE
 replace f1 := f1.keep B109
 replace f2' := f2'.keep B109
 replace f3' := f3'.keep B109
 replace bX6 := bX6.keep B109
 replace bX17 := bX17.keep B109
 replace E77 := E77.fwd B109
 replace E91 := E91.fwd B109
 replace X86v := X86v.fwd B109
 replace X94v := X94v.fwd B109
 replace hB := hB.trans (B109.mono hB.size)
 clear B109
 refine wpList_plain rfl fun K hK => ?_; go_big_op; refine hK _ _ ?_; clear hK K
 refine wpSk rfl (Jh (v := mtV m26e vE110) rfl rfl rfl) fun v110 w110 hh => ?_
 obtain ⟨rfl, rfl⟩ := hh
 try simp only [PutS]
 refine wpSk rfl (Jh (v := .int .i64 0) rfl rfl rfl) fun v111 w111 hh => ?_
 obtain ⟨rfl, rfl⟩ := hh
 try simp only [PutS]
 refine J6 rfl 35 (.tmp 17) (.tmp 110) rfl rfl (cells := mtc m26e vE110) rfl bX17 (by rw [List.size_toArray, J0 m26d _ rfl, J0 m26e _ rfl]; exact Nat.le_refl _) (by rw [J5, J0 m26e _ rfl]) (Ji _ _ (by rw [HV110.out]; rfl)) (Ja _ _ (by rw [List.size_toArray, J0 m26d _ rfl, J0 m26e _ rfl])) fun Y15 hY15 bY15 => ?_
 have hgw15 : w41.heap.size ≤ g17 := HG17.out
 replace f1 := hY15.blk f1 (HNf1_17.out)
 replace f2' := hY15.blk f2' (HNf2q_17.out)
 replace f3' := hY15.blk f3' (HNf3q_17.out)
 replace bX6 := hY15.blk bX6 (HNbX6_17.out)
 replace hB := J2 hB hY15 hgw15
 replace E77 := E77.pt hY15 (fun h => h.2 rfl)
 clear E91
 replace X86v := X86v.pt hY15 (fun h => h.2 rfl)
 replace X94v := X94v.pt hY15 (fun h => h.2 rfl)
 replace E110 := E110.pt hY15 (fun h => h.2 rfl)
 clear bX17
 have bX17 := bY15
 clear bY15 hY15 hgw15
 try simp only [PutS]
 go_upto_region 16 with (fail)
 refine wp_region_lit ?_
 refine wpSk rfl (J1 (cs := mtc m26e vE110) J9 rfl (by rw [J5, J0 m26e _ rfl]) rfl rfl (J4 bX17)) fun v113 w113 hh => ?_
 obtain ⟨rfl, rfl⟩ := hh
 try simp only [PutS]
 refine wpSk rfl (Jm J23 ((gSpendM m26e (e26_ok.n (by decide)) 1 (by decide) vE110 ⟨w113, S7 g6 g17⟩ w113 (Bse.ok_self _) E110).mono (J71 x26l)) rfl rfl) fun v114 w114 hh => ?_
 obtain ⟨vE115, vL115, rfl, E115, R115, B114⟩ := hh
 try simp only [PutS]
 replace E115 := eps_to E115 fun g hg hg2 => ⟨by have := bX6.lt; omega, by have := bX17.lt; omega⟩
 obtain ⟨AE115, cE115, hvE⟩ := E115.len
 have HV115 := Lib.hid hvE
 clear hvE
 replace f1 := f1.keep B114
 replace f2' := f2'.keep B114
 replace f3' := f3'.keep B114
 replace bX6 := bX6.keep B114
 replace bX17 := bX17.keep B114
 replace E77 := E77.fwd B114
 replace E110 := E110.fwd B114
 replace X86v := X86v.fwd B114
 replace X94v := X94v.fwd B114
 replace hB := hB.trans (B114.mono hB.size)
 clear B114
 refine wpList_plain rfl fun K hK => ?_; go_big_op; refine hK _ _ ?_; clear hK K
 refine wpSk rfl (Jh (v := mtV m26e vE115) rfl rfl rfl) fun v115 w115 hh => ?_
 obtain ⟨rfl, rfl⟩ := hh
 try simp only [PutS]
 refine wpSk rfl (Jh (v := vL115) rfl rfl rfl) fun v116 w116 hh => ?_
 obtain ⟨rfl, rfl⟩ := hh
 try simp only [PutS]
 refine wpSk rfl (Jh (v := .int .i64 4) rfl rfl rfl) fun v117 w117 hh => ?_
 obtain ⟨rfl, rfl⟩ := hh
 try simp only [PutS]
 obtain ⟨iM, hiM, iM0, iM1, iM2⟩ := info_parts J2q
 refine wpSk rfl (Jl hiM iM0 rfl) fun v26 w26 hh => ?_
 obtain ⟨rfl, rfl⟩ := hh
 try simp only [PutS]
 have b26 : Blk (w117.alloc (.cells (Value.agg (mtc ⟨0, List.replicate 32 0, []⟩ (.slice none 0 0)).toArray).cells 35)) (w117).heap.size 35 (mtc ⟨0, List.replicate 32 0, []⟩ (.slice none 0 0)).toArray := World.alloc_heap_new w117 _
 have B26 := (Below.refl _ w117).alloc (Nat.le_refl _) (.cells (Value.agg (mtc ⟨0, List.replicate 32 0, []⟩ (.slice none 0 0)).toArray).cells 35)
 generalize (w117).alloc (.cells (Value.agg (mtc ⟨0, List.replicate 32 0, []⟩ (.slice none 0 0)).toArray).cells 35) = w26 at *
 refine J6 rfl 35 (.tmp 26) (.tmp 115) rfl rfl (cells := mtc m26e vE115) rfl b26 (by rw [List.size_toArray, J0 ⟨0, List.replicate 32 0, []⟩ _ rfl, J0 m26e _ rfl]; exact Nat.le_refl _) (by rw [J5, J0 m26e _ rfl]) (Ji _ _ (by rw [HV115.out]; rfl)) (Ja _ _ (by rw [List.size_toArray, J0 ⟨0, List.replicate 32 0, []⟩ _ rfl, J0 m26e _ rfl])) fun X26 hX26 bX26 => ?_
 have BB26 : Below (w117).heap.size w117 X26 := J2 B26 hX26 (Nat.le_refl _)
 clear b26 B26 hX26 hiM iM0 iM1 iM2
 replace f1 := f1.keep BB26
 replace f2' := f2'.keep BB26
 replace f3' := f3'.keep BB26
 replace bX6 := bX6.keep BB26
 replace bX17 := bX17.keep BB26
 replace E77 := E77.fwd BB26
 replace E110 := E110.fwd BB26
 replace E115 := E115.fwd BB26
 replace X86v := X86v.fwd BB26
 replace X94v := X94v.fwd BB26
 replace R115 := R115.keep BB26
 replace hB := hB.trans (BB26.mono hB.size)
 clear BB26
 clear bX26 E115 HV115
 clear R115
 try simp only [PutS]
 go_upto_region 17 with (fail)
 refine wp_region_lit ?_
 refine wpSk rfl (J1 (cs := mtc m26e vE110) J9 rfl (by rw [J5, J0 m26e _ rfl]) rfl rfl (J4 bX17)) fun v119 w119 hh => ?_
 obtain ⟨rfl, rfl⟩ := hh
 try simp only [PutS]
 refine wpSk rfl (Jm J23 ((gSpendM m26e (e26_ok.n (by decide)) 0 (by decide) vE110 ⟨w119, S7 g6 g17⟩ w119 (Bse.ok_self _) E110).mono (J71 x26m)) rfl rfl) fun v120 w120 hh => ?_
 obtain ⟨vE121, vL121, rfl, E121, R121, B120⟩ := hh
 try simp only [PutS]
 replace E121 := eps_to E121 fun g hg hg2 => ⟨by have := bX6.lt; omega, by have := bX17.lt; omega⟩
 obtain ⟨AE121, cE121, hvE⟩ := E121.len
 have HV121 := Lib.hid hvE
 clear hvE
 replace f1 := f1.keep B120
 replace f2' := f2'.keep B120
 replace f3' := f3'.keep B120
 replace bX6 := bX6.keep B120
 replace bX17 := bX17.keep B120
 replace E77 := E77.fwd B120
 replace E110 := E110.fwd B120
 replace X86v := X86v.fwd B120
 replace X94v := X94v.fwd B120
 replace hB := hB.trans (B120.mono hB.size)
 clear B120
 refine wpList_plain rfl fun K hK => ?_; go_big_op; refine hK _ _ ?_; clear hK K
 refine wpSk rfl (Jh (v := mtV m26f vE121) rfl rfl rfl) fun v121 w121 hh => ?_
 obtain ⟨rfl, rfl⟩ := hh
 try simp only [PutS]
 refine wpSk rfl (Jh (v := vL121) rfl rfl rfl) fun v122 w122 hh => ?_
 obtain ⟨rfl, rfl⟩ := hh
 try simp only [PutS]
 refine wpSk rfl (Jh (v := .int .i64 0) rfl rfl rfl) fun v123 w123 hh => ?_
 obtain ⟨rfl, rfl⟩ := hh
 try simp only [PutS]
 obtain ⟨iM, hiM, iM0, iM1, iM2⟩ := info_parts J2q
 refine wpSk rfl (Jl hiM iM0 rfl) fun v29 w29 hh => ?_
 obtain ⟨rfl, rfl⟩ := hh
 try simp only [PutS]
 have b29 : Blk (w123.alloc (.cells (Value.agg (mtc ⟨0, List.replicate 32 0, []⟩ (.slice none 0 0)).toArray).cells 35)) (w123).heap.size 35 (mtc ⟨0, List.replicate 32 0, []⟩ (.slice none 0 0)).toArray := World.alloc_heap_new w123 _
 have B29 := (Below.refl _ w123).alloc (Nat.le_refl _) (.cells (Value.agg (mtc ⟨0, List.replicate 32 0, []⟩ (.slice none 0 0)).toArray).cells 35)
 generalize (w123).alloc (.cells (Value.agg (mtc ⟨0, List.replicate 32 0, []⟩ (.slice none 0 0)).toArray).cells 35) = w29 at *
 refine J6 rfl 35 (.tmp 29) (.tmp 121) rfl rfl (cells := mtc m26f vE121) rfl b29 (by rw [List.size_toArray, J0 ⟨0, List.replicate 32 0, []⟩ _ rfl, J0 m26f _ rfl]; exact Nat.le_refl _) (by rw [J5, J0 m26f _ rfl]) (Ji _ _ (by rw [HV121.out]; rfl)) (Ja _ _ (by rw [List.size_toArray, J0 ⟨0, List.replicate 32 0, []⟩ _ rfl, J0 m26f _ rfl])) fun X29 hX29 bX29 => ?_
 have BB29 : Below (w123).heap.size w123 X29 := J2 B29 hX29 (Nat.le_refl _)
 clear b29 B29 hX29 hiM iM0 iM1 iM2
 replace f1 := f1.keep BB29
 replace f2' := f2'.keep BB29
 replace f3' := f3'.keep BB29
 replace bX6 := bX6.keep BB29
 replace bX17 := bX17.keep BB29
 replace E77 := E77.fwd BB29
 replace E110 := E110.fwd BB29
 replace E121 := E121.fwd BB29
 replace X86v := X86v.fwd BB29
 replace X94v := X94v.fwd BB29
 replace R121 := R121.keep BB29
 replace hB := hB.trans (BB29.mono hB.size)
 clear BB29
 obtain ⟨g29, hg29⟩ : ∃ g, g = w123.heap.size := ⟨_, rfl⟩
 rw [← hg29] at bX29 ⊢
 clear hg29
 try simp only [PutS]
 go_upto_region 18 with (fail)
 refine wp_region_lit ?_
 refine wpSk rfl (J1 (cs := mtc m26f vE121) J9 rfl (by rw [J5, J0 m26f _ rfl]) rfl rfl (J4 bX29)) fun v125 w125 hh => ?_
 obtain ⟨rfl, rfl⟩ := hh
 try simp only [PutS]
 refine wpSk rfl (Jm J23 ((gSpendM m26f (f26_ok.n (by decide)) 0 (by decide) vE121 ⟨w125, S7 g6 g17⟩ w125 (Bse.ok_self _) E121).mono (J71 x26n)) rfl rfl) fun v126 w126 hh => ?_
 obtain ⟨vE127, vL127, rfl, E127, R127, B126⟩ := hh
 try simp only [PutS]
 replace E127 := eps_to E127 fun g hg hg2 => ⟨by have := bX6.lt; omega, by have := bX17.lt; omega⟩
 obtain ⟨AE127, cE127, hvE⟩ := E127.len
 have HV127 := Lib.hid hvE
 clear hvE
 replace f1 := f1.keep B126
 replace f2' := f2'.keep B126
 replace f3' := f3'.keep B126
 replace bX6 := bX6.keep B126
 replace bX17 := bX17.keep B126
 replace bX29 := bX29.keep B126
 replace E77 := E77.fwd B126
 replace E110 := E110.fwd B126
 replace E121 := E121.fwd B126
 replace X86v := X86v.fwd B126
 replace X94v := X94v.fwd B126
 replace R121 := R121.keep B126
 replace hB := hB.trans (B126.mono hB.size)
 clear B126
 refine wpList_plain rfl fun K hK => ?_; go_big_op; refine hK _ _ ?_; clear hK K
 refine wpSk rfl (Jh (v := mtV m26f vE127) rfl rfl rfl) fun v127 w127 hh => ?_
 obtain ⟨rfl, rfl⟩ := hh
 try simp only [PutS]
 refine wpSk rfl (Jh (v := vL127) rfl rfl rfl) fun v128 w128 hh => ?_
 obtain ⟨rfl, rfl⟩ := hh
 try simp only [PutS]
 refine wpSk rfl (Jh (v := .int .i64 261) rfl rfl rfl) fun v129 w129 hh => ?_
 obtain ⟨rfl, rfl⟩ := hh
 try simp only [PutS]
 obtain ⟨iM, hiM, iM0, iM1, iM2⟩ := info_parts J2q
 refine wpSk rfl (Jl hiM iM0 rfl) fun v32 w32 hh => ?_
 obtain ⟨rfl, rfl⟩ := hh
 try simp only [PutS]
 have b32 : Blk (w129.alloc (.cells (Value.agg (mtc ⟨0, List.replicate 32 0, []⟩ (.slice none 0 0)).toArray).cells 35)) (w129).heap.size 35 (mtc ⟨0, List.replicate 32 0, []⟩ (.slice none 0 0)).toArray := World.alloc_heap_new w129 _
 have B32 := (Below.refl _ w129).alloc (Nat.le_refl _) (.cells (Value.agg (mtc ⟨0, List.replicate 32 0, []⟩ (.slice none 0 0)).toArray).cells 35)
 generalize (w129).alloc (.cells (Value.agg (mtc ⟨0, List.replicate 32 0, []⟩ (.slice none 0 0)).toArray).cells 35) = w32 at *
 refine J6 rfl 35 (.tmp 32) (.tmp 127) rfl rfl (cells := mtc m26f vE127) rfl b32 (by rw [List.size_toArray, J0 ⟨0, List.replicate 32 0, []⟩ _ rfl, J0 m26f _ rfl]; exact Nat.le_refl _) (by rw [J5, J0 m26f _ rfl]) (Ji _ _ (by rw [HV127.out]; rfl)) (Ja _ _ (by rw [List.size_toArray, J0 ⟨0, List.replicate 32 0, []⟩ _ rfl, J0 m26f _ rfl])) fun X32 hX32 bX32 => ?_
 have BB32 : Below (w129).heap.size w129 X32 := J2 B32 hX32 (Nat.le_refl _)
 clear b32 B32 hX32 hiM iM0 iM1 iM2
 replace f1 := f1.keep BB32
 replace f2' := f2'.keep BB32
 replace f3' := f3'.keep BB32
 replace bX6 := bX6.keep BB32
 replace bX17 := bX17.keep BB32
 replace bX29 := bX29.keep BB32
 replace E77 := E77.fwd BB32
 replace E110 := E110.fwd BB32
 replace E121 := E121.fwd BB32
 replace E127 := E127.fwd BB32
 replace X86v := X86v.fwd BB32
 replace X94v := X94v.fwd BB32
 replace R121 := R121.keep BB32
 replace R127 := R127.keep BB32
 replace hB := hB.trans (BB32.mono hB.size)
 clear BB32
 clear bX32 E127 HV127
 clear R127
 try simp only [PutS]
 go_upto_region 19 with (fail)
 refine wp_region_lit ?_
 refine wpSk rfl (J1 (cs := byc sd26) Jg rfl (by rw [Jc]; rfl) rfl rfl (J4 f1)) fun v130 w130 hh => ?_
 obtain ⟨rfl, rfl⟩ := hh
 try simp only [PutS]
 refine wpList_plain rfl fun K hK => ?_; go_big_op; refine hK _ _ ?_; clear hK K
 refine wpSk rfl (Jp J2s (rCoords sd26 hsd 0 0 1 (by decide) (by decide) (by decide) w130) rfl rfl) fun v132 w132 hh => ?_
 obtain ⟨o132, B132⟩ := hh
 try simp only [PutS]
 rw [coord26] at o132
 have hxx : ExA w132 v132 [r26] := RdA.of o132
 obtain ⟨gr, offr, capr, hvr, hcr, hgr, hrr⟩ := ex_rng hxx (k := 0) (x := r26) rfl
 subst hvr
 rw [Nat.zero_mul, Nat.add_zero] at hrr
 have r0 := hrr 0 _ rfl
 have r1 := hrr 1 _ rfl
 rw [Nat.add_zero] at r0
 replace f1 := f1.keep B132
 replace f2' := f2'.keep B132
 replace f3' := f3'.keep B132
 replace bX6 := bX6.keep B132
 replace bX17 := bX17.keep B132
 replace bX29 := bX29.keep B132
 replace E77 := E77.fwd B132
 replace E110 := E110.fwd B132
 replace E121 := E121.fwd B132
 replace X86v := X86v.fwd B132
 replace X94v := X94v.fwd B132
 replace R121 := R121.keep B132
 replace hB := hB.trans (B132.mono hB.size)
 clear B132 o132 hxx hrr
 try simp only [PutS]
 go_upto_region 20 with (fail)
 refine J13 fun X35 hX35 hz35 b35 => ?_
 have b35' : Blk X35 w132.heap.size 86 (ec r26).toArray := b35
 obtain ⟨g35, hg35⟩ : ∃ g, g = w132.heap.size := ⟨_, rfl⟩
 rw [← hg35] at b35' ⊢
 replace f1 := f1.keep hX35
 replace f2' := f2'.keep hX35
 replace f3' := f3'.keep hX35
 replace bX6 := bX6.keep hX35
 replace bX17 := bX17.keep hX35
 replace bX29 := bX29.keep hX35
 replace E77 := E77.fwd hX35
 replace E110 := E110.fwd hX35
 replace E121 := E121.fwd hX35
 replace X86v := X86v.fwd hX35
 replace X94v := X94v.fwd hX35
 replace R121 := R121.keep hX35
 replace hB := hB.trans (hX35.mono hB.size)
 clear hX35 hz35 b35 hg35 r0 r1 hgr hcr
 refine wp_region_lit ?_
 refine wpSk rfl (J1 (cs := mtc m26e vE110) J9 rfl (by rw [J5, J0 m26e _ rfl]) rfl rfl (J4 bX17)) fun v136 w136 hh => ?_
 obtain ⟨rfl, rfl⟩ := hh
 try simp only [PutS]
 have hrt := gRootM m26e (e26_ok.n (by decide)) 0 (by decide) vE110 w136 (HS.out.keep hB) E110.now
 rw [x26s] at hrt
 refine wpSk rfl (J7 J5e hrt rfl rfl) fun v137 w137 hh => ?_
 obtain ⟨rfl, B137⟩ := hh
 try simp only [PutS]
 replace f1 := f1.keep B137
 replace f2' := f2'.keep B137
 replace f3' := f3'.keep B137
 replace bX6 := bX6.keep B137
 replace bX17 := bX17.keep B137
 replace bX29 := bX29.keep B137
 replace b35' := b35'.keep B137
 replace E77 := E77.fwd B137
 replace E110 := E110.fwd B137
 replace E121 := E121.fwd B137
 replace X86v := X86v.fwd B137
 replace X94v := X94v.fwd B137
 replace R121 := R121.keep B137
 replace hB := hB.trans (B137.mono hB.size)
 clear B137 hrt
 generalize hrd : rootT [[35, 10, 100], [37, 11, 50]] = rd at *
 have hrok : DgOk rd := by rw [← hrd]; exact Jeq _
 have HRD := Lib.hid hrd
 clear hrd
 refine wpList_plain rfl fun K hK => ?_; go_big_op; refine hK _ _ ?_; clear hK K
 refine wpSk rfl (Jh (v := dgv rd) rfl rfl rfl) fun v138 w138 hh => ?_
 obtain ⟨rfl, rfl⟩ := hh
 try simp only [PutS]
 refine wpSk rfl (Jh (v := .int .i64 0) rfl rfl rfl) fun v139 w139 hh => ?_
 obtain ⟨rfl, rfl⟩ := hh
 try simp only [PutS]
 obtain ⟨iDD, hiDD, iDD0, iDD1, iDD2⟩ := info_parts J2b
 refine wpSk rfl (Jl hiDD iDD0 rfl) fun v36 w36 hh => ?_
 obtain ⟨rfl, rfl⟩ := hh
 try simp only [PutS]
 have b36 : Blk ((w139).alloc (.cells (Value.agg (zb 32).toArray).cells 23)) (w139).heap.size 23 (zb 32).toArray := World.alloc_heap_new w139 _
 have B36 := (Below.refl _ w139).alloc (Nat.le_refl _) (.cells (Value.agg (zb 32).toArray).cells 23)
 generalize (w139).alloc (.cells (Value.agg (zb 32).toArray).cells 23) = w36 at *
 refine J6 rfl 23 (.tmp 36) (.tmp 138) rfl rfl (cells := byc rd) rfl b36 (by rw [J3, hrok.1]; decide) (by rw [Jc, J3, hrok.1]) (Jw _) (Ja _ _ (by rw [J3, hrok.1]; rfl)) fun X36 hX36 bX36 => ?_
 have BB36 : Below (w139).heap.size w139 X36 := J2 B36 hX36 (Nat.le_refl _)
 clear b36 B36 hX36 hiDD iDD0 iDD1 iDD2
 replace f1 := f1.keep BB36
 replace f2' := f2'.keep BB36
 replace f3' := f3'.keep BB36
 replace bX6 := bX6.keep BB36
 replace bX17 := bX17.keep BB36
 replace bX29 := bX29.keep BB36
 replace b35' := b35'.keep BB36
 replace E77 := E77.fwd BB36
 replace E110 := E110.fwd BB36
 replace E121 := E121.fwd BB36
 replace X86v := X86v.fwd BB36
 replace X94v := X94v.fwd BB36
 replace R121 := R121.keep BB36
 replace hB := hB.trans (BB36.mono hB.size)
 clear BB36
 try simp only [PutS]
 go_upto_region 21 with (fail)
 refine wp_region_lit ?_
 obtain ⟨iu8, hu8, uz0, uz1, uz2⟩ := info_parts J22
 refine wpSk rfl (J2l (parts := [(0, .const (.int .u8 35)), (1, .const (.int .u8 10)), (2, .const (.int .u8 100))]) (vs := byc [35, 10, 100]) J10 hu8 uz0 uz1 rfl (by decide) (by decide) rfl rfl (by simp [byc, Value.cells])) fun v141 w141 hh => ?_
 obtain ⟨⟨rfl, hl141, b141⟩, B141⟩ := hh
 try simp only [PutS]
 replace f1 := f1.keep B141
 replace f2' := f2'.keep B141
 replace f3' := f3'.keep B141
 replace bX6 := bX6.keep B141
 replace bX17 := bX17.keep B141
 replace bX29 := bX29.keep B141
 replace b35' := b35'.keep B141
 replace bX36 := bX36.keep B141
 replace E77 := E77.fwd B141
 replace E110 := E110.fwd B141
 replace E121 := E121.fwd B141
 replace X86v := X86v.fwd B141
 replace X94v := X94v.fwd B141
 replace R121 := R121.keep B141
 replace hB := hB.trans (B141.mono hB.size)
 clear B141
 refine wpSk rfl (J2l (parts := [(0, .const (.int .u8 37)), (1, .const (.int .u8 11)), (2, .const (.int .u8 50))]) (vs := byc [37, 11, 50]) J10 hu8 uz0 uz1 rfl (by decide) (by decide) rfl rfl (by simp [byc, Value.cells])) fun v142 w142 hh => ?_
 obtain ⟨⟨rfl, hl142, b142⟩, B142⟩ := hh
 try simp only [PutS]
 replace b141 := b141.keep B142
 replace f1 := f1.keep B142
 replace f2' := f2'.keep B142
 replace f3' := f3'.keep B142
 replace bX6 := bX6.keep B142
 replace bX17 := bX17.keep B142
 replace bX29 := bX29.keep B142
 replace b35' := b35'.keep B142
 replace bX36 := bX36.keep B142
 replace E77 := E77.fwd B142
 replace E110 := E110.fwd B142
 replace E121 := E121.fwd B142
 replace X86v := X86v.fwd B142
 replace X94v := X94v.fwd B142
 replace R121 := R121.keep B142
 replace hB := hB.trans (B142.mono hB.size)
 clear B142
 obtain ⟨iS, hiS, iS0, iS1, iS2⟩ := info_parts Jkh
 refine wpSk rfl (J2l (parts := [(0, .tmp 141), (1, .tmp 142)]) (vs := [.slice (some ⟨X36.heap.size, 0, none⟩) 3 3, .slice (some ⟨w141.heap.size, 0, none⟩) 3 3]) Jib hiS iS0 iS1 rfl (by simp) (by simp) rfl rfl (by simp [Value.cells])) fun v143 w143 hh => ?_
 obtain ⟨⟨rfl, hl143, b143⟩, B143⟩ := hh
 try simp only [PutS]
 replace b141 := b141.keep B143
 replace b142 := b142.keep B143
 replace f1 := f1.keep B143
 replace f2' := f2'.keep B143
 replace f3' := f3'.keep B143
 replace bX6 := bX6.keep B143
 replace bX17 := bX17.keep B143
 replace bX29 := bX29.keep B143
 replace b35' := b35'.keep B143
 replace bX36 := bX36.keep B143
 replace E77 := E77.fwd B143
 replace E110 := E110.fwd B143
 replace E121 := E121.fwd B143
 replace X86v := X86v.fwd B143
 replace X94v := X94v.fwd B143
 replace R121 := R121.keep B143
 replace hB := hB.trans (B143.mono hB.size)
 clear B143
 have hbs : BsA w143 (.slice (some ⟨w142.heap.size, 0, none⟩) 2 2) [[35, 10, 100], [37, 11, 50]] := ⟨[.slice (some ⟨X36.heap.size, 0, none⟩) 3 3, .slice (some ⟨w141.heap.size, 0, none⟩) 3 3], Jc8 (n := 2) (cap := 2) b143 rfl rfl (by decide), Al.snoc (us := [Value.slice (some ⟨X36.heap.size, 0, none⟩) 3 3]) (ps := [[35, 10, 100]]) (Al.snoc (us := []) (ps := []) Al.nil (show ByD w143 (.slice (some ⟨X36.heap.size, 0, none⟩) 3 3) [35, 10, 100] from Jc8 (size := 1) (n := 3) (cap := 3) b141 rfl rfl (by decide))) (show ByD w143 (.slice (some ⟨w141.heap.size, 0, none⟩) 3 3) [37, 11, 50] from Jc8 (size := 1) (n := 3) (cap := 3) b142 rfl rfl (by decide))⟩
 have htr := gTree [[35, 10, 100], [37, 11, 50]] (by decide) (by decide) _ w143 (HS.out.keep hB) hbs
 rw [HRD.out, show rootE [[35, 10, 100], [37, 11, 50]] = 0 from rfl] at htr
 refine wpSk rfl (J7 J8e htr rfl rfl) fun v144 w144 hh => ?_
 obtain ⟨rfl, B144⟩ := hh
 try simp only [PutS]
 replace f1 := f1.keep B144
 replace f2' := f2'.keep B144
 replace f3' := f3'.keep B144
 replace bX6 := bX6.keep B144
 replace bX17 := bX17.keep B144
 replace bX29 := bX29.keep B144
 replace b35' := b35'.keep B144
 replace bX36 := bX36.keep B144
 replace E77 := E77.fwd B144
 replace E110 := E110.fwd B144
 replace E121 := E121.fwd B144
 replace X86v := X86v.fwd B144
 replace X94v := X94v.fwd B144
 replace R121 := R121.keep B144
 replace hB := hB.trans (B144.mono hB.size)
 clear B144 htr hbs b141 b142 b143 hl141 hl142 hl143
 refine wpList_plain rfl fun K hK => ?_; go_big_op; refine hK _ _ ?_; clear hK K
 refine wpSk rfl (Jh (v := dgv rd) rfl rfl rfl) fun v145 w145 hh => ?_
 obtain ⟨rfl, rfl⟩ := hh
 try simp only [PutS]
 refine wpSk rfl (Jh (v := .int .i64 0) rfl rfl rfl) fun v146 w146 hh => ?_
 obtain ⟨rfl, rfl⟩ := hh
 try simp only [PutS]
 obtain ⟨iDD, hiDD, iDD0, iDD1, iDD2⟩ := info_parts J2b
 refine wpSk rfl (Jl hiDD iDD0 rfl) fun v38 w38 hh => ?_
 obtain ⟨rfl, rfl⟩ := hh
 try simp only [PutS]
 have b38 : Blk ((w146).alloc (.cells (Value.agg (zb 32).toArray).cells 23)) (w146).heap.size 23 (zb 32).toArray := World.alloc_heap_new w146 _
 have B38 := (Below.refl _ w146).alloc (Nat.le_refl _) (.cells (Value.agg (zb 32).toArray).cells 23)
 generalize (w146).alloc (.cells (Value.agg (zb 32).toArray).cells 23) = w38 at *
 refine J6 rfl 23 (.tmp 38) (.tmp 145) rfl rfl (cells := byc rd) rfl b38 (by rw [J3, hrok.1]; decide) (by rw [Jc, J3, hrok.1]) (Jw _) (Ja _ _ (by rw [J3, hrok.1]; rfl)) fun X38 hX38 bX38 => ?_
 have BB38 : Below (w146).heap.size w146 X38 := J2 B38 hX38 (Nat.le_refl _)
 clear b38 B38 hX38 hiDD iDD0 iDD1 iDD2
 replace f1 := f1.keep BB38
 replace f2' := f2'.keep BB38
 replace f3' := f3'.keep BB38
 replace bX6 := bX6.keep BB38
 replace bX17 := bX17.keep BB38
 replace bX29 := bX29.keep BB38
 replace b35' := b35'.keep BB38
 replace bX36 := bX36.keep BB38
 replace E77 := E77.fwd BB38
 replace E110 := E110.fwd BB38
 replace E121 := E121.fwd BB38
 replace X86v := X86v.fwd BB38
 replace X94v := X94v.fwd BB38
 replace R121 := R121.keep BB38
 replace hB := hB.trans (BB38.mono hB.size)
 clear BB38
 try simp only [PutS]
 go_upto_region 22 with (fail)
 obtain ⟨iX, hiX, iX0, iX1, iX2⟩ := info_parts J6n
 refine Jd 10 [(0, Spec.val (.agg #[.int .u64 (fv (eb (fz 3)).a), .int .u64 (fv (eb (fz 3)).b)])), (1, Spec.val (.agg #[.int .u64 (fv ((1 : E)).a), .int .u64 (fv ((1 : E)).b)])), (2, Spec.val (.agg #[.int .u64 (fv (r26).a), .int .u64 (fv (r26).b)])), (3, Spec.val (.agg #[.int .u64 (fv ((1 - r26)).a), .int .u64 (fv ((1 - r26)).b)])), (4, Spec.val (.agg #[.int .u64 (fv ((eb (fz 3) * (1 - r26))).a), .int .u64 (fv ((eb (fz 3) * (1 - r26))).b)])), (5, Spec.val (.agg #[.int .u64 (fv (eb (fz 5)).a), .int .u64 (fv (eb (fz 5)).b)])), (6, Spec.val (.agg #[.int .u64 (fv (r26).a), .int .u64 (fv (r26).b)])), (7, Spec.val (.agg #[.int .u64 (fv ((eb (fz 5) * r26)).a), .int .u64 (fv ((eb (fz 5) * r26)).b)])), (8, Spec.val (.agg #[.int .u64 (fv (Go.Proofs.YtoiampgfnidfdaaGreatDoor.w26).a), .int .u64 (fv (Go.Proofs.YtoiampgfnidfdaaGreatDoor.w26).b)])), (9, Spec.rel (New 86 #[.int .u64 0, .int .u64 0]) (NewF))] (by kernel_rfl) (by kernel_rfl) (by kernel_rfl) ⟨J8x, trivial⟩ ?_
 refine rg_val rfl rfl (fun W1 hW1 hF => J7 J1p (xFromInt 3 (by decide) (by decide) W1) rfl rfl) ?_
 intro a' ha
 simp only [PutS] at ha
 subst ha
 refine rg_val rfl rfl (fun W1 hW1 hF => J7 J3v (xOne W1) rfl rfl) ?_
 intro a' ha
 simp only [PutS] at ha
 subst ha
 refine rg_val rfl rfl (fun W1 hW1 hF => Jf (cs := ec r26) J2g rfl J2i rfl rfl (J4 (b35'.keep (J8 hW1)))) ?_
 intro a' ha
 simp only [PutS] at ha
 subst ha
 refine rg_val rfl rfl (fun W1 hW1 hF => J7 J6k (eSub 1 r26 W1) rfl rfl) ?_
 intro a' ha
 simp only [PutS] at ha
 subst ha
 refine rg_val rfl rfl (fun W1 hW1 hF => J7 J4i (eMul (eb (fz 3)) (1 - r26) W1) rfl rfl) ?_
 intro a' ha
 simp only [PutS] at ha
 subst ha
 refine rg_val rfl rfl (fun W1 hW1 hF => J7 J1p (xFromInt 5 (by decide) (by decide) W1) rfl rfl) ?_
 intro a' ha
 simp only [PutS] at ha
 subst ha
 refine rg_val rfl rfl (fun W1 hW1 hF => Jf (cs := ec r26) J2g rfl J2i rfl rfl (J4 (b35'.keep (J8 hW1)))) ?_
 intro a' ha
 simp only [PutS] at ha
 subst ha
 refine rg_val rfl rfl (fun W1 hW1 hF => J7 J4i (eMul (eb (fz 5)) r26 W1) rfl rfl) ?_
 intro a' ha
 simp only [PutS] at ha
 subst ha
 refine rg_val rfl rfl (fun W1 hW1 hF => J7 J6j (addW26 W1) rfl rfl) ?_
 intro a' ha
 simp only [PutS] at ha
 subst ha
 refine rg_rel rfl rfl (fun W1 hW1 hF => J4m hiX iX0 rfl) ?_
 intro n9 m9 v9 hn9 hm9 hd9 hf9 a' ha
 simp only [PutS] at ha
 subst ha
 obtain rfl := hf9
 refine rg_nil (fun w' hw' hF => ?_)
 obtain ⟨z, rfl⟩ := hw'
 simp only [List.drop_succ_cons, List.drop_zero]
 obtain ⟨hm9, -, hl9, b9⟩ := J30 hF
 clear hF
 refine J6 rfl 86 (.tmp 40) (.tmp 155) rfl rfl (cells := ec Go.Proofs.YtoiampgfnidfdaaGreatDoor.w26) rfl b9 (by simp [ec]) J2i rfl rfl fun X40 hX40 b40 => ?_
 have BX40 := J2 z.h hX40 hn9
 replace f1 := f1.keep BX40
 replace f2' := f2'.keep BX40
 replace f3' := f3'.keep BX40
 replace bX6 := bX6.keep BX40
 replace bX17 := bX17.keep BX40
 replace bX29 := bX29.keep BX40
 replace b35' := b35'.keep BX40
 replace bX36 := bX36.keep BX40
 replace bX38 := bX38.keep BX40
 replace E77 := E77.fwd BX40
 replace E110 := E110.fwd BX40
 replace E121 := E121.fwd BX40
 replace X86v := X86v.fwd BX40
 replace X94v := X94v.fwd BX40
 replace R121 := R121.keep BX40
 replace hB := hB.trans (BX40.mono hB.size)
 clear BX40 hX40
 try simp only [PutS]
 obtain ⟨g30, o30, c30, hv30, hc30, -, -⟩ := R121.form (by decide)
 subst hv30
 go_upto_region 25 with (fail)
 rw [hV10] at X86v
 obtain ⟨gA, oA, cA, hvA, -, hgA, hrA0⟩ := ex_rng X86v.now (k := 0) (x := Go.Proofs.YtoiampgfnidfdaaGreatDoor.w26) rfl
 rw [show v26.length = 5 from rfl] at hvA
 cases hvA
 obtain ⟨gA4, oA4, cA4, hvA, -, -, hrA4⟩ := ex_rng X86v.now (k := 4) (x := (1 : E)) rfl
 rw [show v26.length = 5 from rfl] at hvA
 cases hvA
 obtain ⟨gA2, oA2, cA2, hvA, -, -, hrA2⟩ := ex_rng X86v.now (k := 2) (x := eb (fz 2)) rfl
 rw [show v26.length = 5 from rfl] at hvA
 cases hvA
 obtain ⟨gC, oC, cC, hvC, -, hgC, hrC4⟩ := ex_rng X94v.now (k := 4) (x := r26) hV12
 rw [hl12] at hvC
 cases hvC
 obtain ⟨gC0, oC0, cC0, hvC, -, -, hrC0⟩ := ex_rng X94v.now (k := 0) (x := Go.Proofs.YtoiampgfnidfdaaGreatDoor.w26) hU12
 rw [hl12] at hvC
 cases hvC
 obtain ⟨g30x, o30x, c30x, hv30, -, hg30, hk30⟩ := R121.form (by decide)
 cases hv30
 have q0 := hk30 0 _ rfl
 have q1 := hk30 1 _ rfl
 rw [Nat.add_zero] at q0
 have y0 := Je hg30 q0
 have y1 := Je hg30 q1
 have yv := Je bX29.lt (show X40.cell? ⟨g29, 0, none⟩ = some (.int .u64 6) from J4r bX29)
 have HL1 := Lib.hid (fun (W1 : World) (h : Below X40.heap.size X40 W1) => show Calls Tryz.prog 24 #[mtV m26e vE110, .int .i64 0] W1 (Ret (.int .i64 1) W1) from (by have := gLeft m26e (e26_ok.n (by decide)) 0 (by decide) vE110 W1 (E110.fwd h).now; rwa [x26o] at this))
 have HL2 := Lib.hid (fun (W1 : World) (h : Below X40.heap.size X40 W1) => show Calls Tryz.prog 24 #[mtV m26f vE121, .int .i64 0] W1 (Ret (.int .i64 0) W1) from (by have := gLeft m26f (f26_ok.n (by decide)) 0 (by decide) vE121 W1 (E121.fwd h).now; rwa [x26p] at this))
 have HL3 := Lib.hid (fun (W1 : World) (h : Below X40.heap.size X40 W1) => show Calls Tryz.prog 24 #[mtV m26f vE121, .int .i64 5] W1 (Ret (.int .i64 0) W1) from (by have := gLeft m26f (f26_ok.n (by decide)) 5 (by decide) vE121 W1 (E121.fwd h).now; rwa [x26q] at this))
 have HWD := Lib.hid (fun (W1 : World) (h : Below X40.heap.size X40 W1) => show Calls Tryz.prog 26 #[mtV m26f vE121] W1 (Ret (.int .i64 34) W1) from (by have := gWords m26f (f26_ok.n (by decide)) vE121 W1 (E121.fwd h).now; rwa [x26r] at this))
 have HEN := Lib.hid (fun (W1 : World) (h : Below X40.heap.size X40 W1) => show Calls Tryz.prog 29 #[mtV m26f vE121] W1 (RetR (SlQ 243) W1) from (gEncodeM m26f (f26_ok.n (by decide)) (f26_ok.enc (by decide)) vE121 W1 (E121.fwd h).now).mono fun r W2 ⟨v, h1, h2, h3⟩ => by rw [x26t] at h2; exact ⟨v, h1, Rd.len h2, h3⟩)
 clear hk30 q0 q1
 refine Jd 141 [(29, Spec.val (.agg #[.int .u64 (fv (Go.Proofs.YtoiampgfnidfdaaGreatDoor.w26).a), .int .u64 (fv (Go.Proofs.YtoiampgfnidfdaaGreatDoor.w26).b)])), (30, Spec.val (.agg #[.int .u64 (fv (Go.Proofs.YtoiampgfnidfdaaGreatDoor.w26).a), .int .u64 (fv (Go.Proofs.YtoiampgfnidfdaaGreatDoor.w26).b)])), (36, Spec.val (.agg #[.int .u64 (fv ((1 : E)).a), .int .u64 (fv ((1 : E)).b)])), (37, Spec.val (.agg #[.int .u64 (fv ((1 : E)).a), .int .u64 (fv ((1 : E)).b)])), (43, Spec.val (.agg #[.int .u64 (fv (eb (fz 2)).a), .int .u64 (fv (eb (fz 2)).b)])), (44, Spec.val (.agg #[.int .u64 (fv (eb (fz 2)).a), .int .u64 (fv (eb (fz 2)).b)])), (54, Spec.val (.agg #[.int .u64 (fv (r26).a), .int .u64 (fv (r26).b)])), (55, Spec.val (.agg #[.int .u64 (fv (r26).a), .int .u64 (fv (r26).b)])), (61, Spec.val (.agg #[.int .u64 (fv (Go.Proofs.YtoiampgfnidfdaaGreatDoor.w26).a), .int .u64 (fv (Go.Proofs.YtoiampgfnidfdaaGreatDoor.w26).b)])), (62, Spec.val (.agg #[.int .u64 (fv (Go.Proofs.YtoiampgfnidfdaaGreatDoor.w26).a), .int .u64 (fv (Go.Proofs.YtoiampgfnidfdaaGreatDoor.w26).b)])), (102, Spec.val (mtV m26e vE110)), (103, Spec.val (.int .i64 1)), (107, Spec.val (mtV m26f vE121)), (108, Spec.val (.int .i64 0)), (112, Spec.val (mtV m26f vE121)), (113, Spec.val (.int .i64 0)), (121, Spec.val (dgv rd)), (122, Spec.val (dgv rd)), (123, Spec.val (.bool true)), (131, Spec.val (mtV m26f vE121)), (132, Spec.val (.int .i64 34)), (136, Spec.val (mtV m26f vE121)), (137, Spec.rel (SlQ 243) (SlF 243))] (by kernel_rfl) (by kernel_rfl) (by kernel_rfl) ⟨Jmk, trivial⟩ ?_
 iterate 29 (refine rg_det rfl rfl rfl (fun K hK => ?_); go_big_quiet_op; refine hK _ ?_; clear hK K)
 refine rg_val rfl rfl (fun W1 hW1 hF => Jf (cs := ec Go.Proofs.YtoiampgfnidfdaaGreatDoor.w26) J2g rfl J2i rfl rfl (Jr hrA0 hgA (J8 hW1))) ?_
 intro a' ha
 simp only [PutS] at ha
 subst ha
 refine rg_val rfl rfl (fun W1 hW1 hF => Jf (cs := ec Go.Proofs.YtoiampgfnidfdaaGreatDoor.w26) J2g rfl J2i rfl rfl (J4 (b40.keep (J8 hW1)))) ?_
 intro a' ha
 simp only [PutS] at ha
 subst ha
 iterate 5 (refine rg_det rfl rfl rfl (fun K hK => ?_); go_big_quiet_op; refine hK _ ?_; clear hK K)
 refine rg_val rfl rfl (fun W1 hW1 hF => Jf (cs := ec (1 : E)) J2g rfl J2i rfl rfl (Jr hrA4 hgA (J8 hW1))) ?_
 intro a' ha
 simp only [PutS] at ha
 subst ha
 refine rg_val rfl rfl (fun W1 hW1 hF => J7 J3v (xOne W1) rfl rfl) ?_
 intro a' ha
 simp only [PutS] at ha
 subst ha
 iterate 5 (refine rg_det rfl rfl rfl (fun K hK => ?_); go_big_quiet_op; refine hK _ ?_; clear hK K)
 refine rg_val rfl rfl (fun W1 hW1 hF => Jf (cs := ec (eb (fz 2))) J2g rfl J2i rfl rfl (Jr hrA2 hgA (J8 hW1))) ?_
 intro a' ha
 simp only [PutS] at ha
 subst ha
 refine rg_val rfl rfl (fun W1 hW1 hF => J7 J1p (xFromInt 2 (by decide) (by decide) W1) rfl rfl) ?_
 intro a' ha
 simp only [PutS] at ha
 subst ha
 iterate 9 (refine rg_det rfl rfl rfl (fun K hK => ?_); go_big_quiet_op; refine hK _ ?_; clear hK K)
 refine rg_val rfl rfl (fun W1 hW1 hF => Jf (cs := ec r26) J2g rfl J2i rfl rfl (Jr hrC4 hgC (J8 hW1))) ?_
 intro a' ha
 simp only [PutS] at ha
 subst ha
 refine rg_val rfl rfl (fun W1 hW1 hF => Jf (cs := ec r26) J2g rfl J2i rfl rfl (J4 (b35'.keep (J8 hW1)))) ?_
 intro a' ha
 simp only [PutS] at ha
 subst ha
 iterate 5 (refine rg_det rfl rfl rfl (fun K hK => ?_); go_big_quiet_op; refine hK _ ?_; clear hK K)
 refine rg_val rfl rfl (fun W1 hW1 hF => Jf (cs := ec Go.Proofs.YtoiampgfnidfdaaGreatDoor.w26) J2g rfl J2i rfl rfl (Jr hrC0 hgC (J8 hW1))) ?_
 intro a' ha
 simp only [PutS] at ha
 subst ha
 refine rg_val rfl rfl (fun W1 hW1 hF => Jf (cs := ec Go.Proofs.YtoiampgfnidfdaaGreatDoor.w26) J2g rfl J2i rfl rfl (J4 (b40.keep (J8 hW1)))) ?_
 intro a' ha
 simp only [PutS] at ha
 subst ha
 iterate 39 (refine rg_det rfl rfl rfl (fun K hK => ?_); go_big_quiet_op; refine hK _ ?_; clear hK K)
 refine rg_val rfl rfl (fun W1 hW1 hF => Jf (cs := mtc m26e vE110) J9 rfl (by rw [J5, J0 m26e _ rfl]) rfl rfl (J4 (bX17.keep (J8 hW1)))) ?_
 intro a' ha
 simp only [PutS] at ha
 subst ha
 refine rg_val rfl rfl (fun W1 hW1 hF => J7 J2v (HL1.out W1 (J8 hW1)) rfl rfl) ?_
 intro a' ha
 simp only [PutS] at ha
 subst ha
 iterate 3 (refine rg_det rfl rfl rfl (fun K hK => ?_); go_big_quiet_op; refine hK _ ?_; clear hK K)
 refine rg_val rfl rfl (fun W1 hW1 hF => Jf (cs := mtc m26f vE121) J9 rfl (by rw [J5, J0 m26f _ rfl]) rfl rfl (J4 (bX29.keep (J8 hW1)))) ?_
 intro a' ha
 simp only [PutS] at ha
 subst ha
 refine rg_val rfl rfl (fun W1 hW1 hF => J7 J2v (HL2.out W1 (J8 hW1)) rfl rfl) ?_
 intro a' ha
 simp only [PutS] at ha
 subst ha
 iterate 3 (refine rg_det rfl rfl rfl (fun K hK => ?_); go_big_quiet_op; refine hK _ ?_; clear hK K)
 refine rg_val rfl rfl (fun W1 hW1 hF => Jf (cs := mtc m26f vE121) J9 rfl (by rw [J5, J0 m26f _ rfl]) rfl rfl (J4 (bX29.keep (J8 hW1)))) ?_
 intro a' ha
 simp only [PutS] at ha
 subst ha
 refine rg_val rfl rfl (fun W1 hW1 hF => J7 J2v (HL3.out W1 (J8 hW1)) rfl rfl) ?_
 intro a' ha
 simp only [PutS] at ha
 subst ha
 iterate 7 (refine rg_det rfl rfl rfl (fun K hK => ?_); go_big_quiet_op; refine hK _ ?_; clear hK K)
 refine rg_val rfl rfl (fun W1 hW1 hF => Jf (cs := byc rd) Jg rfl (by rw [Jc, J3, hrok.1]) rfl rfl (J4 (bX36.keep (J8 hW1)))) ?_
 intro a' ha
 simp only [PutS] at ha
 subst ha
 refine rg_val rfl rfl (fun W1 hW1 hF => Jf (cs := byc rd) Jg rfl (by rw [Jc, J3, hrok.1]) rfl rfl (J4 (bX38.keep (J8 hW1)))) ?_
 intro a' ha
 simp only [PutS] at ha
 subst ha
 refine rg_val rfl rfl (fun W1 hW1 hF => Jd8 rfl rfl rfl hrok.1) ?_
 intro a' ha
 simp only [PutS] at ha
 subst ha
 iterate 7 (refine rg_det rfl rfl rfl (fun K hK => ?_); go_big_quiet_op; refine hK _ ?_; clear hK K)
 refine rg_val rfl rfl (fun W1 hW1 hF => Jf (cs := mtc m26f vE121) J9 rfl (by rw [J5, J0 m26f _ rfl]) rfl rfl (J4 (bX29.keep (J8 hW1)))) ?_
 intro a' ha
 simp only [PutS] at ha
 subst ha
 refine rg_val rfl rfl (fun W1 hW1 hF => J7 J54 (HWD.out W1 (J8 hW1)) rfl rfl) ?_
 intro a' ha
 simp only [PutS] at ha
 subst ha
 iterate 3 (refine rg_det rfl rfl rfl (fun K hK => ?_); go_big_quiet_op; refine hK _ ?_; clear hK K)
 refine rg_val rfl rfl (fun W1 hW1 hF => Jf (cs := mtc m26f vE121) J9 rfl (by rw [J5, J0 m26f _ rfl]) rfl rfl (J4 (bX29.keep (J8 hW1)))) ?_
 intro a' ha
 simp only [PutS] at ha
 subst ha
 refine rg_rel rfl rfl (fun W1 hW1 hF => Jp J4t (HEN.out W1 (J8 hW1)) rfl rfl) ?_
 intro nq137 mq137 vq137 hnq137 hmq137 hdq137 hfq137 a' ha
 simp only [PutS] at ha
 subst ha
 obtain ⟨Aq137, capq137, rfl⟩ := hfq137
 iterate 3 (refine rg_det rfl rfl rfl (fun K hK => ?_); go_big_quiet_op; refine hK _ ?_; clear hK K)
 refine rg_nil (fun w' hw' hF => ?_)
 obtain ⟨z9, rfl⟩ := hw'
 simp only [List.append_eq, List.cons_append, List.nil_append, List.drop_succ_cons, List.drop_zero]
 have hBz := hB.trans (z9.h.mono hB.size)
 clear hF
 go_wp2_with fail
 go_ret
 exact ⟨rfl, hBz⟩
end
end Go.Proofs.YtoiampgfnidfdaaGreatDoor
