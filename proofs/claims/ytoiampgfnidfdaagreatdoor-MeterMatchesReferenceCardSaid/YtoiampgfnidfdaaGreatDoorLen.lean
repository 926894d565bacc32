/-
  The library contract of math/bits.Len laid at this seat's translation, in plain words, with the numbers named.
-/
import Derived.Test.YtoiampgfnidfdaaGreatDoorSpd26
import Derived.Test.YtoiampgfnidfdaaGreatDoorMs26
import Derived.Shelf.Small.Bits
import Derived.Lib.ItoaNum
import Derived.Test.YtoiampgfnidfdaaGreatDoorProg
set_option maxRecDepth 100000
set_option maxHeartbeats 8000000
namespace Go.Proofs.YtoiampgfnidfdaaGreatDoor
open Go.RowKit
section
open Go.RowKit

theorem J4t : En Tryz.prog 29 := enters_of Tryz.func29 (by kernel_rfl) rfl
theorem flB_lt (b : Bool) : flB b < 256 := by cases b <;> decide
attribute [local irreducible] wpRg
theorem gEncodeM (m : Mt) (hN : MtN m) (hl : (encM m).length ≤ 900000) (vE : Value) (w : World) (hE : EpsA w vE m.eps) : Calls Tryz.prog 29 #[mtV m vE] w fun e w' => ∃ v, e = .returned v ∧ RdA 1 w' v (encM m).length (byc (encM m)) ∧ Below w.heap.size w w' := by
 have HLN := Lib.hid hl
 clear hl
 obtain ⟨S, hS⟩ : ∃ S, S = mtV m vE := ⟨_, rfl⟩
 rw [← hS]
 have HN := Lib.hid hN
 have HE := Lib.hid hE
 obtain ⟨A, cap, rfl⟩ := hE.len
 have hml := hN.eps
 clear hN hE
 go_enter Tryz.func29, Tryz.ntmps29
 go_upto_region 1 with (fail)
 refine J13 fun W hB hz b1 => ?_
 have b1' : Blk W w.heap.size 35 (mtc m (.slice A m.eps.length cap)).toArray := by first | exact b1 | (rw [hS] at b1; exact b1)
 have hsl := HN.out.seed.1
 have hver := HN.out.ver
 have hWs : W.heap.size = w.heap.size + 1 := hz.out
 obtain ⟨B0, hB0⟩ : ∃ B, B = w.heap.size + 1 := ⟨_, rfl⟩
 have hWB : W.heap.size = B0 := by omega
 have c0 := J4r b1'
 have k0 := Je b1'.lt c0
 have HPX : Hid (Pfx m (mtH m ++ m.eps.flatMap epB)) := Lib.hid ⟨[], by rw [J60, List.append_nil]⟩
 clear b1 hz hS
 refine Jd 5 [(2, Spec.rel (OwA (leB m.ver 8)) AnyV)] (by kernel_rfl) (by kernel_rfl) (by kernel_rfl) ⟨fit_of (ow_st), trivial⟩ ?_
 iterate 2 (refine rg_det rfl rfl rfl (fun K hK => ?_); go_big_quiet_op; refine hK _ ?_; clear hK K)
 refine rg_rel rfl rfl (fun W1 hW1 hF => Jp J2n (gWrite0 m.ver 8 (by omega) (by decide) W1) rfl rfl) ?_
 intro n2 m2 v2 hn2 hm2 hd2 hf2 a' ha
 simp only [PutS] at ha
 subst ha
 iterate 2 (refine rg_det rfl rfl rfl (fun K hK => ?_); go_big_quiet_op; refine hK _ ?_; clear hK K)
 refine rg_nil (fun w' hw' hF => ?_)
 obtain ⟨z, rfl⟩ := hw'
 simp only [List.drop_succ_cons, List.drop_zero]
 have o2 : OwA (leB m.ver 8) n2 m2 v2 z.w := (hF _ (List.mem_append_right _ (List.mem_singleton.2 rfl))).2
 have b1z := b1'.keep z.h
 have hz0 := z.h.size
 have ho2 := J6t (base' := B0) o2.1 (by omega)
 clear hF k0 c0
 refine wpSk rfl (J20 (base := B0) (l := leB m.ver 8) (m := m.seed) (ad := ⟨w.heap.size, 1, none⟩) (mc := 32) rfl rfl (by rw [hsl]; rfl) ho2 (fun j v hj => by rw [Addr.add_lit]; exact J5v b1z j v hj) (by rw [J2k]; decide) (by rw [hsl]; decide) (by omega)) fun v17 w17 hh => ?_
 obtain ⟨o17, k17, B17⟩ := hh
 try simp only [PutS]
 have hB17 : Below B0 W w17 := (z.h.mono (by omega)).trans B17
 obtain ⟨L1, hL1⟩ : ∃ L, L = leB m.ver 8 ++ m.seed := ⟨_, rfl⟩
 rw [← hL1] at o17
 have hL1l : L1.length = 40 := by rw [hL1, List.length_append, J2k, hsl]
 have HL1 := Lib.hid hL1
 have HL1L := Lib.hid hL1l
 obtain ⟨A17, c17, rfl⟩ := o17.len
 have hbB : w.heap.size < B0 := by omega
 have hbW : w.heap.size < W.heap.size := by omega
 have c33 := J11 (b1'.below hB17 hbB) hsl
 have l1 := (b1'.below hB17 hbB).lt
 clear ho2 o2 b1z hz0 z k17 B17 hL1 hL1l
 try simp only [PutS]
 go_upto_region 2 with (fail)
 refine wp_region_lit ?_
 iterate 5 (refine wpList_plain rfl fun K hK => ?_; go_big_op; refine hK _ _ ?_; clear hK K)
 obtain ⟨iu8, hu8, uz0, uz1, uz2⟩ := info_parts J22
 have hB0W : B0 ≤ w17.heap.size := by have := hB17.size; omega
 refine wpSk rfl (J15 (cs := (byc [(m.eps.length % 256)]).toArray) J10 hu8 uz0 uz1 (by decide) (by decide) rfl rfl rfl) fun v23 w23 hh => ?_
 obtain ⟨⟨rfl, hl23, b23⟩, B23⟩ := hh
 try simp only [PutS]
 refine wpSk rfl (J20 (base := B0) (l := L1) (m := [(m.eps.length % 256)]) (ad := ⟨(w17).heap.size, 0, none⟩) (mc := 1) rfl rfl rfl ((o17).keep B23) (J3m b23) (by rw [HL1L.out]; decide) (by simp) (Nat.le_trans hB0W B23.size)) fun v24 w24 hh => ?_
 obtain ⟨o24, k24, B24⟩ := hh
 try simp only [PutS]
 obtain ⟨L2, hL2⟩ : ∃ L, L = L1 ++ [m.eps.length % 256] := ⟨_, rfl⟩
 rw [← hL2] at o24
 have HL2 := Lib.hid (show L2 = mtH m by rw [hL2, HL1.out]; rfl)
 obtain ⟨A24, c24, rfl⟩ := o24.len
 have hB24 : Below B0 W w24 := (hB17.trans (B23.mono hB0W)).trans B24
 have c33 := J11 (b1'.below hB24 hbB) hsl
 have l1 := (b1'.below hB24 hbB).lt
 clear hL2 o17 hB17 B23 B24 b23 hl23 k24 hB0W
 try simp only [PutS]
 go_wp2_with fail
 have HB1 := Lib.hid b1'
 go_loopw [3, 28] (fun q i wr => ∃ k : Nat, k ≤ m.eps.length ∧ i = .int .i64 k ∧ OwB B0 wr q (mtH m ++ (m.eps.take k).flatMap epB) ∧ Below B0 W wr) (fun _ i _ => m.eps.length - (intOf i).toNat)
 case atStart => exact ⟨0, Nat.zero_le _, rfl, by rw [List.take_zero, List.flatMap_nil, List.append_nil, ← HL2.out]; exact o24, hB24⟩
 case round =>
  clear o24 hB24 c33 l1 b1'
  obtain ⟨k, hk, rfl, ho, hBr⟩ := hrel
  by_cases hkl : k < m.eps.length
  ·
   obtain ⟨us, hr, ha⟩ := HE.out
   obtain ⟨u, e, hu, he, hin⟩ := ha.get hkl
   have hBwr : Below w.heap.size w wr := hB.trans (hBr.mono (by omega))
   obtain ⟨g, off, cap', hv, hcp, hg, hcs⟩ := RdA.at J16 (RdA.keep hr hBwr) hu
   rw [ha.1] at hv hcp
   cases hv
   have hrg : wr.rangeAt g (off + k * 5) (epc u) := fun j x hj => by rw [Nat.add_assoc]; exact hcs j x hj
   have HPT := Lib.hid hin.2.1
   have HPK := Lib.hid hin.2.2
   have HNX := Lib.hid (J2x epB m.eps k e he)
   have hp0 : Pfx m ((mtH m ++ (m.eps.take k).flatMap epB) ++ epB e) := by rw [List.append_assoc, ← HNX.out]; exact HPX.out.of_take _
   obtain ⟨L0, hL0⟩ : ∃ L, L = mtH m ++ (m.eps.take k).flatMap epB := ⟨_, rfl⟩
   rw [← hL0] at ho hp0
   have HL0 := Lib.hid hL0
   have HP0 := Lib.hid hp0
   obtain ⟨Ap, cp, hup⟩ := hin.2.1.len
   obtain ⟨Ak, ck, huk⟩ := hin.2.2.len
   have hue : epc u = [.int .i64 (e.log : Int), .int .i64 (e.count : Int), .bool e.closed, .slice Ap e.pts.length cp, .slice Ak e.peaks.length ck] := by
    unfold epc
    rw [hin.1.1, hin.1.2.1, hin.1.2.2, hup, huk]
   have hnum := HN.out.ep k e he
   obtain ⟨iE, hiE, iE0, iE1, iE2⟩ := info_parts J49
   have hone := hin.one
   rw [hup] at HPT
   rw [huk] at HPK
   obtain ⟨Aq, cq, rfl⟩ := ho.len
   have hL0l : L0.length ≤ 900000 := Nat.le_trans (Nat.le_trans hp0.pre.len (Nat.le_refl _)) HLN.out
   have HHUE := Lib.hid hue
   clear hr ha hu he hin hcs hL0 hp0 hue hup huk
   go_upto_region 5 with (fail)
   refine wp_region_lit ?_
   refine wpList_plain rfl fun K hK => ?_; go_big_op; refine hK _ _ ?_; clear hK K
   refine wpSk rfl (J1 (cs := epc u) J1o rfl J1b rfl rfl hrg) fun v31 w31 hh => ?_
   obtain ⟨rfl, rfl⟩ := hh
   try simp only [PutS]
   refine wpSk rfl (Jl hiE iE0 rfl) fun v5 w5 hh => ?_
   obtain ⟨rfl, rfl⟩ := hh
   try simp only [PutS]
   have b5 : Blk (w31.alloc (.cells (Value.agg #[.int .i64 0, .int .i64 0, .bool false, .slice none 0 0, .slice none 0 0]).cells 75)) w31.heap.size 75 #[.int .i64 0, .int .i64 0, .bool false, .slice none 0 0, .slice none 0 0] := World.alloc_heap_new w31 _
   have B5 := (Below.refl _ w31).alloc (Nat.le_refl _) (.cells (Value.agg #[.int .i64 0, .int .i64 0, .bool false, .slice none 0 0, .slice none 0 0]).cells 75)
   generalize w31.alloc (.cells (Value.agg #[.int .i64 0, .int .i64 0, .bool false, .slice none 0 0, .slice none 0 0]).cells 75) = w5 at *
   refine J6 rfl 75 (.tmp 5) (.tmp 31) rfl rfl (cells := epc u) rfl b5 (by rw [J16]; decide) (by rw [J1b, J16]) (List.all_eq_true.2 hone) (Ja _ _ (by rw [J16]; rfl)) fun X hX bX => ?_
   rw [HHUE.out] at bX
   have BX : Below w31.heap.size w31 X := J2 B5 hX (Nat.le_refl _)
   have hoX := ho.keep BX
   have hneX : (Value.slice Aq L0.length cq).ownBlock ≠ some w31.heap.size := KX.new ho (Nat.le_refl _)
   have hB31 : B0 ≤ w31.heap.size := by have := hBr.size; omega
   have hBX : Below B0 W X := hBr.trans (BX.mono hB31)
   obtain ⟨g5, hg5⟩ : ∃ g, g = w31.heap.size := ⟨_, rfl⟩
   rw [← hg5] at bX hneX ⊢
   have hXD : B0 ≤ X.drew.heap.size := by have := BX.size; show B0 ≤ X.heap.size; omega
   clear b5 B5 hX ho hrg hg hBwr hBr BX hone hg5 hcp hB31
   have hoD := hoX.keep (J24 X)
   have bXD := bX.keep (J24 X)
   have KD : X.drew.cell? ⟨g5, 0, none⟩ = some (.int .i64 (e.log : Int)) ∧ X.drew.cell? ⟨g5, 1, none⟩ = some (.int .i64 (e.count : Int)) := ⟨(bXD.cell 0).trans rfl, (bXD.cell 1).trans rfl⟩
   try simp only [PutS]
   go_upto_region 6 with (fail)
   refine wp_region_held_drew (S := fun X => X.cell? ⟨g5, 0, none⟩ = some (.int .i64 (e.log : Int)) ∧ X.cell? ⟨g5, 1, none⟩ = some (.int .i64 (e.count : Int))) (by kernel_rfl) KD (fun hHeld => ?_)
   refine wpAnyH_take (i := 0) (oi := { dst := _, op := _, type := _, pos := _, after := _, guard := none }) (v := ?v13) rfl (by kernel_rfl) (by kernel_rfl) (by kernel_rfl) (fun _ _ _ h => h) (Or.inl ⟨by rfl, ?hy⟩) (by assumption) ?_
   case hy =>
    intro w hSw
    try dsimp only at hSw
    go_simp
    try with_reducible rfl
   try simp only [PutS]
   refine wpAnyH_take (i := 1) (oi := { dst := _, op := _, type := _, pos := _, after := _, guard := none }) (v := ?v14) rfl (by kernel_rfl) (by kernel_rfl) (by kernel_rfl) (fun _ _ _ h => h) (Or.inl ⟨by rfl, ?hy⟩) (by assumption) ?_
   case hy =>
    intro w hSw
    try dsimp only at hSw
    go_simp
    try with_reducible rfl
   try simp only [PutS]
   refine wpAnyH_take (i := 2) (oi := { dst := _, op := _, type := _, pos := _, after := _, guard := none }) (v := ?v15) rfl (by kernel_rfl) (by kernel_rfl) (by kernel_rfl) (fun _ _ _ h => h) (Or.inl ⟨by rfl, ?hy⟩) (by assumption) ?_
   case hy =>
    intro w hSw
    try dsimp only at hSw
    go_split_ands
    go_simp
    try with_reducible rfl
   try simp only [PutS]
   refine wpAnyH_take (i := 3) (oi := { dst := _, op := _, type := _, pos := _, after := _, guard := none }) (v := ?v16) rfl (by kernel_rfl) (by kernel_rfl) (by kernel_rfl) (fun _ _ _ h => h) (Or.inl ⟨by rfl, ?hy⟩) (by assumption) ?_
   case hy =>
    intro w hSw
    try dsimp only at hSw
    go_simp
    try with_reducible rfl
   try simp only [PutS]
   refine wpAnyH_take (i := 6) (oi := { dst := _, op := _, type := _, pos := _, after := _, guard := none }) (v := ?v17) rfl (by kernel_rfl) (by kernel_rfl) (by kernel_rfl) (fun _ _ _ h => h) (Or.inl ⟨by rfl, ?hy⟩) (by assumption) ?_
   case hy =>
    intro w hSw
    try dsimp only at hSw
    go_simp
    try with_reducible rfl
   try simp only [PutS]
   refine wpAnyH_take (i := 7) (oi := { dst := _, op := _, type := _, pos := _, after := _, guard := none }) (v := ?v18) rfl (by kernel_rfl) (by kernel_rfl) (by kernel_rfl) (fun _ _ _ h => h) (Or.inl ⟨by rfl, ?hy⟩) (by assumption) ?_
   case hy =>
    intro w hSw
    try dsimp only at hSw
    go_split_ands
    go_simp
    try with_reducible rfl
   try simp only [PutS]
   refine wpAnyH_take (i := 8) (oi := { dst := _, op := _, type := _, pos := _, after := _, guard := none }) (v := ?v19) rfl (by kernel_rfl) (by kernel_rfl) (by kernel_rfl) (fun _ _ _ h => h) (Or.inl ⟨by rfl, ?hy⟩) (by assumption) ?_
   case hy =>
    intro w hSw
    try dsimp only at hSw
    go_simp
    try with_reducible rfl
   try simp only [PutS]
   rw [show IntKind.u64.wrap (e.count : Int) = (e.count : Int) by show (e.count : Int) % 18446744073709551616 = _; omega]
   refine wpAnyH_ready (rs := [4]) (by kernel_rfl) (by simp) ?_
   refine AllReadyH.cons (o := { dst := _, op := _, type := _, pos := _, after := _, guard := none }) rfl (fun K hK => ?_) AllReadyH.nil
   refine step_H rfl (J15 (cs := (byc [e.log % 256]).toArray) J10 hu8 uz0 uz1 (by decide) (by decide) rfl rfl rfl) fun v36 w36 hh => ?_
   obtain ⟨⟨rfl, hl36, b36⟩, B36⟩ := hh
   have bX36 := bXD.keep B36
   refine hK.out _ _ ⟨(bX36.cell 0).trans rfl, (bX36.cell 1).trans rfl⟩ (fun hHeld => ?_)
   clear hK K
   try simp only [PutS]
   refine wpAnyH_ready (rs := [5]) (by kernel_rfl) (by simp) ?_
   refine AllReadyH.cons (o := { dst := _, op := _, type := _, pos := _, after := _, guard := none }) rfl (fun K hK => ?_) AllReadyH.nil
   refine step_H rfl (J20 (base := B0) (l := L0) (m := [e.log % 256]) (ad := ⟨X.drew.heap.size, 0, none⟩) (mc := 1) rfl rfl rfl (hoD.keep B36) (J3m b36) (by omega) (by simp) (Nat.le_trans hXD B36.size)) fun v37 w37 hh => ?_
   obtain ⟨o37, k37, B37⟩ := hh
   obtain ⟨L37, hL37⟩ : ∃ L, L = L0 ++ [e.log % 256] := ⟨_, rfl⟩
   rw [← hL37] at o37
   have HL37 := Lib.hid hL37
   clear hL37
   have hL37l : L37.length ≤ 900001 := by rw [HL37.out]; simp; omega
   obtain ⟨A37, c37, rfl⟩ := o37.len
   obtain ⟨bX37, ne37⟩ := k37 _ _ _ bX36 hneX
   have hB37 : Below B0 W w37 := ((hBX.trans ((J24 X).mono hXD)).trans (B36.mono hXD)).trans B37
   refine hK.out _ _ ⟨(bX37.cell 0).trans rfl, (bX37.cell 1).trans rfl⟩ (fun hHeld => ?_)
   clear hK K
   try simp only [PutS]
   refine wpAnyH_ready (rs := [9]) (by kernel_rfl) (by simp) ?_
   refine AllReadyH.cons (o := { dst := _, op := _, type := _, pos := _, after := _, guard := none }) rfl (fun K hK => ?_) AllReadyH.nil
   refine step_H rfl (Jm (R := fun v W2 => OwB B0 W2 v (L37 ++ leB e.count 4) ∧ KX w37 W2 (Value.slice A37 L37.length c37) v ∧ Below B0 w37 W2) J2n ((gWriteK L37 e.count 4 (by omega) (by decide) (by omega) _ B0 w37 o37 (by have := hB37.size; omega)).mono fun r W2 ⟨v, h1, h2, h3, h4⟩ => ⟨v, h1, h2, h3, h4⟩) rfl rfl) fun v41 w41 hh => ?_
   obtain ⟨o41, k41, B41⟩ := hh
   obtain ⟨L4, hL4⟩ : ∃ L, L = L37 ++ leB e.count 4 := ⟨_, rfl⟩
   rw [← hL4] at o41
   have HL4 := Lib.hid hL4
   clear hL4
   have hL4l : L4.length ≤ 900010 := by rw [HL4.out, List.length_append, J2k]; omega
   obtain ⟨A41, c41, rfl⟩ := o41.len
   obtain ⟨bX41, ne41⟩ := k41 _ _ _ bX37 ne37
   have hB41 := hB37.trans B41
   refine hK.out _ _ ⟨(bX41.cell 0).trans rfl, (bX41.cell 1).trans rfl⟩ (fun hHeld => ?_)
   clear hK K
   try simp only [PutS]
   refine wpAnyH_ready (rs := [10]) (by kernel_rfl) (by simp) ?_
   refine AllReadyH.cons (o := { dst := _, op := _, type := _, pos := _, after := _, guard := none }) rfl (fun K hK => ?_) AllReadyH.nil
   go_simp
   refine hK.out _ _ ⟨(bX41.cell 0).trans rfl, (bX41.cell 1).trans rfl⟩ (fun hHeld => ?_)
   clear hK K
   try simp only [PutS]
   refine wpAnyH_done (by kernel_rfl) ?_ _
   clear hHeld KD bX bXD hoX hoD hneX hBX hXD b36 hl36 B36 bX36 o37 k37 B37 bX37 ne37 hB37 k41 B41
   have hoD := o41.keep (J24 w41)
   have bXD := bX41.keep (J24 w41)
   have hXD : B0 ≤ w41.drew.heap.size := by have := hB41.size; show B0 ≤ w41.heap.size; omega
   have KD : w41.drew.cell? ⟨g5, 2, none⟩ = some (.bool e.closed) ∧ w41.drew.cell? ⟨g5, 3, none⟩ = some (.slice Ap e.pts.length cp) := ⟨(bXD.cell 2).trans rfl, (bXD.cell 3).trans rfl⟩
   go_upto_region 7 with (fail)
   refine wp_region_held_drew (S := fun X => X.cell? ⟨g5, 2, none⟩ = some (.bool e.closed) ∧ X.cell? ⟨g5, 3, none⟩ = some (.slice Ap e.pts.length cp)) (by kernel_rfl) KD (fun hHeld => ?_)
   refine wpAnyH_take (i := 0) (oi := { dst := _, op := _, type := _, pos := _, after := _, guard := none }) (v := ?v31) rfl (by kernel_rfl) (by kernel_rfl) (by kernel_rfl) (fun _ _ _ h => h) (Or.inl ⟨by rfl, ?hy⟩) (by assumption) ?_
   case hy =>
    intro w hSw
    try dsimp only at hSw
    go_simp
    try with_reducible rfl
   try simp only [PutS]
   refine wpAnyH_take (i := 1) (oi := { dst := _, op := _, type := _, pos := _, after := _, guard := none }) (v := ?v32) rfl (by kernel_rfl) (by kernel_rfl) (by kernel_rfl) (fun _ _ _ h => h) (Or.inl ⟨by rfl, ?hy⟩) (by assumption) ?_
   case hy =>
    intro w hSw
    try dsimp only at hSw
    go_simp
    try with_reducible rfl
   try simp only [PutS]
   refine wpAnyH_take (i := 2) (oi := { dst := _, op := _, type := _, pos := _, after := _, guard := none }) (v := ?v33) rfl (by kernel_rfl) (by kernel_rfl) (by kernel_rfl) (fun _ _ _ h => h) (Or.inl ⟨by rfl, ?hy⟩) (by assumption) ?_
   case hy =>
    intro w hSw
    try dsimp only at hSw
    go_split_ands
    go_simp
    try with_reducible rfl
   try simp only [PutS]
   refine wpAnyH_take (i := 4) (oi := { dst := _, op := _, type := _, pos := _, after := _, guard := none }) (v := ?v34) rfl (by kernel_rfl) (by kernel_rfl) (by kernel_rfl) (fun _ _ _ h => h) (Or.inl ⟨by rfl, ?hy⟩) (by assumption) ?_
   case hy =>
    intro w hSw
    try dsimp only at hSw
    go_simp
    try with_reducible rfl
   try simp only [PutS]
   refine wpAnyH_take (i := 5) (oi := { dst := _, op := _, type := _, pos := _, after := _, guard := none }) (v := ?v35) rfl (by kernel_rfl) (by kernel_rfl) (by kernel_rfl) (fun _ _ _ h => h) (Or.inl ⟨by rfl, ?hy⟩) (by assumption) ?_
   case hy =>
    intro w hSw
    try dsimp only at hSw
    go_split_ands
    go_simp
    try with_reducible rfl
   try simp only [PutS]
   refine wpAnyH_take (i := 6) (oi := { dst := _, op := _, type := _, pos := _, after := _, guard := none }) (v := ?v36) rfl (by kernel_rfl) (by kernel_rfl) (by kernel_rfl) (fun _ _ _ h => h) (Or.inl ⟨by rfl, ?hy⟩) (by assumption) ?_
   case hy =>
    intro w hSw
    try dsimp only at hSw
    go_simp
    try with_reducible rfl
   try simp only [PutS]
   refine wpAnyH_take (i := 7) (oi := { dst := _, op := _, type := _, pos := _, after := _, guard := none }) (v := ?v37) rfl (by kernel_rfl) (by kernel_rfl) (by kernel_rfl) (fun _ _ _ h => h) (Or.inl ⟨by rfl, ?hy⟩) (by assumption) ?_
   case hy =>
    intro w hSw
    try dsimp only at hSw
    go_simp
    try with_reducible rfl
   try simp only [PutS]
   refine wpAnyH_ready (rs := [3]) (by kernel_rfl) (by simp) ?_
   refine AllReadyH.cons (o := { dst := _, op := _, type := _, pos := _, after := _, guard := none }) rfl (fun K hK => ?_) AllReadyH.nil
   refine step_H rfl (J7 J5f (gFlag e.closed w41.drew) rfl rfl) fun v45 w45 hh => ?_
   obtain ⟨rfl, B45⟩ := hh
   have bX45 := bXD.keep B45
   refine hK.out _ _ ⟨(bX45.cell 2).trans rfl, (bX45.cell 3).trans rfl⟩ (fun hHeld => ?_)
   clear hK K
   try simp only [PutS]
   refine wpAnyH_ready (rs := [8]) (by kernel_rfl) (by simp) ?_
   refine AllReadyH.cons (o := { dst := _, op := _, type := _, pos := _, after := _, guard := none }) rfl (fun K hK => ?_) AllReadyH.nil
   refine step_H rfl (J2l (parts := [(0, Operand.tmp 45), (1, Operand.tmp 49)]) (vs := byc [flB e.closed, e.pts.length % 256]) J10 hu8 uz0 uz1 rfl (by simp [byc]) (by simp [byc]) rfl rfl (by simp [byc, Value.cells])) fun v50 w50 hh => ?_
   obtain ⟨⟨rfl, hl50, b50⟩, B50⟩ := hh
   have bX50 := bX45.keep B50
   refine hK.out _ _ ⟨(bX50.cell 2).trans rfl, (bX50.cell 3).trans rfl⟩ (fun hHeld => ?_)
   clear hK K
   try simp only [PutS]
   have h45s := B45.size
   have h50s := B50.size
   refine wpAnyH_ready (rs := [9]) (by kernel_rfl) (by simp) ?_
   refine AllReadyH.cons (o := { dst := _, op := _, type := _, pos := _, after := _, guard := none }) rfl (fun K hK => ?_) AllReadyH.nil
   refine step_H rfl (J20 (base := B0) (l := L4) (m := [flB e.closed, e.pts.length % 256]) (ad := ⟨w45.heap.size, 0, none⟩) (mc := 2) rfl rfl rfl ((hoD.keep B45).keep B50) (J3m b50) (by omega) (by simp) (by omega)) fun v51 w51 hh => ?_
   obtain ⟨o51, k51, B51⟩ := hh
   obtain ⟨L5, hL5⟩ : ∃ L, L = L4 ++ [flB e.closed, e.pts.length % 256] := ⟨_, rfl⟩
   rw [← hL5] at o51
   have HL5 := Lib.hid hL5
   clear hL5
   obtain ⟨A51, c51, rfl⟩ := o51.len
   obtain ⟨bX51, ne51⟩ := k51 _ _ _ bX50 ne41
   have hB51 : Below B0 W w51 := (((hB41.trans ((J24 w41).mono (show B0 ≤ w41.heap.size from hXD))).trans (B45.mono hXD)).trans (B50.mono (by omega))).trans B51
   refine hK.out _ _ ⟨(bX51.cell 2).trans rfl, (bX51.cell 3).trans rfl⟩ (fun hHeld => ?_)
   clear hK K
   try simp only [PutS]
   refine wpAnyH_ready (rs := [10]) (by kernel_rfl) (by simp) ?_
   refine AllReadyH.cons (o := { dst := _, op := _, type := _, pos := _, after := _, guard := none }) rfl (fun K hK => ?_) AllReadyH.nil
   go_simp
   refine hK.out _ _ ⟨(bX51.cell 2).trans rfl, (bX51.cell 3).trans rfl⟩ (fun hHeld => ?_)
   clear hK K
   try simp only [PutS]
   refine wpAnyH_done (by kernel_rfl) ?_ _
   have HH5 := Lib.hid (show L5 = L0 ++ epH e by rw [HL5.out, HL4.out, HL37.out]; unfold epH; simp)
   have hp5 : Pfx m (L5 ++ (e.pts.flatMap ptB ++ ([e.peaks.length % 256] ++ e.peaks.flatMap id))) := by
    have := HP0.out
    rw [J70, ← List.append_assoc, ← HH5.out] at this
    exact this
   have HP5 := Lib.hid hp5
   have hL5l : L5.length ≤ 900000 := Nat.le_trans hp5.pre.len HLN.out
   clear hHeld KD bX41 bXD o41 hoD ne41 hB41 hXD B45 bX45 b50 hl50 B50 bX50 k51 B51 hp5 h45s h50s
   have c3 := bX51.cell 3
   simp only [List.getElem?_toArray, List.getElem?_cons_zero, List.getElem?_cons_succ] at c3
   have l5 := bX51.lt
   go_wp2_with fail
   have HAT := Lib.hid (And.intro o51 (And.intro bX51 (And.intro ne51 hB51)))
   clear o51 bX51 ne51 hB51 c3 l5
   go_loopw [3, 55] (fun q i wr => ∃ j : Nat, j ≤ e.pts.length ∧ i = .int .i64 j ∧ OwB B0 wr q (L5 ++ (e.pts.take j).flatMap ptB) ∧ Blk wr g5 75 #[.int .i64 (e.log : Int), .int .i64 (e.count : Int), .bool e.closed, .slice Ap e.pts.length cp, .slice Ak e.peaks.length ck] ∧ q.ownBlock ≠ some g5 ∧ Below B0 W wr) (fun _ i _ => e.pts.length - (intOf i).toNat)
   case atStart => exact ⟨0, Nat.zero_le _, rfl, by rw [List.take_zero, List.flatMap_nil, List.append_nil]; exact HAT.out.1, HAT.out.2⟩
   case round =>
    clear HAT
    obtain ⟨j, hj, rfl, ho, bX, ne5, hBr⟩ := hrel
    by_cases hjl : j < e.pts.length
    ·
     obtain ⟨us, hr0, ha0⟩ := HPT.out
     obtain ⟨u', p, hu, hp, hin0⟩ := ha0.get hjl
     have hBw0 := hB.trans (hBr.mono (by omega))
     have hr := hr0.keep hBw0
     have ha : us.length = e.pts.length := ha0.1
     have hin := hin0.keep hBw0
     obtain ⟨gp, offp, capp, hv, hcp, hg, hcs⟩ := RdA.at J27 hr hu
     rw [ha] at hv hcp
     cases hv
     have hrg : wr.rangeAt gp (offp + j * 3) (ptc u') := fun q x hq => by rw [Nat.add_assoc]; exact hcs q x hq
     obtain ⟨Av, cv, huv⟩ := Rd.len hin.2.1
     obtain ⟨Ar, cr, hur⟩ := Rd.len hin.1
     have hue : ptc u' = [.slice Ar p.R.length cr, .slice Av p.V.length cv, .bool p.used] := by
      unfold ptc
      rw [hur, huv, hin.2.2]
     have HVX0 := Lib.hid (show ExA w (.slice Av p.V.length cv) p.V by rw [← huv]; exact hin0.2.1)
     have HVV := Lib.hid (show ExA wr (.slice Av p.V.length cv) p.V by rw [← huv]; exact hin.2.1)
     have HNY := Lib.hid (J2x ptB e.pts j p hp)
     have hp6 : Pfx m ((L5 ++ (e.pts.take j).flatMap ptB) ++ ptB p) := by
      have h1 : Pfx m (L5 ++ e.pts.flatMap ptB) := by
       have := HP5.out
       rw [← List.append_assoc] at this
       exact this.pre
      rw [List.append_assoc, ← HNY.out]
      exact h1.of_take _
     obtain ⟨L6, hL6⟩ : ∃ L, L = L5 ++ (e.pts.take j).flatMap ptB := ⟨_, rfl⟩
     rw [← hL6] at ho hp6
     have HL6 := Lib.hid hL6
     have HP6 := Lib.hid hp6
     have hL6l : L6.length ≤ 900000 := Nat.le_trans hp6.pre.len HLN.out
     have hone := hin.one
     have HUE := Lib.hid hue
     obtain ⟨A6, c6, rfl⟩ := ho.len
     obtain ⟨iP, hiP, iP0, iP1, iP2⟩ := info_parts J5w
     have hVl : p.V.length ≤ 140737488355327 := HVV.out.2.1
     clear hr ha hu hp hin hcs hL6 hp6 hue hur huv hr0 ha0 hin0 hBw0
     go_upto_region 10 with (fail)
     refine wp_region_lit ?_
     refine wpList_plain rfl fun K hK => ?_; go_big_op; refine hK _ _ ?_; clear hK K
     refine wpSk rfl (J1 (cs := ptc u') J9m rfl J6z rfl rfl hrg) fun v58 w58 hh => ?_
     obtain ⟨rfl, rfl⟩ := hh
     try simp only [PutS]
     refine wpSk rfl (Jl hiP iP0 rfl) fun v7 w7 hh => ?_
     obtain ⟨rfl, rfl⟩ := hh
     try simp only [PutS]
     have b7 : Blk (w58.alloc (.cells (Value.agg #[.slice none 0 0, .slice none 0 0, .bool false]).cells 80)) w58.heap.size 80 #[.slice none 0 0, .slice none 0 0, .bool false] := World.alloc_heap_new w58 _
     have B7 := (Below.refl _ w58).alloc (Nat.le_refl _) (.cells (Value.agg #[.slice none 0 0, .slice none 0 0, .bool false]).cells 80)
     generalize w58.alloc (.cells (Value.agg #[.slice none 0 0, .slice none 0 0, .bool false]).cells 80) = w7 at *
     refine J6 rfl 80 (.tmp 7) (.tmp 58) rfl rfl (cells := ptc u') rfl b7 (by rw [J27]; decide) (by rw [J6z, J27]) (List.all_eq_true.2 hone) (Ja _ _ (by rw [J27]; rfl)) fun X hX bX7 => ?_
     rw [HUE.out] at bX7
     have BX : Below w58.heap.size w58 X := J2 B7 hX (Nat.le_refl _)
     have hoX := ho.keep BX
     have ne7X : (Value.slice A6 L6.length c6).ownBlock ≠ some w58.heap.size := KX.new ho (Nat.le_refl _)
     have hB58 : B0 ≤ w58.heap.size := by have := hBr.size; omega
     have hBX : Below B0 W X := hBr.trans (BX.mono hB58)
     have bX5 := bX.keep BX
     have HVX := Lib.hid (HVV.out.keep BX)
     have hXX : B0 ≤ X.heap.size := by have := BX.size; omega
     obtain ⟨g7, hg7⟩ : ∃ g, g = w58.heap.size := ⟨_, rfl⟩
     rw [← hg7] at bX7 ne7X ⊢
     have hg57 : g7 ≠ g5 := by have := bX.lt; omega
     clear b7 B7 hX ho hrg hg hBr BX hone hg7 hcp hB58 HVV bX
     have c2 := bX7.cell 2
     simp only [List.getElem?_toArray, List.getElem?_cons_zero, List.getElem?_cons_succ] at c2
     have l7 := bX7.lt
     try simp only [PutS]
     go_upto_region 11 with (fail)
     refine wp_region_lit ?_
     iterate 3 (refine wpList_plain rfl fun K hK => ?_; go_big_op; refine hK _ _ ?_; clear hK K)
     refine wpSk rfl (J7 J5f (gFlag p.used X) rfl rfl) fun v62 w62 hh => ?_
     obtain ⟨rfl, B62⟩ := hh
     try simp only [PutS]
     have ho62 := hoX.keep B62
     have hX62 : B0 ≤ w62.heap.size := Nat.le_trans hXX B62.size
     refine wpSk rfl (J15 (cs := (byc [(flB p.used)]).toArray) J10 hu8 uz0 uz1 (by decide) (by decide) rfl rfl rfl) fun v63 w63 hh => ?_
     obtain ⟨⟨rfl, hl63, b63⟩, B63⟩ := hh
     try simp only [PutS]
     refine wpSk rfl (J20 (base := B0) (l := L6) (m := [(flB p.used)]) (ad := ⟨(w62).heap.size, 0, none⟩) (mc := 1) rfl rfl rfl ((ho62).keep B63) (J3m b63) (by omega) (by simp) (Nat.le_trans hX62 B63.size)) fun v64 w64 hh => ?_
     obtain ⟨o64, k64, B64⟩ := hh
     try simp only [PutS]
     obtain ⟨L7, hL7⟩ : ∃ L, L = L6 ++ [flB p.used] := ⟨_, rfl⟩
     rw [← hL7] at o64
     have HL7 := Lib.hid hL7
     clear hL7
     obtain ⟨A64, c64, rfl⟩ := o64.len
     obtain ⟨b75, ne5Y⟩ := k64 _ _ _ ((bX5.keep B62).keep B63) ne5
     obtain ⟨b77, ne7Y⟩ := k64 _ _ _ ((bX7.keep B62).keep B63) ne7X
     have hBY : Below B0 W w64 := ((hBX.trans (B62.mono hXX)).trans (B63.mono hX62)).trans B64
     have hL7l : L7.length ≤ 900001 := by rw [HL7.out]; simp; omega
     have hv62 : w62.heap.size ≤ w63.heap.size := B63.size
     have c1 := b77.cell 1
     simp only [List.getElem?_toArray, List.getElem?_cons_zero, List.getElem?_cons_succ] at c1
     have l7 := b77.lt
     clear c2 bX5 bX7 ho62 hX62 B62 B63 b63 hl63 k64 B64 ne5 ne7X hBX hXX hoX hv62 HVX
     try simp only [PutS]
     go_wp2_with fail
     have HAT := Lib.hid (And.intro o64 (And.intro b75 (And.intro b77 (And.intro ne5Y (And.intro ne7Y hBY)))))
     clear o64 b75 b77 ne5Y ne7Y hBY c1 l7
     go_loopw [3, 68] (fun q i wr => ∃ c : Nat, c ≤ p.V.length ∧ i = .int .i64 c ∧ OwB B0 wr q (L7 ++ (p.V.take c).flatMap extB) ∧ Blk wr g5 75 #[.int .i64 (e.log : Int), .int .i64 (e.count : Int), .bool e.closed, .slice (some ⟨gp, offp, none⟩) e.pts.length cp, .slice Ak e.peaks.length ck] ∧ Blk wr g7 80 #[.slice Ar p.R.length cr, .slice Av p.V.length cv, .bool p.used] ∧ q.ownBlock ≠ some g5 ∧ q.ownBlock ≠ some g7 ∧ Below B0 W wr) (fun _ i _ => p.V.length - (intOf i).toNat)
     case atStart => exact ⟨0, Nat.zero_le _, rfl, by rw [List.take_zero, List.flatMap_nil, List.append_nil]; exact HAT.out.1, HAT.out.2⟩
     case round =>
      clear HAT
      obtain ⟨c, hc, rfl, ho, bX5, bX7, ne5, ne7, hBr⟩ := hrel
      by_cases hcl : c < p.V.length
      ·
       obtain ⟨gv, offv, capv, hvv, hcv, -, -, hgv, hvc⟩ := J32 (HVX0.out.keep (hB.trans (hBr.mono (by omega)))) (by omega)
       cases hvv
       obtain ⟨x, hx⟩ : ∃ x, p.V[c]? = some x := ⟨_, List.getElem?_eq_getElem hcl⟩
       obtain ⟨q1, q2⟩ := hvc c x hx
       have HNZ := Lib.hid (J2x extB p.V c x hx)
       have hp8 : Pfx m ((L7 ++ (p.V.take c).flatMap extB) ++ extB x) := by
        have h1 : Pfx m (L7 ++ p.V.flatMap extB) := by
         rw [HL7.out, List.append_assoc, ← J9n]
         exact HP6.out
        rw [List.append_assoc, ← HNZ.out]
        exact h1.of_take _
       obtain ⟨L8, hL8⟩ : ∃ L, L = L7 ++ (p.V.take c).flatMap extB := ⟨_, rfl⟩
       rw [← hL8] at ho hp8
       have HL8 := Lib.hid hL8
       have hL8l : L8.length ≤ 900000 := Nat.le_trans hp8.pre.len HLN.out
       obtain ⟨A8, c8, rfl⟩ := ho.len
       clear hvc hx hL8 hp8
       go_upto_region 15 with (fail)
       refine J13 fun V hV hz b9 => ?_
       have hB9 : B0 ≤ wr.heap.size := by have := hBr.size; omega
       have hBV := hBr.trans (hV.mono hB9)
       have hoD := (ho.keep hV).keep (J24 V)
       have b5D := (bX5.keep hV).keep (J24 V)
       have b7D := (bX7.keep hV).keep (J24 V)
       have b9D := b9.keep (J24 V)
       have ne9 : (Value.slice A8 L8.length c8).ownBlock ≠ some wr.heap.size := KX.new ho (Nat.le_refl _)
       have hVD : B0 ≤ V.drew.heap.size := by have := hV.size; show B0 ≤ V.heap.size; omega
       obtain ⟨g9, hg9⟩ : ∃ g, g = wr.heap.size := ⟨_, rfl⟩
       rw [← hg9] at b9 b9D ne9 ⊢
       have KD : V.drew.cell? ⟨g9, 0, none⟩ = some (.int .u64 (fv x.a)) ∧ V.drew.cell? ⟨g9, 1, none⟩ = some (.int .u64 (fv x.b)) := ⟨(b9D.cell 0).trans rfl, (b9D.cell 1).trans rfl⟩
       clear q1 q2 hV hz b9 ho bX5 bX7 hBr hg9 hB9 hgv
       refine wp_region_held_drew (S := fun X => X.cell? ⟨g9, 0, none⟩ = some (.int .u64 (fv x.a)) ∧ X.cell? ⟨g9, 1, none⟩ = some (.int .u64 (fv x.b))) (by kernel_rfl) KD (fun hHeld => ?_)
       refine wpAnyH_take (i := 0) (oi := { dst := _, op := _, type := _, pos := _, after := _, guard := none }) (v := ?v58) rfl (by kernel_rfl) (by kernel_rfl) (by kernel_rfl) (fun _ _ _ h => h) (Or.inl ⟨by rfl, ?hy⟩) (by assumption) ?_
       case hy =>
        intro w hSw
        try dsimp only at hSw
        go_simp
        try with_reducible rfl
       try simp only [PutS]
       refine wpAnyH_take (i := 1) (oi := { dst := _, op := _, type := _, pos := _, after := _, guard := none }) (v := ?v59) rfl (by kernel_rfl) (by kernel_rfl) (by kernel_rfl) (fun _ _ _ h => h) (Or.inl ⟨by rfl, ?hy⟩) (by assumption) ?_
       case hy =>
        intro w hSw
        try dsimp only at hSw
        go_simp
        try with_reducible rfl
       try simp only [PutS]
       refine wpAnyH_take (i := 2) (oi := { dst := _, op := _, type := _, pos := _, after := _, guard := none }) (v := ?v60) rfl (by kernel_rfl) (by kernel_rfl) (by kernel_rfl) (fun _ _ _ h => h) (Or.inl ⟨by rfl, ?hy⟩) (by assumption) ?_
       case hy =>
        intro w hSw
        try dsimp only at hSw
        go_split_ands
        go_simp
        try with_reducible rfl
       try simp only [PutS]
       refine wpAnyH_take (i := 4) (oi := { dst := _, op := _, type := _, pos := _, after := _, guard := none }) (v := ?v61) rfl (by kernel_rfl) (by kernel_rfl) (by kernel_rfl) (fun _ _ _ h => h) (Or.inl ⟨by rfl, ?hy⟩) (by assumption) ?_
       case hy =>
        intro w hSw
        try dsimp only at hSw
        go_simp
        try with_reducible rfl
       try simp only [PutS]
       refine wpAnyH_take (i := 5) (oi := { dst := _, op := _, type := _, pos := _, after := _, guard := none }) (v := ?v62) rfl (by kernel_rfl) (by kernel_rfl) (by kernel_rfl) (fun _ _ _ h => h) (Or.inl ⟨by rfl, ?hy⟩) (by assumption) ?_
       case hy =>
        intro w hSw
        try dsimp only at hSw
        go_split_ands
        go_simp
        try with_reducible rfl
       try simp only [PutS]
       refine wpAnyH_ready (rs := [3]) (by kernel_rfl) (by simp) ?_
       refine AllReadyH.cons (o := { dst := _, op := _, type := _, pos := _, after := _, guard := none }) rfl (fun K hK => ?_) AllReadyH.nil
       refine step_H rfl (Jm (R := fun v W2 => OwB B0 W2 v (L8 ++ leB (fv x.a).toNat 8) ∧ KX V.drew W2 (Value.slice A8 L8.length c8) v ∧ Below B0 V.drew W2) J2n ((gWriteF L8 x.a (by omega) _ B0 V.drew hoD hVD).mono fun r W2 ⟨v, h1, h2, h3, h4⟩ => ⟨v, h1, h2, h3, h4⟩) rfl rfl) fun v75 w75 hh => ?_
       obtain ⟨o75, k75, B75⟩ := hh
       obtain ⟨L9, hL9⟩ : ∃ L, L = L8 ++ leB (fv x.a).toNat 8 := ⟨_, rfl⟩
       rw [← hL9] at o75
       have HL9 := Lib.hid hL9
       clear hL9
       have hL9l : L9.length ≤ 900010 := by rw [HL9.out, List.length_append, J2k]; omega
       obtain ⟨A75, c75, rfl⟩ := o75.len
       obtain ⟨b95, ne95⟩ := k75 _ _ _ b9D ne9
       obtain ⟨b55, ne55⟩ := k75 _ _ _ b5D ne5
       obtain ⟨b57, ne57⟩ := k75 _ _ _ b7D ne7
       have hB75 : Below B0 W w75 := (hBV.trans ((J24 V).mono (show B0 ≤ V.heap.size from hVD))).trans B75
       refine hK.out _ _ ⟨(b95.cell 0).trans rfl, (b95.cell 1).trans rfl⟩ (fun hHeld => ?_)
       clear hK K
       try simp only [PutS]
       refine wpAnyH_ready (rs := [6]) (by kernel_rfl) (by simp) ?_
       refine AllReadyH.cons (o := { dst := _, op := _, type := _, pos := _, after := _, guard := none }) rfl (fun K hK => ?_) AllReadyH.nil
       refine step_H rfl (Jm (R := fun v W2 => OwB B0 W2 v (L9 ++ leB (fv x.b).toNat 8) ∧ KX w75 W2 (Value.slice A75 L9.length c75) v ∧ Below B0 w75 W2) J2n ((gWriteF L9 x.b (by omega) _ B0 w75 o75 (by have := hB75.size; omega)).mono fun r W2 ⟨v, h1, h2, h3, h4⟩ => ⟨v, h1, h2, h3, h4⟩) rfl rfl) fun v78 w78 hh => ?_
       obtain ⟨o78, k78, B78⟩ := hh
       obtain ⟨L10, hL10⟩ : ∃ L, L = L9 ++ leB (fv x.b).toNat 8 := ⟨_, rfl⟩
       rw [← hL10] at o78
       have HL10 := Lib.hid hL10
       clear hL10
       obtain ⟨A78, c78, rfl⟩ := o78.len
       obtain ⟨b98, ne98⟩ := k78 _ _ _ b95 ne95
       obtain ⟨b58, ne58⟩ := k78 _ _ _ b55 ne55
       obtain ⟨b78, ne78⟩ := k78 _ _ _ b57 ne57
       have hB78 : Below B0 W w78 := hB75.trans B78
       refine hK.out _ _ ⟨(b98.cell 0).trans rfl, (b98.cell 1).trans rfl⟩ (fun hHeld => ?_)
       clear hK K
       try simp only [PutS]
       refine wpAnyH_ready (rs := [7]) (by kernel_rfl) (by simp) ?_
       refine AllReadyH.cons (o := { dst := _, op := _, type := _, pos := _, after := _, guard := none }) rfl (fun K hK => ?_) AllReadyH.nil
       go_simp
       refine hK.out _ _ ⟨(b98.cell 0).trans rfl, (b98.cell 1).trans rfl⟩ (fun hHeld => ?_)
       clear hK K
       try simp only [PutS]
       refine wpAnyH_done (by kernel_rfl) ?_ _
       have hL10 : L10 = L7 ++ (p.V.take (c + 1)).flatMap extB := by rw [HL10.out, HL9.out, HL8.out, HNZ.out]; simp [extB]
       have HL11 := Lib.hid hL10
       clear hHeld KD b95 b55 b57 b9D b5D b7D ne95 ne55 ne57 hBV hVD hB75 B75 B78 k75 k78 o75 hoD b98 ne98 ne9 hL10 ne5 ne7
       go_wp2_with fail
       exact ⟨⟨c + 1, by omega, by go_num, by rw [← HL11.out]; exact o78, b58, b78, ne58, ne78, hB78⟩, by simp [intOf]; omega⟩
      ·
       obtain rfl : c = p.V.length := by omega
       rw [List.take_of_length_le (Nat.le_refl _)] at ho
       have hL7 : L7 ++ p.V.flatMap extB = L5 ++ (e.pts.take (j + 1)).flatMap ptB := by
        rw [HL7.out, HNY.out, HL6.out, J9n]
        simp
       rw [hL7] at ho
       obtain ⟨L12, hL12⟩ : ∃ L, L = L5 ++ (e.pts.take (j + 1)).flatMap ptB := ⟨_, rfl⟩
       rw [← hL12] at ho
       have HL12 := Lib.hid hL12
       obtain ⟨A12, c12, rfl⟩ := ho.len
       clear hL7 hL12
       go_wp2_with fail
       exact ⟨⟨j + 1, by omega, by go_num, by rw [← HL12.out]; exact ho, bX5, ne5, hBr⟩, by simp [intOf]; omega⟩
    ·
     obtain rfl : j = e.pts.length := by omega
     rw [List.take_of_length_le (Nat.le_refl _)] at ho
     have hp13 : Pfx m ((L5 ++ e.pts.flatMap ptB) ++ ([e.peaks.length % 256] ++ e.peaks.flatMap id)) := by
      have := HP5.out
      rwa [← List.append_assoc] at this
     obtain ⟨L13, hL13⟩ : ∃ L, L = L5 ++ e.pts.flatMap ptB := ⟨_, rfl⟩
     rw [← hL13] at ho hp13
     have HL13 := Lib.hid hL13
     have HP13 := Lib.hid hp13
     have hL13l : L13.length ≤ 900000 := Nat.le_trans hp13.pre.len HLN.out
     obtain ⟨A13, c13, rfl⟩ := ho.len
     have c4 := bX.cell 4
     simp only [List.getElem?_toArray, List.getElem?_cons_zero, List.getElem?_cons_succ] at c4
     have l5 := bX.lt
     have hB0r : B0 ≤ wr.heap.size := by have := hBr.size; omega
     have hpkl : e.peaks.length ≤ 140737488355327 := by
      have := HPK.out.1.2.1
      exact this
     clear hL13 hp13
     go_upto_region 18 with (fail)
     refine wp_region_lit ?_
     iterate 5 (refine wpList_plain rfl fun K hK => ?_; go_big_op; refine hK _ _ ?_; clear hK K)
     refine wpSk rfl (J15 (cs := (byc [(e.peaks.length % 256)]).toArray) J10 hu8 uz0 uz1 (by decide) (by decide) rfl rfl rfl) fun v86 w86 hh => ?_
     obtain ⟨⟨rfl, hl86, b86⟩, B86⟩ := hh
     try simp only [PutS]
     refine wpSk rfl (J20 (base := B0) (l := L13) (m := [(e.peaks.length % 256)]) (ad := ⟨(wr).heap.size, 0, none⟩) (mc := 1) rfl rfl rfl ((ho).keep B86) (J3m b86) (by omega) (by simp) (Nat.le_trans hB0r B86.size)) fun v87 w87 hh => ?_
     obtain ⟨o87, k87, B87⟩ := hh
     try simp only [PutS]
     obtain ⟨L14, hL14⟩ : ∃ L, L = L13 ++ [e.peaks.length % 256] := ⟨_, rfl⟩
     rw [← hL14] at o87
     have HL14 := Lib.hid hL14
     clear hL14
     obtain ⟨A87, c87, rfl⟩ := o87.len
     obtain ⟨b75, ne5Y⟩ := k87 _ _ _ (bX.keep B86) ne5
     have hBY : Below B0 W w87 := (hBr.trans (B86.mono hB0r)).trans B87
     have c4 := b75.cell 4
     simp only [List.getElem?_toArray, List.getElem?_cons_zero, List.getElem?_cons_succ] at c4
     have l5 := b75.lt
     have hL14l : L14.length ≤ 900001 := by rw [HL14.out]; simp; omega
     clear bX ne5 hBr B86 B87 b86 hl86 k87 ho hB0r
     try simp only [PutS]
     go_wp2_with fail
     have HAT := Lib.hid (And.intro o87 (And.intro b75 (And.intro ne5Y hBY)))
     clear o87 b75 ne5Y hBY c4 l5
     go_loopw [3, 91] (fun q i wr => ∃ j : Nat, j ≤ e.peaks.length ∧ i = .int .i64 j ∧ OwB B0 wr q (L14 ++ (e.peaks.take j).flatMap id) ∧ Below B0 W wr) (fun _ i _ => e.peaks.length - (intOf i).toNat)
     case atStart => exact ⟨0, Nat.zero_le _, rfl, by rw [List.take_zero, List.flatMap_nil, List.append_nil]; exact HAT.out.1, HAT.out.2.2.2⟩
     case round =>
      clear HAT
      obtain ⟨j, hj, rfl, ho, hBr⟩ := hrel
      by_cases hjl : j < e.peaks.length
      ·
       obtain ⟨d, hd⟩ : ∃ d, e.peaks[j]? = some d := ⟨_, List.getElem?_eq_getElem hjl⟩
       obtain ⟨gk, offk, capk, hvk, hck, hgk, hrk, hdo⟩ := (HPK.out.keep (hB.trans (hBr.mono (by omega)))).at hd
       cases hvk
       have HNZ := Lib.hid (J2x id e.peaks j d hd)
       have hp15 : Pfx m ((L14 ++ (e.peaks.take j).flatMap id) ++ d) := by
        have h1 : Pfx m (L14 ++ e.peaks.flatMap id) := by
         rw [HL14.out, List.append_assoc]
         exact HP13.out
        have h2 := h1.of_take (j + 1)
        rw [HNZ.out, ← List.append_assoc] at h2
        exact h2
       obtain ⟨L15, hL15⟩ : ∃ L, L = L14 ++ (e.peaks.take j).flatMap id := ⟨_, rfl⟩
       rw [← hL15] at ho hp15
       have HL15 := Lib.hid hL15
       have hL15l : L15.length ≤ 900000 := Nat.le_trans hp15.pre.len HLN.out
       obtain ⟨A15, c15, rfl⟩ := ho.len
       obtain ⟨iD, hiD, iD0, iD1, iD2⟩ := info_parts J2b
       clear hd hL15 hp15
       go_upto_region 21 with (fail)
       refine wp_region_lit ?_
       refine wpList_plain rfl fun K hK => ?_; go_big_op; refine hK _ _ ?_; clear hK K
       refine wpSk rfl (J1 (cs := byc d) Jg rfl (by rw [Jc, J3, hdo.1]) rfl rfl hrk) fun v94 w94 hh => ?_
       obtain ⟨rfl, rfl⟩ := hh
       try simp only [PutS]
       refine wpSk rfl (Jl hiD iD0 rfl) fun v11 w11 hh => ?_
       obtain ⟨rfl, rfl⟩ := hh
       try simp only [PutS]
       have b11 : Blk (w94.alloc (.cells (Value.agg (zb 32).toArray).cells 23)) w94.heap.size 23 (zb 32).toArray := World.alloc_heap_new w94 _
       have B11 := (Below.refl _ w94).alloc (Nat.le_refl _) (.cells (Value.agg (zb 32).toArray).cells 23)
       generalize w94.alloc (.cells (Value.agg (zb 32).toArray).cells 23) = w11 at *
       refine J6 rfl 23 (.tmp 11) (.tmp 94) rfl rfl (cells := byc d) rfl b11 (by rw [J3, hdo.1]; decide) (by rw [Jc, J3, hdo.1]) (Jw _) (Ja _ _ (by rw [J3, hdo.1]; rfl)) fun X hX bX => ?_
       have BX : Below w94.heap.size w94 X := J2 B11 hX (Nat.le_refl _)
       have hoX := ho.keep BX
       have hB94 : B0 ≤ w94.heap.size := by have := hBr.size; omega
       have hBX := hBr.trans (BX.mono hB94)
       have hXX : B0 ≤ X.heap.size := by have := BX.size; omega
       obtain ⟨g11, hg11⟩ : ∃ g, g = w94.heap.size := ⟨_, rfl⟩
       rw [← hg11] at bX ⊢
       have hd32 := hdo.1
       clear b11 B11 hX ho hBr BX hg11 hB94 hrk hgk hck
       try simp only [PutS]
       go_upto_region 22 with (fail)
       refine wp_region_lit ?_
       iterate 2 (refine wpList_plain rfl fun K hK => ?_; go_big_op; refine hK _ _ ?_; clear hK K)
       refine wpSk rfl (J20 (base := B0) (l := L15) (m := d) (ad := ⟨g11, 0, none⟩) (mc := 32) rfl rfl (by rw [hd32]; rfl) hoX (J3m bX) (by omega) (by omega) hXX) fun v97 w97 hh => ?_
       obtain ⟨o97, k97, B97⟩ := hh
       try simp only [PutS]
       obtain ⟨L16, hL16⟩ : ∃ L, L = L15 ++ d := ⟨_, rfl⟩
       rw [← hL16] at o97
       have HL16 := Lib.hid hL16
       clear hL16
       obtain ⟨A97, c97, rfl⟩ := o97.len
       have hB97 := hBX.trans B97
       have HL17 := Lib.hid (show L16 = L14 ++ (e.peaks.take (j + 1)).flatMap id by rw [HL16.out, HL15.out, HNZ.out]; simp)
       clear bX hoX hBX k97 B97 hXX
       try simp only [PutS]
       go_wp2_with fail
       exact ⟨⟨j + 1, by omega, by go_num, by rw [← HL17.out]; exact o97, hB97⟩, by simp [intOf]; omega⟩
      ·
       obtain rfl : j = e.peaks.length := by omega
       rw [List.take_of_length_le (Nat.le_refl _)] at ho
       have hLE : L14 ++ e.peaks.flatMap id = mtH m ++ (m.eps.take (k + 1)).flatMap epB := by
        rw [HNX.out, HL14.out, HL13.out, HH5.out, HL0.out, J70]
        simp
       rw [hLE] at ho
       obtain ⟨L18, hL18⟩ : ∃ L, L = mtH m ++ (m.eps.take (k + 1)).flatMap epB := ⟨_, rfl⟩
       rw [← hL18] at ho
       have HL18 := Lib.hid hL18
       obtain ⟨A18, c18, rfl⟩ := ho.len
       clear hLE hL18
       go_wp2_with fail
       exact ⟨⟨k + 1, by omega, by go_num, by rw [← HL18.out]; exact ho, hBr⟩, by simp [intOf]; omega⟩
  ·
   obtain rfl : k = m.eps.length := by omega
   rw [List.take_of_length_le (Nat.le_refl _), ← J60] at ho
   obtain ⟨L19, hL19⟩ : ∃ L, L = encM m := ⟨_, rfl⟩
   rw [← hL19] at ho
   have HL19 := Lib.hid hL19
   have hl19 : L19.length ≤ 900000 := by rw [hL19]; exact HLN.out
   obtain ⟨A19, c19, rfl⟩ := ho.len
   clear hL19
   have HO := Lib.hid ho
   have HBW := Lib.hid (hB.trans (hBr.mono (by omega)))
   clear ho hBr
   go_wp2_with fail
   refine bodyPost_ret (v := .slice A19 L19.length c19) (by simp [results, Tryz.results29, go_sem]) rfl ⟨_, rfl, ?_, HBW.out⟩
   rw [← HL19.out]
   exact RdA.of (HO.out.bys (by omega) (Nat.le_refl _))
end

theorem ones8 : ∀ c : Fin 9, onesN c.val ≤ 8 ∧ (c.val < 8 → tz1 c.val ≤ onesN c.val) := by
 intro ⟨c, hc⟩
 dsimp only
 obtain rfl | rfl | rfl | rfl | rfl | rfl | rfl | rfl | rfl : c = 0 ∨ c = 1 ∨ c = 2 ∨ c = 3 ∨ c = 4 ∨ c = 5 ∨ c = 6 ∨ c = 7 ∨ c = 8 := by omega
 all_goals simp [onesN, tz1]
theorem pow3 (n : Nat) (h : n ≤ 3) : 2 ^ n ≤ 8 := by
 obtain rfl | rfl | rfl | rfl : n = 0 ∨ n = 1 ∨ n = 2 ∨ n = 3 := by omega
 all_goals decide
theorem EpOk.pkl {seed : Dg} {n : Nat} {e : Ep} {l : Stm} (h : EpOk seed n e l) : e.peaks.length = onesN e.count ∧ e.count ≤ 8 := by
 have h8 := pow3 e.log h.log
 have hl := h.le
 refine ⟨?_, by rw [h.cnt]; omega⟩
 rw [h.pk, Jha _ _ (by rw [List.length_map]; omega), List.length_map, h.cnt]
theorem EpOk.pk8 {seed : Dg} {n : Nat} {e : Ep} {l : Stm} (h : EpOk seed n e l) : e.peaks.length ≤ 8 := by
 obtain ⟨h1, h2⟩ := h.pkl
 rw [h1]
 exact (ones8 ⟨e.count, by omega⟩).1
theorem StOk26.epk {k : Nat} {s : St26} (h : StOk26 k s) {i : Nat} {e : Ep} (he : s.1.eps[i]? = some e) : ∃ l, s.2[i]? = some l ∧ EpOk s.1.seed i e l := by
 have hi := (List.getElem?_eq_some_iff.1 he).1
 have hi2 : i < s.2.length := by rw [h.len]; exact hi
 exact ⟨s.2[i], List.getElem?_eq_getElem hi2, h.ep i e _ he (List.getElem?_eq_getElem hi2)⟩
theorem StOk26.n {k : Nat} {s : St26} (h : StOk26 k s) (hk : k ≤ 1000) : MtN s.1 :=
 ⟨h.seed, by have := h.ver; omega, Nat.le_trans h.eps hk, fun i e he => by
  obtain ⟨l, _, hE⟩ := h.epk he
  have := hE.p4
  have := hE.log
  have := hE.pk8
  have := hE.pkl.2
  omega⟩
theorem StOk26.n5 {k : Nat} {s : St26} (h : StOk26 k s) : PtsN5 s.1 := fun e he p hp => by
 obtain ⟨i, hi⟩ := List.getElem?_of_mem he
 obtain ⟨j, hj⟩ := List.getElem?_of_mem hp
 obtain ⟨l, _, hE⟩ := h.epk hi
 obtain ⟨h1, h2, _⟩ := hE.pt j p hj
 have := hE.log
 exact ⟨by rw [h1, J1n]; omega, by rw [h2]; simp [valsM]⟩
theorem StOk26.cnt {k : Nat} {s : St26} (h : StOk26 k s) : CntN s.1 := fun e he => by
 obtain ⟨i, hi⟩ := List.getElem?_of_mem he
 obtain ⟨l, _, hE⟩ := h.epk hi
 refine ⟨hE.log, by rw [hE.cnt]; exact hE.le, fun h8 => ?_⟩
 rw [hE.pkl.1]
 exact (ones8 ⟨e.count, by omega⟩).2 h8
theorem Jd5 : ∀ (t : Nat) (ps : List Dg) (d : Dg), (∀ x ∈ ps, DgOk x) → DgOk d → ∀ x ∈ pushN pairD t ps d, DgOk x
 | 0, ps, d, hp, hd, x, hx => by
  rcases List.mem_append.1 hx with h | h
  · exact hp x h
  · rw [List.mem_singleton.1 h]; exact hd
 | t + 1, ps, d, hp, hd, x, hx => Jd5 t ps.dropLast _ (fun y hy => hp y (List.dropLast_subset ps hy)) (J2c _ _) x hx
theorem Jd6 : ∀ (l : List (List Nat)) (ps : List Dg) (n : Nat), (∀ x ∈ ps, DgOk x) → ∀ x ∈ peaksN pairD ps n (l.map leafD), DgOk x
 | [], ps, n, hp => hp
 | b :: l, ps, n, hp => Jd6 l _ _ (Jd5 _ _ _ hp (J2d b))
theorem EpOk.pkok {seed : Dg} {n : Nat} {e : Ep} {l : Stm} (h : EpOk seed n e l) : ∀ d ∈ e.peaks, DgOk d := by
 rw [h.pk, show (l.map fun x => leafD x.1.enc) = (l.map fun x => x.1.enc).map leafD by rw [List.map_map]; rfl]
 exact Jd6 _ _ _ (fun x hx => (by cases hx))
theorem sumLe {α : Type} (f : α → List Nat) (b : Nat) : ∀ l : List α, (∀ x ∈ l, (f x).length ≤ b) → (l.flatMap f).length ≤ l.length * b
 | [], _ => by simp
 | x :: l, h => by
  rw [List.flatMap_cons, List.length_append, List.length_cons, Nat.succ_mul]
  have h1 := h x (List.mem_cons_self ..)
  have h2 := sumLe f b l fun y hy => h y (List.mem_cons_of_mem _ hy)
  omega
theorem Jk9 (x : E) : (extB x).length = 16 := by unfold extB; rw [List.length_append, J2k, J2k]
theorem Jc6 (p : Pt) (h : p.V.length = 5) : (ptB p).length = 81 := by
 have h2 : (p.V.flatMap extB).length = p.V.length * 16 := by
  generalize p.V = l
  induction l with
  | nil => rfl
  | cons x l ih => rw [List.flatMap_cons, List.length_append, ih, Jk9, List.length_cons, Nat.succ_mul]; omega
 unfold ptB
 rw [List.length_cons, h2, h]
theorem StOk26.enc {k : Nat} {s : St26} (h : StOk26 k s) (hk : k ≤ 1000) : (encM s.1).length ≤ 900000 := by
 rw [J60, List.length_append]
 have h1 : (mtH s.1).length = 41 := by unfold mtH; rw [List.length_append, List.length_append, J2k, h.seed.1]; rfl
 have h2 : (s.1.eps.flatMap epB).length ≤ s.1.eps.length * 600 := sumLe epB 600 _ fun e he => by
  obtain ⟨i, hi⟩ := List.getElem?_of_mem he
  obtain ⟨l, _, hE⟩ := h.epk hi
  have h5 := h.n5 e he
  have p4 := hE.p4
  have pk8 := hE.pk8
  have g1 : (e.pts.flatMap ptB).length ≤ e.pts.length * 81 := sumLe ptB 81 _ fun p hp => by rw [Jc6 p (h5 p hp).2]; exact Nat.le_refl _
  have g2 : (e.peaks.flatMap id).length ≤ e.peaks.length * 32 := sumLe id 32 _ fun d hd => Nat.le_of_eq (hE.pkok d hd).1
  rw [J70, List.length_append, List.length_append, List.length_append]
  have g3 : (epH e).length = 7 := by unfold epH; simp [J2k]
  simp only [List.length_singleton]
  omega
 have := h.eps
 omega
section
open Go.Shelf
def Jfb : Go.Shelf.Ren := ⟨fun | 125 => 138 | 128 => 154 | 129 => 155 | n => n, fun | 3 => 3 | 4 => 4 | 5 => 5 | 9 => 9 | 46 => 149 | 51 => 169 | 53 => 32 | n => n, fun n => n⟩
theorem lays125 : Go.Proofs.Lays.n125 Tryz.prog Jfb := {
 mixed := by kernel_rfl
 f125 := Tryz.func138.trans (congrArg some (by kernel_rfl))
 f128 := Tryz.func154.trans (congrArg some (by kernel_rfl))
 f129 := Tryz.func155.trans (congrArg some (by kernel_rfl))
 t3 := Tryz.underlying3
 a3 := Tryz.isAgg3
 z3 := Tryz.sizeOf3
 v3 := Tryz.zeroValue3
 t4 := Tryz.underlying4
 a4 := Tryz.isAgg4
 z4 := Tryz.sizeOf4
 v4 := Tryz.zeroValue4
 t5 := Tryz.underlying5
 a5 := Tryz.isAgg5
 z5 := Tryz.sizeOf5
 v5 := Tryz.zeroValue5
 t9 := Tryz.underlying9
 a9 := Tryz.isAgg9
 z9 := Tryz.sizeOf9
 v9 := Tryz.zeroValue9
 t46 := Tryz.underlying149
 a46 := Tryz.isAgg149
 z46 := Tryz.sizeOf149
 v46 := Tryz.zeroValue149
 t51 := Tryz.underlying169
 a51 := Tryz.isAgg169
 z51 := Tryz.sizeOf169
 v51 := Tryz.zeroValue169
 t53 := Tryz.underlying32
 a53 := Tryz.isAgg32
 z53 := Tryz.sizeOf32
 v53 := Tryz.zeroValue32 }
theorem J5n (x : Nat) (h1 : x < 18446744073709551616) (w : World) : Calls Tryz.prog 138 #[.int .u64 x] w fun e w' => e = .returned (.int .i64 (Lib.bitLen x)) ∧ w = w' :=
 (Any.bits_Len lays125 (x : Int) w (by omega) (by omega)).mono fun e w' h => ⟨by rw [h.1, Int.toNat_natCast], h.2.symm⟩
end
end Go.Proofs.YtoiampgfnidfdaaGreatDoor
