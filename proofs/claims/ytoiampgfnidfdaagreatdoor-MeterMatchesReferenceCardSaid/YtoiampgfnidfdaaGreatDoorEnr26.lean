/-
  The reference's Encode, by contract.
-/
import Derived.Test.YtoiampgfnidfdaaGreatDoorNm26
import Derived.Test.YtoiampgfnidfdaaGreatDoorTag4
import Derived.Test.YtoiampgfnidfdaaGreatDoorPs26
set_option maxRecDepth 100000
set_option maxHeartbeats 8000000
namespace Go.Proofs.YtoiampgfnidfdaaGreatDoor
open Go.RowKit
section
open Go.RowKit

theorem J5q : En Tryz.prog 30 := enters_of Tryz.func30 (by kernel_rfl) rfl
theorem cellW {w w' : World} (hb : Below w.heap.size w w') {a : Addr} {v : Value} (hc : w.cell? a = some v) : w'.cell? a = some v := (hb.cell (World.block_lt_of_cell? w a hc)).trans hc
theorem rNumF26 (l : List Nat) (x : Fp) (hl : l.length ≤ 1000000) (u : Value) (base : Nat) (w : World) (h : OwB base w u l) (hb : base ≤ w.heap.size) :
  Calls Tryz.prog 74 #[u, .int .u64 (fv x), .int .i64 8] w fun e w' => ∃ v', e = .returned v' ∧ OwB base w' v' (l ++ leB (fv x).toNat 8) ∧ KX w w' u v' ∧ Below base w w' := by
 have := rNum26 l (fv x).toNat 8 (fv_nat x).2 (by decide) hl u base w h hb
 rwa [(fv_nat x).1] at this
theorem bys_32 {lo hi : Nat} {w : World} {v : Value} {d : List Nat} (h : ByS lo hi w v d) (hd : d.length = 32) : ∃ g off cap, v = .slice (some ⟨g, off, none⟩) d.length cap ∧ ∀ j u, (byc d)[j]? = some u → w.cell? ((⟨g, off, none⟩ : Addr).add j) = some u := by
 obtain ⟨g, off, cap, h1, h2, _, _, h3, h4⟩ := Rd.form h (by omega)
 exact ⟨g, off, cap, h1, fun j u hj => by rw [Addr.add_lit]; exact h4 j u hj⟩
attribute [local irreducible] wpRg keyD sha leafD pairD
theorem rEnc26 (m : Mt) (hN : MtN m) (hl : (encM m).length ≤ 900000) (h5 : PtsN5 m) (vE : Value) (w : World) (hE : EpsA w vE m.eps) : Calls Tryz.prog 30 #[mtV m vE] w fun e w' => ∃ v, e = .returned v ∧ RdA 1 w' v (encM m).length (byc (encM m)) ∧ Below w.heap.size w w' := by
 have HLN := Lib.hid hl
 have H5 := Lib.hid h5
 clear hl h5
 obtain ⟨S, hS⟩ : ∃ S, S = mtV m vE := ⟨_, rfl⟩
 rw [← hS]
 have HN := Lib.hid hN
 have HE := Lib.hid hE
 obtain ⟨A, cap, rfl⟩ := hE.len
 have hml := hN.eps
 clear hN hE
 go_enter Tryz.func30, Tryz.ntmps30
 go_upto_region 1 with (fail)
 refine J13 fun W hB hz b1 => ?_
 have b1' : Blk W w.heap.size 35 (mtc m (.slice A m.eps.length cap)).toArray := by first | exact b1 | (rw [hS] at b1; exact b1)
 have hsl := HN.out.seed.1
 have hver := HN.out.ver
 have hWs : W.heap.size = w.heap.size + 1 := hz.out
 obtain ⟨B0, hB0⟩ : ∃ B, B = w.heap.size + 1 := ⟨_, rfl⟩
 have hWB : W.heap.size = B0 := by omega
 have hbB : w.heap.size < B0 := by omega
 have HPX : Hid (Pfx m (mtH m ++ m.eps.flatMap epB)) := Lib.hid ⟨[], by rw [J60, List.append_nil]⟩
 obtain ⟨iu8, hu8, uz0, uz1, uz2⟩ := info_parts J22
 clear b1 hz hS hWs hB0
 refine wp_region_lit ?_
 refine wpSk rfl (J2w J10 hu8 uz0 rfl) fun v0 w1 hh => ?_
 obtain ⟨⟨rfl, hl1, bl1⟩, B1⟩ := hh
 try simp only [PutS]
 have o1 : OwB B0 w1 (.slice (some ⟨W.heap.size, 0, none⟩) 0 0) [] := ⟨rfl, .inr ⟨W.heap.size, 0, #[], rfl, by omega, bl1, Nat.le_refl _, Nat.zero_le _, rfl, rfl⟩⟩
 have c0 := J4r (b1'.keep B1)
 have hs1 := B1.size
 iterate 2 (refine wpList_plain rfl fun K hK => ?_; go_big_op; refine hK _ _ ?_; clear hK K)
 refine wpSk rfl (Jm (R := fun v W2 => OwB B0 W2 v ([] ++ leB m.ver 8) ∧ KX (w1) W2 (Value.slice (some ⟨W.heap.size, 0, none⟩) 0 0) v ∧ Below B0 (w1) W2) J1s ((rNum26 [] m.ver 8 (by omega) (by decide) (by decide) _ B0 w1 o1 (by omega)).mono fun r W2 ⟨v, h1, h2, h3, h4⟩ => ⟨v, h1, h2, h3, h4⟩) rfl rfl) fun v12 w12 hh => ?_
 obtain ⟨o12, k12, B12⟩ := hh
 try simp only [PutS]
 rw [List.nil_append] at o12
 have hBq : Below B0 W w12 := (B1.mono (by omega)).trans B12
 obtain ⟨A12, c12, rfl⟩ := o12.len
 have hq12 := hBq.size
 have b1q := b1'.below hBq hbB
 clear c0 bl1 o1 B1 k12 B12 hl1 hs1
 try simp only [PutS]
 go_upto_region 2 with (fail)
 refine wp_region_lit ?_
 iterate 2 (refine wpList_plain rfl fun K hK => ?_; go_big_op; refine hK _ _ ?_; clear hK K)
 refine wpSk rfl (J1 (cs := byc m.seed) Jg rfl (by rw [Jc, J3, hsl]) rfl rfl (J5v b1q)) fun v15 w15 hh => ?_
 obtain ⟨rfl, rfl⟩ := hh
 try simp only [PutS]
 refine wpSk rfl (Jm (R := fun v W2 => ByS (w15).heap.size W2.heap.size W2 v (m.seed) ∧ Below (w15).heap.size (w15) W2) J1g ((rBytes (m.seed) (hsl) (w15)).mono fun r W2 ⟨v, h1, h2, h3⟩ => ⟨v, h1, h2, h3⟩) rfl rfl) fun v16 w16 hh => ?_
 obtain ⟨hy16, B16⟩ := hh
 try simp only [PutS]
 obtain ⟨gd16, od16, cd16, rfl, hc16⟩ := bys_32 hy16 (hsl)
 have ho16 := o12.keep B16
 have hs16 := B16.size
 refine wpSk rfl (J20 (base := B0) (l := leB m.ver 8) (m := m.seed) (ad := ⟨gd16, od16, none⟩) (mc := cd16) rfl rfl rfl ho16 hc16 (by rw [J2k]; decide) (by rw [hsl]; decide) (by omega)) fun v17 w17 hh => ?_
 obtain ⟨o17, k17, B17⟩ := hh
 try simp only [PutS]
 obtain ⟨L1, hL1⟩ : ∃ L, L = leB m.ver 8 ++ m.seed := ⟨_, rfl⟩
 rw [← hL1] at o17
 have hL1l : L1.length = 40 := by rw [hL1, List.length_append, J2k, hsl]
 have HL1 := Lib.hid hL1
 have HL1L := Lib.hid hL1l
 obtain ⟨A17, c17, rfl⟩ := o17.len
 have hB17 := (hBq.trans (B16.mono (by omega))).trans B17
 have hq17 := hB17.size
 have c33 := J11 (b1'.below hB17 hbB) hsl
 have l1 := (b1'.below hB17 hbB).lt
 clear o12 hBq hq12 b1q hy16 hc16 ho16 B16 hs16 k17 B17 hL1 hL1l
 try simp only [PutS]
 go_upto_region 3 with (fail)
 refine wp_region_lit ?_
 iterate 5 (refine wpList_plain rfl fun K hK => ?_; go_big_op; refine hK _ _ ?_; clear hK K)
 refine wpSk rfl (J15 (cs := (byc [(m.eps.length % 256)]).toArray) J10 hu8 uz0 uz1 (by decide) (by decide) rfl rfl rfl) fun v23 w23 hh => ?_
 obtain ⟨⟨rfl, hl23, b23⟩, B23⟩ := hh
 try simp only [PutS]
 refine wpSk rfl (J20 (base := B0) (l := L1) (m := [(m.eps.length % 256)]) (ad := ⟨(w17).heap.size, 0, none⟩) (mc := 1) rfl rfl rfl ((o17).keep B23) (J3m b23) (by rw [HL1L.out]; decide) (by simp) (Nat.le_trans (show B0 ≤ w17.heap.size by omega) B23.size)) fun v24 w24 hh => ?_
 obtain ⟨o24, k24, B24⟩ := hh
 try simp only [PutS]
 obtain ⟨L2, hL2⟩ : ∃ L, L = L1 ++ [m.eps.length % 256] := ⟨_, rfl⟩
 rw [← hL2] at o24
 have HL2 := Lib.hid (show L2 = mtH m by rw [hL2, HL1.out]; rfl)
 obtain ⟨A24, c24, rfl⟩ := o24.len
 have hB24 := (hB17.trans (B23.mono (by omega))).trans B24
 have HO24 := Lib.hid o24
 have HB24 := Lib.hid hB24
 have HB1 := Lib.hid b1'
 clear hL2 o17 hB17 hq17 B23 B24 b23 hl23 k24 c33 l1 o24 hB24 b1'
 try simp only [PutS]
 go_upto_region 5 with (fail)
 obtain ⟨n, hn⟩ : ∃ n, n = m.eps.length := ⟨_, rfl⟩
 rw [← hn] at HB1 ⊢
 have HNN := Lib.hid hn
 have hml2 : n ≤ 1000 := by rw [hn]; exact hml
 clear hn
 go_loopw [3, 4] (fun q i wr => ∃ k : Nat, k ≤ n ∧ i = .int .i64 k ∧ OwB B0 wr q (mtH m ++ (m.eps.take k).flatMap epB) ∧ Below B0 W wr) (fun _ i _ => n - (intOf i).toNat)
 case atStart => exact ⟨0, Nat.zero_le _, rfl, by rw [List.take_zero, List.flatMap_nil, List.append_nil, ← HL2.out]; exact HO24.out, HB24.out⟩
 case round =>
  obtain ⟨k, hk, rfl, ho, hBr⟩ := hrel
  have b1 := HB1.out.below hBr hbB
  have c33 := J11 b1 hsl
  have l1 := b1.lt
  have hrs := hBr.size
  by_cases hkl : k < n
  rotate_left 1
  ·
   obtain rfl : n = k := by omega
   rw [List.take_of_length_le (by rw [← HNN.out]; exact Nat.le_refl _), ← J60] at ho
   obtain ⟨L19, hL19⟩ : ∃ L, L = encM m := ⟨_, rfl⟩
   rw [← hL19] at ho
   have HL19 := Lib.hid hL19
   have hl19 : L19.length ≤ 900000 := by rw [hL19]; exact HLN.out
   obtain ⟨A19, c19, rfl⟩ := ho.len
   have HO := Lib.hid ho
   have HBW := Lib.hid (hB.trans (hBr.mono (by omega)))
   clear hL19 ho hBr b1
   go_wp2_with fail
   refine bodyPost_ret (v := .slice A19 L19.length c19) (by simp [results, Tryz.results30, go_sem]) rfl ⟨_, rfl, ?_, HBW.out⟩
   rw [← HL19.out]
   exact RdA.of (HO.out.bys (by omega) (Nat.le_refl _))
  obtain ⟨us, hr, ha⟩ := HE.out
  obtain ⟨u, e, hu, he, hin⟩ := ha.get (k := k) (by rw [← HNN.out]; exact hkl)
  have hBwr : Below w.heap.size w wr := hB.trans (hBr.mono (by omega))
  obtain ⟨g, off, cap', hv, hcp, hg, hcs⟩ := RdA.at J16 (RdA.keep hr hBwr) hu
  rw [ha.1, ← HNN.out] at hv hcp
  cases hv
  have hrg : wr.rangeAt g (off + k * 5) (epc u) := fun j x hj => by rw [Nat.add_assoc]; exact hcs j x hj
  have HNX := Lib.hid (J2x epB m.eps k e he)
  have hp0 : Pfx m ((mtH m ++ (m.eps.take k).flatMap epB) ++ epB e) := by rw [List.append_assoc, ← HNX.out]; exact HPX.out.of_take _
  obtain ⟨L0, hL0⟩ : ∃ L, L = mtH m ++ (m.eps.take k).flatMap epB := ⟨_, rfl⟩
  rw [← hL0] at ho hp0
  have HL0 := Lib.hid hL0
  have HP0 := Lib.hid hp0
  obtain ⟨Ap, cp, hup⟩ := hin.2.1.len
  obtain ⟨Ak, ck, huk⟩ := hin.2.2.len
  have hue : epc u = [.int .i64 (e.log : Int), .int .i64 (e.count : Int), .bool e.closed, .slice Ap e.pts.length cp, .slice Ak e.peaks.length ck] := by
   unfold epc
   rw [hin.1.1, hin.1.2.1, hin.1.2.2, hup, huk]
  have HPT := Lib.hid (show PtsA w (.slice Ap e.pts.length cp) e.pts by rw [← hup]; exact hin.2.1)
  have HPK := Lib.hid (show DgsA w (.slice Ak e.peaks.length ck) e.peaks by rw [← huk]; exact hin.2.2)
  obtain ⟨hn1, hn2, hn3, hn4⟩ := HN.out.ep k e he
  have HV5 := Lib.hid (H5.out e (List.mem_of_getElem? he))
  obtain ⟨iE, hiE, iE0, iE1, iE2⟩ := info_parts J49
  have hone := hin.one
  obtain ⟨Aq, cq, rfl⟩ := ho.len
  have hL0l : L0.length ≤ 900000 := Nat.le_trans hp0.pre.len HLN.out
  obtain ⟨pn, hpn⟩ : ∃ x, x = e.pts.length := ⟨_, rfl⟩
  obtain ⟨kn, hkn⟩ : ∃ x, x = e.peaks.length := ⟨_, rfl⟩
  obtain ⟨cn, hcn⟩ : ∃ x, x = e.count := ⟨_, rfl⟩
  obtain ⟨lg, hlg⟩ : ∃ x, x = e.log := ⟨_, rfl⟩
  rw [← hpn, ← hkn, ← hcn, ← hlg] at hue
  rw [← hpn] at HPT hn1
  rw [← hkn] at HPK hn4
  rw [← hcn] at hn3
  rw [← hlg] at hn2
  have HHUE := Lib.hid hue
  have HPN := Lib.hid hpn
  have HKN := Lib.hid hkn
  have HCN := Lib.hid hcn
  have HLG := Lib.hid hlg
  clear hr ha hu he hin hcs hL0 hp0 hue hup huk hpn hkn hcn hlg b1
  go_upto_region 7 with (fail)
  refine wp_region_lit ?_
  iterate 4 (refine wpList_plain rfl fun K hK => ?_; go_big_op; refine hK _ _ ?_; clear hK K)
  refine wpSk rfl (J1 (cs := epc u) J1o rfl J1b rfl rfl hrg) fun v36 w36 hh => ?_
  obtain ⟨rfl, rfl⟩ := hh
  try simp only [PutS]
  refine wpSk rfl (J4u hiE iE0 rfl) fun v5 w5 hh => ?_
  obtain ⟨g5, rfl, hg5, b5, B5⟩ := hh
  try simp only [PutS]
  have b5 : Blk w5 g5 75 #[.int .i64 0, .int .i64 0, .bool false, .slice none 0 0, .slice none 0 0] := b5
  refine J6 rfl 75 (.tmp 5) (.tmp 36) rfl rfl (cells := epc u) rfl b5 (by rw [J16]; exact Nat.le_refl _) J1b (List.all_eq_true.2 hone) rfl fun X hX bX => ?_
  have BX : Below w36.heap.size w36 X := J2 (by rw [hg5]; exact B5) hX (by omega)
  have b5X : Blk X g5 75 (epc u).toArray := bX
  rw [HHUE.out] at b5X
  have oX := ho.keep BX
  have neX : (Value.slice Aq L0.length cq).ownBlock ≠ some g5 := KX.new ho (by omega)
  have hBX := hBr.trans (BX.mono (by omega))
  have hXs := hBX.size
  have c0 : X.cell? ⟨g5, 0, none⟩ = some (.int .i64 (lg : Int)) := (b5X.cell 0).trans rfl
  have l5 := b5X.lt
  clear b5 B5 hX bX BX ho hBr hrg hg hBwr c33 l1
  try simp only [PutS]
  go_upto_region 8 with (fail)
  refine wp_region_lit ?_
  iterate 4 (refine wpList_plain rfl fun K hK => ?_; go_big_op; refine hK _ _ ?_; clear hK K)
  refine wpSk rfl (J15 (cs := (byc [lg]).toArray) J10 hu8 uz0 uz1 (by decide) (by decide) rfl rfl rfl) fun v41 w41 hh => ?_
  obtain ⟨⟨rfl, hl41, b41⟩, B41⟩ := hh
  try simp only [PutS]
  refine wpSk rfl (J20 (base := B0) (l := L0) (m := [lg]) (ad := ⟨(X).heap.size, 0, none⟩) (mc := 1) rfl rfl rfl ((oX).keep B41) (J3m b41) (by omega) (by simp) (Nat.le_trans (show B0 ≤ X.heap.size by omega) B41.size)) fun v42 w42 hh => ?_
  obtain ⟨o42, k42, B42⟩ := hh
  try simp only [PutS]
  obtain ⟨b5a, ne5a⟩ := k42 _ _ _ (b5X.keep B41) neX
  have hBa := (hBX.trans (B41.mono (by omega))).trans B42
  obtain ⟨L3, hL3⟩ : ∃ L, L = L0 ++ [lg] := ⟨_, rfl⟩
  rw [← hL3] at o42
  have HL3 := Lib.hid hL3
  clear hL3
  have hL3l : L3.length ≤ 900001 := by rw [HL3.out]; simp; omega
  obtain ⟨A42, c42, rfl⟩ := o42.len
  have c1 : w42.cell? ⟨g5, 1, none⟩ = some (.int .i64 (cn : Int)) := (b5a.cell 1).trans rfl
  have l5a := b5a.lt
  have has := hBa.size
  clear b5X oX neX hBX hXs c0 l5 B41 B42 b41 hl41 k42
  try simp only [PutS]
  go_upto_region 9 with (fail)
  refine wp_region_lit ?_
  iterate 4 (refine wpList_plain rfl fun K hK => ?_; go_big_op; refine hK _ _ ?_; clear hK K)
  refine wpSk rfl (Jm (R := fun v W2 => OwB B0 W2 v (L3 ++ leB cn 4) ∧ KX (w42) W2 (Value.slice A42 L3.length c42) v ∧ Below B0 (w42) W2) J1s ((rNum26 L3 cn 4 (by omega) (by decide) (by omega) _ B0 w42 o42 (by omega)).mono fun r W2 ⟨v, h1, h2, h3, h4⟩ => ⟨v, h1, h2, h3, h4⟩) rfl rfl) fun v47 w47 hh => ?_
  obtain ⟨o47, k47, B47⟩ := hh
  try simp only [PutS]
  obtain ⟨b5b, ne5b⟩ := k47 _ _ _ b5a ne5a
  have hBb := hBa.trans B47
  obtain ⟨L4, hL4⟩ : ∃ L, L = L3 ++ leB cn 4 := ⟨_, rfl⟩
  rw [← hL4] at o47
  have HL4 := Lib.hid hL4
  clear hL4
  have hL4l : L4.length ≤ 900010 := by rw [HL4.out, List.length_append, J2k]; omega
  obtain ⟨A47, c47, rfl⟩ := o47.len
  have hbs := hBb.size
  have HB5 := Lib.hid b5b
  have HO4 := Lib.hid o47
  have k2 := Je (W := w47) b5b.lt (show w47.cell? ⟨g5, 2, none⟩ = some (.bool e.closed) from (b5b.cell 2).trans rfl)
  have k3 := Je (W := w47) b5b.lt (show w47.cell? ⟨g5, 3, none⟩ = some (.slice Ap pn cp) from (b5b.cell 3).trans rfl)
  have hflb := flB_lt e.closed
  clear o42 b5a ne5a hBa has c1 l5a k47 B47 o47 b5b
  try simp only [PutS]
  go_upto_region 10 with (fail)
  refine Jd 9 [(3, Spec.val (.int .u8 ((flB e.closed : Nat) : Int))), (8, Spec.rel (Lit 5 2 (byc [flB e.closed, pn % 256]).toArray) (LitF 2))] (by kernel_rfl) (by kernel_rfl) (by kernel_rfl) ⟨J8w, trivial⟩ ?_
  iterate 3 (refine rg_det rfl rfl rfl (fun K hK => ?_); go_big_quiet_op; refine hK _ ?_; clear hK K)
  refine rg_val rfl rfl (fun W1 hW1 hF => J7 J40 (rBit26 e.closed W1) rfl rfl) ?_
  intro a' ha
  simp only [PutS] at ha
  subst ha
  iterate 4 (refine rg_det rfl rfl rfl (fun K hK => ?_); go_big_quiet_op; refine hK _ ?_; clear hK K)
  refine rg_rel rfl rfl (fun W1 hW1 hF => J2l (parts := [(0, Operand.tmp 51), (1, Operand.tmp 55)]) (vs := byc [flB e.closed, pn % 256]) J10 hu8 uz0 uz1 rfl (by simp [byc]) (by simp [byc]) rfl rfl (by simp [byc, Value.cells])) ?_
  intro n8 m8 v8 hn8 hm8 hd8 hf8 a' ha
  simp only [PutS] at ha
  subst ha
  obtain rfl := hf8
  refine rg_nil (fun w' hw' hF => ?_)
  obtain ⟨z, rfl⟩ := hw'
  simp only [List.drop_succ_cons, List.drop_zero]
  obtain ⟨hm8, -, hl8, b8⟩ := J30 hF
  have oz := HO4.out.keep z.h
  have b5z := HB5.out.keep z.h
  have hBz := hBb.trans (z.h.mono (by omega))
  have hzs := hBz.size
  clear hF k2 k3
  refine wpSk rfl (J20 (base := B0) (l := L4) (m := [flB e.closed, pn % 256]) (ad := ⟨n8, 0, none⟩) (mc := 2) rfl rfl rfl oz (J3m b8) (by omega) (by simp) (by omega)) fun v57 w57 hh => ?_
  obtain ⟨o57, k57, B57⟩ := hh
  try simp only [PutS]
  obtain ⟨b5c, ne5c⟩ := k57 _ _ _ b5z ne5b
  have hBc := hBz.trans B57
  obtain ⟨L5, hL5⟩ : ∃ L, L = L4 ++ [flB e.closed, pn % 256] := ⟨_, rfl⟩
  rw [← hL5] at o57
  have HL5 := Lib.hid hL5
  clear hL5
  obtain ⟨A57, c57, rfl⟩ := o57.len
  have HH5 := Lib.hid (show L5 = L0 ++ epH e by rw [HL5.out, HL4.out, HL3.out, HPN.out, HCN.out]; unfold epH; rw [← HLG.out, Nat.mod_eq_of_lt (show lg < 256 by omega)]; simp)
  have hp5 : Pfx m (L5 ++ (e.pts.flatMap ptB ++ ([e.peaks.length % 256] ++ e.peaks.flatMap id))) := by
   have := HP0.out
   rw [J70, ← List.append_assoc, ← HH5.out] at this
   exact this
  have HP5 := Lib.hid hp5
  have hL5l : L5.length ≤ 900000 := Nat.le_trans hp5.pre.len HLN.out
  have HAT := Lib.hid (And.intro o57 (And.intro b5c (And.intro ne5c hBc)))
  clear oz b5z hBz hzs b8 o57 k57 B57 b5c ne5c hBc ne5b hBb hbs hp5 hm8
  try simp only [PutS]
  go_upto_region 12 with (fail)
  go_loopw [3, 6] (fun q i wr => ∃ j : Nat, j ≤ pn ∧ i = .int .i64 j ∧ OwB B0 wr q (L5 ++ (e.pts.take j).flatMap ptB) ∧ Blk wr g5 75 #[.int .i64 (lg : Int), .int .i64 (cn : Int), .bool e.closed, .slice Ap pn cp, .slice Ak kn ck] ∧ q.ownBlock ≠ some g5 ∧ Below B0 W wr) (fun _ i _ => pn - (intOf i).toNat)
  case atStart => exact ⟨0, Nat.zero_le _, rfl, by rw [List.take_zero, List.flatMap_nil, List.append_nil]; exact HAT.out.1, HAT.out.2⟩
  case round =>
   clear HAT
   obtain ⟨j, hj, rfl, ho, b5, ne5, hBr⟩ := hrel
   have hrs := hBr.size
   have c53 : wr.cell? ⟨g5, 3, none⟩ = some (.slice Ap pn cp) := (b5.cell 3).trans rfl
   have l5 := b5.lt
   by_cases hjl : j < pn
   rotate_left 1
   ·
    obtain rfl : pn = j := by omega
    rw [List.take_of_length_le (by rw [← HPN.out]; exact Nat.le_refl _)] at ho
    have hp13 : Pfx m ((L5 ++ e.pts.flatMap ptB) ++ ([e.peaks.length % 256] ++ e.peaks.flatMap id)) := by
     have := HP5.out
     rwa [← List.append_assoc] at this
    obtain ⟨L13, hL13⟩ : ∃ L, L = L5 ++ e.pts.flatMap ptB := ⟨_, rfl⟩
    rw [← hL13] at ho hp13
    have HL13 := Lib.hid hL13
    have HP13 := Lib.hid hp13
    have hL13l : L13.length ≤ 900000 := Nat.le_trans hp13.pre.len HLN.out
    obtain ⟨A13, c13, rfl⟩ := ho.len
    have c54 : wr.cell? ⟨g5, 4, none⟩ = some (.slice Ak kn ck) := (b5.cell 4).trans rfl
    clear hL13 hp13
    go_upto_region 20 with (fail)
    refine wp_region_lit ?_
    iterate 5 (refine wpList_plain rfl fun K hK => ?_; go_big_op; refine hK _ _ ?_; clear hK K)
    refine wpSk rfl (J15 (cs := (byc [(kn % 256)]).toArray) J10 hu8 uz0 uz1 (by decide) (by decide) rfl rfl rfl) fun v108 w108 hh => ?_
    obtain ⟨⟨rfl, hl108, b108⟩, B108⟩ := hh
    try simp only [PutS]
    refine wpSk rfl (J20 (base := B0) (l := L13) (m := [(kn % 256)]) (ad := ⟨(wr).heap.size, 0, none⟩) (mc := 1) rfl rfl rfl ((ho).keep B108) (J3m b108) (by omega) (by simp) (Nat.le_trans (show B0 ≤ wr.heap.size by omega) B108.size)) fun v109 w109 hh => ?_
    obtain ⟨o109, k109, B109⟩ := hh
    try simp only [PutS]
    obtain ⟨L14, hL14⟩ : ∃ L, L = L13 ++ [kn % 256] := ⟨_, rfl⟩
    rw [← hL14] at o109
    have HL14 := Lib.hid hL14
    clear hL14
    obtain ⟨A109, c109, rfl⟩ := o109.len
    obtain ⟨b5Y, ne5Y⟩ := k109 _ _ _ (b5.keep B108) ne5
    have hBY := (hBr.trans (B108.mono (by omega))).trans B109
    have hL14l : L14.length ≤ 900001 := by rw [HL14.out]; simp; omega
    have HAT := Lib.hid (And.intro o109 (And.intro b5Y (And.intro ne5Y hBY)))
    clear b5 ne5 hBr B108 B109 b108 hl108 k109 ho c53 c54 l5 o109 b5Y ne5Y hBY
    try simp only [PutS]
    go_upto_region 22 with (fail)
    go_loopw [3, 8] (fun q i wr => ∃ j : Nat, j ≤ kn ∧ i = .int .i64 j ∧ OwB B0 wr q (L14 ++ (e.peaks.take j).flatMap id) ∧ Blk wr g5 75 #[.int .i64 (lg : Int), .int .i64 (cn : Int), .bool e.closed, .slice Ap pn cp, .slice Ak kn ck] ∧ q.ownBlock ≠ some g5 ∧ Below B0 W wr) (fun _ i _ => kn - (intOf i).toNat)
    case atStart => exact ⟨0, Nat.zero_le _, rfl, by rw [List.take_zero, List.flatMap_nil, List.append_nil]; exact HAT.out.1, HAT.out.2⟩
    case round =>
     clear HAT
     obtain ⟨j, hj, rfl, ho, b5, ne5, hBr⟩ := hrel
     have hrs := hBr.size
     have c54 : wr.cell? ⟨g5, 4, none⟩ = some (.slice Ak kn ck) := (b5.cell 4).trans rfl
     have l5 := b5.lt
     by_cases hjl : j < kn
     rotate_left 1
     ·
      obtain rfl : kn = j := by omega
      rw [List.take_of_length_le (by rw [← HKN.out]; exact Nat.le_refl _)] at ho
      have hLE : L14 ++ e.peaks.flatMap id = mtH m ++ (m.eps.take (k + 1)).flatMap epB := by
       rw [HNX.out, HL14.out, HL13.out, HH5.out, HL0.out, J70, HKN.out]
       simp
      rw [hLE] at ho
      obtain ⟨L18, hL18⟩ : ∃ L, L = mtH m ++ (m.eps.take (k + 1)).flatMap epB := ⟨_, rfl⟩
      rw [← hL18] at ho
      have HL18 := Lib.hid hL18
      obtain ⟨A18, c18, rfl⟩ := ho.len
      have HO := Lib.hid ho
      have HBR := Lib.hid hBr
      clear hLE hL18 ho hBr b5 ne5
      go_wp2_with fail
      exact ⟨⟨k + 1, by omega, by go_num, by rw [← HL18.out]; exact HO.out, HBR.out⟩, by simp [intOf]; omega⟩
     obtain ⟨d, hd⟩ : ∃ d, e.peaks[j]? = some d := ⟨_, List.getElem?_eq_getElem (by rw [← HKN.out]; exact hjl)⟩
     obtain ⟨gk, offk, capk, hvk, hck, hgk, hrk, hdo⟩ := (HPK.out.keep (hB.trans (hBr.mono (by omega)))).at hd
     rw [← HKN.out] at hvk hck
     cases hvk
     have HNZ := Lib.hid (J2x id e.peaks j d hd)
     have hp15 : Pfx m ((L14 ++ (e.peaks.take j).flatMap id) ++ d) := by
      have h1 : Pfx m (L14 ++ e.peaks.flatMap id) := by
       rw [HL14.out, List.append_assoc, HKN.out]
       exact HP13.out
      have h2 := h1.of_take (j + 1)
      rw [HNZ.out, ← List.append_assoc] at h2
      exact h2
     obtain ⟨L15, hL15⟩ : ∃ L, L = L14 ++ (e.peaks.take j).flatMap id := ⟨_, rfl⟩
     rw [← hL15] at ho hp15
     have HL15 := Lib.hid hL15
     have hL15l : L15.length ≤ 900000 := Nat.le_trans hp15.pre.len HLN.out
     obtain ⟨A15, c15, rfl⟩ := ho.len
     have hd32 := hdo.1
     clear hd hL15 hp15
     go_upto_region 24 with (fail)
     refine wp_region_lit ?_
     iterate 5 (refine wpList_plain rfl fun K hK => ?_; go_big_op; refine hK _ _ ?_; clear hK K)
     refine wpSk rfl (J1 (cs := byc d) Jg rfl (by rw [Jc, J3, hdo.1]) rfl rfl hrk) fun v122 w122 hh => ?_
     obtain ⟨rfl, rfl⟩ := hh
     try simp only [PutS]
     refine wpSk rfl (Jm (R := fun v W2 => ByS (w122).heap.size W2.heap.size W2 v (d) ∧ Below (w122).heap.size (w122) W2) J1g ((rBytes (d) (hd32) (w122)).mono fun r W2 ⟨v, h1, h2, h3⟩ => ⟨v, h1, h2, h3⟩) rfl rfl) fun v123 w123 hh => ?_
     obtain ⟨hy123, B123⟩ := hh
     try simp only [PutS]
     obtain ⟨gd123, od123, cd123, rfl, hc123⟩ := bys_32 hy123 (hd32)
     have ho123 := ho.keep B123
     have hs123 := B123.size
     refine wpSk rfl (J20 (base := B0) (l := L15) (m := d) (ad := ⟨gd123, od123, none⟩) (mc := cd123) rfl rfl rfl ho123 hc123 (by omega) (by omega) (by omega)) fun v124 w124 hh => ?_
     obtain ⟨o124, k124, B124⟩ := hh
     try simp only [PutS]
     obtain ⟨b5Z, ne5Z⟩ := k124 _ _ _ (b5.keep B123) ne5
     have hBZ := (hBr.trans (B123.mono (by omega))).trans B124
     obtain ⟨L16, hL16⟩ : ∃ L, L = L15 ++ d := ⟨_, rfl⟩
     rw [← hL16] at o124
     have HL16 := Lib.hid hL16
     clear hL16
     obtain ⟨A124, c124, rfl⟩ := o124.len
     have HL17 := Lib.hid (show L16 = L14 ++ (e.peaks.take (j + 1)).flatMap id by rw [HL16.out, HL15.out, HNZ.out]; simp)
     have HO := Lib.hid o124
     have HBZ := Lib.hid hBZ
     have HB5 := Lib.hid b5Z
     have HNE := Lib.hid ne5Z
     clear ho hBr b5 ne5 c54 l5 hrk hgk hck hy123 hc123 B123 hs123 ho123 o124 k124 B124 b5Z ne5Z hBZ
     try simp only [PutS]
     go_wp2_with fail
     exact ⟨⟨j + 1, by omega, by go_num, by rw [← HL17.out]; exact HO.out, HB5.out, HNE.out, HBZ.out⟩, by simp [intOf]; omega⟩
   obtain ⟨p, hp⟩ : ∃ p, e.pts[j]? = some p := ⟨_, List.getElem?_eq_getElem (by rw [← HPN.out]; exact hjl)⟩
   have hBw0 := hB.trans (hBr.mono (by omega))
   obtain ⟨gp, op, cpp, rp, vp, hv, -, hgp0, -, z1, z2, -, hVp⟩ := HPT.out.at hp
   rw [← HPN.out] at hv
   cases hv
   have hVl : p.V.length = 5 := (HV5.out p (List.mem_of_getElem? hp)).2
   obtain ⟨gv, offv, capv, rfl, hcv, -, -, hgv0, hvc⟩ := J32 (lo := 0) (hi := w.heap.size) hVp (by rw [hVl]; decide)
   rw [hVl] at z1 hcv
   have hgp := Nat.lt_of_lt_of_le hgp0 hBw0.size
   have y2 := cellW hBw0 z2
   have HZ1 := Lib.hid z1
   have HVC := Lib.hid hvc
   have HNY := Lib.hid (J2x ptB e.pts j p hp)
   have hp6 : Pfx m ((L5 ++ (e.pts.take j).flatMap ptB) ++ ptB p) := by
    have h1 : Pfx m (L5 ++ e.pts.flatMap ptB) := by
     have := HP5.out
     rw [← List.append_assoc] at this
     exact this.pre
    rw [List.append_assoc, ← HNY.out]
    exact h1.of_take _
   obtain ⟨L6, hL6⟩ : ∃ L, L = L5 ++ (e.pts.take j).flatMap ptB := ⟨_, rfl⟩
   rw [← hL6] at ho hp6
   have HL6 := Lib.hid hL6
   have HP6 := Lib.hid hp6
   have hL6l : L6.length ≤ 900000 := Nat.le_trans hp6.pre.len HLN.out
   obtain ⟨A6, c6, rfl⟩ := ho.len
   have HVL := Lib.hid hVl
   clear hp hL6 hp6 hVp hVl z1 z2 hvc hBw0
   go_upto_region 14 with (fail)
   refine wp_region_lit ?_
   iterate 7 (refine wpList_plain rfl fun K hK => ?_; go_big_op; refine hK _ _ ?_; clear hK K)
   refine wpSk rfl (J7 J40 (rBit26 p.used wr) rfl rfl) fun v72 w72 hh => ?_
   obtain ⟨rfl, B72⟩ := hh
   try simp only [PutS]
   have ho72 := ho.keep B72
   have hs72 := B72.size
   refine wpSk rfl (J15 (cs := (byc [(flB p.used)]).toArray) J10 hu8 uz0 uz1 (by decide) (by decide) rfl rfl rfl) fun v73 w73 hh => ?_
   obtain ⟨⟨rfl, hl73, b73⟩, B73⟩ := hh
   try simp only [PutS]
   refine wpSk rfl (J20 (base := B0) (l := L6) (m := [(flB p.used)]) (ad := ⟨(w72).heap.size, 0, none⟩) (mc := 1) rfl rfl rfl ((ho72).keep B73) (J3m b73) (by omega) (by simp) (Nat.le_trans (show B0 ≤ w72.heap.size by omega) B73.size)) fun v74 w74 hh => ?_
   obtain ⟨o74, k74, B74⟩ := hh
   try simp only [PutS]
   obtain ⟨L7, hL7⟩ : ∃ L, L = L6 ++ [flB p.used] := ⟨_, rfl⟩
   rw [← hL7] at o74
   have HL7 := Lib.hid hL7
   clear hL7
   obtain ⟨A74, c74, rfl⟩ := o74.len
   obtain ⟨b5Y, ne5Y⟩ := k74 _ _ _ ((b5.keep B72).keep B73) ne5
   have hBY := ((hBr.trans (B72.mono (by omega))).trans (B73.mono (by omega))).trans B74
   have hL7l : L7.length ≤ 900001 := by rw [HL7.out]; simp; omega
   have HAT := Lib.hid (And.intro o74 (And.intro b5Y (And.intro ne5Y hBY)))
   clear b5 ne5 hBr B72 B73 B74 b73 hl73 k74 ho ho72 hs72 c53 l5 o74 b5Y ne5Y hBY y2 hgp
   try simp only [PutS]
   go_upto_region 16 with (fail)
   go_loopw [3, 7] (fun q i wr => ∃ c : Nat, c ≤ 5 ∧ i = .int .i64 c ∧ OwB B0 wr q (L7 ++ (p.V.take c).flatMap extB) ∧ Blk wr g5 75 #[.int .i64 (lg : Int), .int .i64 (cn : Int), .bool e.closed, .slice (some ⟨gp, op, none⟩) pn cp, .slice Ak kn ck] ∧ q.ownBlock ≠ some g5 ∧ Below B0 W wr) (fun _ i _ => 5 - (intOf i).toNat)
   case atStart => exact ⟨0, Nat.zero_le _, rfl, by rw [List.take_zero, List.flatMap_nil, List.append_nil]; exact HAT.out.1, HAT.out.2⟩
   case round =>
    clear HAT
    obtain ⟨c, hc, rfl, ho, b5, ne5, hBr⟩ := hrel
    have hrs := hBr.size
    by_cases hcl : c < 5
    rotate_left 1
    ·
     obtain rfl : c = 5 := by omega
     rw [List.take_of_length_le (by rw [HVL.out]; exact Nat.le_refl _)] at ho
     have hL7 : L7 ++ p.V.flatMap extB = L5 ++ (e.pts.take (j + 1)).flatMap ptB := by
      rw [HL7.out, HNY.out, HL6.out, J9n]
      simp
     rw [hL7] at ho
     obtain ⟨L12, hL12⟩ : ∃ L, L = L5 ++ (e.pts.take (j + 1)).flatMap ptB := ⟨_, rfl⟩
     rw [← hL12] at ho
     have HL12 := Lib.hid hL12
     obtain ⟨A12', c12', rfl⟩ := ho.len
     have HO := Lib.hid ho
     have HB5 := Lib.hid b5
     have HBR := Lib.hid hBr
     clear hL7 hL12 ho hBr b5
     go_wp2_with fail
     exact ⟨⟨j + 1, by omega, by go_num, by rw [← HL12.out]; exact HO.out, HB5.out, ne5, HBR.out⟩, by simp [intOf]; omega⟩
    have hBw := hB.trans (hBr.mono (by omega))
    have hgp := Nat.lt_of_lt_of_le hgp0 hBw.size
    have hgv := Nat.lt_of_lt_of_le hgv0 hBw.size
    have y1 := cellW hBw HZ1.out
    obtain ⟨x, hx⟩ : ∃ x, p.V[c]? = some x := ⟨_, List.getElem?_eq_getElem (by rw [HVL.out]; exact hcl)⟩
    obtain ⟨q1, q2⟩ := HVC.out c x hx
    have HQ2 := Lib.hid q2
    replace q1 := cellW hBw q1
    have HNZ := Lib.hid (J2x extB p.V c x hx)
    have hp8 : Pfx m ((L7 ++ (p.V.take c).flatMap extB) ++ extB x) := by
     have h1 : Pfx m (L7 ++ p.V.flatMap extB) := by
      rw [HL7.out, List.append_assoc, ← J9n]
      exact HP6.out
     rw [List.append_assoc, ← HNZ.out]
     exact h1.of_take _
    obtain ⟨L8, hL8⟩ : ∃ L, L = L7 ++ (p.V.take c).flatMap extB := ⟨_, rfl⟩
    rw [← hL8] at ho hp8
    have HL8 := Lib.hid hL8
    have hL8l : L8.length ≤ 900000 := Nat.le_trans hp8.pre.len HLN.out
    obtain ⟨A8, c8, rfl⟩ := ho.len
    clear hx hL8 hp8 q2 hBw
    have c53 : wr.cell? ⟨g5, 3, none⟩ = some (.slice (some ⟨gp, op, none⟩) pn cp) := (b5.cell 3).trans rfl
    have l5 := b5.lt
    go_upto_region 18 with (fail)
    refine wp_region_lit ?_
    iterate 11 (refine wpList_plain rfl fun K hK => ?_; go_big_op; refine hK _ _ ?_; clear hK K)
    refine wpSk rfl (Jm (R := fun v W2 => OwB B0 W2 v (L8 ++ leB (fv x.a).toNat 8) ∧ KX (wr) W2 (Value.slice A8 L8.length c8) v ∧ Below B0 (wr) W2) J1s ((rNumF26 L8 x.a (by omega) _ B0 wr ho (by omega)).mono fun r W2 ⟨v, h1, h2, h3, h4⟩ => ⟨v, h1, h2, h3, h4⟩) rfl rfl) fun v90 w90 hh => ?_
    obtain ⟨o90, k90, B90⟩ := hh
    try simp only [PutS]
    obtain ⟨L9, hL9⟩ : ∃ L, L = L8 ++ leB (fv x.a).toNat 8 := ⟨_, rfl⟩
    rw [← hL9] at o90
    have HL9 := Lib.hid hL9
    clear hL9
    have hL9l : L9.length ≤ 900010 := by rw [HL9.out, List.length_append, J2k]; omega
    obtain ⟨A90, c90, rfl⟩ := o90.len
    obtain ⟨b5a, ne5a⟩ := k90 _ _ _ b5 ne5
    have hBa := hBr.trans B90
    have has := hBa.size
    have hBaw := hB.trans (hBa.mono (by omega))
    clear q1 y1 c53 l5 ho b5 ne5 k90 B90 hBr hgv hgp
    have hgp := Nat.lt_of_lt_of_le hgp0 hBaw.size
    have hgv := Nat.lt_of_lt_of_le hgv0 hBaw.size
    have y1 := cellW hBaw HZ1.out
    have q2 := cellW hBaw HQ2.out
    have c53 : w90.cell? ⟨g5, 3, none⟩ = some (.slice (some ⟨gp, op, none⟩) pn cp) := (b5a.cell 3).trans rfl
    have l5 := b5a.lt
    try simp only [PutS]
    go_upto_region 19 with (fail)
    refine wp_region_lit ?_
    iterate 11 (refine wpList_plain rfl fun K hK => ?_; go_big_op; refine hK _ _ ?_; clear hK K)
    refine wpSk rfl (Jm (R := fun v W2 => OwB B0 W2 v (L9 ++ leB (fv x.b).toNat 8) ∧ KX (w90) W2 (Value.slice A90 L9.length c90) v ∧ Below B0 (w90) W2) J1s ((rNumF26 L9 x.b (by omega) _ B0 w90 o90 (by omega)).mono fun r W2 ⟨v, h1, h2, h3, h4⟩ => ⟨v, h1, h2, h3, h4⟩) rfl rfl) fun v102 w102 hh => ?_
    obtain ⟨o102, k102, B102⟩ := hh
    try simp only [PutS]
    obtain ⟨L10, hL10⟩ : ∃ L, L = L9 ++ leB (fv x.b).toNat 8 := ⟨_, rfl⟩
    rw [← hL10] at o102
    have HL10 := Lib.hid hL10
    clear hL10
    obtain ⟨A102, c102, rfl⟩ := o102.len
    obtain ⟨b5b, ne5b⟩ := k102 _ _ _ b5a ne5a
    have hBb := hBa.trans B102
    have HL11 := Lib.hid (show L10 = L7 ++ (p.V.take (c + 1)).flatMap extB by rw [HL10.out, HL9.out, HL8.out, HNZ.out]; simp [extB])
    have HO := Lib.hid o102
    have HB5 := Lib.hid b5b
    have HNE := Lib.hid ne5b
    have HBB := Lib.hid hBb
    clear q2 y1 c53 l5 o90 b5a ne5a k102 B102 hBa has hBaw hgv hgp o102 b5b ne5b hBb
    try simp only [PutS]
    go_wp2_with fail
    exact ⟨⟨c + 1, by omega, by go_num, by rw [← HL11.out]; exact HO.out, HB5.out, HNE.out, HBB.out⟩, by simp [intOf]; omega⟩
end
end Go.Proofs.YtoiampgfnidfdaaGreatDoor
