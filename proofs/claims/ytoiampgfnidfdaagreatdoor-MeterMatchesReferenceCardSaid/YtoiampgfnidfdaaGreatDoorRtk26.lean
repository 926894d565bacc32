/-
  The reference's Take, by contract.
-/
import Derived.Test.YtoiampgfnidfdaaGreatDoorRlf26
import Derived.Test.YtoiampgfnidfdaaGreatDoorEn12
import Derived.Test.YtoiampgfnidfdaaGreatDoorOp26
set_option maxRecDepth 100000
set_option maxHeartbeats 8000000
namespace Go.Proofs.YtoiampgfnidfdaaGreatDoor
open Go.RowKit
section
open Go.RowKit

theorem J2j : En Tryz.prog 15 := enters_of Tryz.func15 (by kernel_rfl) rfl
def EncR (b : List Nat) (_ hi : Nat) (v : Value) (w : World) : Prop := ∃ g, v = .slice (some ⟨g, 0, none⟩) 3 3 ∧ g < hi ∧ Blk w g 5 (byc b).toArray
theorem Jl2 {b : List Nat} : Fit (EncR b) (SlF 3) := ⟨fun _ _ _ _ _ ⟨g, h1, h2, h3⟩ hb => ⟨g, h1, h2, h3.below hb h2⟩, fun _ => ⟨.slice none 3 0, none, 0, rfl⟩, fun _ _ _ _ ⟨g, h1, _, _⟩ => ⟨_, _, h1⟩⟩
theorem Jl3 {b : List Nat} {w : World} : ∀ e w2, (∃ g, e = .returned (.slice (some ⟨g, 0, none⟩) 3 3) ∧ w.heap.size ≤ g ∧ Blk w2 g 5 (byc b).toArray ∧ Below w.heap.size w w2) → RetR (EncR b) w e w2 := fun e w2 ⟨g, h1, h2, h3, h4⟩ => ⟨_, h1, ⟨g, rfl, h3.lt, h3⟩, h4⟩
theorem Jn2 {b : List Nat} {n m : Nat} {v : Value} {w : World} (h : EncR b n m v w) (hb : b.length = 3) : ByS 0 w.heap.size w v b := by
 obtain ⟨g, rfl, _, h3⟩ := h
 have := J6r (lo := 0) (hi := w.heap.size) h3 (by omega) (Nat.zero_le _) h3.lt
 rwa [hb] at this
theorem Jn3 {e : TypeId} {size n : Nat} {cs : List Value} : Fit (OwR e size n cs) (SlF n) := ⟨owr_st, fun _ => ⟨.slice none n 0, none, 0, rfl⟩, fun _ _ _ _ h => Jy h.1⟩
attribute [local irreducible] wpRg keyD sha leafD pairD
theorem rTake26 (m : Mt) (hN : MtN m) (h5 : PtsN5 m) (hc : CntN m) (r : Rdg) (hr : RdgIn r) (vE : Value) (bs : Bse) (w : World) (hw : bs.ok w) (hE : EpsB bs vE m.eps) : Calls Tryz.prog 15 #[mtV m vE, rdV r] w (MRes bs (takeM m r) w) := by
 have HCN := Lib.hid hc
 have HW := Lib.hid hw
 have HR := Lib.hid hr
 have H5 := Lib.hid h5
 obtain ⟨Sr, hSr⟩ : ∃ S, S = rdV r := ⟨_, rfl⟩
 rw [← hSr]
 clear hw
 obtain ⟨S, hS⟩ : ∃ S, S = mtV m vE := ⟨_, rfl⟩
 rw [← hS]
 have HN := Lib.hid hN
 have HE := Lib.hid hE
 obtain ⟨A, cap, rfl⟩ := hE.len
 have hml := hN.eps
 clear hN hE
 clear hr h5 hc
 go_enter Tryz.func15, Tryz.ntmps15
 go_upto_region 1 with (fail)
 refine J26 fun W hB hz b1 b3 b2 => ?_
 have b1' : Blk W w.heap.size 35 (mtc m (.slice A m.eps.length cap)).toArray := by first | exact b1 | (rw [hS] at b1; exact b1)
 have b3' : Blk W (w.heap.size + 1) 28 (rdc r).toArray := by first | exact b3 | (rw [hSr] at b3; exact b3)
 obtain ⟨cs0, hcs0, b2'⟩ : ∃ cs : Array Value, cs.size = 34 ∧ Blk W (w.heap.size + 1 + 1) 35 cs := ⟨_, rfl, b2⟩
 have hsl := HN.out.seed.1
 clear b1 b2 b3 hz hS hSr
 refine wp_region_lit ?_
 refine wpSk rfl (J1 (cs := rdc r) J1c rfl J1f rfl rfl (J4 b3')) fun v7 w7 hh => ?_
 obtain ⟨rfl, rfl⟩ := hh
 try simp only [PutS]
 refine wpSk rfl (J7 J2f (rValid12 r HR.out w7) rfl rfl) fun v8 w8 hh => ?_
 obtain ⟨rfl, B8⟩ := hh
 try simp only [PutS]
 have b1w := b1'.keep B8
 have b2w := b2'.keep B8
 have hBw := hB.trans (B8.mono hB.size)
 obtain ⟨bo, hbo⟩ : ∃ b, b = decide r.ok := ⟨_, rfl⟩
 rw [← hbo]
 have b3w := b3'.keep B8
 clear B8 b1' b2' b3' hB
 try simp only [PutS]
 cases bo with
 | false =>
  have HC := Lib.hid (show takeM m r = (m, 1) by unfold takeM; rw [if_pos (of_decide_eq_false hbo.symm)])
  clear hbo
  go_upto_region 2 with (fail)
  refine wp_region_lit ?_
  refine wpSk rfl (J1 (cs := mtc m (.slice (A) m.eps.length cap)) J9 rfl (by rw [J5, J0 _ _ hsl]) rfl rfl (J4 b1w)) fun v10 w10 hh => ?_
  obtain ⟨rfl, rfl⟩ := hh
  try simp only [PutS]
  refine J6 rfl 35 (.tmp 4) (.tmp 10) rfl rfl (cells := mtc m (.slice (A) m.eps.length cap)) rfl b2w (by rw [hcs0, J0 (m) _ hsl]; exact Nat.le_refl _) (by rw [J5, J0 (m) _ hsl]) (Ji _ _ rfl) (Ja _ _ (by rw [hcs0, J0 (m) _ hsl])) fun X hX bX => ?_
  have hBX := J2 hBw hX (by omega)
  clear b1w b2w hX
  try simp only [PutS]
  go_wp2_with fail
  refine bodyPost_ret (v := .tuple #[.agg (mtc m (.slice (A) m.eps.length cap)).toArray, .int .i64 1]) (res_mt (g1 := w.heap.size + 1 + 1) rfl rfl rfl J9 rfl (by rw [J5, J0 _ _ hsl]) bX) rfl ?_
  rw [HC.out]
  exact ⟨_, rfl, HE.out.le (Bse.le_new (HW.out.below hBX)), hBX⟩
 | true =>
  have hok1 : r.ok := of_decide_eq_true hbo.symm
  have hok : ¬ ¬ r.ok := fun h => h hok1
  have HOK := Lib.hid hok1
  clear hbo
  go_upto_region 3 with (fail)
  refine wp_region_lit ?_
  refine wpSk rfl (J1 (cs := mtc m (.slice A m.eps.length cap)) J9 rfl (by rw [J5, J0 _ _ hsl]) rfl rfl (J4 b1w)) fun v11 w11 hh => ?_
  obtain ⟨rfl, rfl⟩ := hh
  try simp only [PutS]
  refine wpSk rfl (J7 J1u (rOpn26 m HN.out (.slice A m.eps.length cap) w11 (HE.out.old (HW.out.below hBw))) rfl rfl) fun v12 w12 hh => ?_
  obtain ⟨rfl, B12⟩ := hh
  try simp only [PutS]
  replace b1w := b1w.keep B12
  replace b2w := b2w.keep B12
  replace b3w := b3w.keep B12
  replace hBw := hBw.trans (B12.mono hBw.size)
  clear B12
  try simp only [PutS]
  cases ho : m.isOpen with
  | false =>
   have HC := Lib.hid (show takeM m r = (m, 260) by unfold takeM; rw [if_neg hok, if_pos ho])
   clear ho hok hok1
   go_upto_region 4 with (fail)
   refine wp_region_lit ?_
   refine wpSk rfl (J1 (cs := mtc m (.slice (A) m.eps.length cap)) J9 rfl (by rw [J5, J0 _ _ hsl]) rfl rfl (J4 b1w)) fun v14 w14 hh => ?_
   obtain ⟨rfl, rfl⟩ := hh
   try simp only [PutS]
   refine J6 rfl 35 (.tmp 4) (.tmp 14) rfl rfl (cells := mtc m (.slice (A) m.eps.length cap)) rfl b2w (by rw [hcs0, J0 (m) _ hsl]; exact Nat.le_refl _) (by rw [J5, J0 (m) _ hsl]) (Ji _ _ rfl) (Ja _ _ (by rw [hcs0, J0 (m) _ hsl])) fun X hX bX => ?_
   have hBX := J2 hBw hX (by omega)
   clear b1w b2w hX
   try simp only [PutS]
   go_wp2_with fail
   refine bodyPost_ret (v := .tuple #[.agg (mtc m (.slice (A) m.eps.length cap)).toArray, .int .i64 260]) (res_mt (g1 := w.heap.size + 1 + 1) rfl rfl rfl J9 rfl (by rw [J5, J0 _ _ hsl]) bX) rfl ?_
   rw [HC.out]
   exact ⟨_, rfl, HE.out.le (Bse.le_new (HW.out.below hBX)), hBX⟩
  | true =>
   have hop : ¬ m.isOpen = false := by rw [ho]; decide
   have HRT := Lib.hid (show takeM m r = if (m.at m.last).count = 2 ^ (m.at m.last).log then (m, 2) else (m.put m.last { m.at m.last with pts := (m.at m.last).pts.map (addP (m.at m.last).count r.amts), peaks := pushN pairD (tz1 (m.at m.last).count) (m.at m.last).peaks (leafD r.enc), count := (m.at m.last).count + 1 }, 0) by unfold takeM; rw [if_neg hok, if_neg hop])
   clear hok hop hok1
   obtain ⟨h0, hcl⟩ := J36 ho
   have hll : m.last < m.eps.length := by unfold Mt.last; omega
   have hnl : m.eps.length = m.last + 1 := by unfold Mt.last; omega
   generalize m.last = n at *
   obtain ⟨us, u, e, hul, hu, he, hin, hrd⟩ := HE.out.at_ hll
   obtain ⟨g, off, cap', hv, hcp, hg, hcs⟩ := RdA.at J16 (hrd w12 (HW.out.below hBw)) hu
   rw [hul] at hv hcp
   cases hv
   have hrg : (w12).rangeAt g (off + n * 5) (epc u) := fun j x hj => by rw [Nat.add_assoc]; exact hcs j x hj
   have hat : m.at n = e := by have := at_get m n hll; rw [he] at this; exact (Option.some.inj this).symm
   have c33 := J11 b1w hsl
   have l1 := b1w.lt
   rw [hnl] at c33 hcp
   have hn1 : n ≤ 1000 := by omega
   have hw1 : wrap64 ((n : Int) + 1 - 1) = (n : Int) := by unfold wrap64; omega
   have hone := (hin.old HW.out).one
   obtain ⟨iE, hiE, iE0, iE1, iE2⟩ := info_parts J49
   have hN2 := HN.out.ep n e he
   have HIN := Lib.hid hin
   have HNL := Lib.hid hnl
   have HAT := Lib.hid hat
   have HLL := Lib.hid hll
   have HEE := Lib.hid he
   clear ho hcl h0 hul hu he hin hrd hcs hnl hat hll
   try simp only [PutS]
   go_upto_region 5 with (fail)
   refine wp_region_lit ?_
   iterate 7 (refine wpList_plain rfl fun K hK => ?_; go_big_op; refine hK _ _ ?_; clear hK K)
   refine wpSk rfl (J1 (cs := epc u) J1o rfl J1b rfl rfl hrg) fun v22 w22 hh => ?_
   obtain ⟨rfl, rfl⟩ := hh
   try simp only [PutS]
   refine wpSk rfl (J4u hiE iE0 rfl) fun v6 w6 hh => ?_
   obtain ⟨g4, rfl, hg4, b4, B4⟩ := hh
   try simp only [PutS]
   have b4 : Blk w6 g4 75 #[.int .i64 0, .int .i64 0, .bool false, .slice none 0 0, .slice none 0 0] := b4
   refine J6 rfl 75 (.tmp 6) (.tmp 22) rfl rfl (cells := epc u) rfl b4 (by rw [J16]; exact Nat.le_refl _) J1b (List.all_eq_true.2 hone) rfl fun Y hY bY => ?_
   have BY : Below w22.heap.size w22 Y := J2 (by rw [hg4]; exact B4) hY (by omega)
   have b4Y : Blk Y g4 75 (epc u).toArray := bY
   have hgl := b2w.lt
   replace b3w := b3w.keep BY
   have hcu : u.count = e.count := HIN.out.1.2.1
   have hlu : u.log = e.log := HIN.out.1.1
   have c40 : Y.cell? ⟨g4, 0, none⟩ = some (.int .i64 (e.log : Int)) := by rw [← hlu]; exact (b4Y.cell 0).trans rfl
   have c41 : Y.cell? ⟨g4, 1, none⟩ = some (.int .i64 (e.count : Int)) := by rw [← hcu]; exact (b4Y.cell 1).trans rfl
   have c43 : Y.cell? ⟨g4, 3, none⟩ = some u.p := (b4Y.cell 3).trans rfl
   have l4 := b4Y.lt
   replace b1w := b1w.keep BY
   replace b2w := b2w.keep BY
   replace hBw := hBw.trans (BY.mono hBw.size)
   have hg4w : w.heap.size + 1 + 1 < g4 := by omega
   clear b4 B4 hY bY hrg c33 l1 hg hcu hlu
   try simp only [PutS]
   have hrt := HRT.out
   rw [HAT.out] at hrt
   obtain ⟨hlg, hcl, htz⟩ := HCN.out e (List.mem_of_getElem? HEE.out)
   obtain ⟨M, hM⟩ : ∃ M, M = 2 ^ e.log := ⟨_, rfl⟩
   have hM8 : M ≤ 8 := by rw [hM]; exact pow3 e.log hlg
   have hsh : wrap64 ((2 : Int) ^ e.log) = (M : Int) := by rw [hM]; exact Jel e.log hlg
   rw [← hM] at hcl hrt
   obtain ⟨hq1, hq2, hq3, hq4⟩ := hN2
   obtain ⟨cn, hcn⟩ : ∃ c, c = e.count := ⟨_, rfl⟩
   rw [← hcn] at c41 hcl hrt htz hq3
   have HCC := Lib.hid hcn
   have HTZ := Lib.hid htz
   have f0 := Je (W := Y) l4 c40
   have f1 := Je (W := Y) l4 c41
   clear c43 hM htz hcn
   go_upto_region 6 with (fail)
   refine Jd 6 [] (by kernel_rfl) (by kernel_rfl) (by kernel_rfl) trivial ?_
   iterate 6 (refine rg_det rfl rfl rfl (fun K hK => ?_); go_big_quiet_op; refine hK _ ?_; clear hK K)
   refine rg_nil (fun w' hw' hF => ?_)
   obtain ⟨z, rfl⟩ := hw'
   simp only [List.drop_succ_cons, List.drop_zero]
   replace b1w := b1w.keep z.h
   replace b2w := b2w.keep z.h
   replace b3w := b3w.keep z.h
   replace b4Y := b4Y.keep z.h
   replace hBw := hBw.trans (z.h.mono hBw.size)
   obtain ⟨Y2, hY2⟩ : ∃ Z, Z = z.w := ⟨_, rfl⟩
   rw [← hY2] at b1w b2w b3w b4Y hBw ⊢
   clear hF f0 f1 c40 c41 l4 BY hY2 z
   by_cases hfull : cn = M
   ·
    have HC := Lib.hid (show takeM m r = (m, 2) by rw [hrt, if_pos hfull])
    subst hfull
    clear hrt b3w b4Y
    go_upto_region 7 with (fail)
    refine wp_region_lit ?_
    refine wpSk rfl (J1 (cs := mtc m (.slice (some ⟨g, off, none⟩) m.eps.length cap)) J9 rfl (by rw [J5, J0 _ _ hsl]) rfl rfl (J4 b1w)) fun v29 w29 hh => ?_
    obtain ⟨rfl, rfl⟩ := hh
    try simp only [PutS]
    refine J6 rfl 35 (.tmp 4) (.tmp 29) rfl rfl (cells := mtc m (.slice (some ⟨g, off, none⟩) m.eps.length cap)) rfl b2w (by rw [hcs0, J0 (m) _ hsl]; exact Nat.le_refl _) (by rw [J5, J0 (m) _ hsl]) (Ji _ _ rfl) (Ja _ _ (by rw [hcs0, J0 (m) _ hsl])) fun X hX bX => ?_
    have hBX := J2 hBw hX (by omega)
    clear b1w b2w hX
    try simp only [PutS]
    go_wp2_with fail
    refine bodyPost_ret (v := .tuple #[.agg (mtc m (.slice (some ⟨g, off, none⟩) m.eps.length cap)).toArray, .int .i64 2]) (res_mt (g1 := w.heap.size + 1 + 1) rfl rfl rfl J9 rfl (by rw [J5, J0 _ _ hsl]) bX) rfl ?_
    rw [HC.out]
    exact ⟨_, rfl, HE.out.le (Bse.le_new (HW.out.below hBX)), hBX⟩
   have hcM : cn < M := Nat.lt_of_le_of_ne hcl hfull
   have HC := Lib.hid (show takeM m r = (m.put n { e with pts := e.pts.map (addP cn r.amts), peaks := pushN pairD (tz1 cn) e.peaks (leafD r.enc), count := cn + 1 }, 0) by rw [hrt, if_neg hfull])
   clear hrt hfull hsh hcl
   have hps5 : ∀ p ∈ e.pts, p.V.length = 5 ∧ p.R.length ≤ 60 := fun p hp => by
    have := H5.out e (List.mem_of_getElem? HEE.out) p hp
    exact ⟨this.2, this.1⟩
   have HP5 := Lib.hid hps5
   have hrin := Jga r HOK.out
   have HRI := Lib.hid hrin
   have hcn8 : cn < 8 := by omega
   have hcu : u.count = cn := by rw [HIN.out.1.2.1, HCC.out]
   have c41 : Y2.cell? ⟨g4, 1, none⟩ = some (.int .i64 (cn : Int)) := by rw [← hcu]; exact (b4Y.cell 1).trans rfl
   have c43 : Y2.cell? ⟨g4, 3, none⟩ = some u.p := (b4Y.cell 3).trans rfl
   have l4 := b4Y.lt
   have r0 : Y2.cell? ⟨w.heap.size + 1, 0, none⟩ = some (.int .i64 r.who) := (b3w.cell 0).trans rfl
   have r1 : Y2.cell? ⟨w.heap.size + 1, 1, none⟩ = some (.int .i64 r.when) := (b3w.cell 1).trans rfl
   have r2 : Y2.cell? ⟨w.heap.size + 1, 2, none⟩ = some (.int .i64 r.kind) := (b3w.cell 2).trans rfl
   have r3 : Y2.cell? ⟨w.heap.size + 1, 3, none⟩ = some (.int .i64 r.value) := (b3w.cell 3).trans rfl
   have l3 := b3w.lt
   clear hps5 hrin hcu
   try simp only [PutS]
   go_upto_region 8 with (fail)
   refine wp_region_lit ?_
   iterate 12 (refine wpList_plain rfl fun K hK => ?_; go_big_op; refine hK _ _ ?_; clear hK K)
   refine wpSk rfl (Jb1 r.who r.when r.kind r.value 1 rfl rfl rfl rfl rfl rfl) fun v42 w42 hh => ?_
   obtain ⟨rfl, rfl⟩ := hh
   try simp only [PutS]
   have hAd := rAdded26 e.pts hq1 cn (by omega) r.who r.when r.kind r.value 1 HRI.out HP5.out u.p bs w42 (HW.out.below hBw) HIN.out.2.1
   refine wpSk rfl (Jm (R := fun v W2 => PtsB (bs.new w42 W2) v (e.pts.map (addP cn r.amts)) ∧ Below w42.heap.size w42 W2) J3h (hAd.mono fun r W2 ⟨v, h1, h2, h3⟩ => ⟨v, h1, h2, h3⟩) rfl rfl) fun v43 w43 hh => ?_
   obtain ⟨hP, B43⟩ := hh
   try simp only [PutS]
   obtain ⟨A43, c43', rfl⟩ := (hP.old (Bse.ok_self _)).len
   rw [List.length_map] at hP ⊢
   have b4x := b4Y.keep B43
   have b1x := b1w.keep B43
   have b2x := b2w.keep B43
   have b3x := b3w.keep B43
   have hBx := hBw.trans (B43.mono hBw.size)
   have c43x : w43.cell? ⟨g4, 3, none⟩ = some u.p := (b4x.cell 3).trans rfl
   have f4 := b4x.frozen
   have l4x := b4x.lt
   have hs43 := B43.size
   have HPP := Lib.hid hP
   obtain ⟨N1, hN1⟩ : ∃ N, N = w42.heap.size := ⟨_, rfl⟩
   have HN1 := Lib.hid hN1
   have hg4N : g4 < N1 := by omega
   have hN1x : N1 ≤ w43.heap.size := by omega
   have hwN1 : w.heap.size ≤ N1 := by omega
   clear b4Y b1w b2w b3w hBw c41 c43 l4 B43 hAd hP hN1 hs43 r0 r1 r2 r3 l3
   try simp only [PutS]
   go_upto_region 9 with (fail)
   refine set1 (M := fun W => Code.wp _ _ _ _ W) b4x fun Z hZ bZ => ?_
   have b4Z : Blk Z g4 75 (epc { u with p := .slice A43 e.pts.length c43' }).toArray := bZ
   have b1Z := hZ.blk b1x (by omega)
   have b2Z := hZ.blk b2x (by omega)
   have b3Z := hZ.blk b3x (by omega)
   have hBZ := J2 hBx hZ (by omega)
   have hZs := hZ.size
   have hPZ : PtsB ⟨Z, fun g => InB bs g ∨ N1 ≤ g⟩ (.slice A43 e.pts.length c43') (e.pts.map (addP cn r.amts)) := by
    have hbw := HW.out.1
    have h1 := HPP.out
    unfold Bse.new at h1
    rw [← HN1.out] at h1
    exact h1.le (Bse.le_ok (c := ⟨Z, fun g => InB bs g ∨ N1 ≤ g⟩) ((Bse.ok_self ⟨w43, fun g => InB bs g ∨ N1 ≤ g⟩).put hZ fun hh => notIn (b := bs) (by omega) hg4N hh.1) fun _ hg => hg.1)
   have hPK := HIN.out.2.2.old (HW.out.below hBZ)
   obtain ⟨Ak, ck, hk⟩ := hPK.len
   rw [hk] at hPK
   have hcu : u.count = cn := by rw [HIN.out.1.2.1, HCC.out]
   have HCU := Lib.hid hcu
   have HPZ := Lib.hid hPZ
   have HPK := Lib.hid hPK
   have k1 := Je (W := Z) b4Z.lt (show Z.cell? ⟨g4, 1, none⟩ = some (.int .i64 (cn : Int)) by rw [← hcu]; exact (b4Z.cell 1).trans rfl)
   have k4 := Je (W := Z) b4Z.lt (show Z.cell? ⟨g4, 4, none⟩ = some (.slice Ak e.peaks.length ck) by rw [← hk]; exact (b4Z.cell 4).trans rfl)
   have hEL := enc_lt r HOK.out
   have HE8 := Lib.hid hEL.2
   have hE9 := hEL.1
   have HT := Lib.hid (HTZ.out hcn8)
   have HB3 := Lib.hid b3Z
   obtain ⟨K1, hK1⟩ : ∃ K, K = e.peaks.length - tz1 cn + 1 := ⟨_, rfl⟩
   have HK1 := Lib.hid hK1
   have HPU := Lib.hid (show ∀ W1, Below Z.heap.size Z W1 → ∀ vb lo hi, ByS lo hi W1 vb r.enc → Calls Tryz.prog 64 #[.slice Ak e.peaks.length ck, .int .i64 (cn : Int), vb] W1 (RetR (OwR 23 32 K1 ((pushN pairD (tz1 cn) e.peaks (leafD r.enc)).flatMap byc)) W1) from fun W1 hW vb lo hi h => by
    rw [hK1]
    exact rPush08 e.peaks hq4 cn (by omega) HT.out r.enc hE9 HE8.out _ vb lo hi W1 (HPK.out.keep hW) h)
   obtain ⟨pk, hpk⟩ : ∃ x, x = (pushN pairD (tz1 cn) e.peaks (leafD r.enc)).flatMap byc := ⟨_, rfl⟩
   rw [← hpk] at HPU
   have HPKK := Lib.hid hpk
   clear c43x f4 l4x b4x hZ bZ b1x b2x b3x hBx hPZ hPK hcu hEL hK1 hpk b3Z
   refine Jd 8 [(4, Spec.val (rdV r)), (5, Spec.rel (EncR r.enc) (SlF 3)), (6, Spec.rel (OwR 23 32 K1 pk) (SlF K1))] (by kernel_rfl) (by kernel_rfl) (by kernel_rfl) ⟨Jl2, Jn3, trivial⟩ ?_
   iterate 4 (refine rg_det rfl rfl rfl (fun K hK => ?_); go_big_quiet_op; refine hK _ ?_; clear hK K)
   refine rg_val rfl rfl (fun W1 hW1 hF => Jf (cs := rdc r) J1c rfl J1f rfl rfl (J4 (HB3.out.keep (J8 hW1)))) ?_
   intro a' ha
   simp only [PutS] at ha
   subst ha
   refine rg_rel rfl rfl (fun W1 hW1 hF => Jp J5p ((rEnc12 r HOK.out W1).mono Jl3) rfl rfl) ?_
   intro n5 m5 v5 hn5 hm5 hd5 hf5 a' ha
   simp only [PutS] at ha
   subst ha
   obtain ⟨A5, cap5, rfl⟩ := hf5
   refine rg_rel rfl rfl (fun W1 hW1 hF => Jp J6b (HPU.out W1 (J8 hW1) _ _ _ (Jn2 (J1a hF (by kernel_rfl)).2 rfl)) rfl rfl) ?_
   intro n6 m6 v6 hn6 hm6 hd6 hf6 a' ha
   simp only [PutS] at ha
   subst ha
   obtain ⟨A6, cap6, rfl⟩ := hf6
   refine rg_det rfl rfl rfl (fun K hK => ?_)
   go_big_quiet_op
   refine hK _ ?_; clear hK K
   refine rg_nil (fun w' hw' hF => ?_)
   obtain ⟨z, rfl⟩ := hw'
   simp only [List.drop_succ_cons, List.drop_zero]
   have o11 := (J30 hF).2
   have ol := J6t (base' := N1) o11.1 (by omega)
   have b4z := b4Z.keep z.h
   have b1z := b1Z.keep z.h
   have b2z := b2Z.keep z.h
   have hBz := hBZ.trans (z.h.mono hBZ.size)
   have hne : (Value.slice A6 K1 cap6).ownBlock ≠ some g4 := fun hg => by
    have := (Jk ol hg).1
    omega
   have hPz := HPZ.out.le (Bse.le_ok (c := ⟨z.w, fun g => InB bs g ∨ N1 ≤ g⟩) ((Bse.ok_self ⟨Z, fun g => InB bs g ∨ N1 ≤ g⟩).below z.h) fun _ hg => hg.1)
   have c44 : z.w.cell? ⟨g4, 4, none⟩ = some u.k := (b4z.cell 4).trans rfl
   have f4 := b4z.frozen
   have l4 := b4z.lt
   have hzs := z.h.size
   obtain ⟨V0, hV0⟩ : ∃ Z, Z = z.w := ⟨_, rfl⟩
   rw [← hV0] at ol b4z b1z b2z hBz hPz c44 f4 l4 hzs ⊢
   have HOL := Lib.hid ol
   have HNE := Lib.hid hne
   have HPV := Lib.hid hPz
   have HB4z := Lib.hid b4z
   clear hF o11 k1 k4 hV0 z ol hne hPz b4z b4Z b1Z b2Z hBZ
   try simp only [PutS]
   go_upto_region 10 with (fail)
   refine set1 (M := fun W => Code.wp _ _ _ _ W) HB4z.out fun V1 hV1 bV1 => ?_
   have b4a : Blk V1 g4 75 (epc { u with p := .slice A43 e.pts.length c43', k := .slice A6 K1 cap6 }).toArray := bV1
   have b1a := hV1.blk b1z (by omega)
   have b2a := hV1.blk b2z (by omega)
   have hBa := J2 hBz hV1 (by omega)
   have hVs := hV1.size
   have oa := Jt HOL.out hV1 HNE.out
   have hbw := HW.out.1
   have hPa := HPV.out.le (Bse.le_ok (c := ⟨V1, fun g => InB bs g ∨ N1 ≤ g⟩) ((Bse.ok_self ⟨V0, fun g => InB bs g ∨ N1 ≤ g⟩).put hV1 fun hh => notIn (b := bs) (by omega) hg4N hh.1) fun _ hg => hg.1)
   have c41 : V1.cell? ⟨g4, 1, none⟩ = some (.int .i64 (cn : Int)) := by rw [← HCU.out]; exact (b4a.cell 1).trans rfl
   have f4a := b4a.frozen
   have l4a := b4a.lt
   have HOA := Lib.hid oa
   have HPA := Lib.hid hPa
   have HB4a := Lib.hid b4a
   clear c44 f4 l4 hV1 bV1 b1z b2z hBz oa hPa b4a
   go_upto_region 11 with (fail)
   refine set1 (M := fun W => Code.wp _ _ _ _ W) HB4a.out fun V2 hV2 bV2 => ?_
   have b4Y : Blk V2 g4 75 (epc { u with count := cn + 1, p := .slice A43 e.pts.length c43', k := .slice A6 K1 cap6 }).toArray := bV2
   have b1w := hV2.blk b1a (by omega)
   have b2w := hV2.blk b2a (by omega)
   have hBw := J2 hBa hV2 (by omega)
   have hV2s := hV2.size
   have ob := Jt HOA.out hV2 HNE.out
   have hPb := HPA.out.le (Bse.le_ok (c := ⟨V2, fun g => InB bs g ∨ N1 ≤ g⟩) ((Bse.ok_self ⟨V1, fun g => InB bs g ∨ N1 ≤ g⟩).put hV2 fun hh => notIn (b := bs) (by omega) hg4N hh.1) fun _ hg => hg.1)
   obtain ⟨bs', hbs'⟩ : ∃ b : Bse, b = ⟨V2, fun g => InB bs g ∨ N1 ≤ g⟩ := ⟨_, rfl⟩
   obtain ⟨e', he'⟩ : ∃ e' : Ep, e' = { e with pts := e.pts.map (addP cn r.amts), peaks := pushN pairD (tz1 cn) e.peaks (leafD r.enc), count := cn + 1 } := ⟨_, rfl⟩
   have hpl : (pushN pairD (tz1 cn) e.peaks (leafD r.enc)).length = K1 := by rw [Jd2 _ _ _ HT.out, HK1.out]
   have hin' : EpIB bs' { u with count := cn + 1, p := .slice A43 e.pts.length c43', k := .slice A6 K1 cap6 } e' := by
    rw [he', hbs']
    refine ⟨⟨HIN.out.1.1, rfl, HIN.out.1.2.2⟩, hPb, fun X hX => ⟨?_, Jek _ _ _ HT.out HPK.out.2 (J2d _)⟩⟩
    have h1 := J7q (S := fun g => InB bs g ∨ N1 ≤ g) ob (by have := HK1.out; omega) (fun g hg => .inr (Jk ob hg).1) X hX
    show RdA 32 X (.slice A6 K1 cap6) (pushN pairD (tz1 cn) e.peaks (leafD r.enc)).length _
    rw [hpl, ← HPKK.out]
    exact h1
   have c33 := J11 b1w hsl
   rw [HNL.out] at c33
   rw [← he'] at HC
   have hN1x : N1 ≤ V2.heap.size := by omega
   clear c41 f4a l4a hV2 bV2 b1a b2a hBa he' ob hPb hpl
   refine wp_region_lit ?_
   have hEb : EpsB bs' (.slice (some ⟨g, off, none⟩) m.eps.length cap) m.eps := HE.out.le (Bse.le_ok (c := bs') (by rw [hbs']; exact HW.out.below hBw) fun g hg => by rw [hbs']; exact .inl hg)
   refine wpSk rfl (J1 (cs := mtc m (.slice (some ⟨g, off, none⟩) m.eps.length cap)) J9 rfl (by rw [J5, J0 _ _ hsl]) rfl rfl (J4 b1w)) fun v57 w57 hh => ?_
   obtain ⟨rfl, rfl⟩ := hh
   try simp only [PutS]
   iterate 4 (refine wpList_plain rfl fun K hK => ?_; go_big_op; refine hK _ _ ?_; clear hK K)
   refine wpSk rfl (J1 (cs := epc { u with count := cn + 1, p := .slice A43 e.pts.length c43', k := .slice A6 K1 cap6 }) J1o rfl J1b rfl rfl (J4 b4Y)) fun v62 w62 hh => ?_
   obtain ⟨rfl, rfl⟩ := hh
   try simp only [PutS]
   refine wpSk rfl (Jm (R := fun v W2 => ∃ vE', v = mtV (repM m n e') vE' ∧ EpsB (bs'.new w62 W2) vE' (repE m.eps n e') ∧ Below w62.heap.size w62 W2) J19 ((rRepl26 m HN.out _ n (by have := HLL.out; omega) { u with count := cn + 1, p := .slice A43 e.pts.length c43', k := .slice A6 K1 cap6 } e' bs' w62 (by rw [hbs']; exact Bse.ok_self _) hEb hin').mono fun r W2 ⟨vE', h1, h2⟩ => ⟨_, h1, vE', rfl, h2⟩) rfl rfl) fun v63 w63 hh => ?_
   obtain ⟨vE', rfl, hE', B63⟩ := hh
   try simp only [PutS]
   obtain ⟨AE, cE, hvE⟩ := hE'.len
   have b2y := b2w.keep B63
   have hBy := hBw.trans (B63.mono hBw.size)
   have hlb := b2w.lt
   refine J6 rfl 35 (.tmp 4) (.tmp 63) rfl rfl (cells := mtc (repM m n e') vE') rfl b2y (by rw [hcs0, J0 (repM m n e') _ hsl]; exact Nat.le_refl _) (by rw [J5, J0 (repM m n e') _ hsl]) (Ji _ _ (by rw [hvE]; rfl)) (Ja _ _ (by rw [hcs0, J0 (repM m n e') _ hsl])) fun V hV bV => ?_
   rw [hbs'] at hE'
   have hEV : EpsB (bs.new w V) vE' (repE m.eps n e') := J96 hE' hV HW.out (by omega) (by omega) (by omega)
   have hBV := J2 hBy hV (by omega)
   clear b1w b4Y b2y hV B63 hE' hBy hlb b2w hBw c33 hEb
   try simp only [PutS]
   go_wp2_with fail
   refine bodyPost_ret (v := .tuple #[.agg (mtc (repM m n e') vE').toArray, .int .i64 0]) (res_mt (g1 := w.heap.size + 1 + 1) rfl rfl rfl J9 rfl (by rw [J5, J0 (repM m n e') _ hsl]) bV) rfl ?_
   rw [HC.out, ← J89 HLL.out]
   exact ⟨_, rfl, hEV, hBV⟩
end
end Go.Proofs.YtoiampgfnidfdaaGreatDoor
