/-
  The reference's Left, by contract.
-/
import Derived.Test.YtoiampgfnidfdaaGreatDoorPs26
import Derived.Test.YtoiampgfnidfdaaGreatDoorOp26
import Derived.Test.YtoiampgfnidfdaaGreatDoorBs26
import Derived.Test.YtoiampgfnidfdaaGreatDoorRc26
set_option maxRecDepth 100000
set_option maxHeartbeats 8000000
namespace Go.Proofs.YtoiampgfnidfdaaGreatDoor
open Go.RowKit
section
open Go.RowKit

theorem J2a : En Tryz.prog 17 := enters_of Tryz.func17 (by kernel_rfl) rfl
theorem Jik (a b c d e : Int) : Tryz.prog.built 107 [(0, .int .i64 a), (1, .int .i64 b), (2, .int .i64 c), (3, .int .i64 d), (4, .int .i64 e)] = some #[.int .i64 a, .int .i64 b, .int .i64 c, .int .i64 d, .int .i64 e] := by kernel_rfl
theorem Jb1 {o : Oper} {w : World} {f : Act} {x0 x1 x2 x3 x4 : Operand} (a b c d e : Int) (ho : o.op = .build 107 #[(0, x0), (1, x1), (2, x2), (3, x3), (4, x4)]) (h0 : f.eval x0 = .int .i64 a) (h1 : f.eval x1 = .int .i64 b) (h2 : f.eval x2 = .int .i64 c) (h3 : f.eval x3 = .int .i64 d) (h4 : f.eval x4 = .int .i64 e) : stepAt Tryz.prog o f w fun v w' => v = .agg #[.int .i64 a, .int .i64 b, .int .i64 c, .int .i64 d, .int .i64 e] ∧ w' = w := by
 have hr := run_build (P := Tryz.prog) w 107 #[(0, .int .i64 a), (1, .int .i64 b), (2, .int .i64 c), (3, .int .i64 d), (4, .int .i64 e)] _ (Jik a b c d e)
 unfold stepAt execOp
 simp only [ho, Sem.run_bind, List.map_toArray, List.map_cons, List.map_nil, h0, h1, h2, h3, h4, hr, Result.andThen_ok]
 exact ⟨rfl, rfl⟩
theorem J96 {bs : Bse} {w W1 w1 W2 V : World} {N1 g2 : Nat} {v : Value} {es : List Ep} (h : EpsB ((Bse.mk W1 fun g => InB bs g ∨ N1 ≤ g).new w1 W2) v es) (hp : Put W2 V g2) (hw : bs.ok w) (h1 : w.heap.size ≤ g2) (h2 : g2 < N1) (h3 : N1 ≤ w1.heap.size) : EpsB (bs.new w V) v es :=
 h.le (Bse.le_of (by show W2.heap.size ≤ V.heap.size; rw [hp.size]; exact Nat.le_refl _) fun g hg => by
  have hne : g ≠ g2 := by
   rcases hg.1 with h | h
   ·
    rcases h.1 with h | h
    · have := h.2; have := hw.1; omega
    · omega
   · omega
  refine ⟨?_, hp.other g hne⟩
  rcases hg.1 with h | h
  · exact h.1.imp id fun h => by omega
  · exact .inr (by omega))
attribute [local irreducible] wpRg keyD sha leafD pairD
theorem rRetr26 (m : Mt) (hN : MtN m) (h5 : PtsN5 m) (i : Int) (hi : -9223372036854775808 ≤ i ∧ i ≤ 9223372036854775807) (r : Rdg) (hr : RdgIn r) (vE : Value) (bs : Bse) (w : World) (hw : bs.ok w) (hE : EpsB bs vE m.eps) : Calls Tryz.prog 17 #[mtV m vE, .int .i64 i, rdV r] w (MRes bs (retractM m i r) w) := by
 have HW := Lib.hid hw
 have HR := Lib.hid hr
 have H5 := Lib.hid h5
 obtain ⟨Sr, hSr⟩ : ∃ S, S = rdV r := ⟨_, rfl⟩
 rw [← hSr]
 clear hw
 obtain ⟨S, hS⟩ : ∃ S, S = mtV m vE := ⟨_, rfl⟩
 rw [← hS]
 have HN := Lib.hid hN
 have HE := Lib.hid hE
 obtain ⟨A, cap, rfl⟩ := hE.len
 have hml := hN.eps
 clear hN hE
 clear hr h5
 go_enter Tryz.func17, Tryz.ntmps17
 go_upto_region 1 with (fail)
 refine J26 fun W hB hz b1 b3 b2 => ?_
 have b1' : Blk W w.heap.size 35 (mtc m (.slice A m.eps.length cap)).toArray := by first | exact b1 | (rw [hS] at b1; exact b1)
 have b3' : Blk W (w.heap.size + 1) 28 (rdc r).toArray := by first | exact b3 | (rw [hSr] at b3; exact b3)
 obtain ⟨cs0, hcs0, b2'⟩ : ∃ cs : Array Value, cs.size = 34 ∧ Blk W (w.heap.size + 1 + 1) 35 cs := ⟨_, rfl, b2⟩
 have hsl := HN.out.seed.1
 clear b1 b2 b3 hz hS hSr
 refine wp_region_lit ?_
 refine wpSk rfl (J1 (cs := rdc r) J1c rfl J1f rfl rfl (J4 b3')) fun v9 w9 hh => ?_
 obtain ⟨rfl, rfl⟩ := hh
 try simp only [PutS]
 refine wpSk rfl (J7 J2f (rValid12 r HR.out w9) rfl rfl) fun v10 w10 hh => ?_
 obtain ⟨rfl, B10⟩ := hh
 try simp only [PutS]
 have b1w := b1'.keep B10
 have b2w := b2'.keep B10
 have hBw := hB.trans (B10.mono hB.size)
 obtain ⟨bo, hbo⟩ : ∃ b, b = decide r.ok := ⟨_, rfl⟩
 rw [← hbo]
 clear B10 b1' b2' b3' hB
 try simp only [PutS]
 cases bo with
 | false =>
  have HC := Lib.hid (show retractM m i r = (m, 1) by unfold retractM; rw [if_pos (of_decide_eq_false hbo.symm)])
  clear hbo
  go_upto_region 2 with (fail)
  refine wp_region_lit ?_
  refine wpSk rfl (J1 (cs := mtc m (.slice (A) m.eps.length cap)) J9 rfl (by rw [J5, J0 _ _ hsl]) rfl rfl (J4 b1w)) fun v12 w12 hh => ?_
  obtain ⟨rfl, rfl⟩ := hh
  try simp only [PutS]
  refine J6 rfl 35 (.tmp 6) (.tmp 12) rfl rfl (cells := mtc m (.slice (A) m.eps.length cap)) rfl b2w (by rw [hcs0, J0 (m) _ hsl]; exact Nat.le_refl _) (by rw [J5, J0 (m) _ hsl]) (Ji _ _ rfl) (Ja _ _ (by rw [hcs0, J0 (m) _ hsl])) fun X hX bX => ?_
  have hBX := J2 hBw hX (by omega)
  clear b1w b2w hX
  try simp only [PutS]
  go_wp2_with fail
  refine bodyPost_ret (v := .tuple #[.agg (mtc m (.slice (A) m.eps.length cap)).toArray, .int .i64 1]) (res_mt (g1 := w.heap.size + 1 + 1) rfl rfl rfl J9 rfl (by rw [J5, J0 _ _ hsl]) bX) rfl ?_
  rw [HC.out]
  exact ⟨_, rfl, HE.out.le (Bse.le_new (HW.out.below hBX)), hBX⟩
 | true =>
  have hok1 : r.ok := of_decide_eq_true hbo.symm
  have hok : ¬ ¬ r.ok := fun h => h hok1
  clear hbo
  go_upto_region 3 with (fail)
  refine wp_region_lit ?_
  refine wpSk rfl (J1 (cs := mtc m (.slice A m.eps.length cap)) J9 rfl (by rw [J5, J0 _ _ hsl]) rfl rfl (J4 b1w)) fun v13 w13 hh => ?_
  obtain ⟨rfl, rfl⟩ := hh
  try simp only [PutS]
  refine wpSk rfl (J7 J1u (rOpn26 m HN.out (.slice A m.eps.length cap) w13 (HE.out.old (HW.out.below hBw))) rfl rfl) fun v14 w14 hh => ?_
  obtain ⟨rfl, B14⟩ := hh
  try simp only [PutS]
  replace b1w := b1w.keep B14
  replace b2w := b2w.keep B14
  replace hBw := hBw.trans (B14.mono hBw.size)
  clear B14
  try simp only [PutS]
  cases ho : m.isOpen with
  | false =>
   have HC := Lib.hid (show retractM m i r = (m, 260) by unfold retractM; rw [if_neg hok, if_pos ho])
   clear ho hok hok1
   go_upto_region 4 with (fail)
   refine wp_region_lit ?_
   refine wpSk rfl (J1 (cs := mtc m (.slice (A) m.eps.length cap)) J9 rfl (by rw [J5, J0 _ _ hsl]) rfl rfl (J4 b1w)) fun v16 w16 hh => ?_
   obtain ⟨rfl, rfl⟩ := hh
   try simp only [PutS]
   refine J6 rfl 35 (.tmp 6) (.tmp 16) rfl rfl (cells := mtc m (.slice (A) m.eps.length cap)) rfl b2w (by rw [hcs0, J0 (m) _ hsl]; exact Nat.le_refl _) (by rw [J5, J0 (m) _ hsl]) (Ji _ _ rfl) (Ja _ _ (by rw [hcs0, J0 (m) _ hsl])) fun X hX bX => ?_
   have hBX := J2 hBw hX (by omega)
   clear b1w b2w hX
   try simp only [PutS]
   go_wp2_with fail
   refine bodyPost_ret (v := .tuple #[.agg (mtc m (.slice (A) m.eps.length cap)).toArray, .int .i64 260]) (res_mt (g1 := w.heap.size + 1 + 1) rfl rfl rfl J9 rfl (by rw [J5, J0 _ _ hsl]) bX) rfl ?_
   rw [HC.out]
   exact ⟨_, rfl, HE.out.le (Bse.le_new (HW.out.below hBX)), hBX⟩
  | true =>
   have hop : ¬ m.isOpen = false := by rw [ho]; decide
   have HRT := Lib.hid (show retractM m i r = if i < 0 ∨ i ≥ (m.at m.last).count then (m, 4) else (m.put m.last { m.at m.last with pts := (m.at m.last).pts.map (addP i.toNat [0, 0, 0, 0, -1]) }, 0) by unfold retractM; rw [if_neg hok, if_neg hop])
   clear hok hop
   obtain ⟨h0, hcl⟩ := J36 ho
   have hll : m.last < m.eps.length := by unfold Mt.last; omega
   have hnl : m.eps.length = m.last + 1 := by unfold Mt.last; omega
   generalize m.last = n at *
   obtain ⟨us, u, e, hul, hu, he, hin, hrd⟩ := HE.out.at_ hll
   obtain ⟨g, off, cap', hv, hcp, hg, hcs⟩ := RdA.at J16 (hrd w14 (HW.out.below hBw)) hu
   rw [hul] at hv hcp
   cases hv
   have hrg : (w14).rangeAt g (off + n * 5) (epc u) := fun j x hj => by rw [Nat.add_assoc]; exact hcs j x hj
   have hat : m.at n = e := by have := at_get m n hll; rw [he] at this; exact (Option.some.inj this).symm
   have c33 := J11 b1w hsl
   have l1 := b1w.lt
   rw [hnl] at c33 hcp
   have hn1 : n ≤ 1000 := by omega
   have hw1 : wrap64 ((n : Int) + 1 - 1) = (n : Int) := by unfold wrap64; omega
   have hone := (hin.old HW.out).one
   obtain ⟨iE, hiE, iE0, iE1, iE2⟩ := info_parts J49
   have hN2 := HN.out.ep n e he
   have HIN := Lib.hid hin
   have HNL := Lib.hid hnl
   have HAT := Lib.hid hat
   have HLL := Lib.hid hll
   have HEE := Lib.hid he
   clear ho hcl h0 hul hu he hin hrd hcs hnl hat hll
   try simp only [PutS]
   go_upto_region 5 with (fail)
   refine wp_region_lit ?_
   iterate 7 (refine wpList_plain rfl fun K hK => ?_; go_big_op; refine hK _ _ ?_; clear hK K)
   refine wpSk rfl (J1 (cs := epc u) J1o rfl J1b rfl rfl hrg) fun v24 w24 hh => ?_
   obtain ⟨rfl, rfl⟩ := hh
   try simp only [PutS]
   refine wpSk rfl (J4u hiE iE0 rfl) fun v8 w8 hh => ?_
   obtain ⟨g4, rfl, hg4, b4, B4⟩ := hh
   try simp only [PutS]
   have b4 : Blk w8 g4 75 #[.int .i64 0, .int .i64 0, .bool false, .slice none 0 0, .slice none 0 0] := b4
   refine J6 rfl 75 (.tmp 8) (.tmp 24) rfl rfl (cells := epc u) rfl b4 (by rw [J16]; exact Nat.le_refl _) J1b (List.all_eq_true.2 hone) rfl fun Y hY bY => ?_
   have BY : Below w24.heap.size w24 Y := J2 (by rw [hg4]; exact B4) hY (by omega)
   have b4Y : Blk Y g4 75 (epc u).toArray := bY
   have hgl := b2w.lt
   have hcu : u.count = e.count := HIN.out.1.2.1
   have hlu : u.log = e.log := HIN.out.1.1
   have c40 : Y.cell? ⟨g4, 0, none⟩ = some (.int .i64 (e.log : Int)) := by rw [← hlu]; exact (b4Y.cell 0).trans rfl
   have c41 : Y.cell? ⟨g4, 1, none⟩ = some (.int .i64 (e.count : Int)) := by rw [← hcu]; exact (b4Y.cell 1).trans rfl
   have c43 : Y.cell? ⟨g4, 3, none⟩ = some u.p := (b4Y.cell 3).trans rfl
   have l4 := b4Y.lt
   replace b1w := b1w.keep BY
   replace b2w := b2w.keep BY
   replace hBw := hBw.trans (BY.mono hBw.size)
   have hg4w : w.heap.size + 1 + 1 < g4 := by omega
   clear b4 B4 hY bY hrg c33 l1 hg hcu hlu
   try simp only [PutS]
   have hrt := HRT.out
   rw [HAT.out] at hrt
   by_cases hneg : i < 0
   ·
    have HC := Lib.hid (show retractM m i r = (m, 4) by rw [hrt, if_pos (.inl hneg)])
    clear hrt c40 b4Y BY
    go_upto_region 7 with (fail)
    refine wp_region_lit ?_
    refine wpSk rfl (J1 (cs := mtc m (.slice (some ⟨g, off, none⟩) m.eps.length cap)) J9 rfl (by rw [J5, J0 _ _ hsl]) rfl rfl (J4 b1w)) fun v33 w33 hh => ?_
    obtain ⟨rfl, rfl⟩ := hh
    try simp only [PutS]
    refine J6 rfl 35 (.tmp 6) (.tmp 33) rfl rfl (cells := mtc m (.slice (some ⟨g, off, none⟩) m.eps.length cap)) rfl b2w (by rw [hcs0, J0 (m) _ hsl]; exact Nat.le_refl _) (by rw [J5, J0 (m) _ hsl]) (Ji _ _ rfl) (Ja _ _ (by rw [hcs0, J0 (m) _ hsl])) fun X hX bX => ?_
    have hBX := J2 hBw hX (by omega)
    clear b1w b2w hX
    try simp only [PutS]
    go_wp2_with fail
    refine bodyPost_ret (v := .tuple #[.agg (mtc m (.slice (some ⟨g, off, none⟩) m.eps.length cap)).toArray, .int .i64 4]) (res_mt (g1 := w.heap.size + 1 + 1) rfl rfl rfl J9 rfl (by rw [J5, J0 _ _ hsl]) bX) rfl ?_
    rw [HC.out]
    exact ⟨_, rfl, HE.out.le (Bse.le_new (HW.out.below hBX)), hBX⟩
   obtain ⟨k, rfl⟩ : ∃ k : Nat, i = (k : Int) := ⟨i.toNat, by omega⟩
   clear hneg
   by_cases hge : (k : Int) ≥ e.count
   ·
    have HC := Lib.hid (show retractM m (k : Int) r = (m, 4) by rw [hrt, if_pos (.inr hge)])
    clear hrt c40 b4Y BY
    go_upto_region 7 with (fail)
    refine wp_region_lit ?_
    refine wpSk rfl (J1 (cs := mtc m (.slice (some ⟨g, off, none⟩) m.eps.length cap)) J9 rfl (by rw [J5, J0 _ _ hsl]) rfl rfl (J4 b1w)) fun v33 w33 hh => ?_
    obtain ⟨rfl, rfl⟩ := hh
    try simp only [PutS]
    refine J6 rfl 35 (.tmp 6) (.tmp 33) rfl rfl (cells := mtc m (.slice (some ⟨g, off, none⟩) m.eps.length cap)) rfl b2w (by rw [hcs0, J0 (m) _ hsl]; exact Nat.le_refl _) (by rw [J5, J0 (m) _ hsl]) (Ji _ _ rfl) (Ja _ _ (by rw [hcs0, J0 (m) _ hsl])) fun X hX bX => ?_
    have hBX := J2 hBw hX (by omega)
    clear b1w b2w hX
    try simp only [PutS]
    go_wp2_with fail
    refine bodyPost_ret (v := .tuple #[.agg (mtc m (.slice (some ⟨g, off, none⟩) m.eps.length cap)).toArray, .int .i64 4]) (res_mt (g1 := w.heap.size + 1 + 1) rfl rfl rfl J9 rfl (by rw [J5, J0 _ _ hsl]) bX) rfl ?_
    rw [HC.out]
    exact ⟨_, rfl, HE.out.le (Bse.le_new (HW.out.below hBX)), hBX⟩
   have hkc : k < e.count := by omega
   have HC := Lib.hid (show retractM m (k : Int) r = (m.put n { e with pts := e.pts.map (addP k [0, 0, 0, 0, -1]) }, 0) by rw [hrt, if_neg (by omega), Int.toNat_natCast])
   obtain ⟨hq1, hq2, hq3, hq4⟩ := hN2
   have hps5 : ∀ p ∈ e.pts, p.V.length = 5 ∧ p.R.length ≤ 60 := fun p hp => by
    have := H5.out e (List.mem_of_getElem? HEE.out) p hp
    exact ⟨this.2, this.1⟩
   have HP5 := Lib.hid hps5
   clear hrt c40 hps5 hge
   go_upto_region 8 with (fail)
   refine wp_region_lit ?_
   iterate 3 (refine wpList_plain rfl fun K hK => ?_; go_big_op; refine hK _ _ ?_; clear hK K)
   refine wpSk rfl (Jb1 0 0 0 0 (-1) rfl rfl rfl rfl rfl rfl) fun v37 w37 hh => ?_
   obtain ⟨rfl, rfl⟩ := hh
   try simp only [PutS]
   have hAd := rAdded26 e.pts hq1 k (by omega) 0 0 0 0 (-1) (by intro a ha; simp only [List.mem_cons, List.not_mem_nil, or_false] at ha; omega) HP5.out u.p bs w37 (HW.out.below hBw) HIN.out.2.1
   refine wpSk rfl (Jm (R := fun v W2 => PtsB (bs.new w37 W2) v (e.pts.map (addP k [0, 0, 0, 0, -1])) ∧ Below w37.heap.size w37 W2) J3h (hAd.mono fun r W2 ⟨v, h1, h2, h3⟩ => ⟨v, h1, h2, h3⟩) rfl rfl) fun v38 w38 hh => ?_
   obtain ⟨hP, B38⟩ := hh
   try simp only [PutS]
   obtain ⟨A38, c38, rfl⟩ := (hP.old (Bse.ok_self _)).len
   rw [List.length_map] at hP ⊢
   have b4x := b4Y.keep B38
   have b1x := b1w.keep B38
   have b2x := b2w.keep B38
   have hBx := hBw.trans (B38.mono hBw.size)
   have c43x : w38.cell? ⟨g4, 3, none⟩ = some u.p := (b4x.cell 3).trans rfl
   have f4 := b4x.frozen
   have l4x := b4x.lt
   have hs38 := B38.size
   have HPP := Lib.hid hP
   obtain ⟨N1, hN1⟩ : ∃ N, N = w37.heap.size := ⟨_, rfl⟩
   have HN1 := Lib.hid hN1
   have hg4N : g4 < N1 := by omega
   have hN1x : N1 ≤ w38.heap.size := by omega
   clear b4Y b1w b2w hBw c41 c43 l4 BY B38 hAd hP hN1 hs38
   try simp only [PutS]
   go_upto_region 9 with (fail)
   refine set1 (M := fun W => Code.wp _ _ _ _ W) b4x fun Z hZ bZ => ?_
   have b4Y : Blk Z g4 75 (epc { u with p := .slice A38 e.pts.length c38 }).toArray := bZ
   have b1w := hZ.blk b1x (by omega)
   have b2w := hZ.blk b2x (by omega)
   have hBw := J2 hBx hZ (by omega)
   have hZs := hZ.size
   obtain ⟨bs', hbs'⟩ : ∃ b : Bse, b = ⟨Z, fun g => InB bs g ∨ N1 ≤ g⟩ := ⟨_, rfl⟩
   obtain ⟨e', he'⟩ : ∃ e' : Ep, e' = { e with pts := e.pts.map (addP k [0, 0, 0, 0, -1]) } := ⟨_, rfl⟩
   have hbw := HW.out.1
   have hin' : EpIB bs' { u with p := .slice A38 e.pts.length c38 } e' := by
    rw [he', hbs']
    refine ⟨HIN.out.1, ?_, HIN.out.2.2.le (Bse.le_ok (c := ⟨Z, fun g => InB bs g ∨ N1 ≤ g⟩) (HW.out.below hBw) fun g hg => .inl hg)⟩
    have h1 := HPP.out
    unfold Bse.new at h1
    rw [← HN1.out] at h1
    exact h1.le (Bse.le_ok (c := ⟨Z, fun g => InB bs g ∨ N1 ≤ g⟩) ((Bse.ok_self ⟨w38, fun g => InB bs g ∨ N1 ≤ g⟩).put hZ fun hh => notIn (b := bs) (by omega) hg4N hh.1) fun _ hg => hg.1)
   have c33 := J11 b1w hsl
   rw [HNL.out] at c33
   rw [← he'] at HC
   clear c43x f4 l4x b4x hZ bZ b1x b2x hBx he'
   refine wp_region_lit ?_
   have hEb : EpsB bs' (.slice (some ⟨g, off, none⟩) m.eps.length cap) m.eps := HE.out.le (Bse.le_ok (c := bs') (by rw [hbs']; exact HW.out.below hBw) fun g hg => by rw [hbs']; exact .inl hg)
   refine wpSk rfl (J1 (cs := mtc m (.slice (some ⟨g, off, none⟩) m.eps.length cap)) J9 rfl (by rw [J5, J0 _ _ hsl]) rfl rfl (J4 b1w)) fun v40 w40 hh => ?_
   obtain ⟨rfl, rfl⟩ := hh
   try simp only [PutS]
   iterate 4 (refine wpList_plain rfl fun K hK => ?_; go_big_op; refine hK _ _ ?_; clear hK K)
   refine wpSk rfl (J1 (cs := epc { u with p := .slice A38 e.pts.length c38 }) J1o rfl J1b rfl rfl (J4 b4Y)) fun v45 w45 hh => ?_
   obtain ⟨rfl, rfl⟩ := hh
   try simp only [PutS]
   refine wpSk rfl (Jm (R := fun v W2 => ∃ vE', v = mtV (repM m n e') vE' ∧ EpsB (bs'.new w45 W2) vE' (repE m.eps n e') ∧ Below w45.heap.size w45 W2) J19 ((rRepl26 m HN.out _ n (by have := HLL.out; omega) { u with p := .slice A38 e.pts.length c38 } e' bs' w45 (by rw [hbs']; exact Bse.ok_self _) hEb hin').mono fun r W2 ⟨vE', h1, h2⟩ => ⟨_, h1, vE', rfl, h2⟩) rfl rfl) fun v46 w46 hh => ?_
   obtain ⟨vE', rfl, hE', B46⟩ := hh
   try simp only [PutS]
   obtain ⟨AE, cE, hvE⟩ := hE'.len
   have b2y := b2w.keep B46
   have hBy := hBw.trans (B46.mono hBw.size)
   have hlb := b2w.lt
   refine J6 rfl 35 (.tmp 6) (.tmp 46) rfl rfl (cells := mtc (repM m n e') vE') rfl b2y (by rw [hcs0, J0 (repM m n e') _ hsl]; exact Nat.le_refl _) (by rw [J5, J0 (repM m n e') _ hsl]) (Ji _ _ (by rw [hvE]; rfl)) (Ja _ _ (by rw [hcs0, J0 (repM m n e') _ hsl])) fun V hV bV => ?_
   rw [hbs'] at hE'
   have hEV : EpsB (bs.new w V) vE' (repE m.eps n e') := J96 hE' hV HW.out (by omega) (by omega) (by omega)
   have hBV := J2 hBy hV (by omega)
   clear b1w b4Y b2y hV B46 hE' hBy hlb b2w hBw c33 hEb
   try simp only [PutS]
   go_wp2_with fail
   refine bodyPost_ret (v := .tuple #[.agg (mtc (repM m n e') vE').toArray, .int .i64 0]) (res_mt (g1 := w.heap.size + 1 + 1) rfl rfl rfl J9 rfl (by rw [J5, J0 (repM m n e') _ hsl]) bV) rfl ?_
   rw [HC.out, ← J89 HLL.out]
   exact ⟨_, rfl, hEV, hBV⟩
end
section
open Go.RowKit

theorem J3t : En Tryz.prog 11 := enters_of Tryz.func11 (by kernel_rfl) rfl
theorem Jil (x : Int) : Tryz.prog.built 75 [(0, .int .i64 x)] = some #[.int .i64 x, .int .i64 0, .bool false, .slice none 0 0, .slice none 0 0] := by kernel_rfl
theorem Jff {o : Oper} {w : World} {f : Act} {x0 : Operand} (x : Int) (ho : o.op = .build 75 #[(0, x0)]) (h0 : f.eval x0 = .int .i64 x) : stepAt Tryz.prog o f w fun v w' => v = .agg #[.int .i64 x, .int .i64 0, .bool false, .slice none 0 0, .slice none 0 0] ∧ w' = w := by
 have hr := run_build (P := Tryz.prog) w 75 #[(0, .int .i64 x)] _ (Jil x)
 unfold stepAt execOp
 simp only [ho, Sem.run_bind, List.map_toArray, List.map_cons, List.map_nil, h0, hr, Result.andThen_ok]
 exact ⟨rfl, rfl⟩
attribute [local irreducible] wpRg keyD sha leafD pairD
theorem rOpen26 (m : Mt) (hN : MtN m) (h40 : m.eps.length ≤ 40) (log pts : Int) (hlr : -9223372036854775808 ≤ log ∧ log ≤ 9223372036854775807) (hpr : -9223372036854775808 ≤ pts ∧ pts ≤ 9223372036854775807) (vE : Value) (bs : Bse) (w : World) (hw : bs.ok w) (hE : EpsB bs vE m.eps) : Calls Tryz.prog 11 #[mtV m vE, .int .i64 log, .int .i64 pts] w (MRes bs (openM m log pts) w) := by
 have HW := Lib.hid hw
 clear hw
 obtain ⟨S, hS⟩ : ∃ S, S = mtV m vE := ⟨_, rfl⟩
 rw [← hS]
 have HN := Lib.hid hN
 have HE := Lib.hid hE
 obtain ⟨A, cap, rfl⟩ := hE.len
 have hml := hN.eps
 clear hN hE
 go_enter Tryz.func11, Tryz.ntmps11
 go_upto_region 1 with (fail)
 refine J1h fun W hB hz b1 b2 => ?_
 have b1w : Blk W w.heap.size 35 (mtc m (.slice A m.eps.length cap)).toArray := by first | exact b1 | (rw [hS] at b1; exact b1)
 obtain ⟨cs0, hcs0, b2w⟩ : ∃ cs : Array Value, cs.size = 34 ∧ Blk W (w.heap.size + 1) 35 cs := ⟨_, rfl, b2⟩
 have hsl := HN.out.seed.1
 have hBw := hB
 clear b1 b2 hz hS hB
 by_cases h1 : log < 0
 ·
  have HC := Lib.hid (show openM m log pts = (m, 1) by unfold openM; rw [if_pos (.inl h1)])
  go_upto_region 2 with (fail)
  refine wp_region_lit ?_
  refine wpSk rfl (J1 (cs := mtc m (.slice (A) m.eps.length cap)) J9 rfl (by rw [J5, J0 _ _ hsl]) rfl rfl (J4 b1w)) fun v25 w25 hh => ?_
  obtain ⟨rfl, rfl⟩ := hh
  try simp only [PutS]
  refine J6 rfl 35 (.tmp 6) (.tmp 25) rfl rfl (cells := mtc m (.slice (A) m.eps.length cap)) rfl b2w (by rw [hcs0, J0 (m) _ hsl]; exact Nat.le_refl _) (by rw [J5, J0 (m) _ hsl]) (Ji _ _ rfl) (Ja _ _ (by rw [hcs0, J0 (m) _ hsl])) fun X hX bX => ?_
  have hBX := J2 hBw hX (by omega)
  clear b1w b2w hX
  try simp only [PutS]
  go_wp2_with fail
  refine bodyPost_ret (v := .tuple #[.agg (mtc m (.slice (A) m.eps.length cap)).toArray, .int .i64 1]) (res_mt (g1 := w.heap.size + 1) rfl rfl rfl J9 rfl (by rw [J5, J0 _ _ hsl]) bX) rfl ?_
  rw [HC.out]
  exact ⟨_, rfl, HE.out.le (Bse.le_new (HW.out.below hBX)), hBX⟩
 by_cases h2 : 16 < log
 ·
  have HC := Lib.hid (show openM m log pts = (m, 1) by unfold openM; rw [if_pos (.inr (.inl h2))])
  go_upto_region 2 with (fail)
  refine wp_region_lit ?_
  refine wpSk rfl (J1 (cs := mtc m (.slice (A) m.eps.length cap)) J9 rfl (by rw [J5, J0 _ _ hsl]) rfl rfl (J4 b1w)) fun v25 w25 hh => ?_
  obtain ⟨rfl, rfl⟩ := hh
  try simp only [PutS]
  refine J6 rfl 35 (.tmp 6) (.tmp 25) rfl rfl (cells := mtc m (.slice (A) m.eps.length cap)) rfl b2w (by rw [hcs0, J0 (m) _ hsl]; exact Nat.le_refl _) (by rw [J5, J0 (m) _ hsl]) (Ji _ _ rfl) (Ja _ _ (by rw [hcs0, J0 (m) _ hsl])) fun X hX bX => ?_
  have hBX := J2 hBw hX (by omega)
  clear b1w b2w hX
  try simp only [PutS]
  go_wp2_with fail
  refine bodyPost_ret (v := .tuple #[.agg (mtc m (.slice (A) m.eps.length cap)).toArray, .int .i64 1]) (res_mt (g1 := w.heap.size + 1) rfl rfl rfl J9 rfl (by rw [J5, J0 _ _ hsl]) bX) rfl ?_
  rw [HC.out]
  exact ⟨_, rfl, HE.out.le (Bse.le_new (HW.out.below hBX)), hBX⟩
 by_cases h3 : pts < 1
 ·
  have HC := Lib.hid (show openM m log pts = (m, 1) by unfold openM; rw [if_pos (.inr (.inr (.inl h3)))])
  go_upto_region 2 with (fail)
  refine wp_region_lit ?_
  refine wpSk rfl (J1 (cs := mtc m (.slice (A) m.eps.length cap)) J9 rfl (by rw [J5, J0 _ _ hsl]) rfl rfl (J4 b1w)) fun v25 w25 hh => ?_
  obtain ⟨rfl, rfl⟩ := hh
  try simp only [PutS]
  refine J6 rfl 35 (.tmp 6) (.tmp 25) rfl rfl (cells := mtc m (.slice (A) m.eps.length cap)) rfl b2w (by rw [hcs0, J0 (m) _ hsl]; exact Nat.le_refl _) (by rw [J5, J0 (m) _ hsl]) (Ji _ _ rfl) (Ja _ _ (by rw [hcs0, J0 (m) _ hsl])) fun X hX bX => ?_
  have hBX := J2 hBw hX (by omega)
  clear b1w b2w hX
  try simp only [PutS]
  go_wp2_with fail
  refine bodyPost_ret (v := .tuple #[.agg (mtc m (.slice (A) m.eps.length cap)).toArray, .int .i64 1]) (res_mt (g1 := w.heap.size + 1) rfl rfl rfl J9 rfl (by rw [J5, J0 _ _ hsl]) bX) rfl ?_
  rw [HC.out]
  exact ⟨_, rfl, HE.out.le (Bse.le_new (HW.out.below hBX)), hBX⟩
 by_cases h4 : 16 < pts
 ·
  have HC := Lib.hid (show openM m log pts = (m, 1) by unfold openM; rw [if_pos (.inr (.inr (.inr h4)))])
  go_upto_region 2 with (fail)
  refine wp_region_lit ?_
  refine wpSk rfl (J1 (cs := mtc m (.slice (A) m.eps.length cap)) J9 rfl (by rw [J5, J0 _ _ hsl]) rfl rfl (J4 b1w)) fun v25 w25 hh => ?_
  obtain ⟨rfl, rfl⟩ := hh
  try simp only [PutS]
  refine J6 rfl 35 (.tmp 6) (.tmp 25) rfl rfl (cells := mtc m (.slice (A) m.eps.length cap)) rfl b2w (by rw [hcs0, J0 (m) _ hsl]; exact Nat.le_refl _) (by rw [J5, J0 (m) _ hsl]) (Ji _ _ rfl) (Ja _ _ (by rw [hcs0, J0 (m) _ hsl])) fun X hX bX => ?_
  have hBX := J2 hBw hX (by omega)
  clear b1w b2w hX
  try simp only [PutS]
  go_wp2_with fail
  refine bodyPost_ret (v := .tuple #[.agg (mtc m (.slice (A) m.eps.length cap)).toArray, .int .i64 1]) (res_mt (g1 := w.heap.size + 1) rfl rfl rfl J9 rfl (by rw [J5, J0 _ _ hsl]) bX) rfl ?_
  rw [HC.out]
  exact ⟨_, rfl, HE.out.le (Bse.le_new (HW.out.below hBX)), hBX⟩
 have hno : ¬ (log < 0 ∨ log > 16 ∨ pts < 1 ∨ pts > 16) := by omega
 obtain ⟨lg, rfl⟩ : ∃ k : Nat, log = (k : Int) := ⟨log.toNat, by omega⟩
 obtain ⟨pn, rfl⟩ : ∃ k : Nat, pts = (k : Int) := ⟨pts.toNat, by omega⟩
 go_upto_region 3 with (fail)
 refine wp_region_lit ?_
 refine wpSk rfl (J1 (cs := mtc m (.slice A m.eps.length cap)) J9 rfl (by rw [J5, J0 _ _ hsl]) rfl rfl (J4 b1w)) fun v26 w26 hh => ?_
 obtain ⟨rfl, rfl⟩ := hh
 try simp only [PutS]
 refine wpSk rfl (J7 J1u (rOpn26 m HN.out (.slice A m.eps.length cap) w26 (HE.out.old (HW.out.below hBw))) rfl rfl) fun v27 w27 hh => ?_
 obtain ⟨rfl, B27⟩ := hh
 try simp only [PutS]
 replace b1w := b1w.keep B27
 replace b2w := b2w.keep B27
 replace hBw := hBw.trans (B27.mono hBw.size)
 clear B27
 try simp only [PutS]
 cases ho : m.isOpen with
 | true =>
  have HC := Lib.hid (show openM m (lg : Int) (pn : Int) = (m, 260) by unfold openM; rw [if_neg hno, if_pos ho])
  clear ho hno
  go_upto_region 4 with (fail)
  refine wp_region_lit ?_
  refine wpSk rfl (J1 (cs := mtc m (.slice (A) m.eps.length cap)) J9 rfl (by rw [J5, J0 _ _ hsl]) rfl rfl (J4 b1w)) fun v28 w28 hh => ?_
  obtain ⟨rfl, rfl⟩ := hh
  try simp only [PutS]
  refine J6 rfl 35 (.tmp 6) (.tmp 28) rfl rfl (cells := mtc m (.slice (A) m.eps.length cap)) rfl b2w (by rw [hcs0, J0 (m) _ hsl]; exact Nat.le_refl _) (by rw [J5, J0 (m) _ hsl]) (Ji _ _ rfl) (Ja _ _ (by rw [hcs0, J0 (m) _ hsl])) fun X hX bX => ?_
  have hBX := J2 hBw hX (by omega)
  clear b1w b2w hX
  try simp only [PutS]
  go_wp2_with fail
  refine bodyPost_ret (v := .tuple #[.agg (mtc m (.slice (A) m.eps.length cap)).toArray, .int .i64 260]) (res_mt (g1 := w.heap.size + 1) rfl rfl rfl J9 rfl (by rw [J5, J0 _ _ hsl]) bX) rfl ?_
  rw [HC.out]
  exact ⟨_, rfl, HE.out.le (Bse.le_new (HW.out.below hBX)), hBX⟩
 | false =>
  have hnop : ¬ m.isOpen = true := by rw [ho]; decide
  have c33 := J11 b1w hsl
  have l1 := b1w.lt
  by_cases hbig : m.eps.length = 40
  ·
   have HC := Lib.hid (show openM m (lg : Int) (pn : Int) = (m, 2) by unfold openM; rw [if_neg hno, if_neg hnop, if_pos hbig])
   have h40i : (40 : Int) ≤ (m.eps.length : Int) := by omega
   clear ho hno hnop hbig
   go_upto_region 7 with (fail)
   refine wp_region_lit ?_
   refine wpSk rfl (J1 (cs := mtc m (.slice (A) m.eps.length cap)) J9 rfl (by rw [J5, J0 _ _ hsl]) rfl rfl (J4 b1w)) fun v34 w34 hh => ?_
   obtain ⟨rfl, rfl⟩ := hh
   try simp only [PutS]
   refine J6 rfl 35 (.tmp 6) (.tmp 34) rfl rfl (cells := mtc m (.slice (A) m.eps.length cap)) rfl b2w (by rw [hcs0, J0 (m) _ hsl]; exact Nat.le_refl _) (by rw [J5, J0 (m) _ hsl]) (Ji _ _ rfl) (Ja _ _ (by rw [hcs0, J0 (m) _ hsl])) fun X hX bX => ?_
   have hBX := J2 hBw hX (by omega)
   clear b1w b2w hX
   try simp only [PutS]
   go_wp2_with fail
   refine bodyPost_ret (v := .tuple #[.agg (mtc m (.slice (A) m.eps.length cap)).toArray, .int .i64 2]) (res_mt (g1 := w.heap.size + 1) rfl rfl rfl J9 rfl (by rw [J5, J0 _ _ hsl]) bX) rfl ?_
   rw [HC.out]
   exact ⟨_, rfl, HE.out.le (Bse.le_new (HW.out.below hBX)), hBX⟩
  have HC := Lib.hid (show openM m (lg : Int) (pn : Int) = (⟨m.ver + 1, m.seed, m.eps ++ [⟨lg, 0, false, newPts m.seed m.eps.length lg pn, []⟩]⟩, 0) by unfold openM; rw [if_neg hno, if_neg hnop, if_neg hbig, Int.toNat_natCast, Int.toNat_natCast])
  have h40i : ¬ (40 : Int) ≤ (m.eps.length : Int) := by omega
  clear ho hno hnop hbig
  obtain ⟨iE, hiE, iE0, iE1, iE2⟩ := info_parts J49
  obtain ⟨ip, hip, ip0, ip1, ip2⟩ := info_parts J5w
  go_upto_region 8 with (fail)
  refine wp_region_lit ?_
  refine wpList_plain rfl fun K hK => ?_; go_big_op; refine hK _ _ ?_; clear hK K
  refine wpSk rfl (Jff (lg : Int) rfl rfl) fun v36 w36 hh => ?_
  obtain ⟨rfl, rfl⟩ := hh
  try simp only [PutS]
  refine wpSk rfl (J4u hiE iE0 rfl) fun v9 w9 hh => ?_
  obtain ⟨g9, rfl, hg9, b9, B9⟩ := hh
  try simp only [PutS]
  have b9 : Blk w9 g9 75 #[.int .i64 0, .int .i64 0, .bool false, .slice none 0 0, .slice none 0 0] := b9
  refine J6 rfl 75 (.tmp 9) (.tmp 36) rfl rfl (cells := epc ⟨lg, 0, false, .slice none 0 0, .slice none 0 0⟩) rfl b9 (by rw [J16]; exact Nat.le_refl _) J1b rfl rfl fun Y hY bY => ?_
  have BY : Below w36.heap.size w36 Y := J2 (by rw [hg9]; exact B9) hY (by omega)
  have b9Y : Blk Y g9 75 (epc ⟨lg, 0, false, .slice none 0 0, .slice none 0 0⟩).toArray := bY
  have hgl := b2w.lt
  have l9 := b9Y.lt
  replace b1w := b1w.keep BY
  replace b2w := b2w.keep BY
  replace hBw := hBw.trans (BY.mono hBw.size)
  obtain ⟨N, hN⟩ : ∃ N, N = Y.heap.size := ⟨_, rfl⟩
  have hg9w : w.heap.size + 1 < g9 := by omega
  have hg9N : g9 < N := by omega
  have HB1 := Lib.hid b1w
  have HB2 := Lib.hid b2w
  have HB9 := Lib.hid b9Y
  have HBW := Lib.hid hBw
  have HNY := Lib.hid hN
  obtain ⟨n, hn⟩ : ∃ n, n = m.eps.length := ⟨_, rfl⟩
  have HNN := Lib.hid hn
  rw [← hn] at HC ⊢
  have hn1 : n ≤ 1000 := by omega
  have hNY : N ≤ Y.heap.size := by omega
  clear b9 B9 hY bY BY c33 l1 l9 b1w b2w hBw b9Y hN hn h40i
  try simp only [PutS]
  go_upto_region 10 with (fail)
  go_loopw [10] (fun q wr => ∃ (k : Nat) (v : Value) (ps1 : List PtW), k ≤ pn ∧ q = .int .i64 k ∧ PtsN bs N g9 wr v ps1 (newPts m.seed n lg k) ∧ Blk wr g9 75 (epc ⟨lg, 0, false, v, .slice none 0 0⟩).toArray ∧ Below g9 Y wr) (fun q _ => pn - (intOf q).toNat)
  case atStart => exact ⟨0, .slice none 0 0, [], Nat.zero_le _, rfl, ⟨⟨rfl, .inl ⟨rfl, rfl⟩⟩, fun _ _ => Al.nil⟩, HB9.out, Below.refl _ _⟩
  case round =>
   obtain ⟨k, v, ps1, hk, rfl, hpn, b9, hBr⟩ := hrel
   have hl1 : ps1.length = k := by rw [(hpn.2 wr (Keeps.refl _)).1, Jbs]
   obtain ⟨Av, cv, rfl⟩ := Jy hpn.1
   rw [hl1] at hpn b9
   have hrs := hBr.size
   have hBz := HBW.out.trans (hBr.mono (by omega))
   have b1 := HB1.out.below hBr (by omega)
   have b2 := HB2.out.below hBr (by omega)
   have l1 := b1.lt
   have l9 := b9.lt
   have hNw : N ≤ wr.heap.size := by omega
   have hbw := HW.out.1
   by_cases hkp : k < pn
   rotate_left 1
   ·
    obtain rfl : pn = k := by omega
    obtain ⟨bs', hbs'⟩ : ∃ b : Bse, b = ⟨wr, fun g => InB bs g ∨ N ≤ g⟩ := ⟨_, rfl⟩
    obtain ⟨e', he'⟩ : ∃ e' : Ep, e' = ⟨lg, 0, false, newPts m.seed n lg pn, []⟩ := ⟨_, rfl⟩
    have hlb : bs.le ⟨wr, fun g => InB bs g ∨ N ≤ g⟩ := Bse.le_ok (c := ⟨wr, fun g => InB bs g ∨ N ≤ g⟩) (HW.out.below hBz) fun g hg => .inl hg
    have hin' : EpIB bs' ⟨lg, 0, false, .slice Av pn cv, .slice none 0 0⟩ e' := by
     rw [he', hbs']
     refine ⟨⟨rfl, rfl, rfl⟩, ⟨ps1, ?_, al_all fun Y' hY => hpn.2 Y' ⟨hY.1, fun g hg hl => hY.2 g ⟨hg.1, hl⟩⟩⟩, fun X _ => ⟨nil_rd X 32, fun d hd => (by cases hd)⟩⟩
     have h1 := hpn.1
     rw [hl1] at h1 ⊢
     exact J7q (S := fun g => InB bs g ∨ N ≤ g) h1 (by omega) fun g hg => .inr (Jk h1 hg).1
    have hEb : EpsB bs' (.slice A m.eps.length cap) m.eps := HE.out.le (by rw [hbs']; exact hlb)
    rw [← he'] at HC
    rw [← HNN.out] at hEb
    clear hpn hlb he' hBr
    go_upto_region 13 with (fail)
    refine wp_region_lit ?_
    refine wpSk rfl (J1 (cs := mtc m (.slice A n cap)) J9 rfl (by rw [J5, J0 _ _ hsl]) rfl rfl (by rw [HNN.out]; exact J4 b1)) fun v56 w56 hh => ?_
    obtain ⟨rfl, rfl⟩ := hh
    try simp only [PutS]
    refine wpList_plain rfl fun K hK => ?_; go_big_op; refine hK _ _ ?_; clear hK K
    refine wpSk rfl (J1 (cs := epc ⟨lg, 0, false, .slice Av pn cv, .slice none 0 0⟩) J1o rfl J1b rfl rfl (J4 b9)) fun v58 w58 hh => ?_
    obtain ⟨rfl, rfl⟩ := hh
    try simp only [PutS]
    refine wpSk rfl (Jm (R := fun v W2 => ∃ vE', v = mtV (repM m n e') vE' ∧ EpsB (bs'.new w58 W2) vE' (repE m.eps n e') ∧ Below w58.heap.size w58 W2) J19 ((rRepl26 m HN.out _ n (by have := HNN.out; omega) ⟨lg, 0, false, .slice Av pn cv, .slice none 0 0⟩ e' bs' w58 (by rw [hbs']; exact Bse.ok_self _) hEb hin').mono fun r W2 ⟨vE', h1, h2⟩ => ⟨_, h1, vE', rfl, h2⟩) rfl rfl) fun v59 w59 hh => ?_
    obtain ⟨vE', rfl, hE', B59⟩ := hh
    try simp only [PutS]
    obtain ⟨AE, cE, hvE⟩ := hE'.len
    have b2y := b2.keep B59
    have hBy := hBz.trans (B59.mono hBz.size)
    have hlb := b2.lt
    refine J6 rfl 35 (.tmp 6) (.tmp 59) rfl rfl (cells := mtc (repM m n e') vE') rfl b2y (by rw [hcs0, J0 (repM m n e') _ hsl]; exact Nat.le_refl _) (by rw [J5, J0 (repM m n e') _ hsl]) (Ji _ _ (by rw [hvE]; rfl)) (Ja _ _ (by rw [hcs0, J0 (repM m n e') _ hsl])) fun V hV bV => ?_
    rw [hbs'] at hE'
    have hEV : EpsB (bs.new w V) vE' (repE m.eps n e') := J96 hE' hV HW.out (by omega) (by omega) (by omega)
    have hBV := J2 hBy hV (by omega)
    clear b1 b2 b9 b2y hV B59 hE' hBy hBz hEb
    try simp only [PutS]
    go_wp2_with fail
    refine bodyPost_ret (v := .tuple #[.agg (mtc (repM m n e') vE').toArray, .int .i64 0]) (res_mt (g1 := w.heap.size + 1) rfl rfl rfl J9 rfl (by rw [J5, J0 (repM m n e') _ hsl]) bV) rfl ?_
    rw [HC.out]
    have hre : repM m n e' = ⟨m.ver + 1, m.seed, m.eps ++ [e']⟩ := by rw [HNN.out]; exact Jks
    rw [← hre]
    exact ⟨_, rfl, hEV, hBV⟩
   have k3 := Je (W := wr) l9 (show wr.cell? ⟨g9, 3, none⟩ = some (.slice Av k cv) from (b9.cell 3).trans rfl)
   have HRM := Lib.hid (J5v b1)
   have HSD := Lib.hid HN.out.seed
   have HPR := Lib.hid hpn
   have HB9r := Lib.hid b9
   have HBR := Lib.hid hBr
   clear hpn b9 hBr b1 b2 hBz
   go_upto_region 12 with (fail)
   refine Jd 12 [(3, Spec.val (dgv m.seed)), (8, Spec.rel (ExtA (coordM m.seed n k lg)) (SlF (coordM m.seed n k lg).length)), (9, Spec.rel (Lit 86 5 ((List.replicate 5 (0 : E)).flatMap ec).toArray) (LitF 5)), (11, Spec.rel (PtL wr.heap.size ⟨coordM m.seed n k lg, List.replicate 5 0, false⟩) (LitF 1))] (by kernel_rfl) (by kernel_rfl) (by kernel_rfl) ⟨Jfm, J8w, Jgb, trivial⟩ ?_
   iterate 3 (refine rg_det rfl rfl rfl (fun K hK => ?_); go_big_quiet_op; refine hK _ ?_; clear hK K)
   refine rg_val rfl rfl (fun W1 hW1 hF => Jf (cs := byc m.seed) Jg rfl (by rw [Jc, J3, HSD.out.1]) rfl rfl (Jr HRM.out l1 (J8 hW1))) ?_
   intro a' ha
   simp only [PutS] at ha
   subst ha
   iterate 4 (refine rg_det rfl rfl rfl (fun K hK => ?_); go_big_quiet_op; refine hK _ ?_; clear hK K)
   refine rg_rel rfl rfl (fun W1 hW1 hF => Jp J2s (rCoords m.seed HSD.out n k lg (by omega) (by omega) (by omega) W1) rfl rfl) ?_
   intro n8 m8 v8 hn8 hm8 hd8 hf8 a' ha
   simp only [PutS] at ha
   subst ha
   obtain ⟨A8, cap8, rfl⟩ := hf8
   refine rg_rel rfl rfl (fun W1 hW1 hF => Jdy 5 (by decide) rfl rfl rfl) ?_
   intro n9 m9 v9 hn9 hm9 hd9 hf9 a' ha
   simp only [PutS] at ha
   subst ha
   obtain rfl := hf9
   refine rg_det rfl rfl rfl (fun K hK => ?_)
   go_big_quiet_op
   refine hK _ ?_; clear hK K
   refine rg_rel rfl rfl (fun W1 hW1 hF => Jb (fun v w' hh => ptl_of hh (J1a (J5s hF) (by kernel_rfl)) (J1a hF (by kernel_rfl)) hn8 hn9) (J15 (cs := #[.slice A8 (coordM m.seed n k lg).length cap8, .slice (some ⟨n9, 0, none⟩) 5 5, .bool false]) J5y hip ip0 ip1 (by decide) (by decide) rfl rfl rfl)) ?_
   intro n11 m11 v11 hn11 hm11 hd11 hf11 a' ha
   simp only [PutS] at ha
   subst ha
   obtain rfl := hf11
   refine rg_nil (fun w' hw' hF => ?_)
   obtain ⟨z, rfl⟩ := hw'
   simp only [List.drop_succ_cons, List.drop_zero]
   obtain ⟨q10, q11⟩ : m11 ≤ z.w.heap.size ∧ PtL wr.heap.size ⟨coordM m.seed n k lg, List.replicate 5 0, false⟩ n11 m11 (.slice (some ⟨n11, 0, none⟩) 1 1) z.w := hF _ (List.mem_append_right _ (List.mem_singleton.2 rfl))
   obtain ⟨-, hn11m, u2, b11, r1, r2, r3⟩ := q11
   have hzs := z.h.size
   have b9z := HB9r.out.keep z.h
   have hownz := Jq HPR.out.1 (Nat.le_refl _) z.h
   rw [hl1] at hownz
   have hBrz := HBR.out.trans (z.h.mono (by omega))
   have hone : ∀ x ∈ ptc u2, x.oneCell' = true := by
    obtain ⟨A1, c1, e1⟩ := Rd.len r1
    obtain ⟨A2, c2, e2⟩ := Rd.len r2
    intro x hx
    simp only [ptc, List.mem_cons, List.not_mem_nil, or_false] at hx
    rcases hx with rfl | rfl | rfl
    · rw [e1]; rfl
    · rw [e2]; rfl
    · rfl
   have HR1 := Lib.hid r1
   have HR2 := Lib.hid r2
   have HR3 := Lib.hid r3
   clear hF k3 r1 r2 r3 q10
   refine J29 (u := .slice Av k cv) rfl _ _ rfl J5y hip ip0 ip1 ip2 rfl (by decide) (cl := ptc u2) rfl hone rfl rfl hownz b11 (by unfold maxLen; omega) (by omega) (base := N) (by omega) ?_
   intro v' w' hown' hgrow hBg hat
   obtain ⟨Av2, cv2, hv2⟩ := Jy hown'
   have hne0 : some g9 ≠ (Value.slice Av k cv).ownBlock := fun h => by have := (Jk hownz h.symm).1; omega
   have hne' : v'.ownBlock ≠ some g9 := fun h => by have := (Jk hown' h).1; omega
   have b9g := Ja4 hgrow b9z hne0
   have hBg2 : Below g9 Y w' := hBrz.trans (hBg.mono (by omega))
   have HAT := Lib.hid hat
   have HGR := Lib.hid hgrow
   have HOWN := Lib.hid hown'
   have HNE3 := Lib.hid hne'
   have HB9g := Lib.hid b9g
   have HBG := Lib.hid hBg2
   have l9g := b9g.lt
   have f9g := b9g.frozen
   subst hv2
   have c3g : w'.cell? ⟨g9, 3, none⟩ = some (.slice Av k cv) := (b9g.cell 3).trans rfl
   have hn11 : wr.heap.size ≤ n11 := hn11
   clear hat hgrow hown' hne' hne0 b9z hownz hBrz b11 hone hBg hBg2 b9g
   try simp only [PutS]
   go_upto_region 11 with (fail)
   refine set1 (M := fun W => Code.wp _ _ _ _ W) HB9g.out fun Z hZ bZ => ?_
   have bZ2 : Blk Z g9 75 (epc ⟨lg, 0, false, .slice Av2 (k + 1) cv2, .slice none 0 0⟩).toArray := bZ
   have hBZ : Below g9 Y Z := J2 HBG.out hZ (Nat.le_refl _)
   have hownZ := Jt HOWN.out hZ HNE3.out
   have hgw : w'.heap.size = Z.heap.size := hZ.size.symm
   have hzw : z.w.heap.size ≤ w'.heap.size := HGR.out.size
   have hpn2 : PtsN bs N g9 Z (.slice Av2 (k + 1) cv2) (ps1 ++ [u2]) (newPts m.seed n lg (k + 1)) := by
    refine ⟨?_, fun Y' hY => ?_⟩
    ·
     rw [List.length_append, hl1, List.flatMap_append]
     simpa using hownZ
    ·
     have hsame : ∀ g, (InB bs g ∨ N ≤ g) → g < z.w.heap.size → some g ≠ (Value.slice Av k cv).ownBlock → g ≠ g9 → Y'.heap[g]? = z.w.heap[g]? := fun g hg hl hv hE => by
      have h1 : (Value.slice Av2 (k + 1) cv2).ownBlock ≠ some g := fun e => by
       rcases HAT.out with h2 | h2
       · exact hv (by rw [← h2]; exact e.symm)
       · rw [h2] at e; cases e; omega
      exact ((hY.same g ⟨hg, h1, hE⟩ (by omega)).trans (hZ.other g hE)).trans (HGR.out.block g hl hv)
     have hYs : z.w.heap.size ≤ Y'.heap.size := by have := hY.size; omega
     rw [Jay]
     refine Al.snoc (HPR.out.2 Y' ⟨by omega, fun g hg hl => ?_⟩) ?_
     · exact (hsame g hg.1 (by omega) (fun e => hg.2.1 e.symm) hg.2.2).trans (z.h.block g hl)
     ·
      have hrow : ∀ g, wr.heap.size ≤ g → g < n11 → g < z.w.heap.size → Y'.heap[g]? = z.w.heap[g]? := fun g h1 _ h3 =>
       hsame g (.inr (by omega)) h3 (fun e => by have := (Jk HPR.out.1 e.symm).2; omega) (by omega)
      exact ⟨RdA.of (Rd.other HR1.out hYs hrow), RdA.of (Rd.other HR2.out hYs hrow), HR3.out⟩
   have HPN2 := Lib.hid hpn2
   clear bZ f9g c3g l9g hZ hownZ hgw hpn2
   go_wp2_with fail
   exact ⟨⟨k + 1, _, _, by omega, by go_num, HPN2.out, bZ2, hBZ⟩, by simp [intOf]; omega⟩
end
section
open Go.RowKit

def frK (pts : List Pt) (k : Nat) : Nat := ((List.range k).filter fun k => match pts[k]? with | some p => !p.used | none => false).length
theorem Jkw {pts : List Pt} {k : Nat} {p : Pt} (h : pts[k]? = some p) : frK pts (k + 1) = frK pts k + (if p.used then 0 else 1) := by
 unfold frK
 rw [List.range_succ, List.filter_append, List.length_append]
 congr 1
 simp only [List.filter_cons, List.filter_nil, h]
 cases p.used <;> rfl
theorem Jmz (pts : List Pt) : frK pts pts.length = (freeM pts).length := rfl
attribute [local irreducible] wpRg keyD sha leafD pairD
theorem rLeft26 (m : Mt) (hN : MtN m) (n : Int) (hn : -9223372036854775808 ≤ n ∧ n ≤ 9223372036854775807) (vE : Value) (w : World) (hE : EpsA w vE m.eps) : Calls Tryz.prog 25 #[mtV m vE, .int .i64 n] w (Ret (.int .i64 (leftM m n : Nat)) w) := by
 obtain ⟨S, hS⟩ : ∃ S, S = mtV m vE := ⟨_, rfl⟩
 rw [← hS]
 have HN := Lib.hid hN
 have HE := Lib.hid hE
 obtain ⟨A, cap, rfl⟩ := hE.len
 have hml := hN.eps
 clear hN hE
 go_enter Tryz.func25, Tryz.ntmps25
 go_upto_region 1 with (fail)
 refine J13 fun W hB hz b1 => ?_
 have b1' : Blk W w.heap.size 35 (mtc m (.slice A m.eps.length cap)).toArray := by first | exact b1 | (rw [hS] at b1; exact b1)
 have hsl := HN.out.seed.1
 have c33 := J11 b1' hsl
 have l1 := b1'.lt
 clear b1 hz hS
 by_cases hneg : n < 0
 ·
  have HR := Lib.hid (show leftM m n = 0 by unfold leftM; rw [if_pos (.inl hneg)])
  go_wp2_with fail
  exact bodyPost_ret (v := .int .i64 0) (by simp [results, Tryz.results25, go_sem]) rfl ⟨by rw [HR.out]; rfl, hB⟩
 obtain ⟨k, rfl⟩ : ∃ k : Nat, n = (k : Int) := ⟨n.toNat, by omega⟩
 clear hneg
 by_cases hkl : k < m.eps.length
 rotate_left 1
 ·
  have HR := Lib.hid (show leftM m (k : Int) = 0 by unfold leftM; rw [if_pos (.inr (by omega))])
  have hk2 : m.eps.length ≤ k := by omega
  go_wp2_with fail
  exact bodyPost_ret (v := .int .i64 0) (by simp [results, Tryz.results25, go_sem]) rfl ⟨by rw [HR.out]; rfl, hB⟩
 have HR := Lib.hid (show leftM m (k : Int) = (freeM (m.at k).pts).length / 2 by unfold leftM; rw [if_neg (by omega), Int.toNat_natCast])
 obtain ⟨g, off, cap', p, d, hv, hcp, hg, e0, e1, e2, e3, e4, hpp, -⟩ := (HE.out.keep hB).at (at_get m k hkl)
 cases hv
 obtain ⟨Ap, cp, rfl⟩ := hpp.len
 have hpl := (HN.out.ep _ _ (at_get m k hkl)).1
 obtain ⟨ps, hps⟩ : ∃ x, x = (m.at k).pts := ⟨_, rfl⟩
 rw [← hps] at hpp e3 hpl HR
 obtain ⟨pn, hpn⟩ : ∃ x, x = ps.length := ⟨_, rfl⟩
 rw [← hpn] at e3 hpl
 have HPN := Lib.hid hpn
 have HPP := Lib.hid hpp
 have HB1 := Lib.hid b1'
 have HBW := Lib.hid hB
 have HE3 := Lib.hid e3
 clear e0 e1 e2 e4 hpp hps hpn
 go_upto_region 5 with (fail)
 clear c33 l1 b1' hB e3
 go_loopw [5, 6] (fun q i wr => ∃ j s : Nat, j ≤ pn ∧ q = .int .i64 s ∧ i = .int .i64 j ∧ Hid (s = frK ps j) ∧ s ≤ j ∧ Below W.heap.size W wr) (fun _ i _ => pn - (intOf i).toNat)
 case atStart => exact ⟨0, 0, Nat.zero_le _, rfl, rfl, Lib.hid rfl, Nat.le_refl _, Below.refl _ _⟩
 case round =>
  obtain ⟨j, s, hj, rfl, rfl, HSF, hs, hBr⟩ := hrel
  have b1 := HB1.out.keep hBr
  have c33 := J11 b1 hsl
  have l1 := b1.lt
  have e3 := (hBr.cell (p := ⟨g, off + k * 5 + 3, none⟩) hg).trans HE3.out
  have hgr := Nat.lt_of_lt_of_le hg hBr.size
  have hBz := HBW.out.trans (hBr.mono HBW.out.size)
  by_cases hlt : j < pn
  rotate_left 1
  ·
   obtain rfl : j = pn := by omega
   have HQ := Lib.hid (show leftM m (k : Int) = s / 2 by rw [HR.out, HSF.out, HPN.out, Jmz])
   clear hBr b1
   go_wp2_with fail
   exact bodyPost_ret (v := .int .i64 ((s / 2 : Nat) : Int)) (by simp [results, Tryz.results25, go_sem]; try omega) rfl ⟨by rw [HQ.out], hBz⟩
  obtain ⟨x, hx⟩ : ∃ x, ps[j]? = some x := ⟨_, List.getElem?_eq_getElem (by rw [← HPN.out]; exact hlt)⟩
  obtain ⟨ga, oa, ca, ra, va, hv, -, hga, y0, y1, y2, -, -⟩ := (HPP.out.keep hBr).at hx
  rw [← HPN.out] at hv
  cases hv
  have hsu := Jkw hx
  rw [← HSF.out] at hsu
  obtain ⟨xu, hxu⟩ : ∃ b, b = x.used := ⟨_, rfl⟩
  rw [← hxu] at y2 hsu
  have HSU := Lib.hid hsu
  have HBR := Lib.hid hBr
  clear y0 y1 hx hsu hxu hBr b1 hBz
  cases xu with
  | true =>
   go_wp2_with fail
   exact ⟨⟨j + 1, s, by omega, rfl, by go_num, Lib.hid (by rw [HSU.out]; rfl), by omega, HBR.out⟩, by simp [intOf]; omega⟩
  | false =>
   go_wp2_with fail
   exact ⟨⟨j + 1, s + 1, by omega, by go_num, by go_num, Lib.hid (by rw [HSU.out]; rfl), by omega, HBR.out⟩, by simp [intOf]; omega⟩
end
end Go.Proofs.YtoiampgfnidfdaaGreatDoor
