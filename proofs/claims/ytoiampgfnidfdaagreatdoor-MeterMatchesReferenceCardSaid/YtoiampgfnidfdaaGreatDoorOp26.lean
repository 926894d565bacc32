/-
  The program's Open.
-/
import Derived.Test.YtoiampgfnidfdaaGreatDoorPu26
import Derived.Test.YtoiampgfnidfdaaGreatDoorBs26
import Derived.Test.YtoiampgfnidfdaaGreatDoorSs
set_option maxRecDepth 100000
set_option maxHeartbeats 8000000
namespace Go.Proofs.YtoiampgfnidfdaaGreatDoor
open Go.RowKit
section
open Go.RowKit

theorem J83 : En Tryz.prog 58 := enters_of Tryz.func58 (by kernel_rfl) rfl
theorem J1t : En Tryz.prog 14 := enters_of Tryz.func14 (by kernel_rfl) rfl
theorem Jek (t : Nat) (ps : List Dg) (d : Dg) (ht : t ≤ ps.length) (hp : ∀ x ∈ ps, DgOk x) (hd : DgOk d) : ∀ x ∈ pushN pairD t ps d, DgOk x := by
 intro x hx
 rw [J67 t ps d ht] at hx
 rcases List.mem_append.1 hx with h | h
 · exact hp x (List.mem_of_mem_take h)
 · rw [List.mem_singleton.1 h]; exact Jal ps d hd t
theorem Jd2 (t : Nat) (ps : List Dg) (d : Dg) (ht : t ≤ ps.length) : (pushN pairD t ps d).length = ps.length - t + 1 := by
 rw [J67 t ps d ht, List.length_append, List.length_take]
 simp
theorem PtsN.put {w0 : Bse} {W X : World} {N gE : Nat} {v : Value} {ps : List PtW} {pts : List Pt} (h : PtsN w0 N gE W v ps pts) (hp : Put W X gE) (hv : v.ownBlock ≠ some gE) : PtsN w0 N gE X v ps pts :=
 ⟨Jt h.1 hp hv, fun Y hY => h.2 Y ((J8m hp fun h => h.2.2 rfl).trans hY)⟩
theorem enc_lt (r : Rdg) (h : r.ok) : r.enc.length ≤ 900000 ∧ ∀ x ∈ r.enc, x < 256 := by
 obtain ⟨h1, h2, h3, h4⟩ := h
 refine ⟨by simp [Rdg.enc], fun x hx => ?_⟩
 simp only [Rdg.enc, List.mem_cons, List.not_mem_nil, or_false] at hx
 rcases hx with rfl | rfl | rfl <;> omega
theorem Jga (r : Rdg) (h : r.ok) : ∀ n ∈ r.amts, -9223372036854775808 ≤ n ∧ n ≤ 9223372036854775807 := by
 obtain ⟨h1, h2, h3, h4⟩ := h
 intro n hn
 simp only [Rdg.amts, List.mem_cons, List.not_mem_nil, or_false] at hn
 rcases hn with rfl | rfl | rfl | rfl | rfl <;> omega
theorem ChS.keep {w0 : Bse} {w W X : World} {N gE i : Nat} {us : List EpW} {u : EpW} {rest : List Value} {ps : List PtW} {e : Ep} (h : ChS w0 w W N gE us i u rest ps e) (hb : Below W.heap.size W X) : ChS w0 w X N gE us i u rest ps e :=
 ⟨h.b.keep hb, h.hi, h.hN, h.hw, h.hB.trans (hb.mono h.hB.size), h.h0, Jq h.own (Nat.le_refl _) hb, h.ne, h.num, h.pts, h.pk⟩
attribute [local irreducible] wpRg
theorem fTake (w0 : Bse) (w : World) (e : Ep) (hp : e.pts.length ≤ 1000) (hpt : ∀ p ∈ e.pts, p.R.length ≤ 60 ∧ p.V.length = 5) (hpk : e.peaks.length ≤ 1000) (hc8 : e.count < 8) (htz : tz1 e.count ≤ e.peaks.length) (r : Rdg) (hr : r.ok) (b : Nat) (hb : Blk w b 28 (rdc r).toArray) (hL : Laid w) (hS : Lsh w) (hD : Ldb w) :
  FOk 58 [.pointer (some ⟨b, 0, none⟩)] w0 w e { e with pts := e.pts.map (addP e.count r.amts), peaks := pushN pairD (tz1 e.count) e.peaks (leafD r.enc), count := e.count + 1 } := by
 intro W N gE us i u rest ps h
 have HH := Lib.hid h
 have HAM := fun X hX => gAddM w0 w X N gE i us u rest ps e (h.keep hX) r.amts rfl (Jga r hr) e.count (by omega) hp hpt hL
 have HA := Lib.hid HAM
 have hgEN := h.hN
 have hwN := h.hw
 have hBw := h.hB
 have bW := hb.keep h.hB
 have c1 := h.cell 1 _ rfl
 obtain ⟨r1, r2, r3⟩ := h.num
 rw [r2] at c1
 have lE := h.b.lt
 have lb := bW.lt
 have HR := Lib.hid hr
 have HS := Lib.hid hS
 have HD := Lib.hid hD
 have hbw := hb.lt
 have HPT := Lib.hid htz
 obtain ⟨cnt, hcnt⟩ : ∃ c, c = e.count := ⟨_, rfl⟩
 rw [← hcnt] at c1 hc8
 have HCN := Lib.hid hcnt
 clear h hb hL hS hD hr htz r1 r2 r3 hcnt HAM
 have cr := bW.cell
 have cr0 := cr 0
 have cr1 := cr 1
 have cr2 := cr 2
 have cr3 := cr 3
 simp only [rdc, List.getElem?_toArray, List.getElem?_cons_zero, List.getElem?_cons_succ] at cr0 cr1 cr2 cr3
 have k0 := Je lb cr0
 have k1 := Je lb cr1
 have k2 := Je lb cr2
 have k3 := Je lb cr3
 have kc := Je lE c1
 clear cr
 show Calls Tryz.prog 58 #[.pointer (some ⟨gE, i * 5, none⟩), .pointer (some ⟨b, 0, none⟩)] W _
 go_enter Tryz.func58, Tryz.ntmps58
 go_upto_region 0 with (fail)
 refine Jd 14 [] (by kernel_rfl) (by kernel_rfl) (by kernel_rfl) trivial ?_
 iterate 14 (refine rg_det rfl rfl rfl (fun K hK => ?_); go_big_quiet_op; refine hK _ ?_; clear hK K)
 refine rg_nil (fun w' hw' hF => ?_)
 obtain ⟨y, rfl⟩ := hw'
 simp only [List.drop_succ_cons, List.drop_zero]
 have HZ := HA.out y.w y.h
 rw [← HCN.out] at HZ
 have bz := bW.keep y.h
 have hBz := hBw.trans (y.h.mono hBw.size)
 have hNB : Below N W y.w := y.h.mono (by omega)
 clear k0 k1 k2 k3 kc cr0 cr1 cr2 cr3 bW c1 HA hF
 try simp only [PutS]
 go_wp2_with fail
 refine HZ.mono ?_
 rintro rr W2 ⟨⟨v, rfl⟩, ps', hpn, bE, hB⟩
 have hB2 := hBz.trans (hB.mono hwN)
 have b2 := bz.below hB (by omega)
 have c1 := J5x bE HH.out.hi (j := 1) (u := u) rfl
 have c4 := J5x bE HH.out.hi (j := 4) (u := u) rfl
 obtain ⟨r1, r2, r3⟩ := HH.out.num
 rw [r2, ← HCN.out] at c1
 have hPK := HH.out.pk.old (HH.out.h0.below hB2)
 obtain ⟨Ak, ck, hk⟩ := hPK.len
 rw [hk] at c4 hPK
 have HPK := Lib.hid hPK
 have HK := Lib.hid hk
 have HS2 := Lib.hid (HS.out.keep hB2)
 have HD2 := Lib.hid (HD.out.keep hB2)
 have hEL := enc_lt r HR.out
 have HE8 := Lib.hid hEL.2
 have hE9 := hEL.1
 have HT8 := HPT.out
 rw [← HCN.out] at HT8
 have HT := Lib.hid HT8
 have lE2 := bE.lt
 have l2 := b2.lt
 have k1 := Je lE2 c1
 have k4 := Je lE2 c4
 have hW2 := hB.size
 clear bz hBz hPK hk r1 r2 r3 hEL HT8 c1 c4 HZ lE lb
 go_upto_region 1 with (fail)
 refine Jd 14 [(9, Spec.val (rdV r)), (10, Spec.rel (ByA r.enc) AnyV), (11, Spec.rel (OwR 23 32 (e.peaks.length - tz1 cnt + 1) ((pushN pairD (tz1 cnt) e.peaks (leafD r.enc)).flatMap byc)) AnyV)] (by kernel_rfl) (by kernel_rfl) (by kernel_rfl) ⟨fit_of (by_st), fit_of (owr_st), trivial⟩ ?_
 iterate 9 (refine rg_det rfl rfl rfl (fun K hK => ?_); go_big_quiet_op; refine hK _ ?_; clear hK K)
 refine rg_val rfl rfl (fun W1 hW1 hF => Jf (cs := rdc r) J1c rfl J1f rfl rfl (J4 (b2.keep (J8 hW1)))) ?_
 intro a' ha
 simp only [PutS] at ha
 subst ha
 refine rg_rel rfl rfl (fun W1 hW1 hF => Jp J7b ((show Calls _ _ _ _ (RetR (ByA r.enc) W1) from gEncR r HR.out W1)) rfl rfl) ?_
 intro n10 m10 v10 hn10 hm10 hd10 hf10 a' ha
 simp only [PutS] at ha
 subst ha
 refine rg_rel rfl rfl (fun W1 hW1 hF => Jp J8d (gPushM e.peaks hpk cnt hc8 HT.out r.enc hE9 HE8.out _ _ _ _ W1 (HPK.out.keep (J8 hW1)) (J1a hF (by kernel_rfl)).2 (HS2.out.keep (J8 hW1)) (HD2.out.keep (J8 hW1))) rfl rfl) ?_
 intro n11 m11 v11 hn11 hm11 hd11 hf11 a' ha
 simp only [PutS] at ha
 subst ha
 iterate 2 (refine rg_det rfl rfl rfl (fun K hK => ?_); go_big_quiet_op; refine hK _ ?_; clear hK K)
 refine rg_nil (fun w' hw' hF => ?_)
 obtain ⟨z, rfl⟩ := hw'
 simp only [List.drop_succ_cons, List.drop_zero]
 have o11 : OwR 23 32 (e.peaks.length - tz1 cnt + 1) ((pushN pairD (tz1 cnt) e.peaks (leafD r.enc)).flatMap byc) n11 m11 v11 z.w := (hF _ (List.mem_append_right _ (List.mem_singleton.2 rfl))).2
 obtain ⟨A11, c11, rfl⟩ := Jy o11.1
 have hne11 : (Value.slice A11 (e.peaks.length - tz1 cnt + 1) c11).ownBlock ≠ some gE := fun hg => by
  have := (Jk o11.1 hg).1
  omega
 have o11' := Lib.hid (J6t (base' := N) o11.1 (by omega))
 have HNE := Lib.hid hne11
 have bEz := bE.keep z.h
 have fE := bEz.frozen
 have lEz := bEz.lt
 have hpnz := Lib.hid (hpn.keep z.h)
 have hBN : Below N W z.w := (hNB.trans hB).trans (z.h.mono (by omega))
 have hc4 := J5x bEz HH.out.hi (j := 4) (u := u) rfl
 rw [HK.out] at hc4
 generalize hK1 : e.peaks.length - tz1 cnt + 1 = K1 at *
 have HK1 := Lib.hid hK1
 clear hF o11 hne11 hK1 k1 k4 b2 hf10 hf11 hd10 hd11 bE hpn hB
 go_upto_region 2 with (fail)
 refine set1 (M := fun W => Code.wp _ _ _ _ W) bEz fun X hX bX => ?_
 obtain ⟨u1, hu1⟩ : ∃ u1 : EpW, u1 = { u with k := .slice A11 K1 c11 } := ⟨_, rfl⟩
 have bX1 : Blk X gE 75 ((us.set i u1).flatMap epc ++ rest).toArray := by
  rw [List.setIfInBounds_toArray, HH.out.setB 4 _ u1 (by rw [hu1]; rfl) (by decide)] at bX
  exact bX
 have hp1 := Lib.hid (hpnz.out.put hX HH.out.ne)
 have o1 := Lib.hid (Jt o11'.out hX HNE.out)
 have hu1c : u1.count = cnt := by rw [hu1, HCN.out]; exact HH.out.num.2.1
 have c1X := J5x bX1 HH.out.hi (j := 1) (u := u1) rfl
 rw [hu1c] at c1X
 have fX := bX1.frozen
 have lX := bX1.lt
 have hBX := J2 hBN hX hgEN
 have HU := Lib.hid hu1
 clear bX hX hu1 hu1c hpnz o11' hBN hc4 fE bEz lEz
 go_wp2_with fail
 refine set1 (M := fun W => bodyPost _ _ _ _ _ W) bX1 fun Y hY bY => ?_
 go_end0
 obtain ⟨r1, r2, r3⟩ := HH.out.num
 have hBY := J2 hBX hY hgEN
 have hp2 := hp1.out.put hY HH.out.ne
 have o2 := Jt o1.out hY HNE.out
 have hl' : ps'.length = (e.pts.map (addP cnt r.amts)).length := (hp2.2 Y (Keeps.refl _)).1
 rw [List.length_map] at hl'
 refine ⟨⟨_, rfl⟩, { u1 with count := cnt + 1 }, ?_, ?_, hBY⟩
 ·
  rw [List.setIfInBounds_toArray, Jaj (us.set i u1) rest i 1 u1 { u1 with count := cnt + 1 } _ (List.getElem?_set_self HH.out.hi) (by simp [epc]) (by decide), List.set_set] at bY
  exact bY
 ·
  obtain ⟨q1, q2⟩ := ep_of HH.out hp2 hBY (by omega)
  refine ⟨⟨by rw [HU.out]; exact r1, by rw [HCN.out], by rw [HU.out]; exact r3⟩, by rw [HU.out, ← HCN.out]; exact q1, fun Z hZ => ⟨?_, ?_⟩⟩
  ·
   rw [HU.out, ← HCN.out]
   have ho := J9k o2 hZ.keepsS fun g hg => .inr hg
   show RdA 32 Z (.slice A11 K1 c11) (pushN pairD (tz1 cnt) e.peaks (leafD r.enc)).length _
   rw [Jd2 _ _ _ HT.out, HK1.out]
   exact RdA.of (Rd.of_own ho (by have := HK1.out; omega) (Nat.le_refl _))
  ·
   rw [← HCN.out]
   exact Jek _ _ _ HT.out HPK.out.2 (J2d _)
theorem Jel (lg : Nat) (h : lg ≤ 3) : wrap64 ((2 : Int) ^ lg) = ((2 ^ lg : Nat) : Int) := by
 obtain rfl | rfl | rfl | rfl : lg = 0 ∨ lg = 1 ∨ lg = 2 ∨ lg = 3 := by omega
 all_goals decide +kernel
def CntN (m : Mt) : Prop := ∀ e ∈ m.eps, e.log ≤ 3 ∧ e.count ≤ 2 ^ e.log ∧ (e.count < 8 → tz1 e.count ≤ e.peaks.length)
theorem gTakeM (m : Mt) (hN : MtN m) (h5 : PtsN5 m) (hc : CntN m) (r : Rdg) (hr : RdgIn r) (vE : Value) (bs : Bse) (w : World) (hw : bs.ok w) (hL : Laid w) (hS : Lsh w) (hD : Ldb w) (hE : EpsB bs vE m.eps) : Calls Tryz.prog 14 #[mtV m vE, rdV r] w (MRes bs (takeM m r) w) := by
 have HW := Lib.hid hw
 clear hw
 have HR := Lib.hid hr
 have H5 := Lib.hid h5
 have HCC := Lib.hid hc
 have HL := Lib.hid hL
 have HSh := Lib.hid hS
 have HDb := Lib.hid hD
 clear hL hS hD
 obtain ⟨Sr, hSr⟩ : ∃ S, S = rdV r := ⟨_, rfl⟩
 rw [← hSr]
 obtain ⟨S, hS⟩ : ∃ S, S = mtV m vE := ⟨_, rfl⟩
 rw [← hS]
 have HN := Lib.hid hN
 have HE := Lib.hid hE
 obtain ⟨A, cap, rfl⟩ := hE.len
 have hml := hN.eps
 clear hN hE
 clear hr h5 hc
 go_enter Tryz.func14, Tryz.ntmps14
 go_upto_region 1 with (fail)
 refine J26 fun W hB hz b1 b3 b2 => ?_
 have b1' : Blk W w.heap.size 35 (mtc m (.slice A m.eps.length cap)).toArray := by first | exact b1 | (rw [hS] at b1; exact b1)
 have b3' : Blk W (w.heap.size + 1) 28 (rdc r).toArray := by first | exact b3 | (rw [hSr] at b3; exact b3)
 obtain ⟨cs0, hcs0, b2'⟩ : ∃ cs : Array Value, cs.size = 34 ∧ Blk W (w.heap.size + 1 + 1) 35 cs := ⟨_, rfl, b2⟩
 have hsl := HN.out.seed.1
 clear b1 b2 b3 hz hS hSr
 refine wp_region_lit ?_
 refine wpSk rfl (J1 (cs := mtc m (.slice A m.eps.length cap)) J9 rfl (by rw [J5, J0 _ _ hsl]) rfl rfl (J4 b1')) fun v9 w9 hh => ?_
 obtain ⟨rfl, rfl⟩ := hh
 try simp only [PutS]
 refine wpSk rfl (J7 J2e (gCurrent m HN.out (.slice A m.eps.length cap) w9 (HE.out.old (HW.out.below hB))) rfl rfl) fun v10 w10 hh => ?_
 obtain ⟨rfl, B10⟩ := hh
 try simp only [PutS]
 have b1w := b1'.keep B10
 have b2w := b2'.keep B10
 have b4w := b3'.keep B10
 have hBw := hB.trans (B10.mono hB.size)
 clear b1' b2' b3' hB B10
 try simp only [PutS]
 go_upto_region 2 with (fail)
 refine wp_region_lit ?_
 refine wpSk rfl (J1 (cs := rdc r) J1c rfl J1f rfl rfl (J4 b4w)) fun v14 w14 hh => ?_
 obtain ⟨rfl, rfl⟩ := hh
 try simp only [PutS]
 refine wpSk rfl (J7 J4j (gValidR r HR.out w14) rfl rfl) fun v15 w15 hh => ?_
 obtain ⟨rfl, B15⟩ := hh
 try simp only [PutS]
 replace b1w := b1w.keep B15
 replace b2w := b2w.keep B15
 replace b4w := b4w.keep B15
 replace hBw := hBw.trans (B15.mono hBw.size)
 obtain ⟨bo, hbo⟩ : ∃ b, b = decide r.ok := ⟨_, rfl⟩
 rw [← hbo]
 clear B15
 cases bo with
 | false =>
  have HC := Lib.hid (show takeM m r = (m, 1) by unfold takeM; rw [if_pos (of_decide_eq_false hbo.symm)])
  clear hbo
  go_upto_region 3 with (fail)
  refine wp_region_lit ?_
  refine wpSk rfl (J1 (cs := mtc m (.slice (A) m.eps.length cap)) J9 rfl (by rw [J5, J0 _ _ hsl]) rfl rfl (J4 b1w)) fun v17 w17 hh => ?_
  obtain ⟨rfl, rfl⟩ := hh
  try simp only [PutS]
  refine J6 rfl 35 (.tmp 4) (.tmp 17) rfl rfl (cells := mtc m (.slice (A) m.eps.length cap)) rfl b2w (by rw [hcs0, J0 (m) _ hsl]; exact Nat.le_refl _) (by rw [J5, J0 (m) _ hsl]) (Ji _ _ rfl) (Ja _ _ (by rw [hcs0, J0 (m) _ hsl])) fun X hX bX => ?_
  have hBX := J2 hBw hX (by omega)
  clear b1w b2w hX
  try simp only [PutS]
  go_wp2_with fail
  refine bodyPost_ret (v := .tuple #[.agg (mtc m (.slice (A) m.eps.length cap)).toArray, .int .i64 1]) (res_mt (g1 := w.heap.size + 1 + 1) rfl rfl rfl J9 rfl (by rw [J5, J0 _ _ hsl]) bX) rfl ?_
  rw [HC.out]
  exact ⟨_, rfl, HE.out.le (Bse.le_new (HW.out.below hBX)), hBX⟩
 | true =>
  have hok1 : r.ok := of_decide_eq_true hbo.symm
  have hok : ¬ ¬ r.ok := fun h => h hok1
  have HOK := Lib.hid hok1
  cases ho : m.isOpen with
  | false =>
   have HC := Lib.hid (show takeM m r = (m, 260) by unfold takeM; rw [if_neg hok, if_pos ho])
   clear hbo ho hok hok1
   go_upto_region 5 with (fail)
   refine wp_region_lit ?_
   refine wpSk rfl (J1 (cs := mtc m (.slice (A) m.eps.length cap)) J9 rfl (by rw [J5, J0 _ _ hsl]) rfl rfl (J4 b1w)) fun v21 w21 hh => ?_
   obtain ⟨rfl, rfl⟩ := hh
   try simp only [PutS]
   refine J6 rfl 35 (.tmp 4) (.tmp 21) rfl rfl (cells := mtc m (.slice (A) m.eps.length cap)) rfl b2w (by rw [hcs0, J0 (m) _ hsl]; exact Nat.le_refl _) (by rw [J5, J0 (m) _ hsl]) (Ji _ _ rfl) (Ja _ _ (by rw [hcs0, J0 (m) _ hsl])) fun X hX bX => ?_
   have hBX := J2 hBw hX (by omega)
   clear b1w b2w hX
   try simp only [PutS]
   go_wp2_with fail
   refine bodyPost_ret (v := .tuple #[.agg (mtc m (.slice (A) m.eps.length cap)).toArray, .int .i64 260]) (res_mt (g1 := w.heap.size + 1 + 1) rfl rfl rfl J9 rfl (by rw [J5, J0 _ _ hsl]) bX) rfl ?_
   rw [HC.out]
   exact ⟨_, rfl, HE.out.le (Bse.le_new (HW.out.below hBX)), hBX⟩
  | true =>
   have hc : takeM m r = if (m.at m.last).count = 2 ^ (m.at m.last).log then (m, 2)
     else (m.put m.last { m.at m.last with pts := (m.at m.last).pts.map (addP (m.at m.last).count r.amts), peaks := pushN pairD (tz1 (m.at m.last).count) (m.at m.last).peaks (leafD r.enc), count := (m.at m.last).count + 1 }, 0) := by
    unfold takeM
    rw [if_neg hok, if_neg (by rw [ho]; decide)]
   obtain ⟨h0, hcl⟩ := J36 ho
   have hli : ((m.eps.length : Int) - 1) = ((m.last : Nat) : Int) := by unfold Mt.last; omega
   have hll : m.last < m.eps.length := by unfold Mt.last; omega
   have hpl := (HN.out.ep _ _ (at_get m m.last hll))
   obtain ⟨g, off, cap', p, d, hv, hcp, hg, e0, e1, e2, e3, e4, -, -⟩ := (HE.out.old (HW.out.below hBw)).at (at_get m m.last hll)
   cases hv
   have H5a := Lib.hid (H5.out (m.at m.last) (List.mem_of_getElem? (at_get m m.last hll)))
   obtain ⟨hc1, hc2, hc3⟩ := HCC.out (m.at m.last) (List.mem_of_getElem? (at_get m m.last hll))
   have c33 := J11 b1w hsl
   have l1 := b1w.lt
   generalize m.last = n at *
   have HC := Lib.hid hc
   clear ho hcl h0 hc hok hbo e2 e3 e4 hok1
   rw [hli]
   have k0 := Je hg e0
   have k1 := Je hg e1
   have k33 := Je l1 c33
   obtain ⟨cnt, hcE⟩ : ∃ c, c = (m.at n).count := ⟨_, rfl⟩
   obtain ⟨lg, hlE⟩ : ∃ c, c = (m.at n).log := ⟨_, rfl⟩
   rw [← hcE] at k1 hc2 hc3
   rw [← hlE] at k0 hc1 hc2
   have HCE := Lib.hid hcE
   have HLE := Lib.hid hlE
   have HT := Lib.hid hc3
   clear hcE hlE e0 e1 c33 l1 hcp hc3
   have h8 : 2 ^ lg ≤ 8 := by
    obtain rfl | rfl | rfl | rfl : lg = 0 ∨ lg = 1 ∨ lg = 2 ∨ lg = 3 := by omega
    all_goals decide
   have hq : ((cnt : Int) == wrap64 ((2 : Int) ^ lg)) = decide (cnt = 2 ^ lg) := by
    rw [Jel lg hc1, Bool.eq_iff_iff]
    simp only [beq_iff_eq, decide_eq_true_eq]
    exact Int.ofNat_inj
   have HQ := Lib.hid hq
   clear hq
   by_cases hE2 : cnt = 2 ^ lg
   ·
    have HE2 := Lib.hid hE2
    clear hE2
    go_upto_region 6 with (fail)
    refine Jd 14 [] (by kernel_rfl) (by kernel_rfl) (by kernel_rfl) trivial ?_
    iterate 14 (refine rg_det rfl rfl rfl (fun K hK => ?_); go_big_quiet_op; refine hK _ ?_; clear hK K)
    refine rg_nil (fun w' hw' hF => ?_)
    obtain ⟨z, rfl⟩ := hw'
    simp only [List.drop_succ_cons, List.drop_zero]
    rw [HQ.out, decide_eq_true HE2.out]
    replace b1w := b1w.keep z.h
    replace b2w := b2w.keep z.h
    replace b4w := b4w.keep z.h
    replace hBw := hBw.trans (z.h.mono hBw.size)
    clear k0 k1 k33 hF
    go_upto_region 7 with (fail)
    refine wp_region_lit ?_
    refine wpSk rfl (J1 (cs := mtc m (.slice (some ⟨g, off, none⟩) m.eps.length cap)) J9 rfl (by rw [J5, J0 _ _ hsl]) rfl rfl (J4 b1w)) fun v37 w37 hh => ?_
    obtain ⟨rfl, rfl⟩ := hh
    try simp only [PutS]
    refine J6 rfl 35 (.tmp 4) (.tmp 37) rfl rfl (cells := mtc m (.slice (some ⟨g, off, none⟩) m.eps.length cap)) rfl b2w (by rw [hcs0, J0 (m) _ hsl]; exact Nat.le_refl _) (by rw [J5, J0 (m) _ hsl]) (Ji _ _ rfl) (Ja _ _ (by rw [hcs0, J0 (m) _ hsl])) fun X hX bX => ?_
    have hBX := J2 hBw hX (by omega)
    clear b1w b2w hX
    try simp only [PutS]
    go_wp2_with fail
    refine bodyPost_ret (v := .tuple #[.agg (mtc m (.slice (some ⟨g, off, none⟩) m.eps.length cap)).toArray, .int .i64 2]) (res_mt (g1 := w.heap.size + 1 + 1) rfl rfl rfl J9 rfl (by rw [J5, J0 _ _ hsl]) bX) rfl ?_
    rw [HC.out, if_pos (by rw [← HCE.out, ← HLE.out]; exact HE2.out)]
    exact ⟨_, rfl, HE.out.le (Bse.le_new (HW.out.below hBX)), hBX⟩
   ·
    have HE2 := Lib.hid hE2
    have hc8 : cnt < 8 := by omega
    clear hE2
    go_upto_region 6 with (fail)
    refine Jd 14 [] (by kernel_rfl) (by kernel_rfl) (by kernel_rfl) trivial ?_
    iterate 14 (refine rg_det rfl rfl rfl (fun K hK => ?_); go_big_quiet_op; refine hK _ ?_; clear hK K)
    refine rg_nil (fun w' hw' hF => ?_)
    obtain ⟨z, rfl⟩ := hw'
    simp only [List.drop_succ_cons, List.drop_zero]
    rw [HQ.out, decide_eq_false HE2.out]
    replace b1w := b1w.keep z.h
    replace b2w := b2w.keep z.h
    replace b4w := b4w.keep z.h
    replace hBw := hBw.trans (z.h.mono hBw.size)
    clear k0 k1 k33 hF
    have hc : takeM m r = (m.put n { m.at n with pts := (m.at n).pts.map (addP (m.at n).count r.amts), peaks := pushN pairD (tz1 (m.at n).count) (m.at n).peaks (leafD r.enc), count := (m.at n).count + 1 }, 0) := by
     rw [HC.out, if_neg (by rw [← HCE.out, ← HLE.out]; exact HE2.out)]
    clear HC
    have HC := Lib.hid hc
    have hc88 : (m.at n).count < 8 := by rw [← HCE.out]; exact hc8
    have hct := HT.out hc8
    rw [HCE.out] at hct
    clear hc
    try simp only [PutS]
    go_upto_region 8 with (fail)
    refine wp_region_lit ?_
    refine wpSk rfl (J1 (cs := mtc m (.slice (some ⟨g, off, none⟩) m.eps.length cap)) J9 rfl (by rw [J5, J0 _ _ hsl]) rfl rfl (J4 b1w)) fun v38 w38 hh => ?_
    obtain ⟨rfl, rfl⟩ := hh
    try simp only [PutS]
    iterate 2 (refine wpList_plain rfl fun K hK => ?_; go_big_op; refine hK _ _ ?_; clear hK K)
    obtain ⟨e', he'⟩ : ∃ e' : Ep, e' = { m.at n with pts := (m.at n).pts.map (addP (m.at n).count r.amts), peaks := pushN pairD (tz1 (m.at n).count) (m.at n).peaks (leafD r.enc), count := (m.at n).count + 1 } := ⟨_, rfl⟩
    refine wpSk rfl (Jm (R := fun v W2 => ∃ vE', v = .tuple #[mtV (Mt.put m n e') vE', .int .i64 0] ∧ EpsB (bs.new z.w W2) vE' (Mt.put m n e').eps ∧ Below (z.w).heap.size z.w W2) J1z ((gChange m HN.out _ n hll _ [.pointer (some ⟨w.heap.size + 1, 0, none⟩)] e' J83 bs z.w (HW.out.below hBw) HE.out (he' ▸ fTake bs z.w (m.at n) hpl.1 H5a.out hpl.2.2.2 hc88 hct r HOK.out (w.heap.size + 1) b4w (HL.out.keep hBw) (HSh.out.keep hBw) (HDb.out.keep hBw))).mono fun r W2 ⟨vE', h1, h2⟩ => ⟨_, h1, vE', rfl, h2⟩) rfl rfl) fun v41 w41 hh => ?_
    obtain ⟨vE', rfl, hE', B41⟩ := hh
    try simp only [PutS]
    obtain ⟨AE, cE, hvE⟩ := hE'.len
    have b2y := (b2w).keep B41
    have hBy := (hBw).trans (B41.mono (hBw).size)
    have hlb := (b2w).lt
    refine wpSk rfl (Jh (v := mtV (m.put n e') vE') rfl rfl rfl) fun v42 w42 hh => ?_
    obtain ⟨rfl, rfl⟩ := hh
    try simp only [PutS]
    refine wpSk rfl (Jh (v := .int .i64 0) rfl rfl rfl) fun v43 w43 hh => ?_
    obtain ⟨rfl, rfl⟩ := hh
    try simp only [PutS]
    refine J6 rfl 35 (.tmp 4) (.tmp 42) rfl rfl (cells := mtc (m.put n e') vE') rfl b2y (by rw [hcs0, J0 (m.put n e') _ hsl]; exact Nat.le_refl _) (by rw [J5, J0 (m.put n e') _ hsl]) (Ji _ _ (by rw [hvE]; rfl)) (Ja _ _ (by rw [hcs0, J0 (m.put n e') _ hsl])) fun X hX bX => ?_
    have hEX : EpsB (bs.new w X) vE' (Mt.eps (m.put n e')) := hE'.out hX HW.out (by omega) (by omega) (by omega)
    have hBX := J2 hBy hX (by omega)
    clear b1w b2y hX B41 hE' hBy hlb b2w hBw b4w
    try simp only [PutS]
    go_wp2_with fail
    refine bodyPost_ret (v := .tuple #[.agg (mtc (m.put n e') vE').toArray, .int .i64 0]) (res_mt (g1 := w.heap.size + 1 + 1) rfl rfl rfl J9 rfl (by rw [J5, J0 (m.put n e') _ hsl]) bX) rfl ?_
    rw [HC.out, ← he']
    exact ⟨_, rfl, hEX, hBX⟩
end

theorem J84 : En Tryz.prog 52 := enters_of Tryz.func52 (by kernel_rfl) rfl
theorem J2u : En Tryz.prog 10 := enters_of Tryz.func10 (by kernel_rfl) rfl
theorem J5y : Tryz.prog.underlying 72 = some (.slice 80) := by kernel_rfl
theorem Jay (seed : Dg) (n log k : Nat) : newPts seed n log (k + 1) = newPts seed n log k ++ [⟨coordM seed n k log, List.replicate 5 0, false⟩] := by simp [newPts, List.range_succ]
theorem Jbs (seed : Dg) (n log k : Nat) : (newPts seed n log k).length = k := by simp [newPts]
def PtL (b : Nat) (p : Pt) (n m : Nat) (v : Value) (w : World) : Prop := v = .slice (some ⟨n, 0, none⟩) 1 1 ∧ n < m ∧ ∃ u : PtW, Blk w n 80 (ptc u).toArray ∧ Rd b n 2 w u.r p.R.length (p.R.flatMap ec) ∧ Rd b n 2 w u.v p.V.length (p.V.flatMap ec) ∧ u.u = p.used
theorem Jgb {b : Nat} {p : Pt} : Fit (PtL b p) (LitF 1) := ⟨fun _ _ _ _ _ ⟨h1, h2, u, h3, h4, h5, h6⟩ hb => ⟨h1, h2, u, h3.below hb h2, Rd.below h4 hb (Nat.le_of_lt h2), Rd.below h5 hb (Nat.le_of_lt h2), h6⟩, fun _ => ⟨_, rfl⟩, fun _ _ _ _ h => h.1⟩
theorem ptl_of {b n10 m10 n11 m11 l c : Nat} {A : Option Addr} {R : List E} {v : Value} {W w' : World} (hh : Lit 80 1 #[.slice A l c, .slice (some ⟨n11, 0, none⟩) 5 5, .bool false] W.heap.size w'.heap.size v w' ∧ Below W.heap.size W w')
  (h1 : m10 ≤ W.heap.size ∧ ExtA R n10 m10 (.slice A l c) W) (h2 : m11 ≤ W.heap.size ∧ Lit 86 5 ((List.replicate 5 (0 : E)).flatMap ec).toArray n11 m11 (.slice (some ⟨n11, 0, none⟩) 5 5) W) (hb1 : b ≤ n10) (hb2 : b ≤ n11) :
  PtL b ⟨R, List.replicate 5 0, false⟩ W.heap.size w'.heap.size v w' ∧ Below W.heap.size W w' := by
 obtain ⟨⟨q1, q2, q3⟩, hB⟩ := hh
 refine ⟨⟨q1, q2, ⟨.slice A l c, .slice (some ⟨n11, 0, none⟩) 5 5, false⟩, q3, ?_, ?_, rfl⟩, hB⟩
 · exact (Rd.below h1.2 hB h1.1).wide hb1 h1.1
 ·
  have h3 := h2.2.2.2.below hB (Nat.lt_of_lt_of_le h2.2.2.1 h2.1)
  have h5 := Nat.lt_of_lt_of_le h2.2.2.1 h2.1
  refine ⟨by rw [Jz ec_len], by simp, _, 5, rfl, Nat.le_refl _, fun _ => ⟨n11, 0, rfl, hb2, h5, h3.lt, fun j x hx => ?_⟩⟩
  rw [Nat.zero_add, h3.cell]
  simpa using hx
def ep0 : Ep := ⟨0, 0, false, [], []⟩
theorem fOpen (w0 : Bse) (w : World) (seed : Dg) (hsd : DgOk seed) (n log pts : Nat) (hn : n ≤ 1000) (hlog : log ≤ 16) (hpts : pts ≤ 16) (bl bp bm bn : Nat) (hcl : w.cell? ⟨bl, 0, none⟩ = some (.int .i64 (log : Int))) (hcp : w.cell? ⟨bp, 0, none⟩ = some (.int .i64 (pts : Int))) (hcm : w.rangeAt bm 1 (byc seed)) (hcn : w.cell? ⟨bn, 0, none⟩ = some (.int .i64 (n : Int)))
  (hb : bl < w.heap.size ∧ bp < w.heap.size ∧ bm < w.heap.size ∧ bn < w.heap.size) (hS : Lsh w) :
  FOk 52 [.pointer (some ⟨bl, 0, none⟩), .pointer (some ⟨bp, 0, none⟩), .pointer (some ⟨bm, 0, none⟩), .pointer (some ⟨bn, 0, none⟩)] w0 w ep0 ⟨log, 0, false, newPts seed n log pts, []⟩ := by
 intro W N gE us i u rest ps h
 have HH := Lib.hid h
 have hps0 : ps = [] := List.eq_nil_of_length_eq_zero h.pts.1
 subst hps0
 have hgEN := h.hN
 have hwN := h.hw
 have hBw := h.hB
 have bE := h.b
 have HPN := Lib.hid h.ptsN
 have HS := Lib.hid hS
 have HSD := Lib.hid hsd
 have HCM := Lib.hid hcm
 obtain ⟨hbl, hbp, hbm, hbn⟩ := hb
 have hclW := (hBw.cell (p := ⟨bl, 0, none⟩) hbl).trans hcl
 have HCL := Lib.hid hcl
 have HCP := Lib.hid hcp
 have HCN := Lib.hid hcn
 have hlW := Nat.lt_of_lt_of_le hbl hBw.size
 have fE := bE.frozen
 have lE := bE.lt
 have c0 := h.cell 0 _ rfl
 rw [Nat.add_zero] at c0
 obtain ⟨ip, hip, ip0, ip1, ip2⟩ := info_parts J5w
 clear h hS hsd hcm hcl hcp hcn
 show Calls Tryz.prog 52 #[.pointer (some ⟨gE, i * 5, none⟩), .pointer (some ⟨bl, 0, none⟩), .pointer (some ⟨bp, 0, none⟩), .pointer (some ⟨bm, 0, none⟩), .pointer (some ⟨bn, 0, none⟩)] W _
 go_enter Tryz.func52, Tryz.ntmps52
 go_upto_region 1 with (fail)
 refine set1 (M := fun W => Code.wp _ _ _ _ W) bE fun X hX bX => ?_
 obtain ⟨u0, hu0⟩ : ∃ u0 : EpW, u0 = { u with log := log } := ⟨_, rfl⟩
 have bX1 : Blk X gE 75 ((us.set i u0).flatMap epc ++ rest).toArray := by
  have h0 := HH.out.setB 0 (.int .i64 (log : Int)) u0 (by rw [hu0]; rfl) (by decide)
  rw [Nat.add_zero] at h0
  rw [List.setIfInBounds_toArray, h0] at bX
  exact bX
 have hNX : Below N W X := J2 (Below.refl _ W |>.mono (by omega)) hX hgEN
 have hBX : Below w.heap.size w X := hBw.trans (hNX.mono hwN)
 have hpX := Lib.hid (HPN.out.put hX HH.out.ne)
 have hcpX := (hBX.cell (p := ⟨bp, 0, none⟩) hbp).trans HCP.out
 have hup : u0.p = u.p := by rw [hu0]
 have HU := Lib.hid hu0
 have hv0 : ∃ A cap, u.p = .slice A 0 cap := Jy HH.out.own
 have HNE := Lib.hid HH.out.ne
 clear bX hX hclW c0 fE bE lE hlW hu0
 have l0 := Nat.lt_of_lt_of_le hbp hBX.size
 obtain ⟨A0, cap0, hA0⟩ := hv0
 go_wp2_with fail
 go_loopw [12] (fun q wr => ∃ (k : Nat) (v : Value) (ps1 : List PtW), k ≤ pts ∧ q = .int .i64 k ∧ PtsN w0 N gE wr v ps1 (newPts seed n log k) ∧ v.ownBlock ≠ some gE ∧ Blk wr gE 75 ((us.set i { u0 with p := v }).flatMap epc ++ rest).toArray ∧ Below N W wr) (fun q _ => pts - (intOf q).toNat)
 case atStart => exact ⟨0, u.p, [], Nat.zero_le _, rfl, hpX.out, HNE.out, by rw [← hup]; exact bX1, hNX⟩
 case round =>
  clear hpX bX1 hNX hcpX hBX l0
  obtain ⟨k, v, ps1, hk, rfl, hpn, hne, bE, hB⟩ := hrel
  have hl1 : ps1.length = k := by rw [(hpn.2 wr (Keeps.refl _)).1, Jbs]
  by_cases hkp : k < pts
  ·
   obtain ⟨Av, cv, rfl⟩ := Jy hpn.1
   rw [hl1] at hpn hne bE
   have hBwr := hBw.trans (hB.mono hwN)
   have c3 := J5x bE HH.out.hi (j := 3) (u := { u0 with p := .slice Av k cv }) rfl
   dsimp only at c3
   have lE := bE.lt
   have kl := Je (Nat.lt_of_lt_of_le hbl hBwr.size) ((hBwr.cell (p := ⟨bl, 0, none⟩) hbl).trans HCL.out)
   have kn := Je (Nat.lt_of_lt_of_le hbn hBwr.size) ((hBwr.cell (p := ⟨bn, 0, none⟩) hbn).trans HCN.out)
   have k3 := Je lE c3
   have HRM := Lib.hid (Jr HCM.out hbm hBwr)
   have hbmr := Nat.lt_of_lt_of_le hbm hBwr.size
   have HSr := Lib.hid (HS.out.keep hBwr)
   have HPR := Lib.hid hpn
   have HNE2 := Lib.hid hne
   clear hpn hne c3
   go_upto_region 4 with (fail)
   refine Jbr 14 [0] [(6, Spec.val (dgv seed)), (10, Spec.rel (ExtA (coordM seed n k log)) (SlF (coordM seed n k log).length)), (11, Spec.rel (Lit 86 5 ((List.replicate 5 (0 : E)).flatMap ec).toArray) (LitF 5)), (13, Spec.rel (PtL wr.heap.size ⟨coordM seed n k log, List.replicate 5 0, false⟩) (LitF 1))] (by kernel_rfl) (by kernel_rfl) (by kernel_rfl) (by kernel_rfl) (by intro _ _ d _ _ h; cases d <;> exact h) ⟨Jfm, J8w, Jgb, trivial⟩ ?_
   iterate 6 (refine rg_det rfl rfl rfl (fun K hK => ?_); go_big_quiet_op; refine hK _ ?_; clear hK K)
   refine rg_val rfl rfl (fun W1 hW1 hF => Jf (cs := byc seed) Jg rfl (by rw [Jc, J3, HSD.out.1]) rfl rfl (Jr HRM.out hbmr (J8 hW1))) ?_
   intro a' ha
   simp only [PutS] at ha
   subst ha
   iterate 3 (refine rg_det rfl rfl rfl (fun K hK => ?_); go_big_quiet_op; refine hK _ ?_; clear hK K)
   refine rg_rel rfl rfl (fun W1 hW1 hF => Jp J6g (gCoords seed HSD.out n k log (by omega) (by omega) (by omega) W1 (HSr.out.keep (J8 hW1))) rfl rfl) ?_
   intro n10 m10 v10 hn10 hm10 hd10 hf10 a' ha
   simp only [PutS] at ha
   subst ha
   obtain ⟨A10, cap10, rfl⟩ := hf10
   refine rg_rel rfl rfl (fun W1 hW1 hF => Jdy 5 (by decide) rfl rfl rfl) ?_
   intro n11 m11 v11 hn11 hm11 hd11 hf11 a' ha
   simp only [PutS] at ha
   subst ha
   obtain rfl := hf11
   refine rg_det rfl rfl rfl (fun K hK => ?_)
   go_big_quiet_op
   refine hK _ ?_; clear hK K
   refine rg_rel rfl rfl (fun W1 hW1 hF => Jb (fun v w' hh => ptl_of hh (J1a (J5s hF) (by kernel_rfl)) (J1a hF (by kernel_rfl)) hn10 hn11) (J15 (cs := #[.slice A10 (coordM seed n k log).length cap10, .slice (some ⟨n11, 0, none⟩) 5 5, .bool false]) J5y hip ip0 ip1 (by decide) (by decide) rfl rfl rfl)) ?_
   intro n13 m13 v13 hn13 hm13 hd13 hf13 a' ha
   simp only [PutS] at ha
   subst ha
   obtain rfl := hf13
   refine rg_nil (fun w' hw' hF => ?_)
   obtain ⟨z, rfl⟩ := hw'
   simp only [List.drop_succ_cons, List.drop_zero]
   obtain ⟨q10, q11⟩ : m13 ≤ z.w.heap.size ∧ PtL wr.heap.size ⟨coordM seed n k log, List.replicate 5 0, false⟩ n13 m13 (.slice (some ⟨n13, 0, none⟩) 1 1) z.w := hF _ (List.mem_append_right _ (List.mem_singleton.2 rfl))
   obtain ⟨-, hn13m, u2, b13, r1, r2, r3⟩ := q11
   have hzs := z.h.size
   have bEz := bE.keep z.h
   have hownz := Jq HPR.out.1 (Nat.le_refl _) z.h
   rw [hl1] at hownz
   have hBz : Below N W z.w := hB.trans (z.h.mono (by have := hB.size; have := HH.out.b.lt; omega))
   have hNz : N ≤ z.w.heap.size := by omega
   have hone : ∀ x ∈ ptc u2, x.oneCell' = true := by
    obtain ⟨A1, c1, e1⟩ := Rd.len r1
    obtain ⟨A2, c2, e2⟩ := Rd.len r2
    intro x hx
    simp only [ptc, List.mem_cons, List.not_mem_nil, or_false] at hx
    rcases hx with rfl | rfl | rfl
    · rw [e1]; rfl
    · rw [e2]; rfl
    · rfl
   have HR1 := Lib.hid r1
   have HR2 := Lib.hid r2
   have HR3 := Lib.hid r3
   clear hF kl kn k3 r1 r2 r3 q10
   refine J29 (u := .slice Av k cv) rfl _ _ rfl J5y hip ip0 ip1 ip2 rfl (by decide) (cl := ptc u2) rfl hone rfl rfl hownz b13 (by unfold maxLen; omega) (by omega) hNz ?_
   intro v' w' hown' hgrow hBg hat
   obtain ⟨Av2, cv2, hv2⟩ := Jy hown'
   have hne0 : some gE ≠ (Value.slice Av k cv).ownBlock := fun h => HNE2.out h.symm
   have hne' : v'.ownBlock ≠ some gE := fun h => by
    rcases hat with h2 | h2
    · exact HNE2.out (by rw [← h2]; exact h)
    · rw [h2] at h; cases h; omega
   have bEg := Ja4 hgrow bEz hne0
   have hBg2 : Below N W w' := hBz.trans hBg
   have HAT := Lib.hid hat
   have HGR := Lib.hid hgrow
   have HOWN := Lib.hid hown'
   have HNE3 := Lib.hid hne'
   have lEg := bEg.lt
   have fEg := bEg.frozen
   have c3g := J5x bEg HH.out.hi (j := 3) (u := { u0 with p := .slice Av k cv }) rfl
   dsimp only at c3g
   subst hv2
   clear hat hgrow hown' hne' hne0 bEz hownz hBz b13 hone bE hB hBg
   go_upto_region 5 with (fail)
   refine set1 (M := fun W => Code.wp _ _ _ _ W) bEg fun Z hZ bZ => ?_
   have bZ2 : Blk Z gE 75 ((us.set i { u0 with p := .slice Av2 (k + 1) cv2 }).flatMap epc ++ rest).toArray := by
    rw [List.setIfInBounds_toArray, Jaj (us.set i { u0 with p := .slice Av k cv }) rest i 3 { u0 with p := .slice Av k cv } { u0 with p := .slice Av2 (k + 1) cv2 } _ (List.getElem?_set_self HH.out.hi) rfl (by decide), List.set_set] at bZ
    exact bZ
   have hBZ : Below N W Z := J2 hBg2 hZ hgEN
   have hownZ := Jt HOWN.out hZ HNE3.out
   have hgw : w'.heap.size = Z.heap.size := hZ.size.symm
   have hzw : z.w.heap.size ≤ w'.heap.size := HGR.out.size
   have hpn2 : PtsN w0 N gE Z (.slice Av2 (k + 1) cv2) (ps1 ++ [u2]) (newPts seed n log (k + 1)) := by
    refine ⟨?_, fun Y hY => ?_⟩
    ·
     rw [List.length_append, hl1, List.flatMap_append]
     simpa using hownZ
    ·
     have hsame : ∀ g, (InB w0 g ∨ N ≤ g) → g < z.w.heap.size → some g ≠ (Value.slice Av k cv).ownBlock → g ≠ gE → Y.heap[g]? = z.w.heap[g]? := fun g hg hl hv hE => by
      have h1 : (Value.slice Av2 (k + 1) cv2).ownBlock ≠ some g := fun e => by
       rcases HAT.out with h2 | h2
       · exact hv (by rw [← h2]; exact e.symm)
       · rw [h2] at e; cases e; omega
      exact ((hY.same g ⟨hg, h1, hE⟩ (by omega)).trans (hZ.other g hE)).trans (HGR.out.block g hl hv)
     have hYs : z.w.heap.size ≤ Y.heap.size := by have := hY.size; omega
     rw [Jay]
     refine Al.snoc (HPR.out.2 Y ⟨by omega, fun g hg hl => ?_⟩) ?_
     · exact (hsame g hg.1 (by omega) (fun e => hg.2.1 e.symm) hg.2.2).trans (z.h.block g hl)
     ·
      have hrow : ∀ g, wr.heap.size ≤ g → g < n13 → g < z.w.heap.size → Y.heap[g]? = z.w.heap[g]? := fun g h1 _ h3 =>
       hsame g (.inr (by have := hNz; have := HH.out.b.lt; omega)) h3 (fun e => by have := (Jk HPR.out.1 e.symm).2; omega) (by omega)
      exact ⟨RdA.of (Rd.other HR1.out hYs hrow), RdA.of (Rd.other HR2.out hYs hrow), HR3.out⟩
   clear bZ bEg fEg c3g lEg hZ hownZ hBg2 hgw
   go_wp2_with fail
   exact ⟨⟨k + 1, _, _, by omega, by go_num, hpn2, HNE3.out, bZ2, hBZ⟩, by simp [intOf]; omega⟩
  ·
   obtain rfl : k = pts := by omega
   go_wp2_with fail
   go_end0
   obtain ⟨r1, r2, r3⟩ := HH.out.num
   have ho : w0.ok wr := HH.out.h0.below (hBw.trans (hB.mono hwN))
   have hle : w0.le ⟨wr, fun g => InB w0 g ∨ N ≤ g⟩ := Bse.le_ok ho fun g hg => .inl hg
   refine ⟨⟨_, rfl⟩, _, bE, ⟨⟨by rw [HU.out], by rw [HU.out]; exact r2, by rw [HU.out]; exact r3⟩, Jbf hpn.1 (by omega) (al_all fun Y hY => hpn.2 Y ⟨hY.keepsS.size, fun g hg hl => hY.keepsS.same g hg.1 hl⟩) (fun g hg => .inr hg), ?_⟩, hB⟩
   rw [HU.out]
   exact HH.out.pk.le hle
end Go.Proofs.YtoiampgfnidfdaaGreatDoor
