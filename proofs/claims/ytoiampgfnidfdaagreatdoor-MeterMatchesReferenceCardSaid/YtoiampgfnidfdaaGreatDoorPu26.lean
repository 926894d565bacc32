/-
  The program's Push.
-/
import Derived.Test.YtoiampgfnidfdaaGreatDoorVr26
import Derived.Test.YtoiampgfnidfdaaGreatDoorMm3
import Derived.Test.YtoiampgfnidfdaaGreatDoorKy26
set_option maxRecDepth 100000
set_option maxHeartbeats 8000000
namespace Go.Proofs.YtoiampgfnidfdaaGreatDoor
open Go.RowKit
section
open Go.RowKit

theorem J77 : En Tryz.prog 65 := enters_of Tryz.func65 (by kernel_rfl) rfl
theorem J33 : En Tryz.prog 16 := enters_of Tryz.func16 (by kernel_rfl) rfl
theorem ep_of {w0 : Bse} {w W X : World} {N gE i : Nat} {us : List EpW} {u : EpW} {rest : List Value} {ps ps' : List PtW} {e : Ep} {pts : List Pt} (h : ChS w0 w W N gE us i u rest ps e) (hp : PtsN w0 N gE X u.p ps' pts) (hB : Below N W X) (hs : ps'.length ≤ 1000000) :
  PtsB ⟨X, fun g => InB w0 g ∨ N ≤ g⟩ u.p pts ∧ w0.le ⟨X, fun g => InB w0 g ∨ N ≤ g⟩ := by
 have ho : w0.ok X := h.h0.below (h.hB.trans (hB.mono h.hw))
 refine ⟨Jbf hp.1 hs (al_all fun Y hY => hp.2 Y ?_) (fun g hg => .inr hg), Bse.le_ok ho fun g hg => .inl hg⟩
 have hk := hY.keepsS
 exact ⟨hk.size, fun g hg hl => hk.same g hg.1 hl⟩
theorem fRetract (w0 : Bse) (w : World) (e : Ep) (hp : e.pts.length ≤ 1000) (hpt : ∀ p ∈ e.pts, p.R.length ≤ 60 ∧ p.V.length = 5) (b j : Nat) (hj : j ≤ 1000000) (hb : w.cell? ⟨b, 0, none⟩ = some (.int .i64 (j : Int))) (hbl : b < w.heap.size) (hL : Laid w) :
  FOk 65 [.pointer (some ⟨b, 0, none⟩)] w0 w e { e with pts := e.pts.map (addP j [0, 0, 0, 0, -1]) } := by
 intro W N gE us i u rest ps h
 have HH := Lib.hid h
 have HA := Lib.hid (gAddM w0 w W N gE i us u rest ps e h [0, 0, 0, 0, -1] rfl (by simp) j hj hp hpt hL)
 have cb := (h.hB.cell (p := ⟨b, 0, none⟩) hbl).trans hb
 have hbW := Nat.lt_of_lt_of_le hbl h.hB.size
 clear h
 show Calls Tryz.prog 65 #[.pointer (some ⟨gE, i * 5, none⟩), .pointer (some ⟨b, 0, none⟩)] W _
 go_enter Tryz.func65, Tryz.ntmps65
 go_wp2_with fail
 refine HA.out.mono ?_
 rintro r W2 ⟨⟨v, rfl⟩, ps', hpn, bE, hB⟩
 go_wp2
 go_end0
 obtain ⟨r1, r2, r3⟩ := HH.out.num
 have hl' : ps'.length = (e.pts.map (addP j [0, 0, 0, 0, -1])).length := (hpn.2 W2 (Keeps.refl _)).1
 rw [List.length_map] at hl'
 obtain ⟨q1, q2⟩ := ep_of HH.out hpn hB (by omega)
 exact ⟨⟨_, rfl⟩, u, bE, ⟨⟨r1, r2, r3⟩, q1, HH.out.pk.le q2⟩, hB⟩
def PtsN5 (m : Mt) : Prop := ∀ e ∈ m.eps, ∀ p ∈ e.pts, p.R.length ≤ 60 ∧ p.V.length = 5
attribute [local irreducible] wpRg
theorem gRetractM (m : Mt) (hN : MtN m) (h5 : PtsN5 m) (i : Int) (hi : -9223372036854775808 ≤ i ∧ i ≤ 9223372036854775807) (r : Rdg) (hr : RdgIn r) (vE : Value) (bs : Bse) (w : World) (hw : bs.ok w) (hL : Laid w) (hE : EpsB bs vE m.eps) : Calls Tryz.prog 16 #[mtV m vE, .int .i64 i, rdV r] w (MRes bs (retractM m i r) w) := by
 have HW := Lib.hid hw
 clear hw
 have HR := Lib.hid hr
 have H5 := Lib.hid h5
 have HI := Lib.hid hi
 have HL := Lib.hid hL
 obtain ⟨Sr, hSr⟩ : ∃ S, S = rdV r := ⟨_, rfl⟩
 rw [← hSr]
 obtain ⟨S, hS⟩ : ∃ S, S = mtV m vE := ⟨_, rfl⟩
 rw [← hS]
 have HN := Lib.hid hN
 have HE := Lib.hid hE
 obtain ⟨A, cap, rfl⟩ := hE.len
 have hml := hN.eps
 clear hN hE
 clear hr h5 hi hL
 go_enter Tryz.func16, Tryz.ntmps16
 go_upto_region 1 with (fail)
 refine Jfi fun W hB hz b1 b4 b3 b2 => ?_
 have b1' : Blk W w.heap.size 35 (mtc m (.slice A m.eps.length cap)).toArray := by first | exact b1 | (rw [hS] at b1; exact b1)
 have b3' : Blk W (w.heap.size + 1 + 1) 28 (rdc r).toArray := by first | exact b3 | (rw [hSr] at b3; exact b3)
 obtain ⟨cs0, hcs0, b2'⟩ : ∃ cs : Array Value, cs.size = 34 ∧ Blk W (w.heap.size + 1 + 1 + 1) 35 cs := ⟨_, rfl, b2⟩
 have hsl := HN.out.seed.1
 clear b1 b2 b3 hz hS hSr
 refine wp_region_lit ?_
 refine wpSk rfl (J1 (cs := mtc m (.slice A m.eps.length cap)) J9 rfl (by rw [J5, J0 _ _ hsl]) rfl rfl (J4 b1')) fun v11 w11 hh => ?_
 obtain ⟨rfl, rfl⟩ := hh
 try simp only [PutS]
 refine wpSk rfl (J7 J2e (gCurrent m HN.out (.slice A m.eps.length cap) w11 (HE.out.old (HW.out.below hB))) rfl rfl) fun v12 w12 hh => ?_
 obtain ⟨rfl, B12⟩ := hh
 try simp only [PutS]
 have b1w := b1'.keep B12
 have b2w := b2'.keep B12
 have b3w := b3'.keep B12
 have b4w := b4.keep B12
 have hBw := hB.trans (B12.mono hB.size)
 clear b1' b2' b3' b4 hB B12
 try simp only [PutS]
 go_upto_region 2 with (fail)
 refine wp_region_lit ?_
 refine wpSk rfl (J1 (cs := rdc r) J1c rfl J1f rfl rfl (J4 b3w)) fun v16 w16 hh => ?_
 obtain ⟨rfl, rfl⟩ := hh
 try simp only [PutS]
 refine wpSk rfl (J7 J4j (gValidR r HR.out w16) rfl rfl) fun v17 w17 hh => ?_
 obtain ⟨rfl, B17⟩ := hh
 try simp only [PutS]
 replace b1w := b1w.keep B17
 replace b2w := b2w.keep B17
 replace b4w := b4w.keep B17
 replace hBw := hBw.trans (B17.mono hBw.size)
 obtain ⟨bo, hbo⟩ : ∃ b, b = decide r.ok := ⟨_, rfl⟩
 rw [← hbo]
 clear B17 b3w
 cases bo with
 | false =>
  have HC := Lib.hid (show retractM m i r = (m, 1) by unfold retractM; rw [if_pos (of_decide_eq_false hbo.symm)])
  clear hbo
  go_upto_region 3 with (fail)
  refine wp_region_lit ?_
  refine wpSk rfl (J1 (cs := mtc m (.slice (A) m.eps.length cap)) J9 rfl (by rw [J5, J0 _ _ hsl]) rfl rfl (J4 b1w)) fun v19 w19 hh => ?_
  obtain ⟨rfl, rfl⟩ := hh
  try simp only [PutS]
  refine J6 rfl 35 (.tmp 6) (.tmp 19) rfl rfl (cells := mtc m (.slice (A) m.eps.length cap)) rfl b2w (by rw [hcs0, J0 (m) _ hsl]; exact Nat.le_refl _) (by rw [J5, J0 (m) _ hsl]) (Ji _ _ rfl) (Ja _ _ (by rw [hcs0, J0 (m) _ hsl])) fun X hX bX => ?_
  have hBX := J2 hBw hX (by omega)
  clear b1w b2w hX
  try simp only [PutS]
  go_wp2_with fail
  refine bodyPost_ret (v := .tuple #[.agg (mtc m (.slice (A) m.eps.length cap)).toArray, .int .i64 1]) (res_mt (g1 := w.heap.size + 1 + 1 + 1) rfl rfl rfl J9 rfl (by rw [J5, J0 _ _ hsl]) bX) rfl ?_
  rw [HC.out]
  exact ⟨_, rfl, HE.out.le (Bse.le_new (HW.out.below hBX)), hBX⟩
 | true =>
  have hok : ¬ ¬ r.ok := fun h => h (of_decide_eq_true hbo.symm)
  cases ho : m.isOpen with
  | false =>
   have HC := Lib.hid (show retractM m i r = (m, 260) by unfold retractM; rw [if_neg hok, if_pos ho])
   clear hbo ho hok
   go_upto_region 5 with (fail)
   refine wp_region_lit ?_
   refine wpSk rfl (J1 (cs := mtc m (.slice (A) m.eps.length cap)) J9 rfl (by rw [J5, J0 _ _ hsl]) rfl rfl (J4 b1w)) fun v23 w23 hh => ?_
   obtain ⟨rfl, rfl⟩ := hh
   try simp only [PutS]
   refine J6 rfl 35 (.tmp 6) (.tmp 23) rfl rfl (cells := mtc m (.slice (A) m.eps.length cap)) rfl b2w (by rw [hcs0, J0 (m) _ hsl]; exact Nat.le_refl _) (by rw [J5, J0 (m) _ hsl]) (Ji _ _ rfl) (Ja _ _ (by rw [hcs0, J0 (m) _ hsl])) fun X hX bX => ?_
   have hBX := J2 hBw hX (by omega)
   clear b1w b2w hX
   try simp only [PutS]
   go_wp2_with fail
   refine bodyPost_ret (v := .tuple #[.agg (mtc m (.slice (A) m.eps.length cap)).toArray, .int .i64 260]) (res_mt (g1 := w.heap.size + 1 + 1 + 1) rfl rfl rfl J9 rfl (by rw [J5, J0 _ _ hsl]) bX) rfl ?_
   rw [HC.out]
   exact ⟨_, rfl, HE.out.le (Bse.le_new (HW.out.below hBX)), hBX⟩
  | true =>
   have hc : retractM m i r = if i < 0 ∨ i ≥ (m.at m.last).count then (m, 4)
     else (m.put m.last { m.at m.last with pts := (m.at m.last).pts.map (addP i.toNat [0, 0, 0, 0, -1]) }, 0) := by
    unfold retractM
    rw [if_neg hok, if_neg (by rw [ho]; decide)]
   obtain ⟨h0, hcl⟩ := J36 ho
   have hli : ((m.eps.length : Int) - 1) = ((m.last : Nat) : Int) := by unfold Mt.last; omega
   have hll : m.last < m.eps.length := by unfold Mt.last; omega
   have hpl := (HN.out.ep _ _ (at_get m m.last hll))
   obtain ⟨g, off, cap', p, d, hv, hcp, hg, e0, e1, e2, e3, e4, -, -⟩ := (HE.out.old (HW.out.below hBw)).at (at_get m m.last hll)
   cases hv
   have H5a := Lib.hid (H5.out (m.at m.last) (List.mem_of_getElem? (at_get m m.last hll)))
   have c33 := J11 b1w hsl
   have c40 := b4w.cell 0
   have l1 := b1w.lt
   have l4 := b4w.lt
   simp only [List.getElem?_toArray, List.getElem?_cons_zero] at c40
   generalize m.last = n at *
   have HC := Lib.hid hc
   clear ho hcl h0 hc hok hbo e0 e2 e3 e4
   rw [hli]
   have k1 := Je hg e1
   have k33 := Je l1 c33
   have k40 := Je l4 c40
   have hcnt := hpl.2.2.1
   obtain ⟨cnt, hcE⟩ : ∃ c, c = (m.at n).count := ⟨_, rfl⟩
   rw [← hcE] at k1 hcnt
   have HCE := Lib.hid hcE
   clear hcE e1 c33 c40 l1 l4 hcp
   by_cases hi0 : i < 0
   ·
    go_upto_region 6 with (fail)
    refine Jd 13 [] (by kernel_rfl) (by kernel_rfl) (by kernel_rfl) trivial ?_
    iterate 3 (refine rg_det rfl rfl rfl (fun K hK => ?_); go_big_quiet_op; refine hK _ ?_; clear hK K)
    iterate 8 (refine J5r (by kernel_rfl) ?_; intro a' ha; simp only [PutS] at ha; subst ha)
    iterate 2 (refine rg_det rfl rfl rfl (fun K hK => ?_); go_big_quiet_op; refine hK _ ?_; clear hK K)
    refine rg_nil (fun w' hw' hF => ?_)
    obtain ⟨z, rfl⟩ := hw'
    simp only [List.drop_succ_cons, List.drop_zero]
    replace b1w := b1w.keep z.h
    replace b2w := b2w.keep z.h
    replace b4w := b4w.keep z.h
    replace hBw := hBw.trans (z.h.mono hBw.size)
    clear k1 k33 k40 hF
    go_upto_region 7 with (fail)
    refine wp_region_lit ?_
    refine wpSk rfl (J1 (cs := mtc m (.slice (some ⟨g, off, none⟩) m.eps.length cap)) J9 rfl (by rw [J5, J0 _ _ hsl]) rfl rfl (J4 b1w)) fun v37 w37 hh => ?_
    obtain ⟨rfl, rfl⟩ := hh
    try simp only [PutS]
    refine J6 rfl 35 (.tmp 6) (.tmp 37) rfl rfl (cells := mtc m (.slice (some ⟨g, off, none⟩) m.eps.length cap)) rfl b2w (by rw [hcs0, J0 (m) _ hsl]; exact Nat.le_refl _) (by rw [J5, J0 (m) _ hsl]) (Ji _ _ rfl) (Ja _ _ (by rw [hcs0, J0 (m) _ hsl])) fun X hX bX => ?_
    have hBX := J2 hBw hX (by omega)
    clear b1w b2w hX
    try simp only [PutS]
    go_wp2_with fail
    refine bodyPost_ret (v := .tuple #[.agg (mtc m (.slice (some ⟨g, off, none⟩) m.eps.length cap)).toArray, .int .i64 4]) (res_mt (g1 := w.heap.size + 1 + 1 + 1) rfl rfl rfl J9 rfl (by rw [J5, J0 _ _ hsl]) bX) rfl ?_
    rw [HC.out, if_pos (.inl hi0)]
    exact ⟨_, rfl, HE.out.le (Bse.le_new (HW.out.below hBX)), hBX⟩
   ·
    obtain ⟨j, rfl⟩ : ∃ j : Nat, i = (j : Int) := ⟨i.toNat, by omega⟩
    clear hi0
    by_cases hi1 : (cnt : Int) ≤ (j : Int)
    ·
     go_upto_region 6 with (fail)
     refine Jd 13 [] (by kernel_rfl) (by kernel_rfl) (by kernel_rfl) trivial ?_
     iterate 13 (refine rg_det rfl rfl rfl (fun K hK => ?_); go_big_quiet_op; refine hK _ ?_; clear hK K)
     refine rg_nil (fun w' hw' hF => ?_)
     obtain ⟨z, rfl⟩ := hw'
     simp only [List.drop_succ_cons, List.drop_zero]
     replace b1w := b1w.keep z.h
     replace b2w := b2w.keep z.h
     replace b4w := b4w.keep z.h
     replace hBw := hBw.trans (z.h.mono hBw.size)
     clear k1 k33 k40 hF
     go_upto_region 7 with (fail)
     refine wp_region_lit ?_
     refine wpSk rfl (J1 (cs := mtc m (.slice (some ⟨g, off, none⟩) m.eps.length cap)) J9 rfl (by rw [J5, J0 _ _ hsl]) rfl rfl (J4 b1w)) fun v37 w37 hh => ?_
     obtain ⟨rfl, rfl⟩ := hh
     try simp only [PutS]
     refine J6 rfl 35 (.tmp 6) (.tmp 37) rfl rfl (cells := mtc m (.slice (some ⟨g, off, none⟩) m.eps.length cap)) rfl b2w (by rw [hcs0, J0 (m) _ hsl]; exact Nat.le_refl _) (by rw [J5, J0 (m) _ hsl]) (Ji _ _ rfl) (Ja _ _ (by rw [hcs0, J0 (m) _ hsl])) fun X hX bX => ?_
     have hBX := J2 hBw hX (by omega)
     clear b1w b2w hX
     try simp only [PutS]
     go_wp2_with fail
     refine bodyPost_ret (v := .tuple #[.agg (mtc m (.slice (some ⟨g, off, none⟩) m.eps.length cap)).toArray, .int .i64 4]) (res_mt (g1 := w.heap.size + 1 + 1 + 1) rfl rfl rfl J9 rfl (by rw [J5, J0 _ _ hsl]) bX) rfl ?_
     rw [HC.out, if_pos (.inr (by rw [← HCE.out]; exact hi1))]
     exact ⟨_, rfl, HE.out.le (Bse.le_new (HW.out.below hBX)), hBX⟩
    ·
     go_upto_region 6 with (fail)
     refine Jd 13 [] (by kernel_rfl) (by kernel_rfl) (by kernel_rfl) trivial ?_
     iterate 13 (refine rg_det rfl rfl rfl (fun K hK => ?_); go_big_quiet_op; refine hK _ ?_; clear hK K)
     refine rg_nil (fun w' hw' hF => ?_)
     obtain ⟨z, rfl⟩ := hw'
     simp only [List.drop_succ_cons, List.drop_zero]
     replace b1w := b1w.keep z.h
     replace b2w := b2w.keep z.h
     replace b4w := b4w.keep z.h
     replace hBw := hBw.trans (z.h.mono hBw.size)
     clear k1 k33 k40 hF
     have c40 := b4w.cell 0
     have l4 := b4w.lt
     simp only [List.getElem?_toArray, List.getElem?_cons_zero] at c40
     have hc : retractM m j r = (m.put n { m.at n with pts := (m.at n).pts.map (addP j [0, 0, 0, 0, -1]) }, 0) := by
      rw [HC.out, if_neg (by rw [← HCE.out]; omega), Int.toNat_natCast]
     clear HC
     have HC := Lib.hid hc
     clear hc
     try simp only [PutS]
     go_upto_region 8 with (fail)
     refine wp_region_lit ?_
     refine wpSk rfl (J1 (cs := mtc m (.slice (some ⟨g, off, none⟩) m.eps.length cap)) J9 rfl (by rw [J5, J0 _ _ hsl]) rfl rfl (J4 b1w)) fun v38 w38 hh => ?_
     obtain ⟨rfl, rfl⟩ := hh
     try simp only [PutS]
     iterate 2 (refine wpList_plain rfl fun K hK => ?_; go_big_op; refine hK _ _ ?_; clear hK K)
     obtain ⟨e', he'⟩ : ∃ e' : Ep, e' = { m.at n with pts := (m.at n).pts.map (addP j [0, 0, 0, 0, -1]) } := ⟨_, rfl⟩
     refine wpSk rfl (Jm (R := fun v W2 => ∃ vE', v = .tuple #[mtV (Mt.put m n e') vE', .int .i64 0] ∧ EpsB (bs.new z.w W2) vE' (Mt.put m n e').eps ∧ Below (z.w).heap.size z.w W2) J1z ((gChange m HN.out _ n hll _ [.pointer (some ⟨w.heap.size + 1, 0, none⟩)] e' J77 bs z.w (HW.out.below hBw) HE.out (he' ▸ fRetract bs z.w (m.at n) hpl.1 H5a.out (w.heap.size + 1) j (by omega) c40 l4 (HL.out.keep hBw))).mono fun r W2 ⟨vE', h1, h2⟩ => ⟨_, h1, vE', rfl, h2⟩) rfl rfl) fun v41 w41 hh => ?_
     obtain ⟨vE', rfl, hE', B41⟩ := hh
     try simp only [PutS]
     obtain ⟨AE, cE, hvE⟩ := hE'.len
     have b2y := (b2w).keep B41
     have hBy := (hBw).trans (B41.mono (hBw).size)
     have hlb := (b2w).lt
     refine wpSk rfl (Jh (v := mtV (m.put n e') vE') rfl rfl rfl) fun v42 w42 hh => ?_
     obtain ⟨rfl, rfl⟩ := hh
     try simp only [PutS]
     refine wpSk rfl (Jh (v := .int .i64 0) rfl rfl rfl) fun v43 w43 hh => ?_
     obtain ⟨rfl, rfl⟩ := hh
     try simp only [PutS]
     refine J6 rfl 35 (.tmp 6) (.tmp 42) rfl rfl (cells := mtc (m.put n e') vE') rfl b2y (by rw [hcs0, J0 (m.put n e') _ hsl]; exact Nat.le_refl _) (by rw [J5, J0 (m.put n e') _ hsl]) (Ji _ _ (by rw [hvE]; rfl)) (Ja _ _ (by rw [hcs0, J0 (m.put n e') _ hsl])) fun X hX bX => ?_
     have hEX : EpsB (bs.new w X) vE' (Mt.eps (m.put n e')) := hE'.out hX HW.out (by omega) (by omega) (by omega)
     have hBX := J2 hBy hX (by omega)
     clear b1w b2y hX B41 hE' hBy hlb b2w hBw c40 l4 b4w
     try simp only [PutS]
     go_wp2_with fail
     refine bodyPost_ret (v := .tuple #[.agg (mtc (m.put n e') vE').toArray, .int .i64 0]) (res_mt (g1 := w.heap.size + 1 + 1 + 1) rfl rfl rfl J9 rfl (by rw [J5, J0 (m.put n e') _ hsl]) bX) rfl ?_
     rw [HC.out, ← he']
     exact ⟨_, rfl, hEX, hBX⟩
end

structure Ldb (w : World) : Prop where
 c0 : w.cell? ⟨3, 0, none⟩ = some (.int .u8 0)
 c1 : w.cell? ⟨3, 1, none⟩ = some (.int .u8 1)
 c3 : w.cell? ⟨3, 3, none⟩ = some (.int .u8 2)
 c7 : w.cell? ⟨3, 7, none⟩ = some (.int .u8 3)
 sz : 3 < w.heap.size
theorem Ldb.keep {w X : World} (h : Ldb w) (hb : Below w.heap.size w X) : Ldb X :=
 ⟨(hb.cell (p := ⟨3, 0, none⟩) h.sz).trans h.c0, (hb.cell (p := ⟨3, 1, none⟩) h.sz).trans h.c1, (hb.cell (p := ⟨3, 3, none⟩) h.sz).trans h.c3, (hb.cell (p := ⟨3, 7, none⟩) h.sz).trans h.c7, Nat.lt_of_lt_of_le h.sz hb.size⟩
theorem gTz0 (c : Nat) (hc : c < 8) (w : World) (hL : Ldb w) : Calls Tryz.prog 133 #[.int .u64 (18446744073709551615 - (c : Int))] w fun e w2 => e = .returned (.int .i64 (tz1 c : Nat)) ∧ w2 = w := by
 obtain ⟨h0, h1, h3, h7, hs⟩ := hL
 obtain rfl | rfl | rfl | rfl | rfl | rfl | rfl | rfl : c = 0 ∨ c = 1 ∨ c = 2 ∨ c = 3 ∨ c = 4 ∨ c = 5 ∨ c = 6 ∨ c = 7 := by omega
 ·
  rw [show (18446744073709551615 : Int) - ((0 : Nat) : Int) = 18446744073709551615 from rfl]
  have e1 : IntKind.u64.wrap (-18446744073709551615) = 1 := by decide +kernel
  have e2 : bits .and .u64 18446744073709551615 1 = 1 := by decide +kernel
  have e3 : IntKind.u64.wrap (1 * 285870213051353865) = 285870213051353865 := by decide +kernel
  go_enter Tryz.func133, Tryz.ntmps133
  go_wp2
  go_ret
  exact ⟨by rw [show tz1 0 = 0 by simp [tz1]]; rfl, rfl⟩
 ·
  rw [show (18446744073709551615 : Int) - ((1 : Nat) : Int) = 18446744073709551614 from rfl]
  have e1 : IntKind.u64.wrap (-18446744073709551614) = 2 := by decide +kernel
  have e2 : bits .and .u64 18446744073709551614 2 = 2 := by decide +kernel
  have e3 : IntKind.u64.wrap (2 * 285870213051353865) = 571740426102707730 := by decide +kernel
  go_enter Tryz.func133, Tryz.ntmps133
  go_wp2
  go_ret
  exact ⟨by rw [show tz1 1 = 1 by simp [tz1]]; rfl, rfl⟩
 ·
  rw [show (18446744073709551615 : Int) - ((2 : Nat) : Int) = 18446744073709551613 from rfl]
  have e1 : IntKind.u64.wrap (-18446744073709551613) = 3 := by decide +kernel
  have e2 : bits .and .u64 18446744073709551613 3 = 1 := by decide +kernel
  have e3 : IntKind.u64.wrap (1 * 285870213051353865) = 285870213051353865 := by decide +kernel
  go_enter Tryz.func133, Tryz.ntmps133
  go_wp2
  go_ret
  exact ⟨by rw [show tz1 2 = 0 by simp [tz1]]; rfl, rfl⟩
 ·
  rw [show (18446744073709551615 : Int) - ((3 : Nat) : Int) = 18446744073709551612 from rfl]
  have e1 : IntKind.u64.wrap (-18446744073709551612) = 4 := by decide +kernel
  have e2 : bits .and .u64 18446744073709551612 4 = 4 := by decide +kernel
  have e3 : IntKind.u64.wrap (4 * 285870213051353865) = 1143480852205415460 := by decide +kernel
  go_enter Tryz.func133, Tryz.ntmps133
  go_wp2
  go_ret
  exact ⟨by rw [show tz1 3 = 2 by simp [tz1]]; rfl, rfl⟩
 ·
  rw [show (18446744073709551615 : Int) - ((4 : Nat) : Int) = 18446744073709551611 from rfl]
  have e1 : IntKind.u64.wrap (-18446744073709551611) = 5 := by decide +kernel
  have e2 : bits .and .u64 18446744073709551611 5 = 1 := by decide +kernel
  have e3 : IntKind.u64.wrap (1 * 285870213051353865) = 285870213051353865 := by decide +kernel
  go_enter Tryz.func133, Tryz.ntmps133
  go_wp2
  go_ret
  exact ⟨by rw [show tz1 4 = 0 by simp [tz1]]; rfl, rfl⟩
 ·
  rw [show (18446744073709551615 : Int) - ((5 : Nat) : Int) = 18446744073709551610 from rfl]
  have e1 : IntKind.u64.wrap (-18446744073709551610) = 6 := by decide +kernel
  have e2 : bits .and .u64 18446744073709551610 6 = 2 := by decide +kernel
  have e3 : IntKind.u64.wrap (2 * 285870213051353865) = 571740426102707730 := by decide +kernel
  go_enter Tryz.func133, Tryz.ntmps133
  go_wp2
  go_ret
  exact ⟨by rw [show tz1 5 = 1 by simp [tz1]]; rfl, rfl⟩
 ·
  rw [show (18446744073709551615 : Int) - ((6 : Nat) : Int) = 18446744073709551609 from rfl]
  have e1 : IntKind.u64.wrap (-18446744073709551609) = 7 := by decide +kernel
  have e2 : bits .and .u64 18446744073709551609 7 = 1 := by decide +kernel
  have e3 : IntKind.u64.wrap (1 * 285870213051353865) = 285870213051353865 := by decide +kernel
  go_enter Tryz.func133, Tryz.ntmps133
  go_wp2
  go_ret
  exact ⟨by rw [show tz1 6 = 0 by simp [tz1]]; rfl, rfl⟩
 ·
  rw [show (18446744073709551615 : Int) - ((7 : Nat) : Int) = 18446744073709551608 from rfl]
  have e1 : IntKind.u64.wrap (-18446744073709551608) = 8 := by decide +kernel
  have e2 : bits .and .u64 18446744073709551608 8 = 8 := by decide +kernel
  have e3 : IntKind.u64.wrap (8 * 285870213051353865) = 2286961704410830920 := by decide +kernel
  go_enter Tryz.func133, Tryz.ntmps133
  go_wp2
  go_ret
  exact ⟨by rw [show tz1 7 = 3 by simp [tz1]]; rfl, rfl⟩
theorem gTz (c : Nat) (hc : c < 8) (w : World) (hL : Ldb w) : Calls Tryz.prog 106 #[.int .u64 (18446744073709551615 - (c : Int))] w (Ret (.int .i64 (tz1 c : Nat)) w) := by
 have HT := gTz0 c hc w hL
 clear hL
 generalize (18446744073709551615 - (c : Int)) = X at *
 go_enter Tryz.func106, Tryz.ntmps106
 go_wp2_with fail
 refine HT.mono ?_
 rintro e w2 ⟨rfl, rfl⟩
 go_wp2
 go_ret
 exact ⟨rfl, Below.refl _ _⟩
section
open Go.RowKit

theorem J8d : En Tryz.prog 60 := enters_of Tryz.func60 (by kernel_rfl) rfl
def accP (ps : List Dg) (d : Dg) : Nat → Dg
 | 0 => d
 | t + 1 => pairD (ps.getD (ps.length - 1 - t) []) (accP ps d t)
theorem Jd1 (ps : List Dg) (d : Dg) : ∀ t, t + 1 ≤ ps.length → accP ps d (t + 1) = accP ps.dropLast (pairD (ps.getLastD []) d) t
 | 0, h => by
  rw [accP, accP, accP]
  congr 1
  rw [Nat.sub_zero, List.getLastD_eq_getLast?, List.getLast?_eq_getElem?, List.getD_eq_getElem?_getD]
 | t + 1, h => by
  rw [accP, Jd1 ps d t (by omega), accP]
  congr 1
  rw [List.length_dropLast, List.getD_eq_getElem?_getD, List.getD_eq_getElem?_getD, List.getElem?_dropLast, if_pos (by omega), show ps.length - 1 - (t + 1) = ps.length - 1 - 1 - t by omega]
theorem J67 : ∀ (t : Nat) (ps : List Dg) (d : Dg), t ≤ ps.length → pushN pairD t ps d = ps.take (ps.length - t) ++ [accP ps d t]
 | 0, ps, d, _ => by simp [pushN, accP]
 | t + 1, ps, d, h => by
  rw [pushN, J67 t _ _ (by rw [List.length_dropLast]; omega), Jd1 ps d t h]
  congr 1
  rw [List.length_dropLast, List.dropLast_eq_take, List.take_take]
  congr 1
  omega
theorem J2c (a b : Dg) : DgOk (pairD a b) := ⟨by unfold pairD; exact Js _, by unfold pairD; exact sha_lt _⟩
theorem J2d (b : List Nat) : DgOk (leafD b) := ⟨by unfold leafD; exact Js _, by unfold leafD; exact sha_lt _⟩
theorem Jal (ps : List Dg) (d : Dg) (hd : DgOk d) : ∀ t, DgOk (accP ps d t)
 | 0 => hd
 | _ + 1 => J2c _ _
theorem owr_st {e : TypeId} {size n : Nat} {cs : List Value} : Stable (OwR e size n cs) := fun _ m v w w' h hb => by
 refine ⟨?_, h.2⟩
 obtain ⟨⟨h1, h2⟩, h3⟩ := h
 refine ⟨h1, h2.imp id ?_⟩
 rintro ⟨g, cap, cur, rfl, q2, q3, q4⟩
 exact ⟨g, cap, cur, rfl, q2, (hb.block g (h3 g rfl)).trans q3, q4⟩
theorem rd_pre {lo hi size n k cap cap' : Nat} {A : Option Addr} {w : World} {us : List Value} (h : Rd lo hi size w (.slice A n cap) n us) (hk : k ≤ n) (hc : k ≤ cap') : Rd lo hi size w (.slice A k cap') k (us.take (k * size)) := by
 obtain ⟨h1, h2, A', c', h3, h4, h5⟩ := h
 cases h3
 refine ⟨by rw [List.length_take, h1]; exact Nat.min_eq_left (Nat.mul_le_mul_right _ hk), by omega, A, cap', rfl, hc, fun h0 => ?_⟩
 obtain ⟨g, off, r1, r2, r3, r4, r5⟩ := h5 (by omega)
 refine ⟨g, off, r1, r2, r3, r4, fun j u hu => r5 j u ?_⟩
 rw [List.getElem?_take] at hu
 split at hu
 · exact hu
 · cases hu
theorem J82 : ∀ (ps : List Dg) (k : Nat), (∀ d ∈ ps, DgOk d) → (ps.flatMap byc).take (k * 32) = (ps.take k).flatMap byc
 | [], k, _ => by simp
 | d :: ps, 0, _ => by simp
 | d :: ps, k + 1, h => by
  have hl : (byc d).length = 32 := by rw [J3]; exact (h d (List.mem_cons_self ..)).1
  rw [List.flatMap_cons, List.take_succ_cons, List.flatMap_cons, List.take_append, hl, List.take_of_length_le (by rw [hl, Nat.succ_mul]; omega), show (k + 1) * 32 - 32 = k * 32 by rw [Nat.succ_mul]; omega, J82 ps k fun x hx => h x (List.mem_cons_of_mem _ hx)]
theorem lit_rd {e : TypeId} {cs : List Value} {n m : Nat} {v : Value} {w : World} (h : Lit e 1 cs.toArray n m v w) (hl : cs.length = 32) : Rd n m 32 w v 1 cs := by
 obtain ⟨rfl, h2, h3⟩ := h
 refine ⟨by omega, by decide, some ⟨n, 0, none⟩, 1, rfl, Nat.le_refl _, fun _ => ⟨n, 0, rfl, Nat.le_refl _, h2, h3.lt, fun j u hu => ?_⟩⟩
 rw [Nat.zero_add, h3.cell]
 simpa using hu
theorem J3q : Tryz.prog.underlying 73 = some (.slice 23) := by kernel_rfl
theorem Jr {w W : World} {g o : Nat} {cs : List Value} (h : w.rangeAt g o cs) (hg : g < w.heap.size) (hb : Below w.heap.size w W) : W.rangeAt g o cs := fun q x hx => (hb.cell (p := ⟨g, o + q, none⟩) hg).trans (h q x hx)
theorem Jjz : ∀ c : Fin 8, bits .xor .u64 IntKind.u64.max ((c.val : Nat) : Int) = 18446744073709551615 - ((c.val : Nat) : Int) := by decide +kernel
theorem Jmc (c : Nat) (hc : c < 8) : bits .xor .u64 IntKind.u64.max (c : Int) = 18446744073709551615 - (c : Int) := Jjz ⟨c, hc⟩
attribute [local irreducible] wpRg
theorem gPushM (ps : List Dg) (hps : ps.length ≤ 1000) (c : Nat) (hc : c < 8) (ht : tz1 c ≤ ps.length) (b : List Nat) (hb : b.length ≤ 900000) (hb8 : ∀ x ∈ b, x < 256) (v vb : Value) (lo hi : Nat) (w : World) (hv : DgsA w v ps) (hvb : ByS lo hi w vb b) (hL : Lsh w) (hD : Ldb w) :
  Calls Tryz.prog 60 #[v, .int .i64 (c : Int), vb] w (RetR (OwR 23 32 (ps.length - tz1 c + 1) ((pushN pairD (tz1 c) ps (leafD b)).flatMap byc)) w) := by
 obtain ⟨A, cap, rfl⟩ := hv.len
 have HV := Lib.hid hv
 have HVB := Lib.hid hvb
 have HL := Lib.hid hL
 have HD := Lib.hid hD
 have H8 := Lib.hid hb8
 obtain ⟨iD, hiD, iD0, iD1, iD2⟩ := info_parts J2b
 have HF := Lib.hid (J67 (tz1 c) ps (leafD b) ht)
 obtain ⟨t, hT⟩ : ∃ t, t = tz1 c := ⟨_, rfl⟩
 have HT := Lib.hid hT
 rw [← hT] at ht
 clear hv hvb hL hD hb8 hT
 go_enter Tryz.func60, Tryz.ntmps60
 go_upto_region 1 with (fail)
 refine wp_region_lit ?_
 refine wpList_plain rfl fun K hK => ?_; go_big_op; refine hK _ _ ?_; clear hK K
 refine wpSk rfl (J7 J8c (gLeaf b hb H8.out _ _ _ w HL.out HVB.out) rfl rfl) fun v10 w10 hh => ?_
 obtain ⟨rfl, B10⟩ := hh
 try simp only [PutS]
 iterate 2 (refine wpList_plain rfl fun K hK => ?_; go_big_op; refine hK _ _ ?_; clear hK K)
 refine wpSk rfl (Jl hiD iD0 rfl) fun v7 w7 hh => ?_
 obtain ⟨rfl, rfl⟩ := hh
 try simp only [PutS]
 have b7 : Blk (w10.alloc (.cells (Value.agg (zb 32).toArray).cells 23)) w10.heap.size 23 (zb 32).toArray := World.alloc_heap_new w10 _
 have B7 := (Below.refl _ w10).alloc (Nat.le_refl _) (.cells (Value.agg (zb 32).toArray).cells 23)
 generalize w10.alloc (.cells (Value.agg (zb 32).toArray).cells 23) = w7 at *
 refine J6 rfl 23 (.tmp 7) (.tmp 10) rfl rfl (cells := byc (leafD b)) rfl b7 (by rw [J3, (J2d b).1]; decide) (by rw [Jc, J3, (J2d b).1]) (Jw _) (Ja _ _ (by rw [J3, (J2d b).1]; rfl)) fun X hX bX => ?_
 have hBX : Below w.heap.size w X := B10.trans ((J2 B7 hX (Nat.le_refl _)).mono B10.size)
 have hgd : w.heap.size ≤ w10.heap.size := B10.size
 obtain ⟨gd, hgd'⟩ : ∃ g, g = w10.heap.size := ⟨_, rfl⟩
 rw [← hgd'] at hgd bX ⊢
 clear hgd' b7 B7 B10 hX
 try simp only [PutS]
 have hone : 3 < w.heap.size := HD.out.sz
 go_wp2_with fail
 have HZ := gTz c hc X (HD.out.keep hBX)
 rw [← Jmc c hc, ← HT.out] at HZ
 refine HZ.mono ?_
 rintro e X2 ⟨rfl, BX2⟩
 have bX2 := bX.keep BX2
 have hBX2 := hBX.trans (BX2.mono hBX.size)
 obtain ⟨d0, hd0⟩ : ∃ d, d = leafD b := ⟨_, rfl⟩
 have hdok : DgOk d0 := by rw [hd0]; exact J2d b
 rw [← hd0] at bX2 ⊢
 have HD0 := Lib.hid hd0
 clear hd0 HZ bX BX2 hBX
 go_wp2_with fail
 go_loopw [17, 8] (fun i u wr => ∃ j K : Nat, ps.length = j + K ∧ j ≤ t ∧ i = .int .i64 (j : Int) ∧ u = .int .i64 (K : Int) ∧ Blk wr gd 23 (byc (accP ps d0 j)).toArray ∧ Below w.heap.size w wr) (fun i _ _ => t - (intOf i).toNat)
 case atStart => exact ⟨0, ps.length, by omega, Nat.zero_le _, rfl, rfl, bX2, hBX2⟩
 case round =>
  clear bX2 hBX2
  obtain ⟨j, K, hjK, hj, rfl, rfl, bd, hB⟩ := hrel
  by_cases hjt : j < t
  ·
   obtain ⟨K, rfl⟩ : ∃ K', K = K' + 1 := ⟨K - 1, by omega⟩
   obtain ⟨p, hp⟩ : ∃ p, ps[K]? = some p := ⟨ps[K]'(by omega), List.getElem?_eq_getElem (by omega)⟩
   obtain ⟨g, off, cap', hvv, hcp, hg, hr, hpo⟩ := (HV.out.keep hB).at hp
   cases hvv
   have hacc : accP ps d0 (j + 1) = pairD p (accP ps d0 j) := by
    rw [accP]
    congr 1
    rw [List.getD_eq_getElem?_getD, show ps.length - 1 - j = K by omega, hp]
    rfl
   have hdo := Jal ps d0 hdok j
   generalize accP ps d0 j = dj at *
   have HACC := Lib.hid hacc
   have HLr := Lib.hid (HL.out.keep hB)
   have hKl : K < ps.length := by omega
   have lgd := bd.lt
   obtain ⟨L, hLn⟩ : ∃ L, L = ps.length := ⟨_, rfl⟩
   rw [← hLn] at hcp hKl ⊢
   go_upto_region 5 with (fail)
   refine Jd 6 [(3, Spec.val (dgv p)), (4, Spec.val (dgv dj)), (5, Spec.val (dgv (pairD p dj)))] (by kernel_rfl) (by kernel_rfl) (by kernel_rfl) trivial ?_
   iterate 3 (refine rg_det rfl rfl rfl (fun K hK => ?_); go_big_quiet_op; refine hK _ ?_; clear hK K)
   refine rg_val rfl rfl (fun W1 hW1 hF => Jf (cs := byc p) Jg rfl (by rw [Jc, J3, hpo.1]) rfl rfl (Jr hr hg (J8 hW1))) ?_
   intro a' ha
   simp only [PutS] at ha
   subst ha
   refine rg_val rfl rfl (fun W1 hW1 hF => Jf (cs := byc dj) Jg rfl (by rw [Jc, J3, hdo.1]) rfl rfl (J4 (bd.keep (J8 hW1)))) ?_
   intro a' ha
   simp only [PutS] at ha
   subst ha
   refine rg_val rfl rfl (fun W1 hW1 hF => J7 J3j (gPair p dj hpo hdo W1 (HLr.out.keep (J8 hW1))) rfl rfl) ?_
   intro a' ha
   simp only [PutS] at ha
   subst ha
   refine rg_nil (fun w' hw' hF => ?_)
   obtain ⟨z, rfl⟩ := hw'
   simp only [List.drop_succ_cons, List.drop_zero]
   have bdz := bd.keep z.h
   have hBz := hB.trans (z.h.mono hB.size)
   refine J6 rfl 23 (.tmp 7) (.tmp 26) rfl rfl (cells := byc (pairD p dj)) rfl bdz (by simp [J3, hdo.1, (J2c p dj).1]) (by rw [Jc, J3, (J2c p dj).1]) (Jw _) (Ja _ _ (by simp [J3, hdo.1, (J2c p dj).1])) fun Y hY bY => ?_
   have hBY := J2 hBz hY hgd
   clear hF bdz hBz bd hB hr hg lgd
   try simp only [PutS]
   go_wp2_with fail
   exact ⟨⟨j + 1, K, by omega, by omega, by go_num, rfl, by rw [HACC.out]; exact bY, hBY⟩, by simp [intOf]; omega⟩
  ·
   obtain rfl : j = t := by omega
   have hdo := Jal ps d0 hdok j
   have HRd := Lib.hid (HV.out.keep hB).1
   have HA := Lib.hid HV.out.2
   have hform : (pushN pairD (tz1 c) ps (leafD b)).flatMap byc = (ps.take K).flatMap byc ++ byc (accP ps d0 j) := by
    rw [HF.out, ← HT.out, ← HD0.out, show ps.length - j = K by omega]
    simp
   have HFM := Lib.hid hform
   generalize accP ps d0 j = dj at *
   have lgd := bd.lt
   have hK1 : ps.length - tz1 c + 1 = K + 1 := by rw [← HT.out]; omega
   have HK1 := Lib.hid hK1
   have hKp : K ≤ ps.length := by omega
   have hjl : j ≤ 1000 := by omega
   have hKl : K ≤ 1000 := by omega
   obtain ⟨L, hLn⟩ : ∃ L, L = ps.length := ⟨_, rfl⟩
   rw [← hLn] at hKp ⊢
   have HLN := Lib.hid hLn
   clear hform hK1 hLn hjK hjt ht hps
   obtain ⟨hcap, hRp⟩ : K ≤ cap ∧ Rd 0 wr.heap.size 32 wr (.slice A K K) K ((ps.flatMap byc).take (K * 32)) := by
    refine ⟨?_, rd_pre HRd.out (by rw [← HLN.out]; exact hKp) (Nat.le_refl _)⟩
    obtain ⟨-, -, A', c', h3, h4, -⟩ := HRd.out
    cases h3
    have := HLN.out
    omega
   rw [J82 ps K HA.out] at hRp
   have HRp := Lib.hid hRp
   clear hRp
   cases A with
   | none =>
    have hL0 : L = 0 := by rw [HLN.out]; exact (J93 HRd.out).1
    subst hL0
    obtain rfl : K = 0 := by omega
    go_upto_region 7 with (fail)
    refine Jd 6 [(4, Spec.val (dgv dj)), (5, Spec.rel (Lit 23 1 (byc dj).toArray) AnyV)] (by kernel_rfl) (by kernel_rfl) (by kernel_rfl) ⟨fit_of (J99), trivial⟩ ?_
    iterate 4 (refine rg_det rfl rfl rfl (fun K hK => ?_); go_big_quiet_op; refine hK _ ?_; clear hK K)
    refine rg_val rfl rfl (fun W1 hW1 hF => Jf (cs := byc dj) Jg rfl (by rw [Jc, J3, hdo.1]) rfl rfl (J4 (bd.keep (J8 hW1)))) ?_
    intro a' ha
    simp only [PutS] at ha
    subst ha
    refine rg_rel rfl rfl (fun W1 hW1 hF => J15 (cs := (byc dj).toArray) J3q hiD iD0 iD1 (by decide) (by decide) rfl rfl (by simp [J3, hdo.1])) ?_
    intro n5 m5 v5 hn5 hm5 hd5 hf5 a' ha
    simp only [PutS] at ha
    subst ha
    refine rg_nil (fun w' hw' hF => ?_)
    obtain ⟨z, rfl⟩ := hw'
    simp only [List.drop_succ_cons, List.drop_zero]
    have hl5 : Lit 23 1 (byc dj).toArray n5 m5 v5 z.w := (hF _ (List.mem_append_right _ (List.mem_singleton.2 rfl))).2
    have hrl := lit_rd hl5 (by rw [J3, hdo.1])
    have hRz := Rd.keep HRp.out z.h
    have hBz := hB.trans (z.h.mono hB.size)
    have hdl := J4e dj
    refine wpSk rfl (J66 rfl J3q hiD iD0 iD1 iD2 rfl (by decide) hdl rfl (fun _ => rfl) rfl hRz hrl (by decide) (by unfold maxLen; omega) (by omega)) fun v34 w34 hh => ?_
    obtain ⟨o34, B34⟩ := hh
    try simp only [PutS]
    have hB34 := hBz.trans (B34.mono hBz.size)
    have o35 := J6t o34 hBz.size
    obtain ⟨A34, c34, rfl⟩ := Jy o35
    have HO := Lib.hid o35
    clear hF hl5 hrl hRz hBz o34 o35 bd hB B34 hdl lgd
    try simp only [PutS]
    go_wp2_with fail
    refine bodyPost_ret (by simp [results, Tryz.results60, go_sem]; rfl) rfl ⟨_, rfl, ?_, hB34⟩
    rw [HK1.out, HFM.out]
    exact own_a HO.out
   | some a =>
    go_upto_region 7 with (fail)
    refine Jd 6 [(4, Spec.val (dgv dj)), (5, Spec.rel (Lit 23 1 (byc dj).toArray) AnyV)] (by kernel_rfl) (by kernel_rfl) (by kernel_rfl) ⟨fit_of (J99), trivial⟩ ?_
    iterate 4 (refine rg_det rfl rfl rfl (fun K hK => ?_); go_big_quiet_op; refine hK _ ?_; clear hK K)
    refine rg_val rfl rfl (fun W1 hW1 hF => Jf (cs := byc dj) Jg rfl (by rw [Jc, J3, hdo.1]) rfl rfl (J4 (bd.keep (J8 hW1)))) ?_
    intro a' ha
    simp only [PutS] at ha
    subst ha
    refine rg_rel rfl rfl (fun W1 hW1 hF => J15 (cs := (byc dj).toArray) J3q hiD iD0 iD1 (by decide) (by decide) rfl rfl (by simp [J3, hdo.1])) ?_
    intro n5 m5 v5 hn5 hm5 hd5 hf5 a' ha
    simp only [PutS] at ha
    subst ha
    refine rg_nil (fun w' hw' hF => ?_)
    obtain ⟨z, rfl⟩ := hw'
    simp only [List.drop_succ_cons, List.drop_zero]
    have hl5 : Lit 23 1 (byc dj).toArray n5 m5 v5 z.w := (hF _ (List.mem_append_right _ (List.mem_singleton.2 rfl))).2
    have hrl := lit_rd hl5 (by rw [J3, hdo.1])
    have hRz := Rd.keep HRp.out z.h
    have hBz := hB.trans (z.h.mono hB.size)
    have hdl := J4e dj
    refine wpSk rfl (J66 rfl J3q hiD iD0 iD1 iD2 rfl (by decide) hdl rfl (fun h => by cases h) rfl hRz hrl (by decide) (by unfold maxLen; omega) (by omega)) fun v34 w34 hh => ?_
    obtain ⟨o34, B34⟩ := hh
    try simp only [PutS]
    have hB34 := hBz.trans (B34.mono hBz.size)
    have o35 := J6t o34 hBz.size
    obtain ⟨A34, c34, rfl⟩ := Jy o35
    have HO := Lib.hid o35
    clear hF hl5 hrl hRz hBz o34 o35 bd hB B34 hdl lgd
    try simp only [PutS]
    go_wp2_with fail
    refine bodyPost_ret (by simp [results, Tryz.results60, go_sem]; rfl) rfl ⟨_, rfl, ?_, hB34⟩
    rw [HK1.out, HFM.out]
    exact own_a HO.out
end
end Go.Proofs.YtoiampgfnidfdaaGreatDoor
