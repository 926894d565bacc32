/-
  The reference's Encode of a reading.
-/
import Derived.Test.YtoiampgfnidfdaaGreatDoorRlf26
import Derived.Test.YtoiampgfnidfdaaGreatDoorStm26
set_option maxRecDepth 100000
set_option maxHeartbeats 8000000
namespace Go.Proofs.YtoiampgfnidfdaaGreatDoor
open Go.RowKit
section
open Go.RowKit

theorem J3i : En Tryz.prog 19 := enters_of Tryz.func19 (by kernel_rfl) rfl
def frL (pts : List Pt) (k : Nat) : List Nat := (List.range k).filter fun k => match pts[k]? with | some p => !p.used | none => false
theorem Jkx {pts : List Pt} {k : Nat} {p : Pt} (h : pts[k]? = some p) : frL pts (k + 1) = if p.used then frL pts k else frL pts k ++ [k] := by
 unfold frL
 rw [List.range_succ, List.filter_append]
 simp only [List.filter_cons, List.filter_nil, h]
 cases p.used <;> simp
theorem Jgr (pts : List Pt) : frL pts pts.length = freeM pts := rfl
theorem frL_lt {pts : List Pt} {k j : Nat} (h : j ∈ frL pts k) : j < k := List.mem_range.1 (List.mem_filter.1 h).1
theorem Jn0 (pts : List Pt) (k n : Nat) (h : k ≤ n) : ∃ r, frL pts n = frL pts k ++ r := by
 have hr := List.range_add (n := k) (m := n - k)
 rw [show k + (n - k) = n by omega] at hr
 unfold frL
 rw [hr, List.filter_append]
 exact ⟨_, rfl⟩
theorem Jky {l : List Nat} {pts : List Pt} {k : Nat} {p : Pt} (hp : pts[k]? = some p) (hk : k ∉ l) : (useP l pts)[k]? = some p := by
 rw [Jmw _ _ _ _ hp, if_neg hk]
theorem Jkz : (Tryz.prog.info? 3).map (fun i => (i.zero, i.size, i.bytes)) = some (some (.int .i64 0), 1, 8) := by kernel_rfl
theorem int_sl : Tryz.prog.underlying 46 = some (.slice 3) := by kernel_rfl
theorem Jn1 {w X : World} {N n : Nat} {v u : Value} {cs : List Value} {m : Nat} {ds : List Value} (h : w.ownsRow N 80 3 v n cs) (hu : w.ownsRow N 3 1 u m ds) (hg : w.grownBy X u.ownBlock) : X.ownsRow N 80 3 v n cs := by
 obtain ⟨h1, h2⟩ := h
 refine ⟨h1, h2.imp id ?_⟩
 rintro ⟨g, cap, cur, rfl, q1, q2, q3⟩
 refine ⟨g, cap, cur, rfl, q1, ?_, q3⟩
 refine (hg.block g (Array.getElem?_eq_some_iff.1 q2).1 fun e => ?_).trans q2
 rcases hu.2 with ⟨q, _⟩ | ⟨g', cap', cur', q, _, r3, _⟩
 · rw [q] at e; cases e
 ·
  rw [q] at e
  cases e
  have hc := q2.symm.trans r3
  cases hc
theorem Jl0 {w X : World} {N n g : Nat} {v : Value} {cs : List Value} {ds : Array Value} (h : w.ownsRow N 3 1 v n cs) (hb : Blk w g 80 ds) (hp : Put w X g) : X.ownsRow N 3 1 v n cs := by
 refine Jt h hp fun e => ?_
 rcases h.2 with ⟨q, _⟩ | ⟨g', cap', cur', q, _, r3, _⟩
 · rw [q] at e; cases e
 ·
  rw [q] at e
  cases e
  have hc := (show w.heap[g']? = _ from hb).symm.trans r3
  cases hc
theorem Jl1 {b : Bse} {us : List PtW} {ps : List Pt} (h : Al (PtIB b) us ps) : ∀ v ∈ us.flatMap ptc, v.oneCell' = true := by
 intro v hv
 obtain ⟨u, hu, hv⟩ := List.mem_flatMap.1 hv
 obtain ⟨k, hk⟩ := List.getElem?_of_mem hu
 have hlt : k < ps.length := by rw [← h.1]; exact (List.getElem?_eq_some_iff.1 hk).1
 obtain ⟨h1, h2, _⟩ := (h.2 k u _ hk (List.getElem?_eq_getElem hlt)).old b.ok_self
 obtain ⟨A1, c1, e1⟩ := Rd.len h1
 obtain ⟨A2, c2, e2⟩ := Rd.len h2
 simp only [ptc, List.mem_cons, List.not_mem_nil, or_false] at hv
 rcases hv with rfl | rfl | rfl
 · rw [e1]; rfl
 · rw [e2]; rfl
 · rfl
theorem Jim {w : World} {N n : Nat} {v : Value} {cs : List Value} (h : w.ownsRow N 80 3 v n cs) (h0 : 0 < n) : ∃ g cap rest, v = .slice (some ⟨g, 0, none⟩) n cap ∧ n ≤ cap ∧ N ≤ g ∧ Blk w g 80 (cs ++ rest).toArray := by
 obtain ⟨h1, h2⟩ := h
 rcases h2 with ⟨_, h2⟩ | ⟨g, cap, cur, rfl, r1, r2, r3, r4, r5, r6⟩
 · omega
 ·
  refine ⟨g, cap, cur.toList.drop (n * 3), rfl, r3, r1, ?_⟩
  rw [← r6, List.take_append_drop]
  exact r2
attribute [local irreducible] wpRg keyD sha leafD pairD
theorem rSpend26 (m : Mt) (hN : MtN m) (n : Int) (hn : -9223372036854775808 ≤ n ∧ n ≤ 9223372036854775807) (vE : Value) (bs : Bse) (w : World) (hw : bs.ok w) (hE : EpsB bs vE m.eps) : Calls Tryz.prog 19 #[mtV m vE, .int .i64 n] w (SRes bs (spendM m n) w) := by
 have HW := Lib.hid hw
 clear hw
 obtain ⟨S, hS⟩ : ∃ S, S = mtV m vE := ⟨_, rfl⟩
 rw [← hS]
 have HN := Lib.hid hN
 have HE := Lib.hid hE
 obtain ⟨A, cap, rfl⟩ := hE.len
 have hml := hN.eps
 clear hN hE
 go_enter Tryz.func19, Tryz.ntmps19
 go_upto_region 1 with (fail)
 refine J1h fun W hB hz b1 b2 => ?_
 have b1w : Blk W w.heap.size 35 (mtc m (.slice A m.eps.length cap)).toArray := by first | exact b1 | (rw [hS] at b1; exact b1)
 obtain ⟨cs0, hcs0, b2w⟩ : ∃ cs : Array Value, cs.size = 34 ∧ Blk W (w.heap.size + 1) 35 cs := ⟨_, rfl, b2⟩
 have hsl := HN.out.seed.1
 have hBw := hB
 have c33 := J11 b1w hsl
 have l1 := b1w.lt
 clear b1 b2 hz hS hB
 by_cases hneg : n < 0
 ·
  have HC := Lib.hid (show spendM m n = (m, [], 4) by unfold spendM; rw [if_pos (.inl hneg)])
  go_upto_region 2 with (fail)
  refine wp_region_lit ?_
  refine wpSk rfl (J1 (cs := mtc m (.slice (A) m.eps.length cap)) J9 rfl (by rw [J5, J0 _ _ hsl]) rfl rfl (J4 b1w)) fun v20 w20 hh => ?_
  obtain ⟨rfl, rfl⟩ := hh
  try simp only [PutS]
  refine J6 rfl 35 (.tmp 4) (.tmp 20) rfl rfl (cells := mtc m (.slice (A) m.eps.length cap)) rfl b2w (by rw [hcs0, J0 (m) _ hsl]; exact Nat.le_refl _) (by rw [J5, J0 (m) _ hsl]) (Ji _ _ rfl) (Ja _ _ (by rw [hcs0, J0 (m) _ hsl])) fun X hX bX => ?_
  have hBX := J2 hBw hX (by omega)
  clear b1w b2w hX
  try simp only [PutS]
  go_wp2_with fail
  refine bodyPost_ret (v := .tuple #[.agg (mtc m (.slice (A) m.eps.length cap)).toArray, .slice none 0 0, .int .i64 4]) (J4g (g1 := w.heap.size + 1) rfl rfl rfl rfl J9 rfl (by rw [J5, J0 _ _ hsl]) bX) rfl ?_
  rw [HC.out]
  exact ⟨_, _, rfl, HE.out.le (Bse.le_new (HW.out.below hBX)), nil_rd _ _, hBX⟩
 obtain ⟨k, rfl⟩ : ∃ k : Nat, n = (k : Int) := ⟨n.toNat, by omega⟩
 clear hneg
 by_cases hkl : k < m.eps.length
 rotate_left 1
 ·
  have HC := Lib.hid (show spendM m (k : Int) = (m, [], 4) by unfold spendM; rw [if_pos (.inr (by omega))])
  have hk2 : m.eps.length ≤ k := by omega
  go_upto_region 2 with (fail)
  refine wp_region_lit ?_
  refine wpSk rfl (J1 (cs := mtc m (.slice (A) m.eps.length cap)) J9 rfl (by rw [J5, J0 _ _ hsl]) rfl rfl (J4 b1w)) fun v20 w20 hh => ?_
  obtain ⟨rfl, rfl⟩ := hh
  try simp only [PutS]
  refine J6 rfl 35 (.tmp 4) (.tmp 20) rfl rfl (cells := mtc m (.slice (A) m.eps.length cap)) rfl b2w (by rw [hcs0, J0 (m) _ hsl]; exact Nat.le_refl _) (by rw [J5, J0 (m) _ hsl]) (Ji _ _ rfl) (Ja _ _ (by rw [hcs0, J0 (m) _ hsl])) fun X hX bX => ?_
  have hBX := J2 hBw hX (by omega)
  clear b1w b2w hX
  try simp only [PutS]
  go_wp2_with fail
  refine bodyPost_ret (v := .tuple #[.agg (mtc m (.slice (A) m.eps.length cap)).toArray, .slice none 0 0, .int .i64 4]) (J4g (g1 := w.heap.size + 1) rfl rfl rfl rfl J9 rfl (by rw [J5, J0 _ _ hsl]) bX) rfl ?_
  rw [HC.out]
  exact ⟨_, _, rfl, HE.out.le (Bse.le_new (HW.out.below hBX)), nil_rd _ _, hBX⟩
 have HRT := Lib.hid (show spendM m (k : Int) = if (m.at k).closed = false then (m, [], 260) else if (freeM (m.at k).pts).length < 2 then (m, [], 261) else (m.put k { m.at k with pts := useP ((freeM (m.at k).pts).take 2) (m.at k).pts }, (freeM (m.at k).pts).take 2, 0) by unfold spendM; rw [if_neg (by omega), Int.toNat_natCast])
 obtain ⟨us, u, e, hul, hu, he, hin, hrd⟩ := HE.out.at_ hkl
 obtain ⟨g, off, cap', hv, hcp, hg, hcs⟩ := RdA.at J16 (hrd W (HW.out.below hBw)) hu
 rw [hul] at hv hcp
 cases hv
 have hrg : W.rangeAt g (off + k * 5) (epc u) := fun j x hj => by rw [Nat.add_assoc]; exact hcs j x hj
 have hat : m.at k = e := by have := at_get m k hkl; rw [he] at this; exact (Option.some.inj this).symm
 have hone := (hin.old HW.out).one
 obtain ⟨iE, hiE, iE0, iE1, iE2⟩ := info_parts J49
 have hN2 := HN.out.ep k e he
 have hrt := HRT.out
 rw [hat] at hrt
 have HIN := Lib.hid hin
 have HRT := Lib.hid hrt
 clear hul hu he hin hrd hcs hat hrt
 go_upto_region 3 with (fail)
 refine wp_region_lit ?_
 iterate 4 (refine wpList_plain rfl fun K hK => ?_; go_big_op; refine hK _ _ ?_; clear hK K)
 refine wpSk rfl (J1 (cs := epc u) J1o rfl J1b rfl rfl hrg) fun v25 w25 hh => ?_
 obtain ⟨rfl, rfl⟩ := hh
 try simp only [PutS]
 refine wpSk rfl (J4u hiE iE0 rfl) fun v7 w7 hh => ?_
 obtain ⟨g7, rfl, hg7, b7, B7⟩ := hh
 try simp only [PutS]
 have b7 : Blk w7 g7 75 #[.int .i64 0, .int .i64 0, .bool false, .slice none 0 0, .slice none 0 0] := b7
 refine J6 rfl 75 (.tmp 7) (.tmp 25) rfl rfl (cells := epc u) rfl b7 (by rw [J16]; exact Nat.le_refl _) J1b (List.all_eq_true.2 hone) rfl fun Y hY bY => ?_
 have BY : Below w25.heap.size w25 Y := J2 (by rw [hg7]; exact B7) hY (by omega)
 have b7Y : Blk Y g7 75 (epc u).toArray := bY
 have hgl := b2w.lt
 have hcl : u.closed = e.closed := HIN.out.1.2.2
 replace b1w := b1w.keep BY
 replace b2w := b2w.keep BY
 replace hBw := hBw.trans (BY.mono hBw.size)
 have c72 : Y.cell? ⟨g7, 2, none⟩ = some (.bool e.closed) := by rw [← hcl]; exact (b7Y.cell 2).trans rfl
 have l7 := b7Y.lt
 have hg7w : w.heap.size + 1 < g7 := by omega
 clear b7 B7 hY bY BY hrg hg c33 l1 hcl
 try simp only [PutS]
 cases hec : e.closed with
 | false =>
  have HC := Lib.hid (show spendM m (k : Int) = (m, [], 260) by rw [HRT.out, if_pos hec])
  rw [hec] at c72
  clear hec b7Y
  go_upto_region 5 with (fail)
  refine wp_region_lit ?_
  refine wpSk rfl (J1 (cs := mtc m (.slice (some ⟨g, off, none⟩) m.eps.length cap)) J9 rfl (by rw [J5, J0 _ _ hsl]) rfl rfl (J4 b1w)) fun v29 w29 hh => ?_
  obtain ⟨rfl, rfl⟩ := hh
  try simp only [PutS]
  refine J6 rfl 35 (.tmp 4) (.tmp 29) rfl rfl (cells := mtc m (.slice (some ⟨g, off, none⟩) m.eps.length cap)) rfl b2w (by rw [hcs0, J0 (m) _ hsl]; exact Nat.le_refl _) (by rw [J5, J0 (m) _ hsl]) (Ji _ _ rfl) (Ja _ _ (by rw [hcs0, J0 (m) _ hsl])) fun X hX bX => ?_
  have hBX := J2 hBw hX (by omega)
  clear b1w b2w hX
  try simp only [PutS]
  go_wp2_with fail
  refine bodyPost_ret (v := .tuple #[.agg (mtc m (.slice (some ⟨g, off, none⟩) m.eps.length cap)).toArray, .slice none 0 0, .int .i64 260]) (J4g (g1 := w.heap.size + 1) rfl rfl rfl rfl J9 rfl (by rw [J5, J0 _ _ hsl]) bX) rfl ?_
  rw [HC.out]
  exact ⟨_, _, rfl, HE.out.le (Bse.le_new (HW.out.below hBX)), nil_rd _ _, hBX⟩
 | true =>
  rw [hec] at c72
  have hrt : spendM m (k : Int) = if (freeM e.pts).length < 2 then (m, [], 261) else (m.put k { e with pts := useP ((freeM e.pts).take 2) e.pts }, (freeM e.pts).take 2, 0) := by rw [HRT.out, if_neg (by rw [hec]; decide)]
  have HR3 := Lib.hid hrt
  obtain ⟨ps, hps⟩ := HIN.out.2.1
  obtain ⟨hr1, ha1⟩ := hps
  have hpl := ha1.1
  obtain ⟨pn, hpn⟩ : ∃ x, x = e.pts.length := ⟨_, rfl⟩
  have hpq := hN2.1
  rw [← hpn] at hpq hpl
  rw [hpl] at hr1
  obtain ⟨Ap, cp, hup⟩ := Rd.len (hr1 Y (HW.out.below hBw))
  have HRD := Lib.hid hr1
  have HAL := Lib.hid ha1
  have HPN := Lib.hid hpn
  have HPL := Lib.hid hpl
  obtain ⟨ip, hip, ip0, ip1, ip2⟩ := info_parts J5w
  obtain ⟨ii, hii, ii0, ii1, ii2⟩ := info_parts Jkz
  have c73 : Y.cell? ⟨g7, 3, none⟩ = some (.slice Ap pn cp) := by rw [← hup]; exact (b7Y.cell 3).trans rfl
  have HUP := Lib.hid hup
  clear hec hrt hr1 ha1 hpl hpn hup
  go_upto_region 6 with (fail)
  refine wp_region_lit ?_
  refine wpSk rfl (J2w int_sl hii ii0 rfl) fun v0 w1 hh => ?_
  obtain ⟨⟨rfl, hl1, bl1⟩, B1⟩ := hh
  try simp only [PutS]
  refine wpSk rfl (J2w J5y hip ip0 rfl) fun v0 w2 hh => ?_
  obtain ⟨⟨rfl, hl2, bl2⟩, B2⟩ := hh
  try simp only [PutS]
  have B12 := B1.trans (B2.mono B1.size)
  have hs1 := B1.size
  have c73w := (B12.cell (p := ⟨g7, 3, none⟩) l7).trans c73
  iterate 2 (refine wpList_plain rfl fun K hK => ?_; go_big_op; refine hK _ _ ?_; clear hK K)
  refine J21 rfl _ _ rfl J5y hip ip0 ip1 ip2 rfl (by decide) (cl := ps.flatMap ptc) (base := Y.heap.size) (cs := []) (k := 0) (Jl1 HAL.out) rfl rfl (by have := HRD.out w2 (HW.out.below (hBw.trans (B12.mono hBw.size))); rwa [HUP.out] at this) ⟨rfl, .inr ⟨w1.heap.size, 0, #[], rfl, hs1, bl2, Nat.le_refl _, Nat.zero_le _, rfl, rfl⟩⟩ (by unfold maxLen; omega) (by omega) B12.size fun v9 w9 o9 gr9 B9 => ?_
  rw [Nat.zero_add, List.nil_append] at o9
  obtain ⟨A9, c9, rfl⟩ := Jy o9
  have hb1 : Blk w2 Y.heap.size 3 #[] := bl1.keep B2
  have hb9 : Blk w9 Y.heap.size 3 #[] := (gr9.block Y.heap.size hb1.lt (fun e => by have h2 : Y.heap.size = w1.heap.size := Option.some.inj e; have := bl1.lt; omega)).trans hb1
  have oi9 : w9.ownsRow Y.heap.size 3 1 (.slice (some ⟨Y.heap.size, 0, none⟩) 0 0) ([] : List Nat).length (intc []) := ⟨rfl, .inr ⟨Y.heap.size, 0, #[], rfl, Nat.le_refl _, hb9, Nat.le_refl _, Nat.zero_le _, rfl, rfl⟩⟩
  have B29 := B12.trans B9
  have hs9 := B29.size
  have hB9 := hBw.trans (B29.mono hBw.size)
  have hN9 : w.heap.size ≤ Y.heap.size := hBw.size
  obtain ⟨N, hN⟩ : ∃ N, N = Y.heap.size := ⟨_, rfl⟩
  rw [← hN] at o9 oi9 hs9 hN9 ⊢
  have HB1 := Lib.hid (b1w.keep B29)
  have HB2 := Lib.hid (b2w.keep B29)
  have HB7 := Lib.hid (b7Y.keep B29)
  have HBW := Lib.hid hB9
  have HO9 := Lib.hid o9
  have HI9 := Lib.hid oi9
  have hg7N : g7 < N := by omega
  clear b1w b2w b7Y hBw hB9 o9 oi9 B1 B2 B12 B9 B29 bl1 bl2 hl1 hl2 hb1 hb9 gr9 c72 c73 c73w l7 hs1 hN
  try simp only [PutS]
  go_upto_region 8 with (fail)
  go_loopw [8, 10] (fun q j wr => ∃ (t : Nat) (out : List Nat) (us1 : List PtW), t ≤ pn ∧ j = .int .i64 t ∧ wr.ownsRow N 3 1 q out.length (intc out) ∧ wr.ownsRow N 80 3 (.slice A9 pn c9) pn (us1.flatMap ptc) ∧ Al (PtIB bs) us1 (useP out e.pts) ∧ Hid (out = frL e.pts t) ∧ out.length ≤ 2 ∧ Below N w9 wr) (fun _ j _ => pn - (intOf j).toNat)
  case atStart => exact ⟨0, [], ps, Nat.zero_le _, rfl, HI9.out, HO9.out, by rw [Jeo]; exact HAL.out, Lib.hid rfl, by decide, Below.refl _ _⟩
  case round =>
   obtain ⟨t, out, us1, ht, rfl, ho1, ho2, hal, HOUT, hol, hBr⟩ := hrel
   obtain ⟨A8, c8, rfl⟩ := Jy ho1
   have hBz := HBW.out.trans (hBr.mono (by omega))
   have b1 := HB1.out.below hBr (by omega)
   have b2 := HB2.out.below hBr (by omega)
   have b7 := HB7.out.below hBr (by omega)
   have hrs := hBr.size
   obtain ⟨ol, hol2⟩ : ∃ x, x = out.length := ⟨_, rfl⟩
   rw [← hol2] at ho1 hol ⊢
   have HOL := Lib.hid hol2
   clear hol2
   by_cases hcont : t < pn ∧ ol < 2
   rotate_left 1
   ·
    have HO1 := Lib.hid ho1
    have HO2 := Lib.hid ho2
    have HAL1 := Lib.hid hal
    clear ho1 ho2 hal hBr
    by_cases hol1 : ol < 2
    ·
     obtain rfl : pn = t := by omega
     have hf : freeM e.pts = out := by rw [HOUT.out, HPN.out, Jgr]
     have HC := Lib.hid (show spendM m (k : Int) = (m, [], 261) by rw [HR3.out, hf, if_pos (by rw [← HOL.out]; exact hol1)])
     have b1w := b1
     have b2w := b2
     have hBw := hBz
     clear hf hcont b1 b2 hBz b7
     go_upto_region 14 with (fail)
     refine wp_region_lit ?_
     refine wpSk rfl (J1 (cs := mtc m (.slice (some ⟨g, off, none⟩) m.eps.length cap)) J9 rfl (by rw [J5, J0 _ _ hsl]) rfl rfl (J4 b1w)) fun v63 w63 hh => ?_
     obtain ⟨rfl, rfl⟩ := hh
     try simp only [PutS]
     refine J6 rfl 35 (.tmp 4) (.tmp 63) rfl rfl (cells := mtc m (.slice (some ⟨g, off, none⟩) m.eps.length cap)) rfl b2w (by rw [hcs0, J0 (m) _ hsl]; exact Nat.le_refl _) (by rw [J5, J0 (m) _ hsl]) (Ji _ _ rfl) (Ja _ _ (by rw [hcs0, J0 (m) _ hsl])) fun X hX bX => ?_
     have hBX := J2 hBw hX (by omega)
     clear b1w b2w hX
     try simp only [PutS]
     go_wp2_with fail
     refine bodyPost_ret (v := .tuple #[.agg (mtc m (.slice (some ⟨g, off, none⟩) m.eps.length cap)).toArray, .slice none 0 0, .int .i64 261]) (J4g (g1 := w.heap.size + 1) rfl rfl rfl rfl J9 rfl (by rw [J5, J0 _ _ hsl]) bX) rfl ?_
     rw [HC.out]
     exact ⟨_, _, rfl, HE.out.le (Bse.le_new (HW.out.below hBX)), nil_rd _ _, hBX⟩
    obtain rfl : ol = 2 := by omega
    obtain ⟨rr, hrr⟩ := Jn0 e.pts t e.pts.length (by rw [← HPN.out]; exact ht)
    rw [Jgr, ← HOUT.out] at hrr
    have htk : (freeM e.pts).take 2 = out := by rw [hrr, List.take_append_of_le_length (by rw [← HOL.out]; exact Nat.le_refl _), List.take_of_length_le (by rw [← HOL.out]; exact Nat.le_refl _)]
    have hnl : ¬ (freeM e.pts).length < 2 := by rw [hrr, List.length_append, ← HOL.out]; omega
    have HC := Lib.hid (show spendM m (k : Int) = (m.put k { e with pts := useP out e.pts }, out, 0) by rw [HR3.out, if_neg hnl, htk])
    clear hrr htk hnl hcont hol1
    by_cases htp : t < pn
    ·
     skip
     have f7 := b7.frozen
     have c73 : wr.cell? ⟨g7, 3, none⟩ = some u.p := (b7.cell 3).trans rfl
     have l7 := b7.lt
     have HB7r := Lib.hid b7
     clear b7
     go_upto_region 16 with (fail)
     refine set1 (M := fun W => Code.wp _ _ _ _ W) HB7r.out fun V hV bV => ?_
     have b7V : Blk V g7 75 (epc { u with p := .slice A9 pn c9 }).toArray := bV
     have b1w := hV.blk b1 (by omega)
     have b2w := hV.blk b2 (by omega)
     have hBw := J2 hBz hV (by omega)
     have hVs := hV.size
     have ov2 := Jt HO2.out hV (fun e => by have := (Jk HO2.out e).1; omega)
     have ov1 := Jt HO1.out hV (fun e => by have := (Jk HO1.out e).1; omega)
     obtain ⟨bs', hbs'⟩ : ∃ b : Bse, b = ⟨V, fun g => InB bs g ∨ N ≤ g⟩ := ⟨_, rfl⟩
     obtain ⟨e', he'⟩ : ∃ e' : Ep, e' = { e with pts := useP out e.pts } := ⟨_, rfl⟩
     have hbw := HW.out.1
     have hVN : N ≤ V.heap.size := by omega
     have hlb : bs.le ⟨V, fun g => InB bs g ∨ N ≤ g⟩ := Bse.le_ok (c := ⟨V, fun g => InB bs g ∨ N ≤ g⟩) (HW.out.below hBw) fun g hg => .inl hg
     have hin' : EpIB bs' { u with p := .slice A9 pn c9 } e' := by
      rw [he', hbs']
      have hpl : us1.length = pn := by rw [HAL1.out.1, J4s, HPN.out]
      refine ⟨HIN.out.1, ⟨us1, ?_, HAL1.out.mono fun _ _ h => h.le hlb⟩, HIN.out.2.2.le hlb⟩
      rw [hpl]
      exact J7q (S := fun g => InB bs g ∨ N ≤ g) ov2 (by omega) fun g hg => .inr (Jk ov2 hg).1
     have hEb : EpsB bs' (.slice (some ⟨g, off, none⟩) m.eps.length cap) m.eps := HE.out.le (by rw [hbs']; exact hlb)
     rw [← he'] at HC
     have HOV := Lib.hid ov1
     clear f7 c73 l7 hV bV b1 b2 hBz ov2 ov1 hlb he'
     refine wp_region_lit ?_
     refine wpSk rfl (J1 (cs := mtc m (.slice (some ⟨g, off, none⟩) m.eps.length cap)) J9 rfl (by rw [J5, J0 _ _ hsl]) rfl rfl (J4 b1w)) fun v66 w66 hh => ?_
     obtain ⟨rfl, rfl⟩ := hh
     try simp only [PutS]
     refine wpList_plain rfl fun K hK => ?_; go_big_op; refine hK _ _ ?_; clear hK K
     refine wpSk rfl (J1 (cs := epc { u with p := .slice A9 pn c9 }) J1o rfl J1b rfl rfl (J4 b7V)) fun v68 w68 hh => ?_
     obtain ⟨rfl, rfl⟩ := hh
     try simp only [PutS]
     refine wpSk rfl (Jm (R := fun v W2 => ∃ vE', v = mtV (repM m k e') vE' ∧ EpsB (bs'.new w68 W2) vE' (repE m.eps k e') ∧ Below w68.heap.size w68 W2) J19 ((rRepl26 m HN.out _ k (by omega) { u with p := .slice A9 pn c9 } e' bs' w68 (by rw [hbs']; exact Bse.ok_self _) hEb hin').mono fun r W2 ⟨vE', h1, h2⟩ => ⟨_, h1, vE', rfl, h2⟩) rfl rfl) fun v69 w69 hh => ?_
     obtain ⟨vE', rfl, hE', B69⟩ := hh
     try simp only [PutS]
     obtain ⟨AE, cE, hvE⟩ := hE'.len
     have b2y := b2w.keep B69
     have hBy := hBw.trans (B69.mono hBw.size)
     have ow := Jq HOV.out (Nat.le_refl _) B69
     refine wpList_plain rfl fun K hK => ?_; go_big_op; refine hK _ _ ?_; clear hK K
     refine J6 rfl 35 (.tmp 4) (.tmp 69) rfl rfl (cells := mtc (repM m k e') vE') rfl b2y (by rw [hcs0, J0 (repM m k e') _ hsl]; exact Nat.le_refl _) (by rw [J5, J0 (repM m k e') _ hsl]) (Ji _ _ (by rw [hvE]; rfl)) (Ja _ _ (by rw [hcs0, J0 (repM m k e') _ hsl])) fun V2 hV2 bV2 => ?_
     rw [hbs'] at hE'
     have hEV : EpsB (bs.new w V2) vE' (repE m.eps k e') := J96 hE' hV2 HW.out (by omega) (by omega) (by omega)
     have hBV := J2 hBy hV2 (by omega)
     have ow2 := Jt ow hV2 (fun e => by have := (Jk ow e).1; omega)
     have HOW := Lib.hid ow2
     clear b1w b7V b2y hV2 B69 hE' hBy b2w hBw hEb ow ow2
     try simp only [PutS]
     go_wp2_with fail
     refine bodyPost_ret (v := .tuple #[.agg (mtc (repM m k e') vE').toArray, .slice A8 2 c8, .int .i64 0]) (J4g (g1 := w.heap.size + 1) rfl rfl rfl rfl J9 rfl (by rw [J5, J0 (repM m k e') _ hsl]) bV2) rfl ?_
     rw [HC.out, ← J89 hkl]
     refine ⟨_, _, rfl, hEV, ?_, hBV⟩
     show RdA 1 V2 _ out.length (intc out)
     rw [← HOL.out]
     exact RdA.of (Rd.of_own HOW.out (by omega) (Nat.le_refl _))
    ·
     obtain rfl : pn = t := by omega
     have f7 := b7.frozen
     have c73 : wr.cell? ⟨g7, 3, none⟩ = some u.p := (b7.cell 3).trans rfl
     have l7 := b7.lt
     have HB7r := Lib.hid b7
     clear b7
     go_upto_region 16 with (fail)
     refine set1 (M := fun W => Code.wp _ _ _ _ W) HB7r.out fun V hV bV => ?_
     have b7V : Blk V g7 75 (epc { u with p := .slice A9 pn c9 }).toArray := bV
     have b1w := hV.blk b1 (by omega)
     have b2w := hV.blk b2 (by omega)
     have hBw := J2 hBz hV (by omega)
     have hVs := hV.size
     have ov2 := Jt HO2.out hV (fun e => by have := (Jk HO2.out e).1; omega)
     have ov1 := Jt HO1.out hV (fun e => by have := (Jk HO1.out e).1; omega)
     obtain ⟨bs', hbs'⟩ : ∃ b : Bse, b = ⟨V, fun g => InB bs g ∨ N ≤ g⟩ := ⟨_, rfl⟩
     obtain ⟨e', he'⟩ : ∃ e' : Ep, e' = { e with pts := useP out e.pts } := ⟨_, rfl⟩
     have hbw := HW.out.1
     have hVN : N ≤ V.heap.size := by omega
     have hlb : bs.le ⟨V, fun g => InB bs g ∨ N ≤ g⟩ := Bse.le_ok (c := ⟨V, fun g => InB bs g ∨ N ≤ g⟩) (HW.out.below hBw) fun g hg => .inl hg
     have hin' : EpIB bs' { u with p := .slice A9 pn c9 } e' := by
      rw [he', hbs']
      have hpl : us1.length = pn := by rw [HAL1.out.1, J4s, HPN.out]
      refine ⟨HIN.out.1, ⟨us1, ?_, HAL1.out.mono fun _ _ h => h.le hlb⟩, HIN.out.2.2.le hlb⟩
      rw [hpl]
      exact J7q (S := fun g => InB bs g ∨ N ≤ g) ov2 (by omega) fun g hg => .inr (Jk ov2 hg).1
     have hEb : EpsB bs' (.slice (some ⟨g, off, none⟩) m.eps.length cap) m.eps := HE.out.le (by rw [hbs']; exact hlb)
     rw [← he'] at HC
     have HOV := Lib.hid ov1
     clear f7 c73 l7 hV bV b1 b2 hBz ov2 ov1 hlb he'
     refine wp_region_lit ?_
     refine wpSk rfl (J1 (cs := mtc m (.slice (some ⟨g, off, none⟩) m.eps.length cap)) J9 rfl (by rw [J5, J0 _ _ hsl]) rfl rfl (J4 b1w)) fun v66 w66 hh => ?_
     obtain ⟨rfl, rfl⟩ := hh
     try simp only [PutS]
     refine wpList_plain rfl fun K hK => ?_; go_big_op; refine hK _ _ ?_; clear hK K
     refine wpSk rfl (J1 (cs := epc { u with p := .slice A9 pn c9 }) J1o rfl J1b rfl rfl (J4 b7V)) fun v68 w68 hh => ?_
     obtain ⟨rfl, rfl⟩ := hh
     try simp only [PutS]
     refine wpSk rfl (Jm (R := fun v W2 => ∃ vE', v = mtV (repM m k e') vE' ∧ EpsB (bs'.new w68 W2) vE' (repE m.eps k e') ∧ Below w68.heap.size w68 W2) J19 ((rRepl26 m HN.out _ k (by omega) { u with p := .slice A9 pn c9 } e' bs' w68 (by rw [hbs']; exact Bse.ok_self _) hEb hin').mono fun r W2 ⟨vE', h1, h2⟩ => ⟨_, h1, vE', rfl, h2⟩) rfl rfl) fun v69 w69 hh => ?_
     obtain ⟨vE', rfl, hE', B69⟩ := hh
     try simp only [PutS]
     obtain ⟨AE, cE, hvE⟩ := hE'.len
     have b2y := b2w.keep B69
     have hBy := hBw.trans (B69.mono hBw.size)
     have ow := Jq HOV.out (Nat.le_refl _) B69
     refine wpList_plain rfl fun K hK => ?_; go_big_op; refine hK _ _ ?_; clear hK K
     refine J6 rfl 35 (.tmp 4) (.tmp 69) rfl rfl (cells := mtc (repM m k e') vE') rfl b2y (by rw [hcs0, J0 (repM m k e') _ hsl]; exact Nat.le_refl _) (by rw [J5, J0 (repM m k e') _ hsl]) (Ji _ _ (by rw [hvE]; rfl)) (Ja _ _ (by rw [hcs0, J0 (repM m k e') _ hsl])) fun V2 hV2 bV2 => ?_
     rw [hbs'] at hE'
     have hEV : EpsB (bs.new w V2) vE' (repE m.eps k e') := J96 hE' hV2 HW.out (by omega) (by omega) (by omega)
     have hBV := J2 hBy hV2 (by omega)
     have ow2 := Jt ow hV2 (fun e => by have := (Jk ow e).1; omega)
     have HOW := Lib.hid ow2
     clear b1w b7V b2y hV2 B69 hE' hBy b2w hBw hEb ow ow2
     try simp only [PutS]
     go_wp2_with fail
     refine bodyPost_ret (v := .tuple #[.agg (mtc (repM m k e') vE').toArray, .slice A8 2 c8, .int .i64 0]) (J4g (g1 := w.heap.size + 1) rfl rfl rfl rfl J9 rfl (by rw [J5, J0 (repM m k e') _ hsl]) bV2) rfl ?_
     rw [HC.out, ← J89 hkl]
     refine ⟨_, _, rfl, hEV, ?_, hBV⟩
     show RdA 1 V2 _ out.length (intc out)
     rw [← HOL.out]
     exact RdA.of (Rd.of_own HOW.out (by omega) (Nat.le_refl _))
   obtain ⟨htp, hol1⟩ := hcont
   obtain ⟨u1, p1, hu1, hp1, hin1⟩ := hal.get (k := t) (by rw [J4s, ← HPN.out]; exact htp)
   obtain ⟨p, hp⟩ : ∃ p, e.pts[t]? = some p := ⟨_, List.getElem?_eq_getElem (by rw [← HPN.out]; exact htp)⟩
   have hno : t ∉ out := fun h => by rw [HOUT.out] at h; exact Nat.lt_irrefl _ (frL_lt h)
   have hpp := Jky hp hno
   obtain rfl : p1 = p := Option.some.inj (hp1.symm.trans hpp)
   have hl1 : us1.length = pn := by rw [hal.1, J4s, HPN.out]
   obtain ⟨gP, cP, rest, hvP, hcP, hgP, bP⟩ := Jim ho2 (by omega)
   cases hvP
   have kP2 : wr.cell? ⟨gP, t * 3 + 2, none⟩ = some (.bool p1.used) := by
    rw [← hin1.2.2, bP.cell]
    have h1 := J1l J27 us1 t 2 _ (.bool u1.u) hu1 rfl
    simp only [List.getElem?_toArray]
    rw [List.getElem?_append_left (List.getElem?_eq_some_iff.1 h1).1]
    exact h1
   have hfs := Jkx hp
   rw [← HOUT.out] at hfs
   cases hpu : p1.used with
   | true =>
    rw [hpu] at kP2 hfs
    have HO1 := Lib.hid ho1
    have HO2 := Lib.hid ho2
    have HAL1 := Lib.hid hal
    have HFS := Lib.hid hfs
    have HBR := Lib.hid hBr
    have lP := bP.lt
    clear ho1 ho2 hal hfs hBr b1 b2 b7 hu1 hp1 hin1 hp hpp bP hpu hBz
    go_wp2_with fail
    refine ⟨⟨t + 1, out, us1, by omega, by go_num, ?_, HO2.out, HAL1.out, Lib.hid (by rw [HFS.out]; rfl), by rw [← HOL.out]; exact hol, HBR.out⟩, by simp [intOf]; omega⟩
    rw [← HOL.out]
    exact HO1.out
   | false =>
    rw [hpu] at kP2 hfs
    have hfP := bP.frozen
    have lP := bP.lt
    obtain ⟨u2, hu2⟩ : ∃ u2 : PtW, u2 = ⟨u1.r, u1.v, true⟩ := ⟨_, rfl⟩
    have hkl3 : t * 3 + 2 < (us1.flatMap ptc).length := by rw [Jz J27, hl1]; omega
    have hown2 := J9l (idx := t * 3 + 2) (x := Value.bool true) ho2 hkl3
    rw [Jc4 us1 t 2 _ u2 _ hu1 (by rw [hu2]; rfl) (by decide)] at hown2
    have hal2 : Al (PtIB bs) (us1.set t u2) (useP (out ++ [t]) e.pts) := by
     rw [Jd4 _ _ _ p1 hp1]
     exact hal.set ⟨by rw [hu2]; exact hin1.1, by rw [hu2]; exact hin1.2.1, by rw [hu2]⟩
    have HAL2 := Lib.hid hal2
    have HFS := Lib.hid hfs
    have HO1 := Lib.hid ho1
    have HOW2 := Lib.hid hown2
    have HBP := Lib.hid bP
    have HBR := Lib.hid hBr
    clear ho1 ho2 hal hal2 hfs hown2 hu2 hBr b1 b2 b7 hu1 hp1 hin1 hp hpp bP hpu hBz hkl3
    go_upto_region 12 with (fail)
    obtain ⟨Z, hZ⟩ : ∃ Z, Z = wr.setCell ⟨gP, t * 3 + 2, none⟩ (.bool true) := ⟨_, rfl⟩
    have hZp : Put wr Z gP := by rw [hZ]; exact Put.set _ _ _ _
    have hoZ := HOW2.out
    rw [← hZ] at hoZ ⊢
    have hoi := Jl0 HO1.out HBP.out hZp
    have hBZ := J2 HBR.out hZp hgP
    have hZs := hZp.size
    have HZO := Lib.hid hoZ
    have HZI := Lib.hid hoi
    have HBZ := Lib.hid hBZ
    clear hZ hZp hoZ hoi hBZ kP2 hfP lP
    refine wp_region_lit ?_
    iterate 2 (refine wpList_plain rfl fun K hK => ?_; go_big_op; refine hK _ _ ?_; clear hK K)
    refine wpSk rfl (J15 (cs := #[.int .i64 (t : Int)]) int_sl hii ii0 ii1 (by decide) (by decide) rfl rfl rfl) fun v58 w58 hh => ?_
    obtain ⟨⟨rfl, hl58, b58⟩, B58⟩ := hh
    try simp only [PutS]
    have o1 := Jq HZI.out (Nat.le_refl _) B58
    have o2 := Jq HZO.out (Nat.le_refl _) B58
    have hs58 := B58.size
    refine J29 (u := .slice A8 ol c8) (base := N) (n := Z.heap.size) (cl := [.int .i64 (t : Int)]) (cs := intc out) rfl (.tmp 56) (.tmp 58) rfl int_sl hii ii0 ii1 ii2 rfl (by decide) rfl (fun v hv => by rw [List.mem_singleton.1 hv]; rfl) rfl rfl o1 b58 (by unfold maxLen; omega) (by omega) (by omega) fun v59 w59 own59 gr59 B59 hat59 => ?_
    have o3 := Jn1 o2 o1 gr59
    have hBe := (HBZ.out.trans (B58.mono (by omega))).trans B59
    have hio : w59.ownsRow N 3 1 v59 (out ++ [t]).length (intc (out ++ [t])) := by
     rw [List.length_append, ← HOL.out]
     have : intc (out ++ [t]) = intc out ++ [.int .i64 (t : Int)] := by simp [intc]
     rw [this]
     exact own59
    have HIO := Lib.hid hio
    have HO3 := Lib.hid o3
    have HBE := Lib.hid hBe
    clear o1 o2 o3 own59 gr59 B59 hat59 b58 hl58 B58 hBe hio
    try simp only [PutS]
    go_wp2_with fail
    exact ⟨⟨t + 1, out ++ [t], us1.set t u2, by omega, by go_num, HIO.out, HO3.out, HAL2.out, Lib.hid (by rw [HFS.out]; rfl), by rw [List.length_append, ← HOL.out]; simp; omega, HBE.out⟩, by simp [intOf]; omega⟩
end
section
open Go.RowKit

theorem J5p : En Tryz.prog 34 := enters_of Tryz.func34 (by kernel_rfl) rfl
attribute [local irreducible] wpRg
theorem rEnc12 (r : Rdg) (hr : r.ok) (w : World) : Calls Tryz.prog 34 #[rdV r] w fun e w2 => ∃ g, e = .returned (.slice (some ⟨g, 0, none⟩) 3 3) ∧ w.heap.size ≤ g ∧ Blk w2 g 5 (byc r.enc).toArray ∧ Below w.heap.size w w2 := by
 obtain ⟨iu8, hu8, uz0, uz1, uz2⟩ := info_parts J22
 have he : ∃ x y z : Nat, r.enc = [x, y, z] ∧ (x : Int) = r.who + 16 * r.kind ∧ (y : Int) = r.when ∧ (z : Int) = r.value ∧ x < 256 ∧ y < 256 ∧ z < 256 := by
  obtain ⟨ha, hb, hc, hd⟩ := hr
  exact ⟨_, _, _, rfl, Int.toNat_of_nonneg (by omega), Int.toNat_of_nonneg (by omega), Int.toNat_of_nonneg (by omega), by omega, by omega, by omega⟩
 obtain ⟨x, y, z, he, ex, ey, ez, hx, hy, hz'⟩ := he
 rw [he]
 obtain ⟨a, b, c, d⟩ := r
 dsimp only at ex ey ez
 obtain ⟨ha, hb, hc, hd⟩ := hr
 dsimp only at ha hb hc hd
 unfold rdV rdc
 dsimp only
 clear he
 go_enter Tryz.func34, Tryz.ntmps34
 go_upto_region 1 with (fail)
 refine J13 fun W hB hz b1 => ?_
 have c0 := (b1.cell 0).trans rfl
 have e1 := b1.cell
 have l1 := b1.lt
 clear hz c0
 refine wp_region_lit ?_
 iterate 13 (refine wpList_plain rfl fun K hK => ?_; go_big_op; refine hK _ _ ?_; clear hK K)
 refine wpSk rfl (J2l (len := 3) (vs := byc [x, y, z]) J10 hu8 uz0 uz1 rfl (by decide) (by decide) rfl (by simp [Act.eval, byc, ex, ey, ez]) (fun v hv => by obtain ⟨x, _, rfl⟩ := List.mem_map.1 hv; rfl)) fun v16 w16 hh => ?_
 obtain ⟨⟨rfl, hl16, b16⟩, B16⟩ := hh
 try simp only [PutS]
 have hBz := hB.trans (B16.mono hB.size)
 have hWs := hB.size
 clear e1 l1 b1 ex ey ez
 try simp only [PutS]
 go_wp2_with fail
 exact bodyPost_ret (v := .slice (some ⟨W.heap.size, 0, none⟩) 3 3) (by simp [results, Tryz.results34, go_sem]) rfl ⟨_, rfl, hWs, b16, hBz⟩
end
end Go.Proofs.YtoiampgfnidfdaaGreatDoor
