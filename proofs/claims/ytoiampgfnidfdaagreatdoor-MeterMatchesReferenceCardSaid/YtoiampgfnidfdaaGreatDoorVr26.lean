/-
  Readings: their fields, whether they are valid, how they are written.
-/
import Derived.Test.YtoiampgfnidfdaaGreatDoorMm3
import Derived.Test.YtoiampgfnidfdaaGreatDoorSs
set_option maxRecDepth 100000
set_option maxHeartbeats 8000000
namespace Go.Proofs.YtoiampgfnidfdaaGreatDoor
open Go.RowKit
section
open Go.RowKit

theorem J31 : En Tryz.prog 84 := enters_of Tryz.func84 (by kernel_rfl) rfl
def ai (l : List Int) : List Value := l.map fun n => Value.int .i64 n
theorem Jeh : Tryz.prog.underlying 108 = some (.array 5 2) := by kernel_rfl
theorem Jm5 : (Tryz.prog.info? 108).map (·.size) = some 5 := by kernel_rfl
theorem Jm6 {l : List Int} {k : Nat} {x : Int} (h : l.length = 5) (hk : k < 5) (hx : l[k]? = some x) (w : World) : (Instr.index 108 (.agg (ai l).toArray) (.int .i64 (k : Int))).run Tryz.prog w = .ok (.int .i64 x) w := by
 have hlt := (List.getElem?_eq_some_iff.1 hx).1
 have i8 : (Tryz.prog.info? 2).map (·.size) = some 1 := by kernel_rfl
 obtain ⟨i, hi, hs⟩ : ∃ i, Tryz.prog.info? 2 = some i ∧ i.size = 1 := by
  cases h : Tryz.prog.info? 2 with
  | none => rw [h] at i8; cases i8
  | some i => rw [h] at i8; exact ⟨i, rfl, by simpa using i8⟩
 have h1 : (k : Int) < 5 := by omega
 have h2 : (ai l)[k]? = some (.int .i64 x) := by simp [ai, hx]
 have h3 : k < (ai l).length := by simp [ai, h, hk]
 generalize ai l = q at *
 obtain ⟨_, h4⟩ := List.getElem?_eq_some_iff.1 h2
 simp [Instr.index, asIntOf, run_underlying Jeh, run_underlying Tryz.underlying2, part, sizeOf, typeInfo, hi, hs, h1, h4, h2, h3]
 omega
def ptK (j : Nat) (amts : List Int) (pts : List Pt) (k : Nat) : List Pt := (pts.take k).map (addP j amts) ++ pts.drop k
theorem Jjt (j : Nat) (amts : List Int) (pts : List Pt) : ptK j amts pts 0 = pts := by simp [ptK]
theorem Jm7 (j : Nat) (amts : List Int) (pts : List Pt) : ptK j amts pts pts.length = pts.map (addP j amts) := by simp [ptK]
theorem Jg8 (j : Nat) (amts : List Int) (pts : List Pt) (k : Nat) (p : Pt) (h : pts[k]? = some p) : (ptK j amts pts k)[k]? = some p := by
 have hl := (List.getElem?_eq_some_iff.1 h).1
 unfold ptK
 rw [List.getElem?_append_right (by simp; omega)]
 simp only [List.length_map, List.length_take, Nat.min_eq_left (Nat.le_of_lt hl), Nat.sub_self, List.getElem?_drop, Nat.add_zero]
 exact h
theorem Jju (j : Nat) (amts : List Int) (pts : List Pt) (k : Nat) (p : Pt) (h : pts[k]? = some p) : ptK j amts pts (k + 1) = (ptK j amts pts k).set k (addP j amts p) := by
 have hl := (List.getElem?_eq_some_iff.1 h).1
 unfold ptK
 rw [List.take_add_one, h, List.map_append, List.set_append_right _ _ (by simp; omega)]
 simp only [Option.toList_some, List.map_cons, List.map_nil, List.length_map, List.length_take, Nat.min_eq_left (Nat.le_of_lt hl), Nat.sub_self, List.append_assoc]
 rw [List.drop_eq_getElem_cons hl, List.set_cons_zero]
 rfl
def vlK (j : Nat) (amts : List Int) (p : Pt) (c : Nat) : List E := (addP j amts p).V.take c ++ p.V.drop c
theorem J81 (j : Nat) (amts : List Int) (p : Pt) (h : p.V.length = 5) (ha : amts.length = 5) : (addP j amts p).V.length = 5 := by simp [addP, h, ha]
theorem Jm8 (j : Nat) (amts : List Int) (p : Pt) (c : Nat) (hc : c ≤ 5) (h : p.V.length = 5) (ha : amts.length = 5) : (vlK j amts p c).length = 5 := by
 unfold vlK
 rw [List.length_append, List.length_take, List.length_drop, J81 j amts p h ha, h]
 omega
theorem Jjv (j : Nat) (amts : List Int) (p : Pt) : vlK j amts p 0 = p.V := by simp [vlK]
theorem Jm9 (j : Nat) (amts : List Int) (p : Pt) (h : p.V.length = 5) (ha : amts.length = 5) : vlK j amts p 5 = (addP j amts p).V := by
 unfold vlK
 rw [List.drop_eq_nil_of_le (by omega), List.append_nil, List.take_of_length_le (by rw [J81 j amts p h ha]; exact Nat.le_refl _)]
theorem Jg9 (j : Nat) (amts : List Int) (p : Pt) (c : Nat) (v : E) (h : p.V.length = 5) (ha : amts.length = 5) (hv : p.V[c]? = some v) : (vlK j amts p c)[c]? = some v := by
 have hl := (List.getElem?_eq_some_iff.1 hv).1
 have hal := J81 j amts p h ha
 unfold vlK
 rw [List.getElem?_append_right (by rw [List.length_take]; omega), List.length_take, List.getElem?_drop, show c + (c - min c (addP j amts p).V.length) = c by omega]
 exact hv
theorem Jei (j : Nat) (amts : List Int) (p : Pt) (c : Nat) (v : E) (n : Int) (h : p.V.length = 5) (ha : amts.length = 5) (hv : p.V[c]? = some v) (hn : amts[c]? = some n) : vlK j amts p (c + 1) = (vlK j amts p c).set c (v + eb (fz n) * eqi j p.R) := by
 have hl := (List.getElem?_eq_some_iff.1 hv).1
 have hal := J81 j amts p h ha
 have hg : (addP j amts p).V[c]? = some (v + eb (fz n) * eqi j p.R) := by
  unfold addP
  simp [List.getElem?_zipWith, hv, hn]
 unfold vlK
 rw [List.take_add_one, hg, List.set_append_right _ _ (by rw [List.length_take]; omega), List.length_take, Nat.min_eq_left (by omega), Nat.sub_self, List.append_assoc, List.drop_eq_getElem_cons hl, List.set_cons_zero]
 rfl
theorem Jjw (j : Nat) (amts : List Int) (p : Pt) (c : Nat) (v : E) (h : p.V.length = 5) (ha : amts.length = 5) (hv : p.V[c]? = some v) (hn : amts[c]? = some 0) : vlK j amts p (c + 1) = vlK j amts p c := by
 rw [Jei j amts p c v 0 h ha hv hn, eb_fz0, E.zero_mul, E.add_zero]
 exact J64 _ _ _ (Jg9 j amts p c v h ha hv)
theorem Jc4 (us : List PtW) (i j : Nat) (u u' : PtW) (x : Value) (hu : us[i]? = some u) (hj : (ptc u).set j x = ptc u') (h5 : j < 3) : (us.flatMap ptc).set (i * 3 + j) x = (us.set i u').flatMap ptc := by
 have hi := (List.getElem?_eq_some_iff.1 hu).1
 induction us generalizing i with
 | nil => cases hu
 | cons y us ih =>
  rcases i with _ | i
  ·
   cases hu
   rw [List.flatMap_cons, List.set_cons_zero, List.flatMap_cons, Nat.zero_mul, Nat.zero_add, List.set_append_left _ _ (by rw [J27]; exact h5), hj]
  ·
   rw [List.flatMap_cons, List.set_cons_succ, List.flatMap_cons, List.set_append_right _ _ (by rw [J27, Nat.succ_mul]; omega), J27, show (i + 1) * 3 + j - 3 = i * 3 + j by rw [Nat.succ_mul]; omega]
   rw [ih i (by simpa using hu) (by simpa using hi)]
def SP (w0 : Bse) (N gE : Nat) (v : Value) (g : Nat) : Prop := (InB w0 g ∨ N ≤ g) ∧ v.ownBlock ≠ some g ∧ g ≠ gE
def PtsN (w0 : Bse) (N gE : Nat) (W : World) (v : Value) (ps : List PtW) (pts : List Pt) : Prop := W.ownsRow N 80 3 v ps.length (ps.flatMap ptc) ∧ ∀ X, Keeps (SP w0 N gE v) W X → Al (PtIn X) ps pts
theorem ChS.ptsN {w0 : Bse} {w W : World} {N gE i : Nat} {us : List EpW} {u : EpW} {rest : List Value} {ps : List PtW} {e : Ep} (h : ChS w0 w W N gE us i u rest ps e) : PtsN w0 N gE W u.p ps e.pts :=
 ⟨h.own, fun X hX => h.pts.mono fun _ _ hp => hp.old ((h.h0.below h.hB).keeps hX fun g hg => by
  have h1 := h.h0.1
  have h2 := h.hw
  have h3 := h.hN
  have h4 := hg.2
  exact ⟨.inl hg, fun e => by have := (Jk h.own e).1; omega, by omega⟩)⟩
theorem PtsN.keep {w0 : Bse} {W X : World} {N gE : Nat} {v : Value} {ps : List PtW} {pts : List Pt} (h : PtsN w0 N gE W v ps pts) (hb : Below W.heap.size W X) : PtsN w0 N gE X v ps pts :=
 ⟨Jq h.1 (Nat.le_refl _) hb, fun Y hY => h.2 Y ((Keeps.of_below hb).trans hY)⟩
theorem J9l {w : World} {base n size g cap idx : Nat} {e : TypeId} {cs : List Value} {x : Value} (h : w.ownsRow base e size (.slice (some ⟨g, 0, none⟩) n cap) n cs) (hi : idx < cs.length) : (w.setCell ⟨g, idx, none⟩ x).ownsRow base e size (.slice (some ⟨g, 0, none⟩) n cap) n (cs.set idx x) := by
 obtain ⟨h1, h2⟩ := h
 rcases h2 with ⟨h2, _⟩ | ⟨g', cap', cur, hv, q1, q2, q3, q4, q5, q6⟩
 · cases h2
 ·
  cases hv
  have hb : Blk w g e cur := q2
  refine ⟨by rw [List.length_set]; exact h1, .inr ⟨g, cap, cur.setIfInBounds idx x, rfl, q1, hb.set_ idx x, q3, q4, by simp [q5], ?_⟩⟩
  rw [Array.toList_setIfInBounds, ← q6, List.take_set]
theorem Jc5 (j : Nat) (amts : List Int) (pts : List Pt) (k : Nat) : (ptK j amts pts k).length = pts.length := by
 unfold ptK
 rw [List.length_append, List.length_map, List.length_take, List.length_drop]
 omega
theorem J5x {W : World} {gE i j : Nat} {us : List EpW} {u : EpW} {rest : List Value} {x : Value} (h : Blk W gE 75 ((us.set i u).flatMap epc ++ rest).toArray) (hi : i < us.length) (hj : (epc u)[j]? = some x) : W.cell? ⟨gE, i * 5 + j, none⟩ = some x := by
 rw [h.cell]
 have h1 := J1l J16 (us.set i u) i j u x (List.getElem?_set_self hi) hj
 simp only [List.getElem?_toArray]
 rw [List.getElem?_append_left (List.getElem?_eq_some_iff.1 h1).1]
 exact h1
attribute [local irreducible] wpRg
theorem gAddM (w0 : Bse) (w W : World) (N gE i : Nat) (us : List EpW) (u : EpW) (rest : List Value) (ps : List PtW) (e : Ep) (hC : ChS w0 w W N gE us i u rest ps e) (amts : List Int) (ha5 : amts.length = 5) (ha : ∀ n ∈ amts, -9223372036854775808 ≤ n ∧ n ≤ 9223372036854775807)
  (j : Nat) (hj : j ≤ 1000000) (hp : e.pts.length ≤ 1000) (hpt : ∀ p ∈ e.pts, p.R.length ≤ 60 ∧ p.V.length = 5) (hL : Laid w) :
  Calls Tryz.prog 59 #[.pointer (some ⟨gE, i * 5, none⟩), .int .i64 (j : Int), .agg (ai amts).toArray] W fun r W2 => (∃ v, r = .returned v) ∧ ∃ ps', PtsN w0 N gE W2 u.p ps' (e.pts.map (addP j amts)) ∧ Blk W2 gE 75 ((us.set i u).flatMap epc ++ rest).toArray ∧ Below N W W2 := by
 obtain ⟨S, hS⟩ : ∃ S, S = Value.agg (ai amts).toArray := ⟨_, rfl⟩
 rw [← hS]
 have HH := Lib.hid hC
 have HA := Lib.hid ha
 have HP := Lib.hid hpt
 have hpn := Lib.hid hC.ptsN
 have hb1 := hC.b
 have hN := hC.hN
 have hwN := hC.hw
 have HL := Lib.hid (hL.keep hC.hB)
 have hone : 1 < N := by have := hL.2.2; omega
 have hpl : ps.length = e.pts.length := hC.pts.1
 have c3 := hC.cell 3 _ rfl
 obtain ⟨Ap, cp, hup⟩ := Jy hC.own
 have hup' := hup
 rw [hup] at c3 hpn
 rw [hpl] at c3 hpn
 clear hC ha hpt hL
 go_enter Tryz.func59, Tryz.ntmps59
 go_upto_region 1 with (fail)
 refine J13 fun X hX hXz b5 => ?_
 have b5' : Blk X W.heap.size 108 (ai amts).toArray := by first | exact b5 | (rw [hS] at b5; exact b5)
 have lE := hb1.lt
 have hXs : X.heap.size = W.heap.size + 1 := hXz.out
 have HS := Lib.hid hS
 have c3X := (hX.cell (p := ⟨gE, i * 5 + 3, none⟩) lE).trans c3
 have hbX := hb1.keep hX
 have hpX := Lib.hid (hpn.out.keep hX)
 have hNX : Below N W X := hX.mono (by omega)
 clear b5 hXz hS c3 hb1 hpn
 go_wp2_with fail
 go_loopw [16] (fun q wr => ∃ (k : Nat) (ps1 : List PtW), k ≤ e.pts.length ∧ q = .int .i64 k ∧ PtsN w0 N gE wr (.slice Ap e.pts.length cp) ps1 (ptK j amts e.pts k) ∧ Blk wr gE 75 ((us.set i u).flatMap epc ++ rest).toArray ∧ Blk wr W.heap.size 108 (ai amts).toArray ∧ Below N W wr) (fun q _ => e.pts.length - (intOf q).toNat)
 case atStart => exact ⟨0, ps, Nat.zero_le _, rfl, by rw [Jjt]; exact hpX.out, hbX, b5', hNX⟩
 case round =>
  clear hbX b5' hpX hNX c3X
  obtain ⟨k, ps1, hk, rfl, hpn, hb1, b5, hBr⟩ := hrel
  by_cases hlt : k < e.pts.length
  ·
   obtain ⟨p, hp'⟩ : ∃ p, e.pts[k]? = some p := ⟨e.pts[k], List.getElem?_eq_getElem hlt⟩
   obtain ⟨hR60, hV5⟩ := HP.out p (List.mem_of_getElem? hp')
   have hpk := Jg8 j amts e.pts k p hp'
   obtain ⟨u1, p1, hu1, hp1, hin⟩ := (hpn.2 wr (Keeps.refl _)).get (k := k) (by rw [Jc5]; exact hlt)
   obtain rfl : p1 = p := Option.some.inj (hp1.symm.trans hpk)
   obtain ⟨hr1, hv1, hus1⟩ := hin
   obtain ⟨r1A, r1c, hr1v⟩ := Rd.len hr1
   obtain ⟨v1A, v1c, hv1v⟩ := Rd.len hv1
   obtain ⟨ur, uv, uu⟩ := u1
   dsimp only at hr1 hv1 hus1 hr1v hv1v
   subst hr1v
   subst hv1v
   subst hus1
   have hv1' : Rd 0 wr.heap.size 2 wr (.slice v1A p1.V.length v1c) p1.V.length (p1.V.flatMap ec) := hv1
   rw [hV5] at hv1 hv1' hu1
   have hl1 : ps1.length = e.pts.length := by rw [(hpn.2 wr (Keeps.refl _)).1, Jc5]
   obtain ⟨gP, cP, restP, hvP, hcP, hgP, hgP2, bP⟩ := (own_a hpn.1).form (by omega)
   rw [hl1] at hvP hcP
   cases hvP
   have kP : ∀ q x, (ptc ⟨.slice r1A p1.R.length r1c, .slice v1A 5 v1c, p1.used⟩)[q]? = some x → wr.cell? ⟨gP, k * 3 + q, none⟩ = some x := fun q x hq => by
    rw [bP.cell]
    have h1 := J1l J27 ps1 k q _ x hu1 hq
    simp only [List.getElem?_toArray]
    rw [List.getElem?_append_left (List.getElem?_eq_some_iff.1 h1).1]
    exact h1
   have k0 := kP 0 _ rfl
   have k1 := kP 1 _ rfl
   have k2 := kP 2 _ rfl
   rw [Nat.add_zero] at k0
   obtain ⟨ip, hip, ip0, ip1, ip2⟩ := info_parts J5w
   have HPN := Lib.hid hpn
   have HU1 := Lib.hid hu1
   clear hpn hpk hp1 hu1
   go_upto_region 3 with (fail)
   refine wp_region_lit ?_
   iterate 3 (refine wpList_plain rfl fun K hK => ?_; go_big_op; refine hK _ _ ?_; clear hK K)
   refine wpSk rfl (Jl hip ip0 rfl) fun v7 w7 hh => ?_
   obtain ⟨rfl, rfl⟩ := hh
   try simp only [PutS]
   have b7 : Blk (wr.alloc (.cells (Value.agg #[.slice none 0 0, .slice none 0 0, .bool false]).cells 80)) wr.heap.size 80 #[.slice none 0 0, .slice none 0 0, .bool false] := World.alloc_heap_new wr _
   have B7 := (Below.refl _ wr).alloc (Nat.le_refl _) (.cells (Value.agg #[.slice none 0 0, .slice none 0 0, .bool false]).cells 80)
   have s7 : (wr.alloc (.cells (Value.agg #[.slice none 0 0, .slice none 0 0, .bool false]).cells 80)).heap.size = wr.heap.size + 1 := by simp
   generalize wr.alloc (.cells (Value.agg #[.slice none 0 0, .slice none 0 0, .bool false]).cells 80) = w7 at *
   refine wpList_plain rfl fun K hK => ?_; go_big_op; refine hK _ _ ?_; clear hK K
   refine J6 rfl 80 (.tmp 7) (.tmp 20) rfl rfl (cells := [.slice r1A p1.R.length r1c, .slice v1A 5 v1c, .bool p1.used]) rfl b7 (by simp) (by simp [hip, ip1]) rfl (Ja _ _ rfl) fun X3 hX3 bX3 => ?_
   have BX3 : Below wr.heap.size wr X3 := J2 B7 hX3 (Nat.le_refl _)
   have s3 : X3.heap.size = wr.heap.size + 1 := by rw [hX3.size, s7]
   clear b7 B7 s7 hX3 k0 k1 k2
   obtain ⟨g7, hg7⟩ : ∃ g, g = wr.heap.size := ⟨_, rfl⟩
   rw [← hg7] at bX3 s3 ⊢
   have c70 := bX3.cell 0
   have c71 := bX3.cell 1
   simp only [List.getElem?_toArray, List.getElem?_cons_zero, List.getElem?_cons_succ] at c70 c71
   have l7 := bX3.lt
   have h7a : wr.heap.size ≤ g7 := by omega
   clear hg7 s3
   try simp only [PutS]
   go_upto_region 4 with (fail)
   refine wp_region_lit ?_
   iterate 2 (refine wpList_plain rfl fun K hK => ?_; go_big_op; refine hK _ _ ?_; clear hK K)
   refine wpSk rfl (Jp J31 (gCloneEx 5 (p1.V.flatMap ec) (by omega) (fun x hx => by obtain ⟨y, _, hy⟩ := List.mem_flatMap.1 hx; exact ec_one y x hy) _ _ _ X3 (Rd.keep hv1' BX3)) rfl rfl) fun v23 w23 hh => ?_
   obtain ⟨o23, B23⟩ := hh
   try simp only [PutS]
   obtain ⟨gv, cv, restv, rfl, hcv, hgv, hgv2, bv⟩ := o23.form (by omega)
   refine wpList_plain rfl fun K hK => ?_; go_big_op; refine hK _ _ ?_; clear hK K
   have hBX3 := hBr.trans (BX3.mono (by omega))
   have B23N := hBX3.trans (B23.mono (by omega))
   have b5w := (b5.keep BX3).keep B23
   have hb1w := (hb1.keep BX3).keep B23
   have bPw := (bP.keep BX3).keep B23
   have b7w := bX3.keep B23
   have Bw := BX3.trans (B23.mono BX3.size)
   have hr1w := hr1.keep Bw
   have hgvs : wr.heap.size < gv := by omega
   have lPw := bPw.lt
   have lEw := hb1w.lt
   have l5w := b5w.lt
   have lwr := b5.lt
   have lPr := bP.lt
   have lEr := hb1.lt
   have h7v : g7 < gv := by omega
   have hPv : gP < gv := by omega
   have hEv : gE < gv := by omega
   have h5v : W.heap.size < gv := by omega
   have hgN : N ≤ gv := by omega
   clear c70 c71 l7 o23 bX3 B23 BX3 hBX3 hgv
   try simp only [PutS]
   go_upto_region 5 with (fail)
   refine wp_region_lit ?_
   refine wpSk rfl (J1 (cs := ai amts) Jeh rfl (by rw [Jm5]; simp [ai, ha5]) rfl rfl (J4 b5w)) fun v24 w24 hh => ?_
   obtain ⟨rfl, rfl⟩ := hh
   try simp only [PutS]
   obtain ⟨S24, hS24⟩ : ∃ S, S = Value.agg (ai amts).toArray := ⟨_, rfl⟩
   rw [← hS24]
   have HS24 := Lib.hid hS24
   clear hS24
   have bv0 : Blk w24 gv 86 ((vlK j amts p1 0).flatMap ec ++ restv).toArray := by rw [Jjv]; exact bv
   clear bv
   obtain ⟨wo, hwo⟩ : ∃ wo, wo = wr := ⟨_, rfl⟩
   subst hwo
   go_wp2_with fail
   go_loopw [25] (fun q wq => ∃ c : Nat, c ≤ 5 ∧ q = .int .i64 c ∧ Blk wq gv 86 ((vlK j amts p1 c).flatMap ec ++ restv).toArray ∧ Below gv w24 wq) (fun q _ => 5 - (intOf q).toNat)
   case atStart => exact ⟨0, Nat.zero_le _, rfl, bv0, Below.refl _ _ |>.mono (Nat.le_of_lt hgv2)⟩
   case round =>
    clear bv0
    obtain ⟨c, hc, rfl, bv, hBq⟩ := hrel
    by_cases hc5 : c < 5
    ·
     obtain ⟨n, hn⟩ : ∃ n, amts[c]? = some n := ⟨amts[c]'(by omega), List.getElem?_eq_getElem (by omega)⟩
     obtain ⟨v, hv⟩ : ∃ v, p1.V[c]? = some v := ⟨p1.V[c]'(by omega), List.getElem?_eq_getElem (by omega)⟩
     obtain ⟨hna, hnb⟩ := HA.out n (List.mem_of_getElem? hn)
     have hix := Jm6 ha5 hc5 hn
     rw [← HS24.out] at hix
     by_cases hn0 : n = 0
     ·
      subst hn0
      have HV := Lib.hid (Jjw j amts p1 c v hV5 ha5 hv hn)
      clear hn hv
      go_wp2_with fail
      exact ⟨⟨c + 1, by omega, by go_num, by rw [HV.out]; exact bv, hBq⟩, by simp [intOf]; omega⟩
     ·
      have HV := Lib.hid (Jei j amts p1 c v n hV5 ha5 hv hn)
      have hvg := Jg9 j amts p1 c v hV5 ha5 hv
      have hvl := Jm8 j amts p1 c (by omega) hV5 ha5
      clear hn hv
      generalize vlK j amts p1 c = V0 at *
      obtain ⟨s1, s2⟩ := Jcl bv hvg
      have c70 := (b7w.below hBq (by omega)).cell 0
      simp only [List.getElem?_toArray, List.getElem?_cons_zero] at c70
      have l7q := (b7w.below hBq (by omega)).lt
      have lvq := bv.lt
      have z1 := Je lvq s1
      have z2 := Je lvq s2
      have z3 := Je l7q c70
      have hBwq : Below wo.heap.size wo wr := Bw.trans (hBq.mono (by omega))
      have hr1q := hr1.keep hBwq
      have hLq := HL.out.below (hBr.trans (hBwq.mono (by omega))) hone
      go_upto_region 9 with (fail)
      refine Jd 13 [(8, Spec.val (.agg #[.int .u64 (fv ((eb (fz n))).a), .int .u64 (fv ((eb (fz n))).b)])), (11, Spec.val (.agg #[.int .u64 (fv ((v + eb (fz n) * eqi j p1.R)).a), .int .u64 (fv ((v + eb (fz n) * eqi j p1.R)).b)]))] (by kernel_rfl) (by kernel_rfl) (by kernel_rfl) trivial ?_
      iterate 8 (refine rg_det rfl rfl rfl (fun K hK => ?_); go_big_quiet_op; refine hK _ ?_; clear hK K)
      refine rg_val rfl rfl (fun W1 hW1 hF => J7 J8b ((show Calls Tryz.prog 104 #[.int .i64 n] W1 (Ret (ev (eb (fz n))) W1) from eFromInt n hna hnb W1)) rfl rfl) ?_
      intro a' ha
      simp only [PutS] at ha
      subst ha
      iterate 2 (refine rg_det rfl rfl rfl (fun K hK => ?_); go_big_quiet_op; refine hK _ ?_; clear hK K)
      refine rg_val rfl rfl (fun W1 hW1 hF => J7 J7a (gAccumulate v (eb (fz n)) j p1.R hj hR60 _ 0 wr.heap.size W1 (Rd.wide (Rd.keep hr1q (J8 hW1)) (Nat.le_refl _) (Nat.le_refl _)) (J8 hW1).size (hLq.keep (J8 hW1))) rfl rfl) ?_
      intro a' ha
      simp only [PutS] at ha
      subst ha
      refine rg_det rfl rfl rfl (fun K hK => ?_)
      go_big_quiet_op
      refine hK _ ?_; clear hK K
      refine rg_nil (fun w' hw' hF => ?_)
      obtain ⟨z, rfl⟩ := hw'
      simp only [List.drop_succ_cons, List.drop_zero]
      have bvz := bv.keep z.h
      have hBz := hBq.trans (z.h.mono (Nat.le_trans (Nat.le_of_lt hgv2) hBq.size))
      obtain ⟨t1, t2⟩ := Jcl bvz hvg
      have fv9 := bvz.frozen
      generalize v + eb (fz n) * eqi j p1.R = y at *
      have hlV : c < V0.length := by omega
      clear hF z1 z2 z3 s1 s2 c70 hr1q hLq hBwq bv hBq hvg hvl hix
      go_wp2_with fail
      exact ⟨⟨c + 1, by omega, by go_num, by rw [HV.out]; exact Jj2 bvz c y hlV, Jh3 hBz (Nat.le_refl _)⟩, by simp [intOf]; omega⟩
    ·
     obtain rfl : c = 5 := by omega
     rw [Jm9 j amts p1 hV5 ha5] at bv
     have b5q := b5w.below hBq h5v
     have hb1q := hb1w.below hBq hEv
     have bPq := bPw.below hBq hPv
     have hBwq : Below wo.heap.size wo wr := Bw.trans (hBq.mono (by omega))
     have c3q : wr.cell? ⟨gE, i * 5 + 3, none⟩ = some (.slice (some ⟨gP, 0, none⟩) e.pts.length cp) := J5x hb1q HH.out.hi (by rw [← hpl, ← hup']; rfl)
     have fP := bPq.frozen
     have kP1 := (hBwq.cell (p := ⟨gP, k * 3 + 1, none⟩) lPr).trans (kP 1 _ rfl)
     have lEq := hb1q.lt
     have lPq := bPq.lt
     go_upto_region 12 with (fail)
     obtain ⟨u2, hu2⟩ : ∃ u2 : PtW, u2 = ⟨.slice r1A p1.R.length r1c, .slice (some ⟨gv, 0, none⟩) 5 cv, p1.used⟩ := ⟨_, rfl⟩
     have howr := Jq HPN.out.1 (Nat.le_refl _) hBwq
     rw [hl1] at howr
     have hkl : k * 3 + 1 < (ps1.flatMap ptc).length := by rw [Jz J27, hl1]; omega
     have hown2 := J9l (idx := k * 3 + 1) (x := Value.slice (some ⟨gv, 0, none⟩) 5 cv) howr hkl
     rw [Jc4 ps1 k 1 _ u2 _ HU1.out (by rw [hu2]; rfl) (by decide)] at hown2
     obtain ⟨Z, hZ⟩ : ∃ Z, Z = wr.setCell ⟨gP, k * 3 + 1, none⟩ (.slice (some ⟨gv, 0, none⟩) 5 cv) := ⟨_, rfl⟩
     have hZp : Put wr Z gP := by rw [hZ]; exact Put.set _ _ _ _
     rw [← hZ] at hown2 ⊢
     have hgPW : gP < W.heap.size := (Jk HH.out.own (by rw [hup']; rfl)).2
     have b5Z := hZp.blk b5q (by omega)
     have hb1Z := hZp.blk hb1q (by have := Jk HPN.out.1 rfl; intro hc; exact HH.out.ne (by rw [hup']; simp [Value.ownBlock]; omega))
     have bvZ := hZp.blk bv (by omega)
     have hBZ : Below N W Z := J2 (hBr.trans (hBwq.mono (by omega))) hZp hgP
     have hal2 : ∀ Y, Keeps (SP w0 N gE (.slice (some ⟨gP, 0, none⟩) e.pts.length cp)) Z Y → Al (PtIn Y) (ps1.set k u2) (ptK j amts e.pts (k + 1)) := fun Y hY => by
      have hk1 : Keeps (SP w0 N gE (.slice (some ⟨gP, 0, none⟩) e.pts.length cp)) wo Y := ((Keeps.of_below hBwq).trans (J8m hZp (fun h => h.2.1 rfl))).trans hY
      have hA1 := HPN.out.2 Y hk1
      obtain ⟨q1, q2, hq1, hq2, hq3⟩ := hA1.get (k := k) (by rw [Jc5]; exact hlt)
      obtain rfl := Option.some.inj (HU1.out.symm.trans hq1)
      obtain rfl : q2 = p1 := Option.some.inj (hq2.symm.trans (Jg8 j amts e.pts k p1 hp'))
      rw [Jju j amts e.pts k q2 hp']
      refine hA1.set ⟨?_, ?_, ?_⟩
      · rw [hu2]; exact hq3.1
      ·
       rw [hu2]
       have hbY : Blk Y gv 86 ((addP j amts q2).V.flatMap ec ++ restv).toArray := (hY.same gv ⟨.inr hgN, by simp [Value.ownBlock]; omega, by omega⟩ bvZ.lt).trans bvZ
       have h5 := J81 j amts q2 hV5 ha5
       refine ⟨by rw [Jz ec_len], by omega, _, cv, by rw [h5], by omega, fun _ => ⟨gv, 0, rfl, Nat.zero_le _, hbY.lt, hbY.lt, fun x y hy => ?_⟩⟩
       rw [Nat.zero_add, hbY.cell]
       simp only [List.getElem?_toArray]
       rw [List.getElem?_append_left (List.getElem?_eq_some_iff.1 hy).1]
       exact hy
      · rw [hu2]; rfl
     have hpn2 : PtsN w0 N gE Z (.slice (some ⟨gP, 0, none⟩) e.pts.length cp) (ps1.set k u2) (ptK j amts e.pts (k + 1)) := by
      refine ⟨?_, hal2⟩
      rw [List.length_set, hl1]
      exact hown2
     clear hal2 hown2 howr kP1 fP c3q bPq hb1q b5q bv hBq hBwq hZ hZp bvZ
     go_wp2_with fail
     exact ⟨⟨k + 1, ps1.set k u2, by omega, by go_num, hpn2, hb1Z, b5Z, hBZ⟩, by simp [intOf]; omega⟩
  ·
   obtain rfl : k = e.pts.length := by omega
   rw [Jm7] at hpn
   go_wp2_with fail
   go_end0
   exact ⟨⟨_, rfl⟩, ps1, by rw [hup']; have := hpn; rw [hpl]; exact this, hb1, hBr⟩
end

def rdc (r : Rdg) : List Value := [.int .i64 r.who, .int .i64 r.when, .int .i64 r.kind, .int .i64 r.value]
def rdV (r : Rdg) : Value := .agg (rdc r).toArray
def RdgIn (r : Rdg) : Prop := (-9223372036854775808 ≤ r.who ∧ r.who ≤ 9223372036854775807) ∧ (-9223372036854775808 ≤ r.when ∧ r.when ≤ 9223372036854775807) ∧ (-9223372036854775808 ≤ r.kind ∧ r.kind ≤ 9223372036854775807) ∧ (-9223372036854775808 ≤ r.value ∧ r.value ≤ 9223372036854775807)
theorem J6u : En Tryz.prog 126 := enters_of Tryz.func126 (by kernel_rfl) rfl
theorem J6v : En Tryz.prog 127 := enters_of Tryz.func127 (by kernel_rfl) rfl
theorem J6w : En Tryz.prog 128 := enters_of Tryz.func128 (by kernel_rfl) rfl
theorem J6x : En Tryz.prog 129 := enters_of Tryz.func129 (by kernel_rfl) rfl
theorem J4j : En Tryz.prog 57 := enters_of Tryz.func57 (by kernel_rfl) rfl
theorem J7b : En Tryz.prog 61 := enters_of Tryz.func61 (by kernel_rfl) rfl
theorem gField1 (r : Rdg) (w : World) : Calls Tryz.prog 126 #[rdV r] w fun e w2 => e = .returned (.int .i64 r.who) ∧ Below w.heap.size w w2 := by
 unfold rdV rdc
 go_enter Tryz.func126, Tryz.ntmps126
 go_wp2
 go_ret
 exact ⟨rfl, (Below.refl _ w).alloc (Nat.le_refl _) _⟩
theorem gField2 (r : Rdg) (w : World) : Calls Tryz.prog 127 #[rdV r] w fun e w2 => e = .returned (.int .i64 r.when) ∧ Below w.heap.size w w2 := by
 unfold rdV rdc
 go_enter Tryz.func127, Tryz.ntmps127
 go_wp2
 go_ret
 exact ⟨rfl, (Below.refl _ w).alloc (Nat.le_refl _) _⟩
theorem gField3 (r : Rdg) (w : World) : Calls Tryz.prog 128 #[rdV r] w fun e w2 => e = .returned (.int .i64 r.kind) ∧ Below w.heap.size w w2 := by
 unfold rdV rdc
 go_enter Tryz.func128, Tryz.ntmps128
 go_wp2
 go_ret
 exact ⟨rfl, (Below.refl _ w).alloc (Nat.le_refl _) _⟩
theorem gField4 (r : Rdg) (w : World) : Calls Tryz.prog 129 #[rdV r] w fun e w2 => e = .returned (.int .i64 r.value) ∧ Below w.heap.size w w2 := by
 unfold rdV rdc
 go_enter Tryz.func129, Tryz.ntmps129
 go_wp2
 go_ret
 exact ⟨rfl, (Below.refl _ w).alloc (Nat.le_refl _) _⟩
def fldC : List Value := [.func (.func 126) #[] #[], .int .i64 4, .func (.func 127) #[] #[], .int .i64 8, .func (.func 128) #[] #[], .int .i64 4, .func (.func 129) #[] #[], .int .i64 8]
theorem Jd0 : Tryz.prog.underlying 144 = some (.array 4 143) := by kernel_rfl
theorem Jej : (Tryz.prog.info? 144).map (·.size) = some 8 := by kernel_rfl
theorem gFields (w : World) : Calls Tryz.prog 102 #[] w fun e w2 => e = .returned (.agg fldC.toArray) ∧ Below w.heap.size w w2 := by
 go_enter Tryz.func102, Tryz.ntmps102
 go_upto_region 1 with (fail)
 refine J13 fun W hB hz b1 => ?_
 obtain ⟨cs0, hcs0, b1'⟩ : ∃ cs : Array Value, cs.size = 8 ∧ Blk W w.heap.size 144 cs := ⟨_, rfl, b1⟩
 clear b1 hz
 refine wp_region_lit ?_
 iterate 5 (refine wpList_plain rfl fun K hK => ?_; go_big_op; refine hK _ _ ?_; clear hK K)
 refine J6 rfl 144 (.tmp 0) (.tmp 5) rfl rfl (cells := fldC) rfl b1' (by rw [hcs0]; decide) Jej rfl (Ja _ _ (by rw [hcs0]; rfl)) fun Y hY bY => ?_
 have hBY := J2 hB hY (Nat.le_refl _)
 clear b1' hB hcs0
 go_wp2_with fail
 exact bodyPost_ret (v := .agg fldC.toArray) (Jv (g := w.heap.size) rfl rfl Jd0 rfl Jej bY) rfl ⟨rfl, hBY⟩
theorem nib_or : ∀ a b : Fin 16, bits .or .i64 ((a.val : Nat) : Int) (wrap64 (((b.val : Nat) : Int) * 16)) % 256 = ((a.val + 16 * b.val : Nat) : Int) := by decide +kernel
theorem Jma (a b : Int) (ha : 0 ≤ a ∧ a < 16) (hb : 0 ≤ b ∧ b < 16) : bits .or .i64 a (wrap64 (b * 16)) % 256 = (((a + 16 * b).toNat : Nat) : Int) := by
 obtain ⟨x, rfl⟩ : ∃ x : Nat, a = (x : Int) := ⟨a.toNat, by omega⟩
 obtain ⟨y, rfl⟩ : ∃ y : Nat, b = (y : Int) := ⟨b.toNat, by omega⟩
 have := nib_or ⟨x, by omega⟩ ⟨y, by omega⟩
 dsimp only at this
 rw [this]
 omega
theorem gEncR (r : Rdg) (hr : r.ok) (w : World) : Calls Tryz.prog 61 #[rdV r] w fun e w2 => ∃ v, e = .returned v ∧ ByS w.heap.size w2.heap.size w2 v r.enc ∧ Below w.heap.size w w2 := by
 obtain ⟨h1, h2, h3, h4⟩ := hr
 have HE : byc r.enc = [.int .u8 (bits BinOp.or IntKind.i64 r.who (wrap64 (r.kind * 16)) % 256), .int .u8 (r.when % 256), .int .u8 (r.value % 256)] := by
  rw [Jma _ _ h1 h3, Int.emod_eq_of_lt h2.1 h2.2, Int.emod_eq_of_lt h4.1 h4.2]
  have e2 := h2.1
  have e4 := h4.1
  simp [byc, Rdg.enc]
  omega
 have HB := Lib.hid HE
 clear HE h1 h2 h3 h4
 unfold rdV rdc
 go_enter Tryz.func61, Tryz.ntmps61
 go_wp2_with fail
 refine bodyPost_ret (results_tmp rfl _ _ _) rfl ⟨_, rfl, ?_, ?_⟩
 ·
  refine J6r (l := r.enc) (t := 5) ?_ (by simp [Rdg.enc]) (Nat.le_succ _) (by simp)
  rw [HB.out]
  have := World.alloc_heap_new (w.alloc (.cells #[.int .i64 r.who, .int .i64 r.when, .int .i64 r.kind, .int .i64 r.value] 28)) (.cells #[.int .u8 (bits BinOp.or IntKind.i64 r.who (wrap64 (r.kind * 16)) % 256), .int .u8 (r.when % 256), .int .u8 (r.value % 256)] 5)
  simpa [Blk] using this
 · exact ((Below.refl _ w).alloc (Nat.le_refl _) _).alloc (by simp) _
theorem Jjx : Tryz.prog.underlying 143 = some (.struct (Tryz.prog.fieldsOf 143)) := by kernel_rfl
def fldE : Nat → List Value
 | 0 => [.func (.func 126) #[] #[], .int .i64 4]
 | 1 => [.func (.func 127) #[] #[], .int .i64 8]
 | 2 => [.func (.func 128) #[] #[], .int .i64 4]
 | _ => [.func (.func 129) #[] #[], .int .i64 8]
theorem Jak (k : Nat) (hk : k < 4) (w : World) : (Instr.index 144 (.agg fldC.toArray) (.int .i64 (k : Int))).run Tryz.prog w = .ok (.agg (fldE k).toArray) w := by
 obtain ⟨i, hi, hs⟩ : ∃ i, Tryz.prog.info? 143 = some i ∧ i.size = 2 := by
  have i8 : (Tryz.prog.info? 143).map (·.size) = some 2 := by kernel_rfl
  cases h : Tryz.prog.info? 143 with
  | none => rw [h] at i8; cases i8
  | some i => rw [h] at i8; exact ⟨i, rfl, by simpa using i8⟩
 obtain rfl | rfl | rfl | rfl : k = 0 ∨ k = 1 ∨ k = 2 ∨ k = 3 := by omega
 all_goals simp [Instr.index, asIntOf, run_underlying Jd0, run_underlying Jjx, part, sizeOf, typeInfo, hi, hs, fldC, fldE]
theorem Jmb : (Tryz.prog.info? 143).map (fun i => (i.zero, i.size)) = some (some (.agg #[.nilFunc, .int .i64 0]), 2) := by kernel_rfl
theorem Jjy : ∃ i, Tryz.prog.info? 143 = some i ∧ i.zero = some (.agg #[.nilFunc, .int .i64 0]) ∧ i.size = 2 := by
 have h := Jmb
 cases hh : Tryz.prog.info? 143 with
 | none => rw [hh] at h; cases h
 | some i =>
  rw [hh] at h
  simp only [Option.map_some, Option.some.injEq, Prod.mk.injEq] at h
  exact ⟨i, rfl, h.1, h.2⟩
def fldK (r : Rdg) : Nat → Prop
 | 0 => True
 | 1 => 0 ≤ r.who ∧ r.who < 16
 | 2 => (0 ≤ r.who ∧ r.who < 16) ∧ (0 ≤ r.when ∧ r.when < 256)
 | 3 => (0 ≤ r.who ∧ r.who < 16) ∧ (0 ≤ r.when ∧ r.when < 256) ∧ (0 ≤ r.kind ∧ r.kind < 16)
 | _ => r.ok
theorem J1c : Tryz.prog.underlying 28 = some (.struct (Tryz.prog.fieldsOf 28)) := by kernel_rfl
theorem J1f : (Tryz.prog.info? 28).map (·.size) = some 4 := by kernel_rfl
theorem gValidR (r : Rdg) (hr : RdgIn r) (w : World) : Calls Tryz.prog 57 #[rdV r] w fun e w2 => e = .returned (.bool (decide r.ok)) ∧ Below w.heap.size w w2 := by
  have HR := Lib.hid hr
  obtain ⟨ie, hie, hie0, hie2⟩ := Jjy
  have HV : rdV r = .agg #[.int .i64 r.who, .int .i64 r.when, .int .i64 r.kind, .int .i64 r.value] := rfl
  rw [HV]
  clear hr
  go_enter Tryz.func57, Tryz.ntmps57
  go_upto_region 1 with (fail)
  refine J13 fun W hB hz b1 => ?_
  have b1' : Blk W w.heap.size 28 #[.int .i64 r.who, .int .i64 r.when, .int .i64 r.kind, .int .i64 r.value] := b1
  have hWs : W.heap.size = w.heap.size + 1 := hz.out
  clear b1 hz
  go_wp2_with fail
  refine (gFields W).mono ?_
  rintro e W2 ⟨rfl, B6⟩
  have b1w := b1'.keep B6
  have hBw := hB.trans (B6.mono hB.size)
  have hW2 : w.heap.size + 1 ≤ W2.heap.size := by have := B6.size; omega
  clear b1' hB B6 hWs
  unfold fldC
  go_wp2_with fail
  go_loopw [7] (fun q wr => ∃ k : Nat, k ≤ 4 ∧ q = .int .i64 k ∧ fldK r k ∧ Blk wr w.heap.size 28 #[.int .i64 r.who, .int .i64 r.when, .int .i64 r.kind, .int .i64 r.value] ∧ Below w.heap.size w wr) (fun q _ => 4 - (intOf q).toNat)
  case atStart => exact ⟨0, by decide, rfl, trivial, b1w, hBw⟩
  case round =>
    clear b1w hBw hW2
    obtain ⟨k, hk, rfl, hf, b1, hB⟩ := hrel
    by_cases h4 : k < 4
    · obtain rfl | rfl | rfl | rfl : k = 0 ∨ k = 1 ∨ k = 2 ∨ k = 3 := by omega
      · skip
        have hix := Jak 0 (by decide) wr
        rw [show ((0 : Nat) : Int) = 0 from rfl] at hix
        unfold fldC fldE at hix
        go_upto_region 3 with (fail)
        refine wp_region_lit ?_
        refine wpList_plain rfl fun K hK => ?_; go_big_op; refine hK _ _ ?_; clear hK K
        refine wpSk rfl (Jl hie hie0 rfl) fun v4 w4 hh => ?_
        obtain ⟨rfl, rfl⟩ := hh
        try simp only [PutS]
        have b4 : Blk (wr.alloc (.cells (Value.agg #[.nilFunc, .int .i64 0]).cells 143)) wr.heap.size 143 #[.nilFunc, .int .i64 0] := World.alloc_heap_new wr _
        have B4 := (Below.refl _ wr).alloc (Nat.le_refl _) (.cells (Value.agg #[.nilFunc, .int .i64 0]).cells 143)
        generalize wr.alloc (.cells (Value.agg #[.nilFunc, .int .i64 0]).cells 143) = w4 at *
        refine J6 rfl 143 (.tmp 4) (.tmp 9) rfl rfl (cells := fldE 0) rfl b4 (by simp [fldE]) (by simp [hie, hie2, fldE]) rfl (Ja _ _ rfl) fun X3 hX3 bX3 => ?_
        have BX3 : Below wr.heap.size wr X3 := J2 B4 hX3 (Nat.le_refl _)
        have b1X := b1.keep BX3
        have hBX := hB.trans (BX3.mono hB.size)
        unfold fldE at bX3
        have c40 := bX3.cell 0
        have c41 := bX3.cell 1
        simp only [List.getElem?_toArray, List.getElem?_cons_zero, List.getElem?_cons_succ] at c40 c41
        have l4 := bX3.lt
        clear bX3
        clear b4 B4 hX3 BX3 hix b1 hB
        try simp only [PutS]
        go_upto_region 4 with (fail)
        refine wp_region_lit ?_
        iterate 2 (refine wpList_plain rfl fun K hK => ?_; go_big_op; refine hK _ _ ?_; clear hK K)
        refine wpSk rfl (J1 (cs := [.int .i64 r.who, .int .i64 r.when, .int .i64 r.kind, .int .i64 r.value]) J1c rfl J1f rfl rfl (J4 b1X)) fun v12 w12 hh => ?_
        obtain ⟨rfl, rfl⟩ := hh
        try simp only [PutS]
        refine wpSk rfl (J38 (R := fun v W2 => v = .int .i64 r.who ∧ Below w12.heap.size w12 W2) (first := []) (cap := []) J6u ((gField1 r w12).mono fun e W2 h => ⟨_, h.1, rfl, h.2⟩) rfl rfl rfl rfl) fun v13 w13 hh => ?_
        obtain ⟨rfl, B13⟩ := hh
        try simp only [PutS]
        have b1Y := b1X.keep B13
        have hBY := hBX.trans (B13.mono hBX.size)
        have c1Y := (B13.cell l4).trans c41
        have l4Y := Nat.lt_of_lt_of_le l4 B13.size
        clear b1X hBX c40 c41 l4 B13
        go_wp2_with fail
        all_goals first
          | (refine ⟨⟨1, by decide, rfl, ?_, b1Y, hBY⟩, by simp [intOf]⟩
             simp only [fldK, Rdg.ok] at hf ⊢
             omega)
          | (go_ret
             refine ⟨by rw [decide_eq_false (p := r.ok) (by simp only [fldK, Rdg.ok] at hf ⊢; omega)]; rfl, hBY⟩)
      · skip
        have hix := Jak 1 (by decide) wr
        rw [show ((1 : Nat) : Int) = 1 from rfl] at hix
        unfold fldC fldE at hix
        go_upto_region 3 with (fail)
        refine wp_region_lit ?_
        refine wpList_plain rfl fun K hK => ?_; go_big_op; refine hK _ _ ?_; clear hK K
        refine wpSk rfl (Jl hie hie0 rfl) fun v4 w4 hh => ?_
        obtain ⟨rfl, rfl⟩ := hh
        try simp only [PutS]
        have b4 : Blk (wr.alloc (.cells (Value.agg #[.nilFunc, .int .i64 0]).cells 143)) wr.heap.size 143 #[.nilFunc, .int .i64 0] := World.alloc_heap_new wr _
        have B4 := (Below.refl _ wr).alloc (Nat.le_refl _) (.cells (Value.agg #[.nilFunc, .int .i64 0]).cells 143)
        generalize wr.alloc (.cells (Value.agg #[.nilFunc, .int .i64 0]).cells 143) = w4 at *
        refine J6 rfl 143 (.tmp 4) (.tmp 9) rfl rfl (cells := fldE 1) rfl b4 (by simp [fldE]) (by simp [hie, hie2, fldE]) rfl (Ja _ _ rfl) fun X3 hX3 bX3 => ?_
        have BX3 : Below wr.heap.size wr X3 := J2 B4 hX3 (Nat.le_refl _)
        have b1X := b1.keep BX3
        have hBX := hB.trans (BX3.mono hB.size)
        unfold fldE at bX3
        have c40 := bX3.cell 0
        have c41 := bX3.cell 1
        simp only [List.getElem?_toArray, List.getElem?_cons_zero, List.getElem?_cons_succ] at c40 c41
        have l4 := bX3.lt
        clear bX3
        clear b4 B4 hX3 BX3 hix b1 hB
        try simp only [PutS]
        go_upto_region 4 with (fail)
        refine wp_region_lit ?_
        iterate 2 (refine wpList_plain rfl fun K hK => ?_; go_big_op; refine hK _ _ ?_; clear hK K)
        refine wpSk rfl (J1 (cs := [.int .i64 r.who, .int .i64 r.when, .int .i64 r.kind, .int .i64 r.value]) J1c rfl J1f rfl rfl (J4 b1X)) fun v12 w12 hh => ?_
        obtain ⟨rfl, rfl⟩ := hh
        try simp only [PutS]
        refine wpSk rfl (J38 (R := fun v W2 => v = .int .i64 r.when ∧ Below w12.heap.size w12 W2) (first := []) (cap := []) J6v ((gField2 r w12).mono fun e W2 h => ⟨_, h.1, rfl, h.2⟩) rfl rfl rfl rfl) fun v13 w13 hh => ?_
        obtain ⟨rfl, B13⟩ := hh
        try simp only [PutS]
        have b1Y := b1X.keep B13
        have hBY := hBX.trans (B13.mono hBX.size)
        have c1Y := (B13.cell l4).trans c41
        have l4Y := Nat.lt_of_lt_of_le l4 B13.size
        clear b1X hBX c40 c41 l4 B13
        go_wp2_with fail
        all_goals first
          | (refine ⟨⟨2, by decide, rfl, ?_, b1Y, hBY⟩, by simp [intOf]⟩
             simp only [fldK, Rdg.ok] at hf ⊢
             omega)
          | (go_ret
             refine ⟨by rw [decide_eq_false (p := r.ok) (by simp only [fldK, Rdg.ok] at hf ⊢; omega)]; rfl, hBY⟩)
      · skip
        have hix := Jak 2 (by decide) wr
        rw [show ((2 : Nat) : Int) = 2 from rfl] at hix
        unfold fldC fldE at hix
        go_upto_region 3 with (fail)
        refine wp_region_lit ?_
        refine wpList_plain rfl fun K hK => ?_; go_big_op; refine hK _ _ ?_; clear hK K
        refine wpSk rfl (Jl hie hie0 rfl) fun v4 w4 hh => ?_
        obtain ⟨rfl, rfl⟩ := hh
        try simp only [PutS]
        have b4 : Blk (wr.alloc (.cells (Value.agg #[.nilFunc, .int .i64 0]).cells 143)) wr.heap.size 143 #[.nilFunc, .int .i64 0] := World.alloc_heap_new wr _
        have B4 := (Below.refl _ wr).alloc (Nat.le_refl _) (.cells (Value.agg #[.nilFunc, .int .i64 0]).cells 143)
        generalize wr.alloc (.cells (Value.agg #[.nilFunc, .int .i64 0]).cells 143) = w4 at *
        refine J6 rfl 143 (.tmp 4) (.tmp 9) rfl rfl (cells := fldE 2) rfl b4 (by simp [fldE]) (by simp [hie, hie2, fldE]) rfl (Ja _ _ rfl) fun X3 hX3 bX3 => ?_
        have BX3 : Below wr.heap.size wr X3 := J2 B4 hX3 (Nat.le_refl _)
        have b1X := b1.keep BX3
        have hBX := hB.trans (BX3.mono hB.size)
        unfold fldE at bX3
        have c40 := bX3.cell 0
        have c41 := bX3.cell 1
        simp only [List.getElem?_toArray, List.getElem?_cons_zero, List.getElem?_cons_succ] at c40 c41
        have l4 := bX3.lt
        clear bX3
        clear b4 B4 hX3 BX3 hix b1 hB
        try simp only [PutS]
        go_upto_region 4 with (fail)
        refine wp_region_lit ?_
        iterate 2 (refine wpList_plain rfl fun K hK => ?_; go_big_op; refine hK _ _ ?_; clear hK K)
        refine wpSk rfl (J1 (cs := [.int .i64 r.who, .int .i64 r.when, .int .i64 r.kind, .int .i64 r.value]) J1c rfl J1f rfl rfl (J4 b1X)) fun v12 w12 hh => ?_
        obtain ⟨rfl, rfl⟩ := hh
        try simp only [PutS]
        refine wpSk rfl (J38 (R := fun v W2 => v = .int .i64 r.kind ∧ Below w12.heap.size w12 W2) (first := []) (cap := []) J6w ((gField3 r w12).mono fun e W2 h => ⟨_, h.1, rfl, h.2⟩) rfl rfl rfl rfl) fun v13 w13 hh => ?_
        obtain ⟨rfl, B13⟩ := hh
        try simp only [PutS]
        have b1Y := b1X.keep B13
        have hBY := hBX.trans (B13.mono hBX.size)
        have c1Y := (B13.cell l4).trans c41
        have l4Y := Nat.lt_of_lt_of_le l4 B13.size
        clear b1X hBX c40 c41 l4 B13
        go_wp2_with fail
        all_goals first
          | (refine ⟨⟨3, by decide, rfl, ?_, b1Y, hBY⟩, by simp [intOf]⟩
             simp only [fldK, Rdg.ok] at hf ⊢
             omega)
          | (go_ret
             refine ⟨by rw [decide_eq_false (p := r.ok) (by simp only [fldK, Rdg.ok] at hf ⊢; omega)]; rfl, hBY⟩)
      · skip
        have hix := Jak 3 (by decide) wr
        rw [show ((3 : Nat) : Int) = 3 from rfl] at hix
        unfold fldC fldE at hix
        go_upto_region 3 with (fail)
        refine wp_region_lit ?_
        refine wpList_plain rfl fun K hK => ?_; go_big_op; refine hK _ _ ?_; clear hK K
        refine wpSk rfl (Jl hie hie0 rfl) fun v4 w4 hh => ?_
        obtain ⟨rfl, rfl⟩ := hh
        try simp only [PutS]
        have b4 : Blk (wr.alloc (.cells (Value.agg #[.nilFunc, .int .i64 0]).cells 143)) wr.heap.size 143 #[.nilFunc, .int .i64 0] := World.alloc_heap_new wr _
        have B4 := (Below.refl _ wr).alloc (Nat.le_refl _) (.cells (Value.agg #[.nilFunc, .int .i64 0]).cells 143)
        generalize wr.alloc (.cells (Value.agg #[.nilFunc, .int .i64 0]).cells 143) = w4 at *
        refine J6 rfl 143 (.tmp 4) (.tmp 9) rfl rfl (cells := fldE 3) rfl b4 (by simp [fldE]) (by simp [hie, hie2, fldE]) rfl (Ja _ _ rfl) fun X3 hX3 bX3 => ?_
        have BX3 : Below wr.heap.size wr X3 := J2 B4 hX3 (Nat.le_refl _)
        have b1X := b1.keep BX3
        have hBX := hB.trans (BX3.mono hB.size)
        unfold fldE at bX3
        have c40 := bX3.cell 0
        have c41 := bX3.cell 1
        simp only [List.getElem?_toArray, List.getElem?_cons_zero, List.getElem?_cons_succ] at c40 c41
        have l4 := bX3.lt
        clear bX3
        clear b4 B4 hX3 BX3 hix b1 hB
        try simp only [PutS]
        go_upto_region 4 with (fail)
        refine wp_region_lit ?_
        iterate 2 (refine wpList_plain rfl fun K hK => ?_; go_big_op; refine hK _ _ ?_; clear hK K)
        refine wpSk rfl (J1 (cs := [.int .i64 r.who, .int .i64 r.when, .int .i64 r.kind, .int .i64 r.value]) J1c rfl J1f rfl rfl (J4 b1X)) fun v12 w12 hh => ?_
        obtain ⟨rfl, rfl⟩ := hh
        try simp only [PutS]
        refine wpSk rfl (J38 (R := fun v W2 => v = .int .i64 r.value ∧ Below w12.heap.size w12 W2) (first := []) (cap := []) J6x ((gField4 r w12).mono fun e W2 h => ⟨_, h.1, rfl, h.2⟩) rfl rfl rfl rfl) fun v13 w13 hh => ?_
        obtain ⟨rfl, B13⟩ := hh
        try simp only [PutS]
        have b1Y := b1X.keep B13
        have hBY := hBX.trans (B13.mono hBX.size)
        have c1Y := (B13.cell l4).trans c41
        have l4Y := Nat.lt_of_lt_of_le l4 B13.size
        clear b1X hBX c40 c41 l4 B13
        go_wp2_with fail
        all_goals first
          | (refine ⟨⟨4, by decide, rfl, ?_, b1Y, hBY⟩, by simp [intOf]⟩
             simp only [fldK, Rdg.ok] at hf ⊢
             omega)
          | (go_ret
             refine ⟨by rw [decide_eq_false (p := r.ok) (by simp only [fldK, Rdg.ok] at hf ⊢; omega)]; rfl, hBY⟩)
    · obtain rfl : k = 4 := by omega
      go_wp2_with fail
      go_ret
      simp only [fldK] at hf
      exact ⟨by rw [decide_eq_true hf]; rfl, hB⟩
end Go.Proofs.YtoiampgfnidfdaaGreatDoor
