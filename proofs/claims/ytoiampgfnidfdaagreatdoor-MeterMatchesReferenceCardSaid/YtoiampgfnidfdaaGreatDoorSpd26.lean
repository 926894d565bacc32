/-
  The program's Spend.
-/
import Derived.Test.YtoiampgfnidfdaaGreatDoorEc26
import Derived.Test.YtoiampgfnidfdaaGreatDoorRo26
set_option maxRecDepth 100000
set_option maxHeartbeats 8000000
namespace Go.Proofs.YtoiampgfnidfdaaGreatDoor
open Go.RowKit
section
open Go.RowKit

theorem J7k : En Tryz.prog 69 := enters_of Tryz.func69 (by kernel_rfl) rfl
theorem J23 : En Tryz.prog 18 := enters_of Tryz.func18 (by kernel_rfl) rfl
theorem J4s (l : List Nat) (pts : List Pt) : (useP l pts).length = pts.length := by simp [useP]
theorem Jeo (pts : List Pt) : useP [] pts = pts := by
 unfold useP
 refine List.ext_getElem? fun j => ?_
 rw [List.getElem?_mapIdx]
 cases pts[j]? <;> simp
theorem Jd4 (l : List Nat) (k : Nat) (pts : List Pt) (p : Pt) (hp : (useP l pts)[k]? = some p) : useP (l ++ [k]) pts = (useP l pts).set k { p with used := true } := by
 refine List.ext_getElem? fun j => ?_
 have hk := (List.getElem?_eq_some_iff.1 hp).1
 rw [List.getElem?_set]
 by_cases hj : k = j
 ·
  subst hj
  rw [if_pos rfl, if_pos hk]
  unfold useP at hp ⊢
  rw [List.getElem?_mapIdx] at hp ⊢
  cases hq : pts[k]? with
  | none => rw [hq] at hp; cases hp
  | some q =>
   rw [hq] at hp
   simp only [Option.map_some, Option.some.injEq] at hp ⊢
   rw [if_pos (by simp), ← hp]
   split <;> rfl
 ·
  rw [if_neg hj]
  unfold useP
  rw [List.getElem?_mapIdx, List.getElem?_mapIdx]
  cases hq : pts[j]? with
  | none => rfl
  | some q =>
   simp only [Option.map_some, Option.some.injEq]
   have : (j ∈ l ++ [k]) = (j ∈ l) := by simp; intro e; exact absurd e.symm hj
   simp only [this]
theorem Jk8 (pts : List Pt) : ∀ k ∈ freeM pts, k < pts.length := by
 intro k hk
 unfold freeM at hk
 exact List.mem_range.1 (List.mem_filter.1 hk).1
attribute [local irreducible] wpRg
theorem fSpend (w0 : Bse) (w : World) (e : Ep) (hp : e.pts.length ≤ 1000) (l : List Nat) (hl : l.length = 2) (hlt : ∀ k ∈ l, k < e.pts.length) (b go cap : Nat) (hb : w.cell? ⟨b, 0, none⟩ = some (.slice (some ⟨go, 0, none⟩) 2 cap)) (hbl : b < w.heap.size) (hgo : go < w.heap.size) (hrow : ∀ (j k : Nat), l[j]? = some k → w.cell? ⟨go, j, none⟩ = some (.int .i64 (k : Int))) (hcap : 2 ≤ cap) :
  FOk 69 [.pointer (some ⟨b, 0, none⟩)] w0 w e { e with pts := useP l e.pts } := by
 intro W N gE us i u rest ps h
 have HH := Lib.hid h
 have hpn := h.ptsN
 have hb1 := h.b
 have hNE := h.hN
 have hwN := h.hw
 have hBw := h.hB
 have hpl : ps.length = e.pts.length := h.pts.1
 have cb := (hBw.cell (p := ⟨b, 0, none⟩) hbl).trans hb
 have hbW := Nat.lt_of_lt_of_le hbl hBw.size
 obtain ⟨Ap, cp, hup⟩ := Jy h.own
 rw [hup] at hpn
 rw [hpl] at hpn hup
 have HUP := Lib.hid hup
 have HPL := Lib.hid hpl
 have HL := Lib.hid hlt
 have HR := Lib.hid hrow
 have HLL := Lib.hid hl
 clear h hrow hl hlt hpl hup
 show Calls Tryz.prog 69 #[.pointer (some ⟨gE, i * 5, none⟩), .pointer (some ⟨b, 0, none⟩)] W _
 go_enter Tryz.func69, Tryz.ntmps69
 have HPN := Lib.hid hpn
 clear hpn
 go_wp2_with fail
 go_loopw [7] (fun q wr => ∃ (k : Nat) (ps1 : List PtW), k ≤ 2 ∧ q = .int .i64 k ∧ PtsN w0 N gE wr (.slice Ap e.pts.length cp) ps1 (useP (l.take k) e.pts) ∧ Blk wr gE 75 ((us.set i u).flatMap epc ++ rest).toArray ∧ Below N W wr) (fun q _ => 2 - (intOf q).toNat)
 case atStart => exact ⟨0, ps, Nat.zero_le _, rfl, by rw [List.take_zero, Jeo]; exact HPN.out, hb1, Below.refl _ _ |>.mono (by omega)⟩
 case round =>
  clear hb1 cb
  obtain ⟨k, ps1, hk, rfl, hpn, hb1, hBr⟩ := hrel
  by_cases hlt : k < 2
  ·
   obtain ⟨x, hx⟩ : ∃ x, l[k]? = some x := ⟨l[k]'(by rw [HLL.out]; exact hlt), List.getElem?_eq_getElem (by rw [HLL.out]; exact hlt)⟩
   have hxl : x < e.pts.length := HL.out x (List.mem_of_getElem? hx)
   have hBwr := hBw.trans (hBr.mono hwN)
   have c1 := (hBwr.cell (p := ⟨go, k, none⟩) hgo).trans (HR.out k x hx)
   have c3 : wr.cell? ⟨gE, i * 5 + 3, none⟩ = some (.slice Ap e.pts.length cp) := J5x hb1 HH.out.hi (by rw [← HUP.out]; rfl)
   obtain ⟨u1, p1, hu1, hp1, hin⟩ := (hpn.2 wr (Keeps.refl _)).get (k := x) (by rw [J4s]; exact hxl)
   have hl1 : ps1.length = e.pts.length := by rw [(hpn.2 wr (Keeps.refl _)).1, J4s]
   obtain ⟨gP, cP, restP, hvP, hcP, hgP, hgP2, bP⟩ := (own_a hpn.1).form (by omega)
   rw [hl1] at hvP hcP
   cases hvP
   have fP := bP.frozen
   have lE := hb1.lt
   have lP := bP.lt
   have lgo := Nat.lt_of_lt_of_le hgo hBwr.size
   have kP2 : wr.cell? ⟨gP, x * 3 + 2, none⟩ = some (.bool u1.u) := by
    rw [bP.cell]
    have h1 := J1l J27 ps1 x 2 _ (.bool u1.u) hu1 rfl
    simp only [List.getElem?_toArray]
    rw [List.getElem?_append_left (List.getElem?_eq_some_iff.1 h1).1]
    exact h1
   have HPN := Lib.hid hpn
   clear hpn
   go_upto_region 4 with (fail)
   obtain ⟨u2, hu2⟩ : ∃ u2 : PtW, u2 = ⟨u1.r, u1.v, true⟩ := ⟨_, rfl⟩
   have howr := HPN.out.1
   rw [hl1] at howr
   have hkl : x * 3 + 2 < (ps1.flatMap ptc).length := by rw [Jz J27, hl1]; omega
   have hown2 := J9l (idx := x * 3 + 2) (x := Value.bool true) howr hkl
   rw [Jc4 ps1 x 2 _ u2 _ hu1 (by rw [hu2]; rfl) (by decide)] at hown2
   obtain ⟨Z, hZ⟩ : ∃ Z, Z = wr.setCell ⟨gP, x * 3 + 2, none⟩ (.bool true) := ⟨_, rfl⟩
   have hZp : Put wr Z gP := by rw [hZ]; exact Put.set _ _ _ _
   rw [← hZ] at hown2 ⊢
   have hb1Z := hZp.blk hb1 (by intro hc; exact HH.out.ne (by rw [HUP.out]; simp [Value.ownBlock]; omega))
   have hBZ : Below N W Z := J2 hBr hZp hgP
   have htk : l.take (k + 1) = l.take k ++ [x] := by rw [List.take_add_one, hx]; rfl
   have hal2 : ∀ Y, Keeps (SP w0 N gE (.slice (some ⟨gP, 0, none⟩) e.pts.length cp)) Z Y → Al (PtIn Y) (ps1.set x u2) (useP (l.take (k + 1)) e.pts) := fun Y hY => by
    have hk1 : Keeps (SP w0 N gE (.slice (some ⟨gP, 0, none⟩) e.pts.length cp)) wr Y := (J8m hZp (fun h => h.2.1 rfl)).trans hY
    have hA1 := HPN.out.2 Y hk1
    obtain ⟨q1, q2, hq1, hq2, hq3⟩ := hA1.get (k := x) (by rw [J4s]; exact hxl)
    obtain rfl := Option.some.inj (hu1.symm.trans hq1)
    rw [htk, Jd4 _ _ _ q2 hq2]
    exact hA1.set ⟨by rw [hu2]; exact hq3.1, by rw [hu2]; exact hq3.2.1, by rw [hu2]⟩
   have hpn2 : PtsN w0 N gE Z (.slice (some ⟨gP, 0, none⟩) e.pts.length cp) (ps1.set x u2) (useP (l.take (k + 1)) e.pts) := by
    refine ⟨?_, hal2⟩
    rw [List.length_set, hl1]
    exact hown2
   clear hal2 hown2 howr fP c3 c1 hb1 hZ hZp htk kP2
   go_wp2_with fail
   exact ⟨⟨k + 1, ps1.set x u2, by omega, by go_num, hpn2, hb1Z, hBZ⟩, by simp [intOf]; omega⟩
  ·
   obtain rfl : k = 2 := by omega
   have HPN := Lib.hid hpn
   clear hpn
   go_wp2_with fail
   go_end0
   have hpn := HPN.out
   rw [List.take_of_length_le (by rw [HLL.out]; exact Nat.le_refl _)] at hpn
   obtain ⟨r1, r2, r3⟩ := HH.out.num
   have hl' : ps1.length = e.pts.length := by rw [(hpn.2 wr (Keeps.refl _)).1, J4s]
   rw [← HUP.out] at hpn
   obtain ⟨q1, q2⟩ := ep_of HH.out hpn hBr (by omega)
   exact ⟨⟨_, rfl⟩, u, hb1, ⟨⟨r1, r2, r3⟩, q1, HH.out.pk.le q2⟩, hBr⟩
theorem step_H {P : Program} {ops : Array Oper} {o : Oper} {a : Act} {K : Act → World → Prop} {Q : Exit → Act → World → Prop} {EE : Prop} {X : World} {R : Value → World → Prop} (hgd : o.guard = none) (hs : stepAt P o a X R) (h : ∀ v w, R v w → K (a.put o.dst v) w) :
  if Region.wanted o (yielded ops a.tmps) = true then Oper.wp P o a X K Q else EE := by
 have hw : Region.wanted o (yielded ops a.tmps) = true := by simp [Region.wanted, hgd]
 rw [if_pos hw]
 exact Jn (Jb h hs)
def SRes (b : Bse) (x : Mt × List Nat × Int) (w : World) (r : Ending) (W2 : World) : Prop := ∃ vE' vL, r = .returned (.tuple #[mtV x.1 vE', vL, .int .i64 x.2.2]) ∧ EpsB (b.new w W2) vE' x.1.eps ∧ RdA 1 W2 vL x.2.1.length (intc x.2.1) ∧ Below w.heap.size w W2
theorem J4g {P : Program} {fn : Func} {a : Act} {w : World} {s1 s2 s3 : Tmp} {t1 : TypeId} {g1 : Nat} {u1 : TypeId} {c1 : List Value} {d1 : TypeDesc} {x y : Value} (hres : fn.results = #[.cell s1 t1, .tmp s2, .tmp s3]) (hp1 : a.tmps[s1]? = some (.pointer (some ⟨g1, 0, none⟩))) (hp2 : a.tmps[s2]? = some x) (hp3 : a.tmps[s3]? = some y)
  (hu1 : P.underlying t1 = some d1) (hd1 : d1.isRow = true) (hi1 : (P.info? t1).map (·.size) = some c1.length) (hb1 : Blk w g1 u1 c1.toArray) :
  (results fn a.tmps).run P w = .ok (.tuple #[.agg c1.toArray, x, y]) w := by
 simp [results, hres, hp1, hp2, hp3, Sem.run_bind, asAddr, run_loadVar_mid w g1 0 t1 c1 d1 (J4 hb1) hu1 hd1 hi1]
theorem nil_rd (w : World) (size : Nat) : RdA size w (.slice none 0 0) 0 [] := ⟨by simp, by decide, none, 0, rfl, Nat.le_refl _, fun h => by omega⟩
theorem gSpendM (m : Mt) (hN : MtN m) (n : Int) (hn : -9223372036854775808 ≤ n ∧ n ≤ 9223372036854775807) (vE : Value) (bs : Bse) (w : World) (hw : bs.ok w) (hE : EpsB bs vE m.eps) : Calls Tryz.prog 18 #[mtV m vE, .int .i64 n] w (SRes bs (spendM m n) w) := by
 have HW := Lib.hid hw
 clear hw
 obtain ⟨S, hS⟩ : ∃ S, S = mtV m vE := ⟨_, rfl⟩
 rw [← hS]
 have HN := Lib.hid hN
 have HE := Lib.hid hE
 obtain ⟨A, cap, rfl⟩ := hE.len
 have hml := hN.eps
 clear hN hE
 go_enter Tryz.func18, Tryz.ntmps18
 go_upto_region 1 with (fail)
 refine J1h fun W hB hz b1 b2 => ?_
 have b1' : Blk W w.heap.size 35 (mtc m (.slice A m.eps.length cap)).toArray := by first | exact b1 | (rw [hS] at b1; exact b1)
 obtain ⟨cs0, hcs0, b2'⟩ : ∃ cs : Array Value, cs.size = 34 ∧ Blk W (w.heap.size + 1) 35 cs := ⟨_, rfl, b2⟩
 have hsl := HN.out.seed.1
 clear b1 b2 hz hS
 refine wp_region_lit ?_
 refine wpSk rfl (J1 (cs := mtc m (.slice A m.eps.length cap)) J9 rfl (by rw [J5, J0 _ _ hsl]) rfl rfl (J4 b1')) fun v11 w11 hh => ?_
 obtain ⟨rfl, rfl⟩ := hh
 try simp only [PutS]
 refine wpList_plain rfl fun K hK => ?_; go_big_op; refine hK _ _ ?_; clear hK K
 refine wpSk rfl (J7 J3u (gFind m HN.out (.slice A m.eps.length cap) n w11 (HE.out.old (HW.out.below hB))) rfl rfl) fun v13 w13 hh => ?_
 obtain ⟨rfl, B13⟩ := hh
 try simp only [PutS]
 have b1w := b1'.keep B13
 have b2w := b2'.keep B13
 have hBw := hB.trans (B13.mono hB.size)
 clear b1' b2' hB B13
 try simp only [PutS]
 by_cases hin : n < 0 ∨ n ≥ m.eps.length
 ·
  have hf : (decide (0 ≤ n) && decide (n < (m.eps.length : Int))) = false := by
   rw [Bool.and_eq_false_iff, decide_eq_false_iff_not, decide_eq_false_iff_not]
   omega
  have HC := Lib.hid (show spendM m n = (m, [], 4) by unfold spendM; rw [if_pos hin])
  rw [hf]
  clear hf hin
  go_upto_region 2 with (fail)
  refine wp_region_lit ?_
  refine wpSk rfl (J1 (cs := mtc m (.slice (A) m.eps.length cap)) J9 rfl (by rw [J5, J0 _ _ hsl]) rfl rfl (J4 b1w)) fun v15 w15 hh => ?_
  obtain ⟨rfl, rfl⟩ := hh
  try simp only [PutS]
  refine J6 rfl 35 (.tmp 4) (.tmp 15) rfl rfl (cells := mtc m (.slice (A) m.eps.length cap)) rfl b2w (by rw [hcs0, J0 (m) _ hsl]; exact Nat.le_refl _) (by rw [J5, J0 (m) _ hsl]) (Ji _ _ rfl) (Ja _ _ (by rw [hcs0, J0 (m) _ hsl])) fun X hX bX => ?_
  have hBX := J2 hBw hX (by omega)
  clear b1w b2w hX
  try simp only [PutS]
  go_wp2_with fail
  refine bodyPost_ret (v := .tuple #[.agg (mtc m (.slice (A) m.eps.length cap)).toArray, .slice none 0 0, .int .i64 4]) (J4g (g1 := w.heap.size + 1) rfl rfl rfl rfl J9 rfl (by rw [J5, J0 _ _ hsl]) bX) rfl ?_
  rw [HC.out]
  exact ⟨_, _, rfl, HE.out.le (Bse.le_new (HW.out.below hBX)), nil_rd _ _, hBX⟩
 ·
  have hf : (decide (0 ≤ n) && decide (n < (m.eps.length : Int))) = true := by
   rw [Bool.and_eq_true, decide_eq_true_iff, decide_eq_true_iff]
   omega
  rw [hf]
  obtain ⟨k, rfl⟩ : ∃ k : Nat, n = (k : Int) := ⟨n.toNat, by omega⟩
  have hc0 : spendM m k = if (m.at k).closed = false then (m, [], 260)
    else if (freeM (m.at k).pts).length < 2 then (m, [], 261)
    else (m.put k { m.at k with pts := useP ((freeM (m.at k).pts).take 2) (m.at k).pts }, (freeM (m.at k).pts).take 2, 0) := by
   unfold spendM
   rw [if_neg hin, Int.toNat_natCast]
  have hkl : k < m.eps.length := by omega
  obtain ⟨us, hr, ha⟩ := HE.out
  obtain ⟨u, e, hu, he, hinB⟩ := ha.get hkl
  have hinn := hinB.old (HW.out.below hBw)
  have HIB := Lib.hid hinB
  have hat : m.at k = e := by
   have := at_get m k hkl
   rw [he] at this
   exact (Option.some.inj this).symm
  rw [hat] at hc0
  have HAT := Lib.hid hat
  obtain ⟨g, off, cap', hv, hcp, hg, hcs⟩ := RdA.at J16 (hr _ (HW.out.below hBw)) hu
  rw [ha.1] at hv hcp
  cases hv
  have c2 := hcs 2 _ rfl
  have c33 := J11 b1w hsl
  have l1 := b1w.lt
  rw [hinn.1.2.2, ← Nat.add_assoc] at c2
  have HC0 := Lib.hid hc0
  have HIN := Lib.hid hinn
  have hrg : w13.rangeAt g (off + k * 5) (epc u) := fun j x hj => by rw [Nat.add_assoc]; exact hcs j x hj
  clear hc0 hr ha hu hat hcs hf hin hinn hinB
  cases hcl : e.closed with
  | false =>
   have HC := Lib.hid (show spendM m k = (m, [], 260) by rw [HC0.out, if_pos hcl])
   rw [hcl] at c2
   clear hcl hrg
   go_upto_region 4 with (fail)
   refine wp_region_lit ?_
   refine wpSk rfl (J1 (cs := mtc m (.slice (some ⟨g, off, none⟩) m.eps.length cap)) J9 rfl (by rw [J5, J0 _ _ hsl]) rfl rfl (J4 b1w)) fun v24 w24 hh => ?_
   obtain ⟨rfl, rfl⟩ := hh
   try simp only [PutS]
   refine J6 rfl 35 (.tmp 4) (.tmp 24) rfl rfl (cells := mtc m (.slice (some ⟨g, off, none⟩) m.eps.length cap)) rfl b2w (by rw [hcs0, J0 (m) _ hsl]; exact Nat.le_refl _) (by rw [J5, J0 (m) _ hsl]) (Ji _ _ rfl) (Ja _ _ (by rw [hcs0, J0 (m) _ hsl])) fun X hX bX => ?_
   have hBX := J2 hBw hX (by omega)
   clear b1w b2w hX
   try simp only [PutS]
   go_wp2_with fail
   refine bodyPost_ret (v := .tuple #[.agg (mtc m (.slice (some ⟨g, off, none⟩) m.eps.length cap)).toArray, .slice none 0 0, .int .i64 260]) (J4g (g1 := w.heap.size + 1) rfl rfl rfl rfl J9 rfl (by rw [J5, J0 _ _ hsl]) bX) rfl ?_
   rw [HC.out]
   exact ⟨_, _, rfl, HE.out.le (Bse.le_new (HW.out.below hBX)), nil_rd _ _, hBX⟩
  | true =>
   rw [hcl] at c2
   have HC1 := Lib.hid (show spendM m k = if (freeM e.pts).length < 2 then (m, [], 261)
    else (m.put k { e with pts := useP ((freeM e.pts).take 2) e.pts }, (freeM e.pts).take 2, 0) by rw [HC0.out, if_neg (by rw [hcl]; decide)])
   clear hcl HC0
   go_upto_region 5 with (fail)
   refine wp_region_lit ?_
   iterate 4 (refine wpList_plain rfl fun K hK => ?_; go_big_op; refine hK _ _ ?_; clear hK K)
   refine wpSk rfl (J1 (cs := epc u) J1o rfl J1b rfl rfl hrg) fun v29 w29 hh => ?_
   obtain ⟨rfl, rfl⟩ := hh
   try simp only [PutS]
   have hpl := (HN.out.ep k e he).1
   obtain ⟨ps, hpsB, halB⟩ := HIB.out.2.1
   have hal := halB.mono fun _ _ h => h.old (HW.out.below hBw)
   have hBW := hBw.size
   have b1x := b1w
   refine wpSk rfl (Jm (R := fun v W2 => v = .func (.func 112) #[] #[.pointer (some ⟨w29.heap.size, 0, none⟩)] ∧ W2 = w29.alloc (.cells (epc u).toArray 75)) J85 ((gUnused u w29).mono fun r W2 h => ⟨_, h.1, rfl, h.2⟩) rfl rfl) fun v30 w30 hh => ?_
   obtain ⟨rfl, rfl⟩ := hh
   try simp only [PutS]
   have bu : Blk (w29.alloc (.cells (epc u).toArray 75)) w29.heap.size 75 (epc u).toArray := World.alloc_heap_new w29 _
   have Bu := (Below.refl _ w29).alloc (Nat.le_refl _) (.cells (epc u).toArray 75)
   generalize w29.alloc (.cells (epc u).toArray 75) = w30 at *
   have hBu := hBw.trans (Bu.mono hBw.size)
   have cu := bu.cell 3
   simp only [epc, List.getElem?_toArray, List.getElem?_cons_zero, List.getElem?_cons_succ] at cu
   have hus : Al (fun (u : PtW) (p : Pt) => u.u = p.used) ps e.pts := hal.mono fun _ _ h => h.2.2
   have hones : ∀ u ∈ ps, ∀ x ∈ ptc u, x.oneCell' = true := fun u hu x hx => al_one hal (fun _ _ h => h.one) x (List.mem_flatMap.2 ⟨u, hu, hx⟩)
   have hlu := bu.lt
   have hRu := Rd.keep (hpsB w HW.out) hBu
   refine wpSk rfl (Jm (R := fun v W2 => W2.ownsRow w30.heap.size 3 1 v (freeM e.pts).length (intc (freeM e.pts)) ∧ Below w30.heap.size w30 W2) J8u ((gCollect (freeM e.pts) (Nat.le_trans (J8n e.pts e.pts.length) hpl) 112 #[.pointer (some ⟨w29.heap.size, 0, none⟩)] (enters_of Tryz.func112 (by kernel_rfl) rfl) (fun g => g < w.heap.size ∨ g = w29.heap.size) w30 (fun g hg => hg.elim (fun h => by omega) (fun h => by omega)) (fun V hV => uIter e.pts ps hus hones hpl u.p 2 w.heap.size w29.heap.size (by decide) _ V (Rd.keep hRu hV) (by have := hV.size; omega) ((hV.cell (p := ⟨w29.heap.size, 3, none⟩) hlu).trans cu) (by have := hV.size; omega) (.inr rfl) (fun g hg => .inl hg))).mono fun r W2 ⟨v, h1, h2, h3⟩ => ⟨v, h1, h2, h3⟩) rfl rfl) fun v31 w31 hh => ?_
   obtain ⟨o31, B31⟩ := hh
   try simp only [PutS]
   obtain ⟨A31, c31, rfl⟩ := Jy o31
   have b1y := (b1w.keep Bu).keep B31
   have b2y := (b2w.keep Bu).keep B31
   have hBy := hBu.trans (B31.mono hBu.size)
   have HO31 := Lib.hid o31
   have HLT31 := Lib.hid (fun g hg => (Jk (g := g) o31 hg).2)
   have HFL := Lib.hid (J8n e.pts e.pts.length)
   have HPL := Lib.hid hpl
   have hN31 : w.heap.size + 1 < w30.heap.size := by have := (b2w.keep Bu).lt; omega
   have hN32 := B31.size
   clear b1w b1x b2w bu Bu hBu cu hus hones hlu hRu B31 hpsB halB hal hpl hBw hrg hg c2 c33 l1 o31 hcp he
   try simp only [PutS]
   go_upto_region 6 with (fail)
   refine J13 fun X hX hz b7 => ?_
   have hXs : X.heap.size = w31.heap.size + 1 := hz.out
   have b1X := b1y.keep hX
   have b2X := b2y.keep hX
   have hBX := hBy.trans (hX.mono hBy.size)
   have HO := Lib.hid (Jq HO31.out (Nat.le_refl _) hX)
   have HFM := Lib.hid (Jk8 e.pts)
   have HFE : Hid (freeM e.pts = freeM e.pts) := Lib.hid rfl
   obtain ⟨fl, hfl⟩ : ∃ fl, fl = freeM e.pts := ⟨_, rfl⟩
   have HFL2 := Lib.hid (show fl.length ≤ 1000 by rw [hfl]; exact Nat.le_trans (J8n e.pts e.pts.length) HPL.out)
   rw [← hfl] at HO HFM b7 HC1 ⊢
   obtain ⟨n31, hn31⟩ : ∃ n, n = fl.length := ⟨_, rfl⟩
   have hn1k : n31 ≤ 1000 := by rw [hn31]; exact HFL2.out
   rw [← hn31] at HO b7 ⊢
   have c7 := b7.cell 0
   have l7 := b7.lt
   have f7 := b7.frozen
   have HN31 := Lib.hid hn31
   have HFLE := Lib.hid hfl
   clear hz HO31 b1y b2y hX hBy hn31 hfl HFE
   by_cases hlt : n31 < 2
   ·
    have HC := Lib.hid (show spendM m k = (m, [], 261) by rw [HC1.out, if_pos (by rw [← HN31.out]; exact hlt)])
    have b1w := b1X
    have b2w := b2X
    have hBw := hBX
    clear b1X b2X hBX HC1
    go_upto_region 7 with (fail)
    refine wp_region_lit ?_
    refine wpSk rfl (J1 (cs := mtc m (.slice (some ⟨g, off, none⟩) m.eps.length cap)) J9 rfl (by rw [J5, J0 _ _ hsl]) rfl rfl (J4 b1w)) fun v35 w35 hh => ?_
    obtain ⟨rfl, rfl⟩ := hh
    try simp only [PutS]
    refine J6 rfl 35 (.tmp 4) (.tmp 35) rfl rfl (cells := mtc m (.slice (some ⟨g, off, none⟩) m.eps.length cap)) rfl b2w (by rw [hcs0, J0 (m) _ hsl]; exact Nat.le_refl _) (by rw [J5, J0 (m) _ hsl]) (Ji _ _ rfl) (Ja _ _ (by rw [hcs0, J0 (m) _ hsl])) fun X hX bX => ?_
    have hBX := J2 hBw hX (by omega)
    clear b1w b2w hX
    try simp only [PutS]
    go_wp2_with fail
    refine bodyPost_ret (v := .tuple #[.agg (mtc m (.slice (some ⟨g, off, none⟩) m.eps.length cap)).toArray, .slice none 0 0, .int .i64 261]) (J4g (g1 := w.heap.size + 1) rfl rfl rfl rfl J9 rfl (by rw [J5, J0 _ _ hsl]) bX) rfl ?_
    rw [HC.out]
    exact ⟨_, _, rfl, HE.out.le (Bse.le_new (HW.out.below hBX)), nil_rd _ _, hBX⟩
   ·
    have HC := Lib.hid (show spendM m k = (m.put k { e with pts := useP (fl.take 2) e.pts }, fl.take 2, 0) by rw [HC1.out, if_neg (by rw [← HN31.out]; exact hlt)])
    obtain ⟨g31, cc, rest, hv31, hcc, hg31, hg32, b31⟩ := (own_a HO.out).form (by omega)
    cases hv31
    have hg7 : g31 ≠ w31.heap.size := by
     have := HLT31.out g31 rfl
     omega
    have H31a := Lib.hid (show g31 < w31.heap.size from HLT31.out g31 rfl)
    go_upto_region 9 with (fail)
    refine set1 (M := fun W => Code.wp _ _ _ _ W) b7 fun Y hY bY => ?_
    have bY7 : Blk Y w31.heap.size 46 #[.slice (some ⟨g31, 0, none⟩) 2 2] := bY
    have b1w := hY.blk b1X (by omega)
    have b2w := hY.blk b2X (by omega)
    have b31Y := hY.blk b31 hg7
    have hBw := J2 hBX hY (by omega)
    have hg31Y := b31Y.lt
    have l7Y := bY7.lt
    have hrowY : ∀ (j q : Nat), (fl.take 2)[j]? = some q → Y.cell? ⟨g31, j, none⟩ = some (.int .i64 (q : Int)) := fun j q hq => by
     rw [b31Y.cell]
     have hj := (List.getElem?_eq_some_iff.1 hq).1
     rw [List.getElem?_take] at hq
     have hj2 : j < 2 := by rw [List.length_take] at hj; omega
     rw [if_pos hj2] at hq
     have h1 : (intc fl)[j]? = some (.int .i64 (q : Int)) := by simp [intc, hq]
     simp only [List.getElem?_toArray]
     rw [List.getElem?_append_left (List.getElem?_eq_some_iff.1 h1).1]
     exact h1
    have hl2 : (fl.take 2).length = 2 := by rw [List.length_take, ← HN31.out]; omega
    have hlt2 : ∀ q ∈ fl.take 2, q < e.pts.length := fun q hq => HFM.out q (List.mem_of_mem_take hq)
    have hF := fSpend bs Y e HPL.out (fl.take 2) hl2 hlt2 w31.heap.size g31 2 ((bY7.cell 0).trans rfl) l7Y hg31Y hrowY (Nat.le_refl _)
    rw [← HAT.out] at hF
    have HF := Lib.hid hF
    obtain ⟨l2, hl2'⟩ : ∃ l2, l2 = fl.take 2 := ⟨_, rfl⟩
    rw [← hl2'] at HF HC hrowY hl2
    have HRW := Lib.hid hrowY
    have HL2 := Lib.hid hl2
    clear hF hrowY hl2 hlt2 hl2' b1X b2X b31 hBX hY bY c7 l7 f7 b7 HC1 hlt
    have c33 := J11 b1w hsl
    refine wp_region_lit ?_
    try simp only [PutS]
    refine wpSk rfl (J1 (cs := mtc m (.slice (some ⟨g, off, none⟩) m.eps.length cap)) J9 rfl (by rw [J5, J0 _ _ hsl]) rfl rfl (J4 b1w)) fun v39 w39 hh => ?_
    obtain ⟨rfl, rfl⟩ := hh
    try simp only [PutS]
    iterate 2 (refine wpList_plain rfl fun K hK => ?_; go_big_op; refine hK _ _ ?_; clear hK K)
    obtain ⟨e', he'⟩ : ∃ e' : Ep, e' = { m.at k with pts := useP l2 (m.at k).pts } := ⟨_, rfl⟩
    rw [← he'] at HF
    refine wpSk rfl (Jm (R := fun v W2 => ∃ vE', v = .tuple #[mtV (Mt.put m k e') vE', .int .i64 0] ∧ EpsB (bs.new w39 W2) vE' (Mt.put m k e').eps ∧ Below (w39).heap.size w39 W2) J1z ((gChange m HN.out _ k hkl _ [.pointer (some ⟨w31.heap.size, 0, none⟩)] e' J7k bs w39 (HW.out.below hBw) HE.out HF.out).mono fun r W2 ⟨vE', h1, h2⟩ => ⟨_, h1, vE', rfl, h2⟩) rfl rfl) fun v42 w42 hh => ?_
    obtain ⟨vE', rfl, hE', B42⟩ := hh
    try simp only [PutS]
    obtain ⟨AE, cE, hvE⟩ := hE'.len
    have HVE := Lib.hid hvE
    have HE' := Lib.hid he'
    have b2x := b2w.keep B42
    have b7x := bY7.keep B42
    clear hvE he'
    have hBx := hBw.trans (B42.mono hBw.size)
    have hrowx : ∀ (j q : Nat), l2[j]? = some q → w42.cell? ⟨g31, j, none⟩ = some (.int .i64 (q : Int)) := fun j q hq => (B42.cell (p := ⟨g31, j, none⟩) hg31Y).trans (HRW.out j q hq)
    have hg31x := Nat.lt_of_lt_of_le hg31Y B42.size
    have h42 := B42.size
    have hN39 : w.heap.size + 1 < w39.heap.size := b2w.lt
    have HRX := Lib.hid hrowx
    clear b1w b2w bY7 hBw hrowx c33 HRW
    refine wpList_plain rfl fun K hK => ?_; go_big_op; refine hK _ _ ?_; clear hK K
    refine wpSk rfl (Jh (v := mtV (m.put k e') vE') rfl rfl rfl) fun v43 w43 hh => ?_
    obtain ⟨rfl, rfl⟩ := hh
    try simp only [PutS]
    refine wpSk rfl (Jh (v := .int .i64 0) rfl rfl rfl) fun v44 w44 hh => ?_
    obtain ⟨rfl, rfl⟩ := hh
    try simp only [PutS]
    obtain ⟨iM, hiM, iM0, iM1, iM2⟩ := info_parts J2q
    refine wpSk rfl (Jl hiM iM0 rfl) fun v8 w8 hh => ?_
    obtain ⟨rfl, rfl⟩ := hh
    try simp only [PutS]
    have b8 : Blk (w44.alloc (.cells (Value.agg (mtc ⟨0, List.replicate 32 0, []⟩ (.slice none 0 0)).toArray).cells 35)) w44.heap.size 35 (mtc ⟨0, List.replicate 32 0, []⟩ (.slice none 0 0)).toArray := World.alloc_heap_new w44 _
    have B8 := (Below.refl _ w44).alloc (Nat.le_refl _) (.cells (Value.agg (mtc ⟨0, List.replicate 32 0, []⟩ (.slice none 0 0)).toArray).cells 35)
    generalize w44.alloc (.cells (Value.agg (mtc ⟨0, List.replicate 32 0, []⟩ (.slice none 0 0)).toArray).cells 35) = w8 at *
    refine J6 rfl 35 (.tmp 8) (.tmp 43) rfl rfl (cells := mtc (m.put k e') vE') rfl b8 (by rw [List.size_toArray, J0 ⟨0, List.replicate 32 0, []⟩ _ rfl, J0 (m.put k e') _ hsl]; exact Nat.le_refl _) (by rw [J5, J0 (m.put k e') _ hsl]) (Ji _ _ (by rw [HVE.out]; rfl)) (Ja _ _ (by rw [List.size_toArray, J0 ⟨0, List.replicate 32 0, []⟩ _ rfl, J0 (m.put k e') _ hsl])) fun U hU bU => ?_
    have BU : Below w44.heap.size w44 U := J2 B8 hU (Nat.le_refl _)
    have b2u := b2x.keep BU
    have b7u := b7x.keep BU
    have hBu := hBx.trans (BU.mono hBx.size)
    have HRU := Lib.hid (fun (j q : Nat) hq => (BU.cell (p := ⟨g31, j, none⟩) hg31x).trans (HRX.out j q hq))
    have hg31u := Nat.lt_of_lt_of_le hg31x BU.size
    have hEU : EpsB (bs.new w39 U) vE' (m.put k e').eps := hE'.le (Bse.le_ok ((Bse.ok_self _).below BU) fun g hg => hg.1)
    have HEU := Lib.hid hEU
    have hU8 : w39.heap.size ≤ w44.heap.size := h42
    clear b8 B8 hU b2x b7x hBx hE' hEU BU B42 HRX
    obtain ⟨g8, hg8⟩ : ∃ g, g = w44.heap.size := ⟨_, rfl⟩
    rw [← hg8] at bU ⊢
    have h8a : w39.heap.size ≤ g8 := by omega
    have hws39 : w.heap.size ≤ w39.heap.size := by omega
    clear hg8
    try simp only [PutS]
    have k7 := Je b7u.lt ((b7u.cell 0).trans rfl)
    have hm34 : (mtc (m.put k e') vE').length = 34 := J0 (m.put k e') _ hsl
    go_upto_region 10 with (fail)
    have c7u : U.cell? ⟨w31.heap.size, 0, none⟩ = some (.slice (some ⟨g31, 0, none⟩) 2 2) := (b7u.cell 0).trans rfl
    have K0 := c7u
    have KD : U.drew.cell? ⟨w31.heap.size, 0, none⟩ = some (.slice (some ⟨g31, 0, none⟩) 2 2) := c7u
    have bUD := bU.keep (J24 U)
    have b2D := b2u.keep (J24 U)
    have HRD := Lib.hid (J4 bUD)
    have hne7 : w31.heap.size ≠ w.heap.size + 1 := by omega
    clear k7 c7u
    refine wp_region_held_drew (S := fun X => X.cell? ⟨w31.heap.size, 0, none⟩ = some (.slice (some ⟨g31, 0, none⟩) 2 2)) (by kernel_rfl) KD (fun hHeld => ?_)
    refine wpAnyH_take (i := 1) (oi := { dst := _, op := _, type := _, pos := _, after := _, guard := none }) (v := ?v38) rfl (by kernel_rfl) (by kernel_rfl) (by kernel_rfl) (fun _ _ _ h => h) (Or.inl ⟨by rfl, ?hy⟩) (by assumption) ?_
    case hy =>
     intro w hSw
     try dsimp only at hSw
     go_simp
     try with_reducible rfl
    try simp only [PutS]
    refine wpAnyH_take (i := 2) (oi := { dst := _, op := _, type := _, pos := _, after := _, guard := none }) (v := ?v39) rfl (by kernel_rfl) (by kernel_rfl) (by kernel_rfl) (fun _ _ _ h => h) (Or.inl ⟨by rfl, ?hy⟩) (by assumption) ?_
    case hy =>
     intro w hSw
     try dsimp only at hSw
     go_simp
     try with_reducible rfl
    try simp only [PutS]
    refine wpAnyH_ready (rs := [0]) (by kernel_rfl) (by simp) ?_
    refine AllReadyH.cons (o := { dst := _, op := _, type := _, pos := _, after := _, guard := none }) rfl (fun K hK => ?_) AllReadyH.nil
    refine step_H (R := fun v' w' => v' = .agg (mtc (m.put k e') vE').toArray ∧ w' = U.drew) rfl (J1 (cs := mtc (m.put k e') vE') J9 rfl (by rw [J5, hm34]) rfl rfl HRD.out) fun v w' hh => ?_
    obtain ⟨rfl, rfl⟩ := hh
    refine hK.out _ _ KD (fun hHeld => ?_)
    clear hK K
    try simp only [PutS]
    refine wpAnyH_ready (rs := [3]) (by kernel_rfl) (by simp) ?_
    refine AllReadyH.cons (o := { dst := _, op := _, type := _, pos := _, after := _, guard := none }) rfl (fun K hK => ?_) AllReadyH.nil
    refine step_H rfl (J5m (cells := mtc (m.put k e') vE') 35 (.tmp 4) (.tmp 45) rfl rfl rfl b2D (by rw [hcs0, hm34]; exact Nat.le_refl _) (by rw [J5, hm34]) (Ji _ _ (by rw [HVE.out]; rfl)) (Ja _ _ (by rw [hcs0, hm34]))) fun v V hh => ?_
    obtain ⟨rfl, hV, bV⟩ := hh
    have KV : V.cell? ⟨w31.heap.size, 0, none⟩ = some (.slice (some ⟨g31, 0, none⟩) 2 2) := ((hV.blk (b7u.keep (J24 U)) hne7).cell 0).trans rfl
    refine hK.out _ _ KV (fun hHeld => ?_)
    clear hK K
    try simp only [PutS]
    refine wpAnyH_ready (rs := [4]) (by kernel_rfl) (by simp) ?_
    refine AllReadyH.cons (o := { dst := _, op := _, type := _, pos := _, after := _, guard := none }) rfl (fun K hK => ?_) AllReadyH.nil
    go_simp
    refine hK.out _ _ KV (fun hHeld => ?_)
    clear hK K
    try simp only [PutS]
    refine wpAnyH_ready (rs := [5]) (by kernel_rfl) (by simp) ?_
    refine AllReadyH.cons (o := { dst := _, op := _, type := _, pos := _, after := _, guard := none }) rfl (fun K hK => ?_) AllReadyH.nil
    go_simp
    refine hK.out _ _ KV (fun hHeld => ?_)
    clear hK K
    try simp only [PutS]
    refine wpAnyH_done (by kernel_rfl) ?_ _
    have hBx2 := hBu.trans ((J24 U).mono hBu.size)
    have HRV := Lib.hid (fun (j q : Nat) (hq : l2[j]? = some q) => show V.cell? ⟨g31, j, none⟩ = some (.int .i64 (q : Int)) from (World.cell?_of_block (hV.other g31 (by omega))).trans (HRU.out j q hq))
    have hg31V : g31 < V.heap.size := by rw [hV.size]; exact hg31u
    have hEV : EpsB (bs.new w V) vE' (m.put k e').eps := EpsB.out (w1 := w39) (HEU.out.le (c := bs.new w39 U.drew) (Bse.le_ok (c := bs.new w39 U.drew) ((Bse.ok_self (bs.new w39 U)).below (J24 U)) fun g hg => hg.1)) hV HW.out (by omega) hN39 hws39
    have hBV := J2 hBx2 hV (by omega)
    clear hHeld KV KD K0 hV b2D bUD hBx2
    have HEV := Lib.hid hEV
    clear hEV
    try simp only [PutS]
    go_wp2_with fail
    refine bodyPost_ret (v := .tuple #[.agg (mtc (m.put k e') vE').toArray, .slice (some ⟨g31, 0, none⟩) 2 2, .int .i64 0]) (J4g (g1 := w.heap.size + 1) rfl rfl rfl rfl J9 rfl (by rw [J5, hm34]) bV) rfl ?_
    rw [HC.out, ← HAT.out, ← HE'.out]
    refine ⟨_, _, rfl, HEV.out, ?_, hBV⟩
    show RdA 1 V _ l2.length (intc l2)
    rw [HL2.out]
    refine ⟨by rw [Jk4, HL2.out], by decide, _, 2, rfl, Nat.le_refl _, fun _ => ⟨g31, 0, rfl, Nat.zero_le _, hg31V, hg31V, fun j x hx => ?_⟩⟩
    unfold intc at hx
    rw [List.getElem?_map] at hx
    cases hq : l2[j]? with
    | none => rw [hq] at hx; cases hx
    | some q =>
     rw [hq] at hx
     cases hx
     rw [Nat.zero_add]
     exact HRV.out j q hq
end
end Go.Proofs.YtoiampgfnidfdaaGreatDoor
