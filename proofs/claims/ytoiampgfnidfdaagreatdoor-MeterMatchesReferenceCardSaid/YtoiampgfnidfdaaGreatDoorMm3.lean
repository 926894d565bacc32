/-
  The functions of package mle over the iterator of weights: EqIndex and Accumulate, by contract.
-/
import Derived.Test.YtoiampgfnidfdaaGreatDoorBs26
import Derived.Test.YtoiampgfnidfdaaGreatDoorSeq
import Derived.Test.YtoiampgfnidfdaaGreatDoorSs
import Derived.Sort.CutIn
set_option maxRecDepth 100000
set_option maxHeartbeats 8000000
namespace Go.Proofs.YtoiampgfnidfdaaGreatDoor
open Go.RowKit
section
open Go.RowKit

theorem J1z : En Tryz.prog 51 := enters_of Tryz.func51 (by kernel_rfl) rfl
theorem J2o : En Tryz.prog 97 := enters_of Tryz.func97 (by kernel_rfl) rfl
theorem J2p : En Tryz.prog 98 := enters_of Tryz.func98 (by kernel_rfl) rfl
structure ChS (w0 : Bse) (w W : World) (N gE : Nat) (us : List EpW) (i : Nat) (u : EpW) (rest : List Value) (ps : List PtW) (e : Ep) : Prop where
 b : Blk W gE 75 ((us.set i u).flatMap epc ++ rest).toArray
 hi : i < us.length
 hN : N ≤ gE
 hw : w.heap.size ≤ N
 hB : Below w.heap.size w W
 h0 : w0.ok w
 own : W.ownsRow N 80 3 u.p ps.length (ps.flatMap ptc)
 ne : u.p.ownBlock ≠ some gE
 num : u.log = e.log ∧ u.count = e.count ∧ u.closed = e.closed
 pts : Al (PtIB w0) ps e.pts
 pk : DgsB w0 u.k e.peaks
def FOk (fid : Nat) (caps : List Value) (w0 : Bse) (w : World) (e e' : Ep) : Prop := ∀ W N gE us i u rest ps, ChS w0 w W N gE us i u rest ps e →
 Calls Tryz.prog fid (.pointer (some ⟨gE, i * 5, none⟩) :: caps).toArray W fun r W2 => (∃ v, r = .returned v) ∧ ∃ u2, Blk W2 gE 75 ((us.set i u2).flatMap epc ++ rest).toArray ∧ EpIB ⟨W2, fun g => InB w0 g ∨ N ≤ g⟩ u2 e' ∧ Below N W W2
theorem J6t {w : World} {base base' n size : Nat} {e : TypeId} {v : Value} {xs : List Value} (h : w.ownsRow base e size v n xs) (hb : base' ≤ base) : w.ownsRow base' e size v n xs := by
 obtain ⟨h1, h2⟩ := h
 refine ⟨h1, h2.imp id ?_⟩
 rintro ⟨b, cap, cur, q1, q2, q3, q4⟩
 exact ⟨b, cap, cur, q1, by omega, q3, q4⟩
theorem Jc3 (u : EpW) (hp : u.p.oneCell' = true) (hk : u.k.oneCell' = true) : ∀ v ∈ epc u, v.oneCell' = true := by
 intro v hv
 simp only [epc, List.mem_cons, List.not_mem_nil, or_false] at hv
 rcases hv with rfl | rfl | rfl | rfl | rfl
 · rfl
 · rfl
 · rfl
 · exact hp
 · exact hk
theorem EpIn.one {W : World} {u : EpW} {e : Ep} (h : EpIn W u e) : ∀ v ∈ epc u, v.oneCell' = true := by
 obtain ⟨_, h1, h2⟩ := h
 obtain ⟨A, c, e1⟩ := h1.len
 obtain ⟨A2, c2, e2⟩ := h2.len
 exact Jc3 u (by rw [e1]; rfl) (by rw [e2]; rfl)
theorem PtIn.one {W : World} {u : PtW} {p : Pt} (h : PtIn W u p) : ∀ v ∈ ptc u, v.oneCell' = true := by
 obtain ⟨h1, h2, _⟩ := h
 obtain ⟨A, c, e1⟩ := Rd.len h1
 obtain ⟨A2, c2, e2⟩ := Rd.len h2
 intro v hv
 simp only [ptc, List.mem_cons, List.not_mem_nil, or_false] at hv
 rcases hv with rfl | rfl | rfl
 · rw [e1]; rfl
 · rw [e2]; rfl
 · rfl
theorem EpIB.one {b : Bse} {u : EpW} {e : Ep} (h : EpIB b u e) : ∀ v ∈ epc u, v.oneCell' = true := (h.old b.ok_self).one
theorem PtIB.one {b : Bse} {u : PtW} {p : Pt} (h : PtIB b u p) : ∀ v ∈ ptc u, v.oneCell' = true := (h.old b.ok_self).one
theorem al_one {α β : Type} {R : α → β → Prop} {f : α → List Value} {us : List α} {ps : List β} (h : Al R us ps) (h1 : ∀ u p, R u p → ∀ v ∈ f u, v.oneCell' = true) : ∀ v ∈ us.flatMap f, v.oneCell' = true := by
 intro v hv
 obtain ⟨u, hu, hv⟩ := List.mem_flatMap.1 hv
 obtain ⟨k, hk, rfl⟩ := List.getElem_of_mem hu
 have hk2 : k < ps.length := by rw [← h.1]; exact hk
 exact h1 _ _ (h.2 k _ _ (List.getElem?_eq_getElem hk) (List.getElem?_eq_getElem hk2)) v hv
theorem OwR.form {e : TypeId} {size n : Nat} {cs : List Value} {lo hi : Nat} {v : Value} {w : World} (h : OwR e size n cs lo hi v w) (h0 : 0 < n) : ∃ g cap rest, v = .slice (some ⟨g, 0, none⟩) n cap ∧ n ≤ cap ∧ lo ≤ g ∧ g < hi ∧ Blk w g e (cs ++ rest).toArray := by
 rcases h.1.2 with ⟨_, h2⟩ | ⟨g, cap, cur, rfl, r1, r2, r3, r4, r5, r6⟩
 · omega
 ·
  refine ⟨g, cap, cur.toList.drop (n * size), rfl, r3, r1, h.2 g rfl, ?_⟩
  rw [← r6, List.take_append_drop]
  exact r2
theorem Jaj (us : List EpW) (rest : List Value) (i j : Nat) (u u' : EpW) (x : Value) (hu : us[i]? = some u) (hj : (epc u).set j x = epc u') (h5 : j < 5) : (us.flatMap epc ++ rest).set (i * 5 + j) x = (us.set i u').flatMap epc ++ rest := by
 have hi := (List.getElem?_eq_some_iff.1 hu).1
 induction us generalizing i with
 | nil => cases hu
 | cons y us ih =>
  rcases i with _ | i
  ·
   cases hu
   rw [List.flatMap_cons, List.set_cons_zero, List.flatMap_cons, List.append_assoc, List.append_assoc, Nat.zero_mul, Nat.zero_add, List.set_append_left _ _ (by rw [J16]; exact h5), hj]
  ·
   rw [List.flatMap_cons, List.set_cons_succ, List.flatMap_cons, List.append_assoc, List.append_assoc, List.set_append_right _ _ (by rw [J16, Nat.succ_mul]; omega), J16, show (i + 1) * 5 + j - 5 = i * 5 + j by rw [Nat.succ_mul]; omega]
   rw [ih i (by simpa using hu) (by simpa using hi)]
theorem Ji (m : Mt) (v : Value) (hv : v.oneCell' = true) : (mtc m v).all (·.oneCell') = true := by
 refine List.all_eq_true.2 fun x hx => ?_
 unfold mtc at hx
 rcases List.mem_cons.1 hx with rfl | hx
 · rfl
 ·
  rcases List.mem_append.1 hx with hx | hx
  · exact J4e _ x hx
  ·
   rw [List.mem_singleton.1 hx]
   exact hv
theorem res_mt {P : Program} {fn : Func} {a : Act} {w : World} {s1 s2 : Tmp} {t1 : TypeId} {g1 : Nat} {u1 : TypeId} {c1 : List Value} {d1 : TypeDesc} {x : Value} (hres : fn.results = #[.cell s1 t1, .tmp s2]) (hp1 : a.tmps[s1]? = some (.pointer (some ⟨g1, 0, none⟩))) (hp2 : a.tmps[s2]? = some x)
  (hu1 : P.underlying t1 = some d1) (hd1 : d1.isRow = true) (hi1 : (P.info? t1).map (·.size) = some c1.length) (hb1 : Blk w g1 u1 c1.toArray) :
  (results fn a.tmps).run P w = .ok (.tuple #[.agg c1.toArray, x]) w := by
 simp [results, hres, hp1, hp2, Sem.run_bind, asAddr, run_loadVar_mid w g1 0 t1 c1 d1 (J4 hb1) hu1 hd1 hi1]
theorem J8m {S : Nat → Prop} {A B : World} {g : Nat} (h : Put A B g) (hg : ¬ S g) : Keeps S A B := ⟨Nat.le_of_eq h.size.symm, fun k hk _ => h.other k (fun e => hg (e ▸ hk))⟩
theorem Jeg (us : List EpW) : (us.flatMap epc).length = us.length * 5 := Jz J16 us
theorem eps_rd {W : World} {g cap : Nat} {us : List EpW} {rest : List Value} (hb : Blk W g 75 (us.flatMap epc ++ rest).toArray) (hs : us.length ≤ 1000000) (hc : us.length ≤ cap) : RdA 5 W (.slice (some ⟨g, 0, none⟩) us.length cap) us.length (us.flatMap epc) := by
 refine ⟨Jeg us, by omega, _, cap, rfl, hc, fun _ => ⟨g, 0, rfl, Nat.zero_le _, hb.lt, hb.lt, fun j u hu => ?_⟩⟩
 rw [Nat.zero_add, hb.cell]
 simp only [List.getElem?_toArray]
 rw [List.getElem?_append_left (List.getElem?_eq_some_iff.1 hu).1]
 exact hu
attribute [local irreducible] wpRg
theorem gChange0 (m : Mt) (hN : MtN m) (vE : Value) (i : Nat) (hi : i < m.eps.length) (fid : Nat) (caps : List Value) (e' : Ep) (en : ∀ args w, (callFunc fid args).run Tryz.prog w = .ok (.enter fid args) w) (w0 : Bse) (w : World) (hw0 : w0.ok w) (us : List EpW) (hr : RdA 5 w vE us.length (us.flatMap epc)) (ha : Al (EpIB w0) us m.eps) (hF : FOk fid caps w0 w (m.at i) e') :
  Calls Tryz.prog 51 #[mtV m vE, .int .i64 (i : Int), .func (.func fid) #[] caps.toArray] w fun r W2 => ∃ vE', r = .returned (.tuple #[mtV (m.put i e') vE', .int .i64 0]) ∧ EpsB (w0.new w W2) vE' (m.put i e').eps ∧ Below w.heap.size w W2 := by
 obtain ⟨S, hS⟩ : ∃ S, S = mtV m vE := ⟨_, rfl⟩
 rw [← hS]
 have HN := Lib.hid hN
 have HE := Lib.hid (And.intro hr ha)
 obtain ⟨A, cap, hAc⟩ := Rd.len hr
 rw [ha.1] at hAc
 subst hAc
 have hml := hN.eps
 clear hN hr ha
 have HF := Lib.hid hF
 clear hF
 go_enter Tryz.func51, Tryz.ntmps51
 go_upto_region 1 with (fail)
 refine J1h fun W hB hz b3 b6 => ?_
 have b3' : Blk W w.heap.size 35 (mtc m (.slice A m.eps.length cap)).toArray := by first | exact b3 | (rw [hS] at b3; exact b3)
 obtain ⟨cs0, hcs0, b6'⟩ : ∃ cs : Array Value, cs.size = 34 ∧ Blk W (w.heap.size + 1) 35 cs := ⟨_, rfl, b6⟩
 have hWs : W.heap.size = w.heap.size + 1 + 1 := hz.out
 have c33 := J11 b3' HN.out.seed.1
 have hsl := HN.out.seed.1
 clear b3 b6 hz hS
 obtain ⟨hr, ha⟩ := HE.out
 have hul : us.length = m.eps.length := ha.1
 rw [hul] at hr
 refine wp_region_lit ?_
 iterate 2 (refine wpList_plain rfl fun K hK => ?_; go_big_op; refine hK _ _ ?_; clear hK K)
 refine wpSk rfl (Jp J2o (gCloneEp m.eps.length (us.flatMap epc) (by omega) (al_one ha fun u p h => h.one) _ _ _ W (Rd.keep hr hB)) rfl rfl) fun v11 w11 hh => ?_
 obtain ⟨o11, B11⟩ := hh
 try simp only [PutS]
 obtain ⟨gE, cE, rest, rfl, hcE, hgE, hgE2, bE⟩ := o11.form (by omega)
 have b3w := b3'.keep B11
 have b6w := b6'.keep B11
 have hBw := hB.trans (B11.mono hB.size)
 have f3 := b3w.frozen
 have c33w := J11 b3w hsl
 have l3 := b3w.lt
 go_upto_region 2 with (fail)
 refine set1 (M := fun W => Code.wp _ _ _ _ W) b3w fun X hX bX => ?_
 have bX3 : Blk X w.heap.size 35 (mtc m (.slice (some ⟨gE, 0, none⟩) m.eps.length cE)).toArray := by
  rw [List.setIfInBounds_toArray, Jg2 _ _ _ hsl] at bX
  exact bX
 have bE2 := hX.blk bE (by omega)
 have b6X := hX.blk b6w (by omega)
 have hBX := J2 hBw hX (Nat.le_refl _)
 have hXs : w11.heap.size = X.heap.size := hX.size.symm
 clear bX f3 c33w c33 b3w b6w hBw bE b3' b6' o11
 obtain ⟨u, e, hu, he, hR⟩ := ha.get hi
 obtain ⟨⟨r1, r2, r3⟩, r4, r5⟩ := hR
 have hat : m.at i = e := by
  have := at_get m i hi
  rw [he] at this
  exact (Option.some.inj this).symm
 obtain ⟨ps, hps, hal⟩ := r4
 have HAT := Lib.hid hat
 have HU := Lib.hid hu
 have HA := Lib.hid ha
 obtain ⟨Ap, cp, hup⟩ := Rd.len (hps _ w0.ok_self)
 have c3 : X.cell? ⟨gE, i * 5 + 3, none⟩ = some u.p := by
  rw [bE2.cell]
  have := J1l J16 us i 3 u u.p hu rfl
  have hlt := (List.getElem?_eq_some_iff.1 this).1
  simp only [List.getElem?_toArray]
  rw [List.getElem?_append_left hlt]
  exact this
 have hpl : ps.length = e.pts.length := hal.1
 have hps' : Rd 0 X.heap.size 3 X (.slice Ap e.pts.length cp) e.pts.length (ps.flatMap ptc) := by
  rw [← hpl, ← hup]
  exact hps X (hw0.below hBX)
 rw [hup, hpl] at c3
 have c33 := J11 bX3 hsl
 have lX := bX3.lt
 have lE := bE2.lt
 have hsm : e.pts.length ≤ 1000 := (HN.out.ep i e he).1
 have hHp := Lib.hid hpl
 clear hat hu ha he hpl hup
 go_upto_region 3 with (fail)
 refine wp_region_lit ?_
 iterate 5 (refine wpList_plain rfl fun K hK => ?_; go_big_op; refine hK _ _ ?_; clear hK K)
 refine wpSk rfl (Jp J2p (gClonePt e.pts.length (ps.flatMap ptc) (by omega) (al_one hal fun u p h => h.one) _ _ _ X hps') rfl rfl) fun v22 w22 hh => ?_
 obtain ⟨o22, B22⟩ := hh
 try simp only [PutS]
 obtain ⟨A22, c22, rfl⟩ := Jy o22.1
 have bEw := bE2.keep B22
 have fE := bEw.frozen
 have hcur : ((us.flatMap epc) ++ rest)[i * 5 + 3]? = some u.p := by
  have := J1l J16 us i 3 u u.p HU.out rfl
  rw [List.getElem?_append_left (List.getElem?_eq_some_iff.1 this).1]
  exact this
 have c3w : w22.cell? ⟨gE, i * 5 + 3, none⟩ = some u.p := by
  rw [bEw.cell]
  simpa using hcur
 have lEw := bEw.lt
 go_upto_region 4 with (fail)
 refine set1 (M := fun W => Code.wp _ _ _ _ W) bEw fun Y hY bY => ?_
 obtain ⟨u1, hu1⟩ : ∃ u1 : EpW, u1 = { u with p := .slice A22 e.pts.length c22 } := ⟨_, rfl⟩
 have bY2 : Blk Y gE 75 ((us.set i u1).flatMap epc ++ rest).toArray := by
  rw [List.setIfInBounds_toArray, Jaj us rest i 3 u u1 _ HU.out (by rw [hu1]; rfl) (by decide)] at bY
  exact bY
 have hownY := Jlj o22.1 hY lE
 have hsX := hBX.size
 have hCh : ChS w0 w Y (w.heap.size + 1 + 1) gE us i u1 rest ps e :=
  ⟨bY2, by omega, by omega, by omega, J2 (hBX.trans (B22.mono hsX)) hY (by omega), hw0, by rw [hu1, hHp.out]; exact J6t hownY (by omega),
   by rw [hu1]; intro hg; have := (Jk hownY hg).1; omega, by rw [hu1]; exact ⟨r1, r2, r3⟩, hal, by rw [hu1]; exact r5⟩
 have HFe := HF.out Y _ gE us i u1 rest ps (by rw [HAT.out]; exact hCh)
 have b3Y := hY.blk (bX3.keep B22) (by omega)
 have b6Y := hY.blk (b6X.keep B22) (by omega)
 have hBY := hCh.hB
 clear bY bY2 fE hcur c3w lEw bEw hownY o22 B22 hY c33 c3 bE2 hal hps' hps r5 hCh lX b6X bX3 hBX hXs
 refine wp_region_lit ?_
 try simp only [PutS]
 iterate 2 (refine wpList_plain rfl fun K hK => ?_; go_big_op; refine hK _ _ ?_; clear hK K)
 refine wpSk rfl (J38 (R := fun _ W2 => ∃ u2, Blk W2 gE 75 ((us.set i u2).flatMap epc ++ rest).toArray ∧ EpIB ⟨W2, fun g => InB w0 g ∨ w.heap.size + 1 + 1 ≤ g⟩ u2 e' ∧ Below (w.heap.size + 1 + 1) Y W2) (first := []) (cap := caps) en (HFe.mono fun r W2 ⟨⟨v, hv⟩, h⟩ => ⟨v, hv, h⟩) rfl rfl rfl rfl) fun v27 w27 hh => ?_
 obtain ⟨u2, bE3, hE3, B27⟩ := hh
 try simp only [PutS]
 have b3Z := b3Y.below B27 (by omega)
 have b6Z := b6Y.below B27 (by omega)
 have hBZ := hBY.trans (B27.mono (by omega))
 have c0 := J4r b3Z
 have f3 := b3Z.frozen
 have hver := HN.out.ver
 clear b3Y b6Y HFe
 try simp only [PutS]
 go_upto_region 6 with (fail)
 refine set1 (M := fun W => Code.wp _ _ _ _ W) b3Z fun Z2 hZ2 bZ2 => ?_
 obtain ⟨v2, hv2⟩ : ∃ v2, v2 = Value.slice (some ⟨gE, 0, none⟩) m.eps.length cE := ⟨_, rfl⟩
 have bm : Blk Z2 w.heap.size 35 (mtc (m.put i e') v2).toArray := by
  rw [hv2]
  exact bZ2
 have b62 := hZ2.blk b6Z (by omega)
 have bE4 := hZ2.blk bE3 (by omega)
 have hml2 : (mtc (m.put i e') v2).length = 34 := J0 _ _ hsl
 refine wp_region_lit ?_
 refine wpSk rfl (J1 (cs := mtc (m.put i e') v2) J9 rfl (by rw [J5, hml2]) rfl rfl (J4 bm)) fun v32 w32 hh => ?_
 obtain ⟨rfl, rfl⟩ := hh
 try simp only [PutS]
 refine J6 rfl 35 (.tmp 6) (.tmp 32) rfl rfl (cells := mtc (m.put i e') v2) rfl b62 (by rw [hml2, hcs0]; exact Nat.le_refl _) (by rw [J5, hml2]) (Ji _ _ (by rw [hv2]; rfl)) (Ja _ _ (by rw [hcs0, hml2])) fun V hV bV => ?_
 have hBV := J2 (J2 hBZ hZ2 (Nat.le_refl _)) hV (by omega)
 have hs0 := hw0.1
 have bE5 := hV.blk bE4 (by omega)
 have hEV : EpIB (w0.new w V) u2 e' := hE3.le (Bse.le_of (by show w27.heap.size ≤ V.heap.size; rw [hV.size, hZ2.size]; exact Nat.le_refl _) fun g hg => ⟨hg.1.imp id fun h => by omega, by
  have hne : g ≠ w.heap.size ∧ g ≠ w.heap.size + 1 := by
   rcases hg.1 with h | h
   · have := h.2; omega
   · omega
  exact (hV.other g hne.2).trans (hZ2.other g hne.1)⟩)
 have hok : w0.ok V := hw0.below hBV
 have HEV := Lib.hid hEV
 clear bm b62 bE4 bZ2 hZ2 hV b3Z b6Z hBZ c0 f3 bE3 B27 hEV hE3
 try simp only [PutS]
 go_wp2_with fail
 refine bodyPost_ret (v := .tuple #[.agg (mtc (m.put i e') v2).toArray, .int .i64 0]) (res_mt (g1 := w.heap.size + 1) rfl rfl rfl J9 rfl (by rw [J5, hml2]) bV) rfl ⟨v2, rfl, ?_, hBV⟩
 have hsl2 : (us.set i u2).length = m.eps.length := by rw [List.length_set]; exact hul
 rw [hv2, ← hsl2]
 refine ⟨us.set i u2, fun X hX => ?_, (HA.out.mono fun _ _ h => h.le (Bse.le_new hok)).set HEV.out⟩
 exact eps_rd ((hX.2 gE ⟨.inr (by omega), bE5.lt⟩).trans bE5) (by rw [List.length_set]; omega) (by rw [List.length_set]; omega)
theorem gChange (m : Mt) (hN : MtN m) (vE : Value) (i : Nat) (hi : i < m.eps.length) (fid : Nat) (caps : List Value) (e' : Ep) (en : ∀ args w, (callFunc fid args).run Tryz.prog w = .ok (.enter fid args) w) (w0 : Bse) (w : World) (hw0 : w0.ok w) (hE : EpsB w0 vE m.eps) (hF : FOk fid caps w0 w (m.at i) e') :
  Calls Tryz.prog 51 #[mtV m vE, .int .i64 (i : Int), .func (.func fid) #[] caps.toArray] w fun r W2 => ∃ vE', r = .returned (.tuple #[mtV (m.put i e') vE', .int .i64 0]) ∧ EpsB (w0.new w W2) vE' (m.put i e').eps ∧ Below w.heap.size w W2 := by
 obtain ⟨us, hr, ha⟩ := hE
 exact gChange0 m hN vE i hi fid caps e' en w0 w hw0 us (hr w hw0) ha hF
end
section
open Go.RowKit

theorem J7j : En Tryz.prog 56 := enters_of Tryz.func56 (by kernel_rfl) rfl
theorem J9k {A B : World} {S : Nat → Prop} {N n size : Nat} {e : TypeId} {v : Value} {xs : List Value} (h : A.ownsRow N e size v n xs) (hk : Keeps S A B) (hS : ∀ g, N ≤ g → S g) : B.ownsRow N e size v n xs := by
 obtain ⟨h1, h2⟩ := h
 refine ⟨h1, h2.imp id ?_⟩
 rintro ⟨b, cap, cur, q1, q2, q3, q4⟩
 exact ⟨b, cap, cur, q1, q2, (hk.same b (hS b q2) (Array.getElem?_eq_some_iff.1 q3).1).trans q3, q4⟩
theorem Jn7 {X : World} {N : Nat} {v : Value} {ps : List PtW} {pts : List Pt} (h : X.ownsRow N 80 3 v ps.length (ps.flatMap ptc)) (hs : ps.length ≤ 1000000) (ha : Al (PtIn X) ps pts) : PtsA X v pts :=
 ⟨ps, RdA.of (Rd.of_own h (by omega) (Nat.le_refl _)), ha⟩
theorem Jt {base n size g : Nat} {e : TypeId} {v : Value} {xs : List Value} {w w' : World} (h : w.ownsRow base e size v n xs) (hp : Put w w' g) (hg : v.ownBlock ≠ some g) : w'.ownsRow base e size v n xs := by
 obtain ⟨h1, h2⟩ := h
 refine ⟨h1, h2.imp id ?_⟩
 rintro ⟨g', cap, cur, rfl, q2, q3, q4⟩
 exact ⟨g', cap, cur, rfl, q2, (hp.other g' (fun e => hg (by rw [← e]; rfl))).trans q3, q4⟩
theorem Jbf {X : World} {S : Nat → Prop} {N : Nat} {v : Value} {ps : List PtW} {pts : List Pt} (h : X.ownsRow N 80 3 v ps.length (ps.flatMap ptc)) (hs : ps.length ≤ 1000000) (ha : Al (PtIB ⟨X, S⟩) ps pts) (hS : ∀ g, N ≤ g → S g) : PtsB ⟨X, S⟩ v pts :=
 ⟨ps, fun Y hY => RdA.of (Rd.of_own (J9k h hY.keepsS hS) (by omega) (Nat.le_refl _)), ha⟩
theorem al_all {b : Bse} {ps : List PtW} {pts : List Pt} (h : ∀ Y, b.ok Y → Al (PtIn Y) ps pts) : Al (PtIB b) ps pts := by
 have h0 := h b.W b.ok_self
 exact ⟨h0.1, fun k u p hu hp => ⟨fun Y hY => ((h Y hY).2 k u p hu hp).1, fun Y hY => ((h Y hY).2 k u p hu hp).2.1, (h0.2 k u p hu hp).2.2⟩⟩
theorem ChS.cell {w0 : Bse} {w W : World} {N gE i : Nat} {us : List EpW} {u : EpW} {rest : List Value} {ps : List PtW} {e : Ep} (h : ChS w0 w W N gE us i u rest ps e) (j : Nat) (x : Value) (hj : (epc u)[j]? = some x) : W.cell? ⟨gE, i * 5 + j, none⟩ = some x := by
 rw [h.b.cell]
 have h1 := J1l J16 (us.set i u) i j u x (List.getElem?_set_self h.hi) hj
 simp only [List.getElem?_toArray]
 rw [List.getElem?_append_left (List.getElem?_eq_some_iff.1 h1).1]
 exact h1
theorem ChS.setB {w0 : Bse} {w W : World} {N gE i : Nat} {us : List EpW} {u : EpW} {rest : List Value} {ps : List PtW} {e : Ep} (h : ChS w0 w W N gE us i u rest ps e) (j : Nat) (x : Value) (u' : EpW) (hj : (epc u).set j x = epc u') (h5 : j < 5) :
  ((us.set i u).flatMap epc ++ rest).set (i * 5 + j) x = (us.set i u').flatMap epc ++ rest := by
 rw [Jaj (us.set i u) rest i j u u' x (List.getElem?_set_self h.hi) hj h5, List.set_set]
theorem fClose (w0 : Bse) (w : World) (e : Ep) (hp : e.pts.length ≤ 1000) : FOk 56 [] w0 w e { e with closed := true } := by
 intro W N gE us i u rest ps h
 have HH := Lib.hid h
 have bE := h.b
 have fE := bE.frozen
 have c2 := h.cell 2 _ rfl
 have lE := bE.lt
 clear h
 show Calls Tryz.prog 56 #[.pointer (some ⟨gE, i * 5, none⟩)] W _
 go_enter Tryz.func56, Tryz.ntmps56
 go_wp2_with fail
 refine set1 (M := fun W => bodyPost _ _ _ _ _ W) bE fun X hX bX => ?_
 go_end0
 obtain ⟨r1, r2, r3⟩ := HH.out.num
 have hn := HH.out.hN
 have hgw := HH.out.hw
 have hBX : Below N W X := J2 (Below.refl _ W |>.mono (by omega)) hX hn
 refine ⟨⟨_, rfl⟩, { u with closed := true }, ?_, ?_, hBX⟩
 ·
  rw [List.setIfInBounds_toArray, HH.out.setB 2 _ { u with closed := true } rfl (by decide)] at bX
  exact bX
 ·
  have ho : w0.ok X := HH.out.h0.below (HH.out.hB.trans (hBX.mono hgw))
  have hown : X.ownsRow N 80 3 u.p ps.length (ps.flatMap ptc) := Jt HH.out.own hX HH.out.ne
  have hle : w0.le ⟨X, fun g => InB w0 g ∨ N ≤ g⟩ := Bse.le_ok ho fun g hg => .inl hg
  exact ⟨⟨r1, r2, rfl⟩, Jbf hown (by have := HH.out.pts.1; omega) (HH.out.pts.mono fun _ _ h => h.le hle) (fun g hg => .inr hg), HH.out.pk.le hle⟩
def MRes (b : Bse) (x : Mt × Int) (w : World) (r : Ending) (W2 : World) : Prop := ∃ vE', r = .returned (.tuple #[mtV x.1 vE', .int .i64 x.2]) ∧ EpsB (b.new w W2) vE' x.1.eps ∧ Below w.heap.size w W2
theorem J53 : En Tryz.prog 12 := enters_of Tryz.func12 (by kernel_rfl) rfl
theorem Jh {P : Program} {o : Oper} {a : Act} {w : World} {x : Operand} {i : Nat} {vs : Array Value} {v : Value} (ho : o.op = .extract x i) (hx : a.eval x = .tuple vs) (hv : vs[i]? = some v) : stepAt P o a w fun u w' => u = v ∧ w' = w := by
 unfold stepAt execOp
 simp [ho, hx, hv, Instr.extract, Sem.run_bind]
 exact ⟨rfl, rfl⟩
attribute [local irreducible] wpRg
theorem gCloseM (m : Mt) (hN : MtN m) (vE : Value) (bs : Bse) (w : World) (hw : bs.ok w) (hE : EpsB bs vE m.eps) : Calls Tryz.prog 12 #[mtV m vE] w (MRes bs (closeM m) w) := by
 have HW := Lib.hid hw
 clear hw
 obtain ⟨S, hS⟩ : ∃ S, S = mtV m vE := ⟨_, rfl⟩
 rw [← hS]
 have HN := Lib.hid hN
 have HE := Lib.hid hE
 obtain ⟨A, cap, rfl⟩ := hE.len
 have hml := hN.eps
 clear hN hE
 go_enter Tryz.func12, Tryz.ntmps12
 go_upto_region 1 with (fail)
 refine J1h fun W hB hz b1 b2 => ?_
 have b1' : Blk W w.heap.size 35 (mtc m (.slice A m.eps.length cap)).toArray := by first | exact b1 | (rw [hS] at b1; exact b1)
 obtain ⟨cs0, hcs0, b2'⟩ : ∃ cs : Array Value, cs.size = 34 ∧ Blk W (w.heap.size + 1) 35 cs := ⟨_, rfl, b2⟩
 have hsl := HN.out.seed.1
 clear b1 b2 hz hS
 refine wp_region_lit ?_
 refine wpSk rfl (J1 (cs := mtc m (.slice A m.eps.length cap)) J9 rfl (by rw [J5, J0 _ _ hsl]) rfl rfl (J4 b1')) fun v7 w7 hh => ?_
 obtain ⟨rfl, rfl⟩ := hh
 try simp only [PutS]
 refine wpSk rfl (J7 J2e (gCurrent m HN.out (.slice A m.eps.length cap) w7 (HE.out.old (HW.out.below hB))) rfl rfl) fun v8 w8 hh => ?_
 obtain ⟨rfl, B8⟩ := hh
 try simp only [PutS]
 have b1w := b1'.keep B8
 have b2w := b2'.keep B8
 have hBw := hB.trans (B8.mono hB.size)
 clear b1' b2' hB B8
 cases ho : m.isOpen with
 | false =>
  have HO := Lib.hid ho
  clear ho
  go_upto_region 3 with (fail)
  refine wp_region_lit ?_
  refine wpSk rfl (J1 (cs := mtc m (.slice A m.eps.length cap)) J9 rfl (by rw [J5, J0 _ _ hsl]) rfl rfl (J4 b1w)) fun v13 w13 hh => ?_
  obtain ⟨rfl, rfl⟩ := hh
  try simp only [PutS]
  refine J6 rfl 35 (.tmp 2) (.tmp 13) rfl rfl (cells := mtc m (.slice A m.eps.length cap)) rfl b2w (by rw [hcs0, J0 (m) _ hsl]; exact Nat.le_refl _) (by rw [J5, J0 (m) _ hsl]) (Ji _ _ rfl) (Ja _ _ (by rw [hcs0, J0 (m) _ hsl])) fun X hX bX => ?_
  have hBX := J2 hBw hX (Nat.le_succ _)
  clear b1w b2w hX
  try simp only [PutS]
  go_wp2_with fail
  refine bodyPost_ret (v := .tuple #[.agg (mtc m (.slice A m.eps.length cap)).toArray, .int .i64 260]) (res_mt (g1 := w.heap.size + 1) rfl rfl rfl J9 rfl (by rw [J5, J0 _ _ hsl]) bX) rfl ?_
  have hc : closeM m = (m, 260) := by unfold closeM; rw [HO.out]; rfl
  rw [hc]
  exact ⟨_, rfl, HE.out.le (Bse.le_new (HW.out.below hBX)), hBX⟩
 | true =>
  obtain ⟨h0, hcl⟩ := J36 ho
  have hc : closeM m = (m.put m.last { m.at m.last with closed := true }, 0) := by unfold closeM; rw [ho]; rfl
  have HC := Lib.hid hc
  have hli : ((m.eps.length : Int) - 1) = ((m.last : Nat) : Int) := by unfold Mt.last; omega
  have hll : m.last < m.eps.length := by unfold Mt.last; omega
  have hpl := (HN.out.ep _ _ (at_get m m.last hll)).1
  generalize m.last = n at *
  clear ho hcl h0 hc
  rw [hli]
  clear hli
  go_upto_region 4 with (fail)
  refine wp_region_lit ?_
  refine wpSk rfl (J1 (cs := mtc m (.slice A m.eps.length cap)) J9 rfl (by rw [J5, J0 _ _ hsl]) rfl rfl (J4 b1w)) fun v14 w14 hh => ?_
  obtain ⟨rfl, rfl⟩ := hh
  try simp only [PutS]
  refine wpList_plain rfl fun K hK => ?_; go_big_op; refine hK _ _ ?_; clear hK K
  obtain ⟨e', he'⟩ : ∃ e' : Ep, e' = { m.at n with closed := true } := ⟨_, rfl⟩
  refine wpSk rfl (Jm (R := fun v W2 => ∃ vE', v = .tuple #[mtV (Mt.put m n e') vE', .int .i64 0] ∧ EpsB (bs.new w14 W2) vE' (Mt.put m n e').eps ∧ Below (w14).heap.size w14 W2) J1z ((gChange m HN.out _ n hll _ [] e' J7j bs w14 (HW.out.below hBw) HE.out (he' ▸ fClose bs w14 (m.at n) hpl)).mono fun r W2 ⟨vE', h1, h2⟩ => ⟨_, h1, vE', rfl, h2⟩) rfl rfl) fun v16 w16 hh => ?_
  obtain ⟨vE', rfl, hE', B16⟩ := hh
  try simp only [PutS]
  obtain ⟨AE, cE, hvE⟩ := hE'.len
  have b2y := (b2w).keep B16
  have hBy := (hBw).trans (B16.mono (hBw).size)
  have hlb := (b2w).lt
  refine wpSk rfl (Jh (v := mtV (m.put n e') vE') rfl rfl rfl) fun v17 w17 hh => ?_
  obtain ⟨rfl, rfl⟩ := hh
  try simp only [PutS]
  refine wpSk rfl (Jh (v := .int .i64 0) rfl rfl rfl) fun v18 w18 hh => ?_
  obtain ⟨rfl, rfl⟩ := hh
  try simp only [PutS]
  refine J6 rfl 35 (.tmp 2) (.tmp 17) rfl rfl (cells := mtc (m.put n e') vE') rfl b2y (by rw [hcs0, J0 (m.put n e') _ hsl]; exact Nat.le_refl _) (by rw [J5, J0 (m.put n e') _ hsl]) (Ji _ _ (by rw [hvE]; rfl)) (Ja _ _ (by rw [hcs0, J0 (m.put n e') _ hsl])) fun X hX bX => ?_
  have hEX : EpsB (bs.new w X) vE' (Mt.eps (m.put n e')) := hE'.out hX HW.out (by omega) (by omega) (by omega)
  have hBX := J2 hBy hX (by omega)
  clear b1w b2y hX B16 hE' hBy hlb b2w hBw
  try simp only [PutS]
  go_wp2_with fail
  refine bodyPost_ret (v := .tuple #[.agg (mtc (m.put n e') vE').toArray, .int .i64 0]) (res_mt (g1 := w.heap.size + 1) rfl rfl rfl J9 rfl (by rw [J5, J0 (m.put n e') _ hsl]) bX) rfl ?_
  rw [HC.out, ← he']
  exact ⟨_, rfl, hEX, hBX⟩
end
section
open Go.RowKit
attribute [local go_sem] Oper.semAt_some

theorem Jjs (i : Nat) (p : List E) (x : E) : eqi i (p ++ [x]) = eqi i p * sel i p.length x := by
 unfold eqi
 rw [List.length_append, List.length_singleton, wt, Jck p x i p.length (Nat.le_refl _), Jb9]
theorem J76 {S : Nat → Prop} {A B : World} (h : Keeps S A B) (p : Addr) (v : Value) (hp : ¬ S p.block) : Keeps S A (B.setCell p v) :=
 ⟨Nat.le_trans h.size (by simp [World.setCell]), fun g hg hl => (Below.heap_setCell B p v g (fun e => hp (e ▸ hg))).trans (h.same g hg hl)⟩
theorem Jg7 {w W w2 : World} {y : E} {z : Int} (hk : KeepsOthers W w2) (hs : Keeps (fun g => g < w.heap.size) W w2) (q1 : ∃ z0, Blk w2 w.heap.size 3 #[z0]) (q2 : Blk w2 (w.heap.size + 1) 86 #[.int .u64 0, .int .u64 0]) (q3 : ∃ c d, Blk w2 (w.heap.size + 1 + 1) 86 #[c, d]) (q4 : Below w.heap.size w w2) :
  KeepsOthers W (((w2.setCell ⟨w.heap.size + 1 + 1, 0, none⟩ (.int .u64 (fv y.a))).setCell ⟨w.heap.size + 1 + 1, 1, none⟩ (.int .u64 (fv y.b))).setCell ⟨w.heap.size, 0, none⟩ (.int .i64 z)) ∧ Keeps (fun g => g < w.heap.size) W (((w2.setCell ⟨w.heap.size + 1 + 1, 0, none⟩ (.int .u64 (fv y.a))).setCell ⟨w.heap.size + 1 + 1, 1, none⟩ (.int .u64 (fv y.b))).setCell ⟨w.heap.size, 0, none⟩ (.int .i64 z)) ∧
  Blk (((w2.setCell ⟨w.heap.size + 1 + 1, 0, none⟩ (.int .u64 (fv y.a))).setCell ⟨w.heap.size + 1 + 1, 1, none⟩ (.int .u64 (fv y.b))).setCell ⟨w.heap.size, 0, none⟩ (.int .i64 z)) w.heap.size 3 #[.int .i64 z] ∧ Blk (((w2.setCell ⟨w.heap.size + 1 + 1, 0, none⟩ (.int .u64 (fv y.a))).setCell ⟨w.heap.size + 1 + 1, 1, none⟩ (.int .u64 (fv y.b))).setCell ⟨w.heap.size, 0, none⟩ (.int .i64 z)) (w.heap.size + 1) 86 #[.int .u64 0, .int .u64 0] ∧
  Blk (((w2.setCell ⟨w.heap.size + 1 + 1, 0, none⟩ (.int .u64 (fv y.a))).setCell ⟨w.heap.size + 1 + 1, 1, none⟩ (.int .u64 (fv y.b))).setCell ⟨w.heap.size, 0, none⟩ (.int .i64 z)) (w.heap.size + 1 + 1) 86 #[.int .u64 (fv y.a), .int .u64 (fv y.b)] ∧ Below w.heap.size w (((w2.setCell ⟨w.heap.size + 1 + 1, 0, none⟩ (.int .u64 (fv y.a))).setCell ⟨w.heap.size + 1 + 1, 1, none⟩ (.int .u64 (fv y.b))).setCell ⟨w.heap.size, 0, none⟩ (.int .i64 z)) := by
 obtain ⟨z0, q1⟩ := q1
 obtain ⟨c, d, q3⟩ := q3
 refine ⟨((hk.trans (KeepsOthers.setCell _ _ _)).trans (KeepsOthers.setCell _ _ _)).trans (KeepsOthers.setCell _ _ _), ?_, ?_, ?_, ?_, ?_⟩
 · exact J76 (J76 (J76 hs _ _ (by simp; omega)) _ _ (by simp; omega)) _ _ (by simp)
 · exact (J6m q1 (by omega)).set_ 0 _
 · exact (J6m q2 (by omega)).far (p := ⟨w.heap.size, 0, none⟩) (by show w.heap.size + 1 ≠ w.heap.size; omega) _
 · exact (Jb2 q3).far (p := ⟨w.heap.size, 0, none⟩) (by show w.heap.size + 1 + 1 ≠ w.heap.size; omega) _
 · exact (J4c q4 (by omega)).setCell (p := ⟨w.heap.size, 0, none⟩) (Nat.le_refl _) _
theorem gEqIndex (i : Nat) (p : List E) (hi : i ≤ 1000000) (hpl : p.length ≤ 60) (v : Value) (lo hi' : Nat) (w : World) (hp : ExtS lo hi' w v p) (hhi : hi' ≤ w.heap.size) (h1 : Laid w) :
  Calls Tryz.prog 130 #[.int .i64 i, v] w (Ret (ev (eqi i p)) w) := by
 obtain ⟨A, cap, rfl⟩ := hp.len
 refine (callsIn_wide (n := 3)).1 ?_
 refine callsIn_of_wp_marks Tryz.func130 rfl trivial ?_ rfl
 simp only [Tryz.ntmps130, List.size_toArray, List.length_cons, List.length_nil, Nat.reduceAdd, Nat.reduceSub, Array.replicate_succ, Array.replicate_zero, List.push_toArray, List.append_toArray, List.nil_append, List.cons_append]
 gi_upto_region 1 with (fail)
 refine stk2 (M := fun W => Code.wpIn _ _ _ _ _ _ W) fun Wa hBa hza bIa bRa => ?_
 have hsa : Wa.heap.size = w.heap.size + 1 + 1 := hza.out
 have g1 := (h1.keep hBa).1
 have g2 := (h1.keep hBa).2.1
 have g3 : Wa.heap.size ≠ 1 := by have := (h1.keep hBa).2.2; omega
 gi_upto_region 2 with (fail)
 refine stk1 (M := fun W => Code.wpIn _ _ _ _ _ _ W) fun Wb hBb hzb bOb => ?_
 have hsb : Wb.heap.size = w.heap.size + 1 + 1 + 1 := by rw [hzb.out, hsa]
 rw [hsa] at bOb
 have bIb := bIa.keep hBb
 have bRb := bRa.keep hBb
 have hBw := hBa.trans (hBb.mono (by omega))
 clear g1 g2 g3 hza hzb
 gi_wp2_with fail
 refine ⟨trivial, (callsIn_wide.2 (wWeights _ _ _ _)).mono ?_⟩
 rintro e w2 ⟨rfl, rfl⟩
 gi_wp2_with fail
 refine stk1 (M := fun W => Code.wpIn _ _ _ _ _ _ W) fun W2 hB22 hz22 bP => ?_
 have hs2 : W2.heap.size = w.heap.size + 1 + 1 + 1 + 1 := by rw [hz22.out, hsb]
 rw [hsb] at bP
 have bI := bIb.keep hB22
 have bR := bRb.keep hB22
 have bO := bOb.keep hB22
 have hB2 := hBw.trans (hB22.mono (by omega))
 clear hz22 hsb hsa bIa bRa bOb bIb bRb hBa hBb hBw hB22
 have hp2 : ExtS lo w.heap.size W2 (.slice A p.length cap) p := (hp.below hB2 hhi).wide (Nat.le_refl _) hhi
 refine Jho (wIter p (.slice A p.length cap) 2 lo w.heap.size (w.heap.size + 3) (by decide) W2 hp2 (bP.cell 0) (h1.keep hB2) h1.2.2 (by omega) (by omega)) (by decide) rfl (enters_of Tryz.func163 (by kernel_rfl) rfl) (fun g hg => by show g < W2.heap.size; have : g < w.heap.size := hg; omega)
  (fun pre W => Blk W w.heap.size 3 #[.int .i64 ((i / 2 ^ pre.length : Nat) : Int)] ∧ Blk W (w.heap.size + 1) 86 #[.int .u64 0, .int .u64 0] ∧ Blk W (w.heap.size + 1 + 1) 86 #[.int .u64 (fv (eqi i pre).a), .int .u64 (fv (eqi i pre).b)] ∧ Below w.heap.size w W ∧ W2.heap.size ≤ W.heap.size)
  ?hI (fun pre W h => h.2.2.2.2) ?h0 6 86 (fun x => #[.int .u64 (fv (1 - x).a), .int .u64 (fv (1 - x).b)]) 7 86 (fun x => #[.int .u64 (fv x.a), .int .u64 (fv x.b)]) ?assign ?body ?done
 case hI =>
  rintro pre W W' row ⟨q1, q2, q3, q4, q5⟩ hg hr
  exact ⟨J3l (β := Unit) () W W' row q1 hg hr, J3l (β := Unit) () W W' row q2 hg hr, J3l (β := Unit) () W W' row q3 hg hr, ownFrom_below (β := Unit) (Nat.le_refl _) (by omega) () W W' row q4 hg hr, Nat.le_trans q5 hg.size⟩
 case h0 => exact ⟨by simpa using bI, bR, bO, hB2, Nat.le_refl _⟩
 case assign =>
  intro l x W K hK
  simp only [boxAct, ev, List.setIfInBounds_toArray, List.set_cons_succ, List.set_cons_zero] at hK ⊢
  gi_wp2_with fail
  exact hK _ _ rfl rfl
 case body =>
  rintro l pre x Bx W a' rfl ⟨q1, q2, q3, q4, q5⟩ hBx bZ bX hlt
  simp only [boxAct, ev, List.setIfInBounds_toArray, List.set_cons_succ, List.set_cons_zero]
  have hm : i / 2 ^ pre.length ≤ 1000000 := Nat.le_trans (Nat.div_le_self _ _) hi
  have HS := Lib.hid (Jjs i pre x)
  have HD := Lib.hid (show i / 2 ^ (pre.length + 1) = i / 2 ^ pre.length / 2 by rw [Nat.pow_succ, Nat.div_div_eq_div_mul])
  have hsel : sel i pre.length x = if i / 2 ^ pre.length % 2 = 1 then x else 1 - x := rfl
  generalize i / 2 ^ pre.length = m at *
  generalize eqi i pre = o at *
  have hbit : bits .and .i64 (m : Int) 1 = ((m % 2 : Nat) : Int) := by
   have := Jar m 1 (by omega) (by omega)
   rwa [Nat.and_one_is_mod] at this
  have c1 := q1.cell
  have c2 := bX.cell
  have c3 := bZ.frozen
  have c3' := bZ.cell
  have c4 := q3.cell
  have hne1 := q1.lt
  have hBx1 := bX.lt
  rcases Nat.mod_two_eq_zero_or_one m with h2 | h2
  ·
   rw [h2] at hbit hsel
   rw [if_neg (by decide)] at hsel
   replace hbit : bits .and .i64 (m : Int) 1 = 0 := hbit
   have HSel := Lib.hid hsel
   clear hsel
   gi_wp2_with fail
   refine ⟨trivial, (CallsIn.inRound l (callsIn_wide.2 (eMul o (1 - x) _))).mono ?_⟩
   rintro e w2 ⟨he, hb⟩
   unfold ev at he
   subst he
   have q1' := q1.keep hb
   have q2' := q2.keep hb
   have q3' := q3.keep hb
   have hs2' := hb.size
   clear c1 c2 c3 c3' c4
   have c1 := q1'.cell
   have c2 := q1'.frozen
   have c3 := q3'.cell
   have c4 := q3'.frozen
   gi_wp2_with fail
   have hI : (i : Int) / 2 ^ (pre.length + 1) = (m : Int) / 2 := by have h := congrArg (fun n : Nat => (n : Int)) HD.out; simpa using h
   rw [hI, HS.out, HSel.out]
   obtain ⟨e1, e2, e3, e4, e5, e6⟩ := Jg7 (y := o * (1 - x)) (z := (m : Int) / 2) (J1j hb) (Keeps.of_below hb) ⟨_, q1'⟩ q2' ⟨_, _, q3'⟩ (q4.trans (hb.mono q4.size))
   exact ⟨e1, e2, e3, e4, e5, e6, by omega⟩
  ·
   rw [h2] at hbit hsel
   rw [if_pos rfl] at hsel
   replace hbit : bits .and .i64 (m : Int) 1 = 1 := hbit
   have HSel := Lib.hid hsel
   clear hsel
   gi_wp2_with fail
   obtain ⟨W3, hW3⟩ : ∃ W3, (W.setCell ⟨Bx, 0, none⟩ (.int .u64 (fv x.a))).setCell ⟨Bx, 1, none⟩ (.int .u64 (fv x.b)) = W3 := ⟨_, rfl⟩
   have p1 : Blk W3 w.heap.size 3 #[.int .i64 (m : Int)] := by rw [← hW3]; exact J6m q1 (by omega)
   have p2 : Blk W3 (w.heap.size + 1) 86 #[.int .u64 0, .int .u64 0] := by rw [← hW3]; exact J6m q2 (by omega)
   have p3 : Blk W3 (w.heap.size + 1 + 1) 86 #[.int .u64 (fv o.a), .int .u64 (fv o.b)] := by rw [← hW3]; exact J6m q3 (by omega)
   have p4 : Below w.heap.size w W3 := by rw [← hW3]; exact J4c q4 (by omega)
   have p5 : KeepsOthers W W3 := by rw [← hW3]; exact (KeepsOthers.setCell _ _ _).trans (KeepsOthers.setCell _ _ _)
   have p6 : Keeps (fun g => g < w.heap.size) W W3 := by rw [← hW3]; exact J76 (J76 (Keeps.refl _) _ _ (by simp; omega)) _ _ (by simp; omega)
   rw [hW3]
   clear hW3
   refine ⟨trivial, (CallsIn.inRound l (callsIn_wide.2 (eMul o x _))).mono ?_⟩
   rintro e w2 ⟨he, hb⟩
   unfold ev at he
   subst he
   have q1' := p1.keep hb
   have q2' := p2.keep hb
   have q3' := p3.keep hb
   have hs2' := hb.size
   have hs3' := p6.size
   clear c1 c2 c3 c3' c4
   have c1 := q1'.cell
   have c2 := q1'.frozen
   have c3 := q3'.cell
   have c4 := q3'.frozen
   gi_wp2_with fail
   have hI : (i : Int) / 2 ^ (pre.length + 1) = (m : Int) / 2 := by have h := congrArg (fun n : Nat => (n : Int)) HD.out; simpa using h
   rw [hI, HS.out, HSel.out]
   obtain ⟨e1, e2, e3, e4, e5, e6⟩ := Jg7 (y := o * x) (z := (m : Int) / 2) (p5.trans (J1j hb)) (p6.trans (Keeps.of_below hb)) ⟨_, q1'⟩ q2' ⟨_, _, q3'⟩ (p4.trans (hb.mono p4.size))
   exact ⟨e1, e2, e3, e4, e5, e6, by omega⟩
 case done =>
  intro D V hD ⟨q1, q2, q3, q4, q5⟩ hK
  generalize eqi i p = y at *
  have e1 := q3.cell
  have e2 := q2.cell
  have e3 := q2.frozen
  gi_wp2_with fail
  obtain ⟨Z, hZ⟩ : ∃ Z, (V.setCell ⟨w.heap.size + 1, 0, none⟩ (.int .u64 (fv y.a))).setCell ⟨w.heap.size + 1, 1, none⟩ (.int .u64 (fv y.b)) = Z := ⟨_, rfl⟩
  rw [hZ]
  have bZ : Blk Z (w.heap.size + 1) 86 #[.int .u64 (fv y.a), .int .u64 (fv y.b)] := by rw [← hZ]; exact Jb2 q2
  have hBZ : Below w.heap.size w Z := by rw [← hZ]; exact J4c q4 (by omega)
  have hne : D ≠ w.heap.size + 1 := by omega
  have hKZ : Z.heap[D]? = some (.deferred (some [])) := by
   rw [← hZ]
   repeat rw [Below.heap_setCell _ ⟨w.heap.size + 1, _, none⟩ _ D hne]
   exact hK
  refine ⟨by simp, .inl ⟨_, _, rfl, run_takeDeferred hKZ, ?_⟩⟩
  have bZ' : Blk (Z.putObj D (.deferred none)) (w.heap.size + 1) 86 #[.int .u64 (fv y.a), .int .u64 (fv y.b)] := (World.putObj_heap_other (Ne.symm hne)).trans bZ
  have e4 := bZ'.cell
  refine ⟨.agg #[.int .u64 (fv y.a), .int .u64 (fv y.b)], ?_, ?_⟩
  · simp [results, Tryz.results130, go_sem, e4]
  · exact ⟨by unfold ev; rfl, hBZ.trans (belowK_b (w := w) (Nat.le_refl _) Z D _ _ (by omega) hKZ rfl rfl)⟩

theorem gAccumulate (v d : E) (i : Nat) (p : List E) (hi : i ≤ 1000000) (hp : p.length ≤ 60) (vp : Value) (lo hi' : Nat) (w : World) (h : ExtS lo hi' w vp p) (hh : hi' ≤ w.heap.size) (hL : Laid w) :
  Calls Tryz.prog 103 #[ev v, .int .i64 i, ev d, vp] w (Ret (ev (v + d * eqi i p)) w) := by
 unfold ev
 go_enter Tryz.func103, Tryz.ntmps103
 go_wp2
 refine J26 fun W hB hz b1 b2 b3 => ?_
 have h2 := Rd.keep h hB
 have HL := hL.keep hB
 have hhW := Nat.le_trans hh hB.size
 have c1 := gw_blk b1
 have c2 := gw_blk b2
 refine Jd 7 [(4, Spec.val (.agg #[.int .u64 (fv (eqi i p).a), .int .u64 (fv (eqi i p).b)])), (5, Spec.val (.agg #[.int .u64 (fv (d * eqi i p).a), .int .u64 (fv (d * eqi i p).b)])), (6, Spec.val (.agg #[.int .u64 (fv (v + d * eqi i p).a), .int .u64 (fv (v + d * eqi i p).b)]))] (by kernel_rfl) (by kernel_rfl) (by kernel_rfl) trivial ?_
 iterate 4 (refine rg_det rfl rfl rfl (fun K hK => ?_); go_big_quiet_op; refine hK _ ?_; clear hK K)
 refine rg_val rfl rfl (fun W1 hW1 hF => J7 J8a (gEqIndex i p hi hp _ lo hi' W1 (Rd.keep h2 (J8 hW1)) (Nat.le_trans hhW (J8 hW1).size) (HL.keep (J8 hW1))) rfl rfl) ?_
 intro a' ha
 simp only [PutS] at ha
 subst ha
 refine rg_val rfl rfl (fun W1 hW1 hF => J7 J4i (eMul d (eqi i p) W1) rfl rfl) ?_
 intro a' ha
 simp only [PutS] at ha
 subst ha
 refine rg_val rfl rfl (fun W1 hW1 hF => J7 J6j (eAdd v (d * eqi i p) W1) rfl rfl) ?_
 intro a' ha
 simp only [PutS] at ha
 subst ha
 refine rg_nil (fun w' hw' hF => ?_)
 obtain ⟨z, rfl⟩ := hw'
 simp only [List.drop_succ_cons, List.drop_zero]
 have e1 := (b3.gw z).cell
 have e2 := (b3.gw z).frozen
 go_wp2
 refine bodyPost_ret (v := .agg #[.int .u64 (fv (v + d * eqi i p).a), .int .u64 (fv (v + d * eqi i p).b)]) (by simp [results, Tryz.results103, go_sem, e1]) rfl ⟨rfl, ?_⟩
 exact ((hB.trans (z.h.mono hB.size)).setCell (by show w.heap.size ≤ w.heap.size + 1 + 1; omega) _).setCell (by show w.heap.size ≤ w.heap.size + 1 + 1; omega) _
end
end Go.Proofs.YtoiampgfnidfdaaGreatDoor
