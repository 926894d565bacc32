/-
  Bytes appended to a row of one's own: what else stays; the program's write so.
  The program's Spend.
  The parser of queries: the query of the fixed text.
  Parse of the fixed text.
  The widths of the columns, a package variable that holds a map; the range of a column under a filter of one condition.
  The range of a column under the fixed filter.
  slices.ContainsFunc over numbers and over conditions, by contract: whether some element's test says so.
  The fixed filter is satisfiable.
  The bound rows m^k: a function that multiplies.
  The bound of the fixed query: 3 times 255 times 255.
-/
import Derived.Test.YtficeebbbkmhcaaGreatDoorFw26
import Derived.Deep.RegionHeld3
import Derived.Deep.RegionLaw
namespace Go.Proofs.YtficeebbbkmhcaaGreatDoor
open Go.RowKit

def KX (X W : World) (u v : Value) : Prop := ∀ g t cs, Blk X g t cs → u.ownBlock ≠ some g → Blk W g t cs ∧ v.ownBlock ≠ some g
theorem KX.trans {X Y Z : World} {u v x : Value} (h : KX X Y u v) (k : KX Y Z v x) : KX X Z u x := fun g t cs hb hu => by
  obtain ⟨q1, q2⟩ := h g t cs hb hu
  exact k g t cs q1 q2
theorem KX.of_below {X Y : World} {u : Value} (h : Below X.heap.size X Y) : KX X Y u u := fun g t cs hb hu => ⟨hb.keep h, hu⟩
theorem KX.new {base : Nat} {X : World} {u : Value} {l : List Nat} (hown : OwB base X u l) {g : Nat} (hg : X.heap.size ≤ g) : u.ownBlock ≠ some g := fun e => by
  have := (own_block hown e).2
  omega
def Pfx (m : Mt) (L : List Nat) : Prop := ∃ R, encM m = L ++ R
theorem Pfx.len {m : Mt} {L : List Nat} (h : Pfx m L) : L.length ≤ (encM m).length := by
  obtain ⟨R, hR⟩ := h
  rw [hR, List.length_append]
  exact Nat.le_add_right _ _
theorem Pfx.pre {m : Mt} {L M : List Nat} (h : Pfx m (L ++ M)) : Pfx m L := by
  obtain ⟨R, hR⟩ := h
  exact ⟨M ++ R, by rw [hR, List.append_assoc]⟩
def epH (e : Ep) : List Nat := e.log % 256 :: leB e.count 4 ++ [flB e.closed, e.pts.length % 256]
theorem epB_form (e : Ep) : epB e = epH e ++ (e.pts.flatMap ptB ++ ([e.peaks.length % 256] ++ e.peaks.flatMap id)) := by
  unfold epB epH
  simp [List.flatMap_id]
def mtH (m : Mt) : List Nat := leB m.ver 8 ++ m.seed ++ [m.eps.length % 256]
theorem encM_form (m : Mt) : encM m = mtH m ++ m.eps.flatMap epB := by
  unfold encM mtH
  simp
end Go.Proofs.YtficeebbbkmhcaaGreatDoor
namespace Go.Proofs.YtficeebbbkmhcaaGreatDoor
open Go.RowKit

attribute [local irreducible] wpRg
theorem step_H {P : Program} {ops : Array Oper} {o : Oper} {a : Act} {K : Act → World → Prop} {Q : Exit → Act → World → Prop} {EE : Prop} {X : World} {R : Value → World → Prop} (hgd : o.guard = none) (hs : stepAt P o a X R) (h : ∀ v w, R v w → K (a.put o.dst v) w) :
    if Region.wanted o (yielded ops a.tmps) = true then Oper.wp P o a X K Q else EE := by
  have hw : Region.wanted o (yielded ops a.tmps) = true := by simp [Region.wanted, hgd]
  rw [if_pos hw]
  exact wp_of_step (stepAt_mono h hs)
theorem nil_rd (w : World) (size : Nat) : RdA size w (.slice none 0 0) 0 [] := ⟨by simp, by decide, none, 0, rfl, Nat.le_refl _, fun h => by omega⟩
end Go.Proofs.YtficeebbbkmhcaaGreatDoor
namespace Go.Proofs.YtficeebbbkmhcaaGreatDoor
open Go.RowKit Go.Maps

theorem condss_slice : Tryz.prog.underlying 50 = some (.slice 49) := by kernel_rfl
theorem conds_info : (Tryz.prog.info? 49).map (fun i => (i.zero, i.size, i.bytes)) = some (some (.slice none 0 0), 1, 24) := by kernel_rfl
theorem rd_alloc1 (w : World) (v : Value) (t : TypeId) : Rd w.heap.size (w.heap.size + 1) 1 (w.alloc (.cells #[v] t)) (.slice (some ⟨w.heap.size, 0, none⟩) 1 1) 1 [v] :=
  ⟨rfl, by decide, _, _, rfl, Nat.le_refl _, fun _ => ⟨_, 0, rfl, Nat.le_refl _, Nat.lt_succ_self _, by simp, fun j u hj => by
    have hb : Blk (w.alloc (.cells #[v] t)) w.heap.size t #[v] := World.alloc_heap_new w _
    rw [Nat.zero_add, hb.cell]
    simpa using hj⟩⟩
theorem set4P {M : World → Prop} {w : World} {g : Nat} {t : TypeId} {cs : Array Value} {i j k l : Nat} {v u x y : Value} (b : Blk w g t cs) (h : ∀ X, Put w X g → Blk X g t ((((cs.setIfInBounds i v).setIfInBounds j u).setIfInBounds k x).setIfInBounds l y) → M X) : M ((((w.setCell ⟨g, i, none⟩ v).setCell ⟨g, j, none⟩ u).setCell ⟨g, k, none⟩ x).setCell ⟨g, l, none⟩ y) :=
  h _ ((((Put.set w g i v).trans (Put.set _ g j u)).trans (Put.set _ g k x)).trans (Put.set _ g l y)) ((((b.set_ i v).set_ j u).set_ k x).set_ l y)
theorem mget_run {w : World} {t k e : TypeId} {b n : Nat} {D : DataW Value} {z : Int} {v zv : Value} (hk : Tryz.prog.underlying k = some (.int .i64)) (ht : Tryz.prog.underlying t = some (.map k e)) (hzv : (zeroValue e).run Tryz.prog w = .ok zv w)
    (hz : (Lit.int .i64 z).wf = true) (h : MpO k w b n D) (hv : D.atKey (.int .i64 z) (.held zv) = .held v) : (Instr.lookup t (.map (some b)) (.int .i64 z) false).run Tryz.prog w = .ok v w := by
  obtain ⟨u, ps, hrun, hu⟩ := World.ownsMap.lookup h (int_keyed hk) ht hzv (show heldR zv = some (.held zv, []) from rfl) (keyOf_int_mk hk hz)
  rw [hv] at hu
  simp only [heldR, Option.some.injEq, Prod.mk.injEq, DataW.held.injEq] at hu
  rw [hrun, hu.1]
theorem MpO.onl {k : TypeId} {w X : World} {m n b : Nat} {D : DataW Value} (h : MpO k w m n D) (hO : Onl b w X) (hne : m ≠ b) : MpO k X m n D := World.ownsMap.kept (row := some b) h hO (by simpa using hne)
theorem frm_at1 : frm7.atKey (.int .i64 1) (.held (fmV { data := #[] } false 0 0)) = .held (fmV tCount false 0 1) := by rfl
theorem frm_at2 : frm7.atKey (.int .i64 2) (.held (fmV { data := #[] } false 0 0)) = .held (fmV tTotal true 0 1) := by rfl
theorem frm_at3 : frm7.atKey (.int .i64 3) (.held (fmV { data := #[] } false 0 0)) = .held (fmV tMoment true 6 1) := by rfl
theorem qry_under : Tryz.prog.underlying 52 = some (.struct (Tryz.prog.fieldsOf 52)) := by kernel_rfl
theorem qry_size : (Tryz.prog.info? 52).map (·.size) = some 4 := by kernel_rfl
def qrc (kind col k : Int) (F : Value) : List Value := [.int .i64 kind, .int .i64 col, .int .i64 k, F]
set_option maxRecDepth 100000 in
set_option maxHeartbeats 1000000 in
theorem gQuery (b : Nat) (w : World) (hP : PrB w b txt15 0) : Calls Tryz.prog 46 #[prV b] w fun e w' => ∃ F v, e = .returned (.agg (qrc 3 3 2 F).toArray) ∧ Rd w.heap.size w'.heap.size 1 w' F 1 [v] ∧ Rd w.heap.size w'.heap.size 3 w' v 1 (cdc 2 5 5) ∧ PrB w' b txt15 29 ∧ Onl b w w' := by
  have hlt := hP.lt
  have HP := Lib.hid hP
  have HA1 := Lib.hid (fun W hW => gAccept txt15 txt_size b 0 0 (by decide) 1 { data := #[109, 111, 109, 101, 110, 116] } (blank_self _ _) pk0 1 tCount (by decide) false (by decide +kernel) W hW)
  have HA2 := Lib.hid (fun W hW => gAccept txt15 txt_size b 0 0 (by decide) 1 { data := #[109, 111, 109, 101, 110, 116] } (blank_self _ _) pk0 1 tTotal (by decide) false (by decide +kernel) W hW)
  have HA3 := Lib.hid (fun W hW => gAccept txt15 txt_size b 0 0 (by decide) 1 { data := #[109, 111, 109, 101, 110, 116] } (blank_self _ _) pk0 1 tMoment (by decide) true (by decide +kernel) W hW)
  have HCo := Lib.hid (fun W hW => gColumn15 3 (by decide) txt15 txt_size b 6 7 (by decide) bl6 pk7 W hW)
  have HNu := Lib.hid (fun W hW => gNumber { data := #[50] } 2 1 6 (.inl ⟨rfl, rfl⟩) (by decide) (by decide) txt15 txt_size b 12 13 (by decide) bl12 pk13 W hW)
  have HFi := Lib.hid (fun W hW => gFilter b W hW)
  unfold prV tkV at HA1 HA2 HA3
  unfold prV at HCo HNu HFi
  clear hP
  unfold prV
  go_enter Tryz.func46, Tryz.ntmps46
  go_upto_region 1 with (fail)
  refine wp_stk1 fun W hW hz b2 => ?_
  have hPW := HP.out.keep hW
  have HWW := Lib.hid (Onl.of b hW)
  obtain ⟨g2, hg2⟩ : ∃ g, g = w.heap.size := ⟨_, rfl⟩
  rw [← hg2] at b2 ⊢
  have hne2 : g2 ≠ b := by omega
  have hw2 : w.heap.size ≤ g2 := by omega
  have HB2 := Lib.hid b2
  have HPW := Lib.hid hPW
  have lb := hPW.lt
  have lb2 := b2.lt
  clear hg2 hW hPW b2 hz
  go_wp2_with fail
  refine (gForms W).mono ?_
  rintro e W1 ⟨m, rfl, hm, hM, hb⟩
  have hnem : m ≠ b := by omega
  have HP1 := Lib.hid (HPW.out.keep hb)
  have HB2 := Lib.hid (HB2.out.keep hb)
  have HW1 := Lib.hid (HWW.out.below hb)
  have HM := Lib.hid hM
  clear hb hM
  go_upto_region 3 with (fail)
  go_loopw [4] (fun i wr => ∃ k : Nat, 1 ≤ k ∧ k ≤ 3 ∧ i = .int .i64 (k : Int) ∧ MpO 3 wr m 7 frm7 ∧ PrB wr b txt15 0 ∧ Blk wr g2 52 #[.int .i64 0, .int .i64 0, .int .i64 0, .slice none 0 0] ∧ Onl b w wr) (fun i _ => 4 - (intOf i).toNat)
  case atStart => exact ⟨1, Nat.le_refl _, by decide, rfl, HM.out, HP1.out, HB2.out, HW1.out⟩
  case round =>
    obtain ⟨k, hk1, hk2, rfl, hM, hPr, hb2, hO⟩ := hrel
    have HPr := Lib.hid hPr
    have HB2r := Lib.hid hb2
    have HOr := Lib.hid hO
    have HMr := Lib.hid hM
    have l2 := hb2.lt
    have lm := hM.lt
    obtain rfl | rfl | rfl : k = 1 ∨ k = 2 ∨ k = 3 := by omega
    · skip
      have hlk := mget_run int_und frms_map (frm_zero wr) rfl hM frm_at1
      unfold fmV at hlk
      clear hM hPr hb2 hO
      go_upto_region 6 with (fail)
      refine wp_stk1 fun V hV hz b5 => ?_
      have HPV := Lib.hid (HPr.out.keep hV)
      have HB2V := Lib.hid (HB2r.out.keep hV)
      have HOV := Lib.hid (HOr.out.below hV)
      have HMV := Lib.hid (HMr.out.keep hV)
      have e5 := b5.cell
      have l5 := b5.lt
      have HB5 := Lib.hid b5
      clear hz hV hlk b5
      go_wp2_with fail
      refine (HA1.out V HPV.out).mono ?_
      rintro e V2 ⟨rfl, P2, O2⟩
      have HP2 := Lib.hid (show PrB V2 b txt15 0 from P2)
      have HB2X := Lib.hid (O2.blk HB2V.out hne2)
      have HO2 := Lib.hid (HOV.out.trans O2)
      have HM2 := Lib.hid (HMV.out.onl O2 hnem)
      clear P2 O2 e5
      go_wp2_with fail
      exact ⟨⟨2, by decide, by decide, by go_num, HM2.out, HP2.out, HB2X.out, HO2.out⟩, by simp [intOf]⟩
    · skip
      have hlk := mget_run int_und frms_map (frm_zero wr) rfl hM frm_at2
      unfold fmV at hlk
      clear hM hPr hb2 hO
      go_upto_region 6 with (fail)
      refine wp_stk1 fun V hV hz b5 => ?_
      have HPV := Lib.hid (HPr.out.keep hV)
      have HB2V := Lib.hid (HB2r.out.keep hV)
      have HOV := Lib.hid (HOr.out.below hV)
      have HMV := Lib.hid (HMr.out.keep hV)
      have e5 := b5.cell
      have l5 := b5.lt
      have HB5 := Lib.hid b5
      clear hz hV hlk b5
      go_wp2_with fail
      refine (HA2.out V HPV.out).mono ?_
      rintro e V2 ⟨rfl, P2, O2⟩
      have HP2 := Lib.hid (show PrB V2 b txt15 0 from P2)
      have HB2X := Lib.hid (O2.blk HB2V.out hne2)
      have HO2 := Lib.hid (HOV.out.trans O2)
      have HM2 := Lib.hid (HMV.out.onl O2 hnem)
      clear P2 O2 e5
      go_wp2_with fail
      exact ⟨⟨3, by decide, by decide, by go_num, HM2.out, HP2.out, HB2X.out, HO2.out⟩, by simp [intOf]⟩
    · skip
      have hlk := mget_run int_und frms_map (frm_zero wr) rfl hM frm_at3
      unfold fmV at hlk
      clear hM hPr hb2 hO
      go_upto_region 6 with (fail)
      refine wp_stk1 fun V hV hz b5 => ?_
      have HPV := Lib.hid (HPr.out.keep hV)
      have HB2V := Lib.hid (HB2r.out.keep hV)
      have HOV := Lib.hid (HOr.out.below hV)
      have HMV := Lib.hid (HMr.out.keep hV)
      have e5 := b5.cell
      have l5 := b5.lt
      have HB5 := Lib.hid b5
      clear hz hV hlk b5
      go_wp2_with fail
      refine (HA3.out V HPV.out).mono ?_
      rintro e V2 ⟨rfl, P2, O2⟩
      have HP2 := Lib.hid (show PrB V2 b txt15 6 from P2)
      have HB2X := Lib.hid (O2.blk HB2V.out hne2)
      have HO2 := Lib.hid (HOV.out.trans O2)
      have HM2 := Lib.hid (HMV.out.onl O2 hnem)
      have b5 := O2.blk (g := wr.heap.size) (t := 149) (cs := #[.string tMoment, .bool true, .int .i64 6, .int .i64 1]) HB5.out (by omega)
      clear P2 O2 e5
      go_upto_region 8 with (fail)
      refine wp_stk1 fun U hU hz b6 => ?_
      obtain ⟨g5, hg5⟩ : ∃ g, g = wr.heap.size := ⟨_, rfl⟩
      rw [← hg5] at b5 HB5 l5 ⊢
      obtain ⟨g6, hg6⟩ : ∃ g, g = V2.heap.size := ⟨_, rfl⟩
      rw [← hg6] at b6 ⊢
      have hs1 := HO2.out.size
      have hs5 := b5.lt
      have hbl := HP2.out.lt
      have hgl := HB2X.out.lt
      have hne6 : g6 ≠ b := by omega
      have hne62 : g2 ≠ g6 := by omega
      have hne5 : g5 ≠ b := by omega
      have hne65 : g5 ≠ g6 := by omega
      have hw6 : w.heap.size ≤ g6 := by omega
      have HPU := Lib.hid (HP2.out.keep hU)
      have HB2U := Lib.hid (HB2X.out.keep hU)
      have HOU := Lib.hid (HO2.out.below hU)
      have b5U := b5.keep hU
      have HB5U := Lib.hid b5U
      have HB6 := Lib.hid b6
      have e5 := b5U.cell
      have l5U := b5U.lt
      clear hU hz hg5 hg6 b5 b5U b6 l5 hs1 hs5 hbl hgl
      go_wp2_with fail
      refine (HCo.out U HPU.out).mono ?_
      rintro e U1 ⟨rfl, P1, O1⟩
      have HP1 := Lib.hid (show PrB U1 b txt15 12 from P1)
      have HO1 := Lib.hid (HOU.out.trans O1)
      have HB2a := Lib.hid (O1.blk HB2U.out hne2)
      have b5 := O1.blk HB5U.out hne5
      have b6 := O1.blk HB6.out hne6
      have HB5a := Lib.hid b5
      have HB6a := Lib.hid b6
      clear e5 l5U P1 O1
      have e6 := b6.frozen
      have c6 := b6.cell
      have l6 := b6.lt
      clear b5 b6
      go_upto_region 10 with (fail)
      refine set1 (M := fun W => Code.wp _ _ _ _ W) HB6a.out fun X hX bX => ?_
      have HPX := Lib.hid (hX.blk HP1.out (Ne.symm hne6))
      have HB2b := Lib.hid (hX.blk HB2a.out hne62)
      have b5 := hX.blk HB5a.out hne65
      have HB5b := Lib.hid b5
      have HB6b := Lib.hid bX
      have HOX := Lib.hid (HO1.out.new hX hw6)
      have e5 := b5.cell
      have l5 := b5.lt
      clear e6 c6 l6 hX bX b5
      go_wp2_with fail
      refine (HNu.out X HPX.out).mono ?_
      rintro e U2 ⟨rfl, P1, O1⟩
      have HP3 := Lib.hid (show PrB U2 b txt15 14 from P1)
      have HO3 := Lib.hid (HOX.out.trans O1)
      have HB2c := Lib.hid (O1.blk HB2b.out hne2)
      have HB5c := Lib.hid (O1.blk HB5b.out hne5)
      have b6 := O1.blk HB6b.out hne6
      have HB6c := Lib.hid b6
      clear e5 l5 P1 O1
      have e6 := b6.frozen
      have c6 := b6.cell
      have l6 := b6.lt
      clear b6
      go_upto_region 12 with (fail)
      refine set1 (M := fun W => Code.wp _ _ _ _ W) HB6c.out fun Y hY bY => ?_
      have HPY := Lib.hid (hY.blk HP3.out (Ne.symm hne6))
      have HB2d := Lib.hid (hY.blk HB2c.out hne62)
      have HB5d := Lib.hid (hY.blk HB5c.out hne65)
      have HB6d := Lib.hid bY
      have HOY := Lib.hid (HO3.out.new hY hw6)
      have k0 : Y.cell? ⟨g6, 3, none⟩ = some (.slice none 0 0) := (bY.cell 3).trans rfl
      have k1 : Y.drew.cell? ⟨g6, 3, none⟩ = some (.slice none 0 0) := k0
      have HPD := Lib.hid (HPY.out.keep (below_Dx Y))
      have HB6e := Lib.hid (bY.keep (below_Dx Y))
      have HB5e := Lib.hid (HB5d.out.keep (below_Dx Y))
      have HB2e := Lib.hid (HB2d.out.keep (below_Dx Y))
      have HOD := Lib.hid (HOY.out.below (below_Dx Y))
      obtain ⟨iq, hiq, iq0, iq1, iq2⟩ := info_parts conds_info
      clear e6 c6 l6 hY bY
      have HFY := Lib.hid (HFi.out Y.drew HPD.out)
      go_region_law (first
        | (go_simp
           go_at_call 86
           with_reducible refine Calls.mono HFY.out ?_
           rintro e w39 ⟨v39, he, R39, P39, O39⟩
           subst he
           have b639 := O39.blk HB6e.out hne6
           have k39 : w39.cell? ⟨g6, 3, none⟩ = some (.slice none 0 0) := (b639.cell 3).trans rfl
           have ka39 : ∀ o, (w39.alloc o).cell? ⟨g6, 3, none⟩ = some (.slice none 0 0) := fun o => (((Below.refl _ w39).alloc (Nat.le_refl _) o).cell (p := ⟨g6, 3, none⟩) b639.lt).trans k39
           obtain ⟨A39, c39, hv39⟩ := Rd.len R39
           subst hv39)
        | (refine step_H rfl (step_grows (olds := []) rfl condss_slice hiq iq0 iq1 iq2 rfl (by decide) (fun u hu => by rw [List.mem_singleton.1 hu]; rfl) rfl (fun _ => rfl) rfl (rd_nil 0 0 _ _ _ _) (rd_alloc1 w39 _ _) (by decide) (by decide) (by decide)) fun v41 w41 hh => ?_
           obtain ⟨own41, B41⟩ := hh
           have R41 : Rd w39.heap.size w41.heap.size 1 w41 v41 1 [.slice A39 1 c39] := (Rd.of_own own41 (by decide) (Nat.le_refl _)).wide (by simp) (Nat.le_refl _)
           obtain ⟨A41, k41, hv41⟩ := Rd.len R41
           subst hv41
           have B0 : Below w39.heap.size w39 w41 := ((Below.refl _ w39).alloc (Nat.le_refl _) _).trans (B41.mono (by simp))
           have b641 := b639.keep B0
           have e41 := b641.frozen
           have c41 := b641.cell))
      all_goals
        have l639 := b639.lt
        have hDs := HB6e.out.lt
        have hsz := HOD.out.size
        have h39 := O39.size
        have h41 := B0.size
        have hD0 := HPD.out.lt
        refine set1 (M := fun X => Exit.then _ _ Exit.normal _ X) b641 fun Z hZ bZ => ?_
        have HPZ := Lib.hid (hZ.blk (P39.keep B0) (Ne.symm hne6))
        have HB5Z := hZ.blk ((O39.blk HB5e.out hne5).keep B0) hne65
        have HB2Z := hZ.blk ((O39.blk HB2e.out hne2).keep B0) hne62
        have HOZ := Lib.hid (((HOD.out.trans O39).below B0).new hZ hw6)
        have HR41 := Lib.hid (show Rd Y.drew.heap.size Z.heap.size 1 Z (.slice A41 1 k41) 1 [.slice A39 1 c39] from (hZ.rd (R41.wide h39 (Nat.le_refl _)) (.inl hDs)).wide (Nat.le_refl _) (Nat.le_of_eq hZ.size.symm))
        have HR39 := Lib.hid (show Rd Y.drew.heap.size Z.heap.size 3 Z (.slice A39 1 c39) 1 (cdc 2 5 5) from (hZ.rd (R39.keep B0) (.inl hDs)).wide (Nat.le_refl _) (by rw [hZ.size]; exact h41))
        have h2D : g2 < Y.drew.heap.size := HB2e.out.lt
        have c5 := HB5Z.cell
        have l5 := HB5Z.lt
        have c6 := bZ.cell
        have l6 := bZ.lt
        have c2 := HB2Z.cell
        have e2 := HB2Z.frozen
        have l2z := HB2Z.lt
        have HB2Y := Lib.hid HB2Z
        have HSZ := Lib.hid hsz
        clear k0 k1 k39 ka39 e41 c41 l639 hDs hsz h39 h41 hD0 b639 b641 R39 P39 O39 own41 R41 B41 B0 hZ bZ HB5Z HB2Z
        go_wp2_with fail
        refine set4P (M := fun W => bodyPost _ _ _ _ _ W) HB2Y.out fun T hT bT => ?_
        exact bodyPost_ret (v := .agg (qrc 3 3 2 (.slice A41 1 k41)).toArray) (res_row (cs := qrc 3 3 2 (.slice A41 1 k41)) (g := g2) rfl rfl qry_under rfl (by rw [qry_size]; rfl) bT) rfl
          ⟨_, _, rfl, (hT.rd HR41.out (.inl h2D)).wide HSZ.out (Nat.le_of_eq hT.size.symm), (hT.rd HR39.out (.inl h2D)).wide HSZ.out (Nat.le_of_eq hT.size.symm), hT.blk HPZ.out (Ne.symm hne2), HOZ.out.new hT hw2⟩
end Go.Proofs.YtficeebbbkmhcaaGreatDoor
namespace Go.Proofs.YtficeebbbkmhcaaGreatDoor
open Go.RowKit Go.Maps

theorem res_q3 {P : Program} {fn : Func} {a : Act} {w : World} {s1 s2 s3 : Tmp} {t1 : TypeId} {g1 : Nat} {u1 : TypeId} {c1 : List Value} {d1 : TypeDesc} {x y : Value} (hres : fn.results = #[.cell s1 t1, .tmp s2, .tmp s3]) (hp1 : a.tmps[s1]? = some (.pointer (some ⟨g1, 0, none⟩))) (hp2 : a.tmps[s2]? = some x) (hp3 : a.tmps[s3]? = some y)
    (hu1 : P.underlying t1 = some d1) (hd1 : d1.isRow = true) (hi1 : (P.info? t1).map (·.size) = some c1.length) (hb1 : Blk w g1 u1 c1.toArray) :
    (results fn a.tmps).run P w = .ok (.tuple #[.agg c1.toArray, x, y]) w := by
  simp [results, hres, hp1, hp2, hp3, Sem.run_bind, asAddr, run_loadVar_mid w g1 0 t1 c1 d1 (blk_range hb1) hu1 hd1 hi1]
def Qry1 (w : World) (F : Value) (cs : List Value) : Prop := ∃ v, RdA 1 w F 1 [v] ∧ RdA 3 w v 1 cs
theorem Qry1.keep {w X : World} {F : Value} {cs : List Value} (h : Qry1 w F cs) (hb : Below w.heap.size w X) : Qry1 X F cs := by
  obtain ⟨v, h1, h2⟩ := h
  exact ⟨v, h1.keep hb, h2.keep hb⟩
set_option maxRecDepth 100000 in
set_option maxHeartbeats 1000000 in
theorem gParse (w : World) : Calls Tryz.prog 17 #[.string { data := #[109, 111, 109, 101, 110, 116, 32, 118, 97, 108, 117, 101, 32, 50, 32, 119, 104, 101, 114, 101, 32, 107, 105, 110, 100, 32, 61, 32, 53] }] w fun e w' => ∃ F, e = .returned (.tuple #[.agg (qrc 3 3 2 F).toArray, .int .i64 0, .int .i64 0]) ∧ Qry1 w' F (cdc 2 5 5) ∧ Below w.heap.size w w' := by
  have HPK := Lib.hid (fun b W hW => gPeek txt15 txt_size b 29 29 0 { data := #[] } (blank_self _ _) pk29 W hW)
  have HQ := Lib.hid (fun b W hW => gQuery b W hW)
  unfold prV tkV at HPK
  unfold prV at HQ
  have he : ∀ w, (Op.equalIn 10000 114 (.agg #[.int .i64 0, .string { data := #[] }]) (.agg #[.int .i64 0, .string { data := #[] }])).run Tryz.prog w = .ok true w := fun w => by
    have := run_eqTk 0 0 { data := #[] } { data := #[] } w
    rw [this, show ((0 : Int) == 0 && ({ data := #[] } : ByteArray).toList == ({ data := #[] } : ByteArray).toList) = true by decide +kernel]
  have hgd := tk_guard
  go_enter Tryz.func17, Tryz.ntmps17
  go_upto_region 4 with (fail)
  refine wp_stk2 fun W hW hz b2 bp => ?_
  obtain ⟨g2, hg2⟩ : ∃ g, g = w.heap.size := ⟨_, rfl⟩
  obtain ⟨b, hb⟩ : ∃ b, b = w.heap.size + 1 := ⟨_, rfl⟩
  rw [← hb] at bp ⊢
  rw [← hg2] at b2 ⊢
  have hne : g2 ≠ b := by omega
  have hwb : w.heap.size ≤ b := by omega
  have hw2 : w.heap.size ≤ g2 := by omega
  have lg0 := b2.lt
  have HB2 := Lib.hid b2
  have hP0 : PrB W b txt15 0 := bp
  have HP0 := Lib.hid hP0
  have HW := Lib.hid hW
  have HG2 := Lib.hid hg2
  clear hz hg2 hb bp b2 hP0 hW
  go_wp2_with fail
  refine (HQ.out b W HP0.out).mono ?_
  rintro e W1 ⟨F, v, rfl, hF, hv, P1, O1⟩
  have b2 := O1.blk HB2.out hne
  have HB2 := Lib.hid b2
  have lb0 := HP0.out.lt
  have hB1 := HW.out.trans (O1.to hwb lb0)
  obtain ⟨AF, cF, rfl⟩ := Rd.len hF
  have HF := Lib.hid hF
  have Hv := Lib.hid hv
  have HP1 := Lib.hid P1
  have HB1 := Lib.hid hB1
  clear hF hv P1 O1 hB1
  unfold qrc
  go_upto_region 5 with (fail)
  refine wp_stk1 fun V hV hz b6 => ?_
  have HPV := HP1.out.keep hV
  have e3 := (HPV.cell 3).trans rfl
  have lp := HPV.lt
  have HFV := Lib.hid (Rd.keep HF.out hV)
  have HvV := Lib.hid (Rd.keep Hv.out hV)
  have b2 := b2.keep hV
  obtain ⟨g6, hg6⟩ : ∃ g, g = W1.heap.size := ⟨_, rfl⟩
  rw [← hg6] at b6 ⊢
  have hB1s := HB1.out.size
  have hne6 : g6 ≠ b := by have := HP1.out.lt; omega
  have hne62 : g2 ≠ g6 := by have := HB2.out.lt; omega
  have HB2V := Lib.hid b2
  have HB6 := Lib.hid b6
  have HPV2 := Lib.hid HPV
  have HBV := Lib.hid (HB1.out.trans (hV.mono HB1.out.size))
  have hw6 : w.heap.size ≤ g6 := by omega
  clear hz hV hg6 b2 b6 HPV hB1s
  go_wp2_with fail
  refine (HPK.out b V HPV2.out).mono ?_
  rintro e W2 ⟨rfl, P2, O2⟩
  have e32 := (Blk.cell P2 3).trans rfl
  have lp2 := Blk.lt P2
  have b6 := O2.blk HB6.out hne6
  have b2 := O2.blk HB2V.out hne
  have e6 := b6.cell
  have l6 := b6.lt
  have c2 := b2.cell
  have e2 := b2.frozen
  have l2 := b2.lt
  have HB22 := Lib.hid b2
  have HF2 := Lib.hid (O2.to_rd HFV.out (.inl lb0))
  have Hv2 := Lib.hid (O2.to_rd HvV.out (.inl lb0))
  have HB2W := Lib.hid (HBV.out.trans (O2.to hwb lp))
  clear e3 P2 O2 b6 b2
  go_wp2_with fail
  refine set4P (M := fun W => bodyPost _ _ _ _ _ W) HB22.out fun T hT bT => ?_
  exact bodyPost_ret (v := .tuple #[.agg (qrc 3 3 2 (.slice AF 1 cF)).toArray, .int .i64 0, .int .i64 0]) (res_q3 (c1 := qrc 3 3 2 (.slice AF 1 cF)) (g1 := g2) rfl rfl rfl rfl qry_under rfl (by rw [qry_size]; rfl) bT) rfl
    ⟨_, rfl, ⟨v, RdA.of (hT.rd HF2.out (.inl lg0)), RdA.of (hT.rd Hv2.out (.inl lg0))⟩, below_put HB2W.out hT hw2⟩
end Go.Proofs.YtficeebbbkmhcaaGreatDoor
namespace Go.Proofs.YtficeebbbkmhcaaGreatDoor
open Go.RowKit Go.Maps

def widD : DataW Unit := .map [(.int .i64 0, .lit (.int .i64 4)), (.int .i64 1, .lit (.int .i64 8)), (.int .i64 2, .lit (.int .i64 4)), (.int .i64 3, .lit (.int .i64 8)), (.int .i64 4, .lit (.int .i64 1))]
structure Lwd (w : World) : Prop where
  own : ∃ m n, w.cell? ⟨0, 0, none⟩ = some (.map (some m)) ∧ w.ownsMap Tryz.prog 3 (plainElem (H := Unit) Tryz.prog 3) m n widD
  sz : 0 < w.heap.size
theorem Lwd.keep {w X : World} (h : Lwd w) (hb : Below w.heap.size w X) : Lwd X := by
  obtain ⟨⟨m, n, h1, h2⟩, h3⟩ := h
  exact ⟨⟨m, n, (hb.cell (p := ⟨0, 0, none⟩) h3).trans h1, World.ownsMap.kept (row := none) h2 ⟨hb.os, hb.tape, hb.output, hb.size, fun j hj _ => hb.block j hj⟩ (by simp)⟩, Nat.lt_of_lt_of_le h3 hb.size⟩
theorem int_und15 : Tryz.prog.underlying 3 = some (.int .i64) := by kernel_rfl
theorem wid_map : Tryz.prog.underlying 162 = some (.map 3 3) := by kernel_rfl
theorem int_zero15 (w : World) : (zeroValue 3).run Tryz.prog w = .ok (.int .i64 0) w := by kernel_rfl
def wd (c : Nat) : Nat := if c = 1 ∨ c = 3 then 8 else 4
theorem wid_at (c : Nat) (hc : c < 4) : widD.atKey (.int .i64 (c : Int)) (.lit (.int .i64 0)) = .lit (.int .i64 (wd c : Nat)) := by
  obtain rfl | rfl | rfl | rfl : c = 0 ∨ c = 1 ∨ c = 2 ∨ c = 3 := by omega
  all_goals rfl
theorem gBits (c : Nat) (hc : c < 4) (w : World) (hL : Lwd w) : Calls Tryz.prog 51 #[.int .i64 (c : Int)] w fun e w' => e = .returned (.int .i64 (wd c : Nat)) ∧ w' = w := by
  obtain ⟨⟨m, n, h1, h2⟩, h3⟩ := hL
  obtain ⟨z, hrun, hat, _⟩ := World.ownsMap.lookup_int h2 (int_keyed int_und15) wid_map int_und15 (int_zero15 w) (keyOf_int_mk (P := Tryz.prog) int_und15 (a := (c : Int)) (by
    have e1 : IntKind.i64.min = -9223372036854775808 := rfl
    have e2 : IntKind.i64.max = 9223372036854775807 := rfl
    simp only [Lit.wf, Bool.and_eq_true, decide_eq_true_eq]; omega))
  have hz : z = (wd c : Nat) := by
    rw [wid_at c hc] at hat
    have h9 := (Lit.int.inj (DataW.lit.inj hat)).2
    exact h9.symm
  subst hz
  have hlk := hrun
  generalize wd c = x at *
  clear hat h2 hrun
  go_enter Tryz.func51, Tryz.ntmps51
  go_wp2
  go_ret
  exact ⟨rfl, rfl⟩
end Go.Proofs.YtficeebbbkmhcaaGreatDoor
namespace Go.Proofs.YtficeebbbkmhcaaGreatDoor
open Go.RowKit Go.Maps

def undLo (c : Nat) : Int := if c = 2 then 5 else 0
def undHi (c : Nat) : Int := if c = 2 then 5 else if c = 1 ∨ c = 3 then 255 else 15
theorem spn_under : Tryz.prog.underlying 182 = some (.struct (Tryz.prog.fieldsOf 182)) := by kernel_rfl
theorem spn_size : (Tryz.prog.info? 182).map (·.size) = some 2 := by kernel_rfl
theorem en_attestor_typecheck_under : ∀ args w, (callFunc 124 args).run Tryz.prog w = .ok (.enter 124 args) w := enters_of Tryz.func124 (by kernel_rfl) rfl
set_option maxRecDepth 100000 in
set_option maxHeartbeats 1000000 in
theorem gUnder0 (v : Value) (w : World) (hv : RdA 3 w v 1 (cdc 2 5 5)) (hL : Lwd w) : Calls Tryz.prog 124 #[v, .int .i64 0] w (Ret (.agg #[.int .i64 0, .int .i64 15]) w) := by
  obtain ⟨gF, oF, cF, hvF, -, -, -, lF, qF⟩ := Rd.form hv (by decide)
  subst hvF
  have HR := Lib.hid (fun j u hj => qF j u hj)
  have HBt : ∀ W, Below w.heap.size w W → Calls Tryz.prog 51 #[.int .i64 0] W (fun e w' => e = .returned (.int .i64 4) ∧ w' = W) := fun W hW => gBits 0 (by decide) W (hL.keep hW)
  have HBT := Lib.hid HBt
  clear HBt qF hv hL
  go_enter Tryz.func124, Tryz.ntmps124
  go_upto_region 1 with (fail)
  refine wp_stk1 fun W hW hz b4 => ?_
  obtain ⟨g4, hg4⟩ : ∃ g, g = w.heap.size := ⟨_, rfl⟩
  rw [← hg4] at b4 ⊢
  have HW := Lib.hid hW
  have HB4 := Lib.hid b4
  have l4 := b4.lt
  have HG4 := Lib.hid hg4
  have hg4w : w.heap.size ≤ g4 := by omega
  clear hz hW b4 hg4
  go_wp2_with fail
  refine (HBT.out W HW.out).mono ?_
  rintro e W1 ⟨rfl, rfl⟩
  go_upto_region 2 with (fail)
  refine wp_stk1 fun V hV hz b5 => ?_
  have HV := Lib.hid (HW.out.trans (hV.mono HW.out.size))
  have HB4V := Lib.hid (HB4.out.keep hV)
  obtain ⟨g5, hg5⟩ : ∃ g, g = W1.heap.size := ⟨_, rfl⟩
  rw [← hg5] at b5 ⊢
  have hne : g4 ≠ g5 := by omega
  have HB5 := Lib.hid b5
  have hw5 : w.heap.size ≤ g5 := by have := HW.out.size; omega
  clear hz hV b5 hg5
  go_wp2_with fail
  go_loopw [15] (fun i wr => ∃ k : Nat, k ≤ 1 ∧ i = .int .i64 (k : Int) ∧ Blk wr g4 182 #[.int .i64 0, .int .i64 0] ∧ Blk wr g5 182 (if k = 0 then #[.int .i64 0, .int .i64 15] else #[.int .i64 0, .int .i64 15]) ∧ Below w.heap.size w wr) (fun i _ => 2 - (intOf i).toNat)
  case atStart => exact ⟨0, by decide, rfl, HB4V.out, HB5.out, HV.out⟩
  case round =>
    obtain ⟨k, hk, rfl, b4, b5, hb⟩ := hrel
    obtain rfl | rfl : k = 0 ∨ k = 1 := by omega
    · rw [if_pos rfl] at b5
      have r0 : wr.cell? ⟨gF, oF, none⟩ = some (.int .i64 2) := (hb.cell (p := ⟨gF, oF + 0, none⟩) lF).trans (HR.out 0 _ rfl)
      have r1 : wr.cell? ⟨gF, oF + 1, none⟩ = some (.int .i64 5) := (hb.cell (p := ⟨gF, oF + 1, none⟩) lF).trans (HR.out 1 _ rfl)
      have r2 : wr.cell? ⟨gF, oF + 2, none⟩ = some (.int .i64 5) := (hb.cell (p := ⟨gF, oF + 2, none⟩) lF).trans (HR.out 2 _ rfl)
      have lF2 := Nat.lt_of_lt_of_le lF hb.size
      have HB4r := Lib.hid b4
      have HB5r := Lib.hid b5
      have HBr := Lib.hid hb
      have l5 := b5.lt
      have hs5 := hb.size
      clear b4 b5 hb
      go_upto_region 5 with (fail)
      refine wp_stk1 fun U hU hz b7 => ?_
      have b5 := HB5r.out.keep hU
      have HB4u := Lib.hid (HB4r.out.keep hU)
      have HBu := Lib.hid (HBr.out.trans (hU.mono HBr.out.size))
      obtain ⟨g7, hg7⟩ : ∃ g, g = wr.heap.size := ⟨_, rfl⟩
      rw [← hg7] at b7 ⊢
      have c7 := b7.cell
      have l7 := b7.lt
      have c5 := b5.cell
      have e5 := b5.frozen
      have l5' := b5.lt
      have HB5u := Lib.hid b5
      clear hz hU hg7 b7 b5 r0 r1 r2
      go_wp2_with fail
      exact ⟨⟨1, by decide, by go_num, HB4u.out, HB5u.out, HBu.out⟩, by simp [intOf]⟩
    · rw [if_neg (by decide)] at b5
      have HB4r := Lib.hid b4
      have HBr := Lib.hid hb
      have c5 := b5.cell
      have l5 := b5.lt
      have c4 := b4.cell
      have e4 := b4.frozen
      have l4' := b4.lt
      clear b4 b5 hb
      go_wp2_with fail
      refine set2 (M := fun W => bodyPost _ _ _ _ _ W) HB4r.out fun T hT bT => ?_
      exact bodyPost_ret (v := .agg #[.int .i64 0, .int .i64 15]) (res_row (cs := [.int .i64 0, .int .i64 15]) (g := g4) rfl rfl spn_under rfl (by rw [spn_size]; rfl) bT) rfl ⟨rfl, below_put HBr.out hT hg4w⟩
set_option maxRecDepth 100000 in
set_option maxHeartbeats 1000000 in
theorem gUnder1 (v : Value) (w : World) (hv : RdA 3 w v 1 (cdc 2 5 5)) (hL : Lwd w) : Calls Tryz.prog 124 #[v, .int .i64 1] w (Ret (.agg #[.int .i64 0, .int .i64 255]) w) := by
  obtain ⟨gF, oF, cF, hvF, -, -, -, lF, qF⟩ := Rd.form hv (by decide)
  subst hvF
  have HR := Lib.hid (fun j u hj => qF j u hj)
  have HBt : ∀ W, Below w.heap.size w W → Calls Tryz.prog 51 #[.int .i64 1] W (fun e w' => e = .returned (.int .i64 8) ∧ w' = W) := fun W hW => gBits 1 (by decide) W (hL.keep hW)
  have HBT := Lib.hid HBt
  clear HBt qF hv hL
  go_enter Tryz.func124, Tryz.ntmps124
  go_upto_region 1 with (fail)
  refine wp_stk1 fun W hW hz b4 => ?_
  obtain ⟨g4, hg4⟩ : ∃ g, g = w.heap.size := ⟨_, rfl⟩
  rw [← hg4] at b4 ⊢
  have HW := Lib.hid hW
  have HB4 := Lib.hid b4
  have l4 := b4.lt
  have HG4 := Lib.hid hg4
  have hg4w : w.heap.size ≤ g4 := by omega
  clear hz hW b4 hg4
  go_wp2_with fail
  refine (HBT.out W HW.out).mono ?_
  rintro e W1 ⟨rfl, rfl⟩
  go_upto_region 2 with (fail)
  refine wp_stk1 fun V hV hz b5 => ?_
  have HV := Lib.hid (HW.out.trans (hV.mono HW.out.size))
  have HB4V := Lib.hid (HB4.out.keep hV)
  obtain ⟨g5, hg5⟩ : ∃ g, g = W1.heap.size := ⟨_, rfl⟩
  rw [← hg5] at b5 ⊢
  have hne : g4 ≠ g5 := by omega
  have HB5 := Lib.hid b5
  have hw5 : w.heap.size ≤ g5 := by have := HW.out.size; omega
  clear hz hV b5 hg5
  go_wp2_with fail
  go_loopw [15] (fun i wr => ∃ k : Nat, k ≤ 1 ∧ i = .int .i64 (k : Int) ∧ Blk wr g4 182 #[.int .i64 0, .int .i64 0] ∧ Blk wr g5 182 (if k = 0 then #[.int .i64 0, .int .i64 255] else #[.int .i64 0, .int .i64 255]) ∧ Below w.heap.size w wr) (fun i _ => 2 - (intOf i).toNat)
  case atStart => exact ⟨0, by decide, rfl, HB4V.out, HB5.out, HV.out⟩
  case round =>
    obtain ⟨k, hk, rfl, b4, b5, hb⟩ := hrel
    obtain rfl | rfl : k = 0 ∨ k = 1 := by omega
    · rw [if_pos rfl] at b5
      have r0 : wr.cell? ⟨gF, oF, none⟩ = some (.int .i64 2) := (hb.cell (p := ⟨gF, oF + 0, none⟩) lF).trans (HR.out 0 _ rfl)
      have r1 : wr.cell? ⟨gF, oF + 1, none⟩ = some (.int .i64 5) := (hb.cell (p := ⟨gF, oF + 1, none⟩) lF).trans (HR.out 1 _ rfl)
      have r2 : wr.cell? ⟨gF, oF + 2, none⟩ = some (.int .i64 5) := (hb.cell (p := ⟨gF, oF + 2, none⟩) lF).trans (HR.out 2 _ rfl)
      have lF2 := Nat.lt_of_lt_of_le lF hb.size
      have HB4r := Lib.hid b4
      have HB5r := Lib.hid b5
      have HBr := Lib.hid hb
      have l5 := b5.lt
      have hs5 := hb.size
      clear b4 b5 hb
      go_upto_region 5 with (fail)
      refine wp_stk1 fun U hU hz b7 => ?_
      have b5 := HB5r.out.keep hU
      have HB4u := Lib.hid (HB4r.out.keep hU)
      have HBu := Lib.hid (HBr.out.trans (hU.mono HBr.out.size))
      obtain ⟨g7, hg7⟩ : ∃ g, g = wr.heap.size := ⟨_, rfl⟩
      rw [← hg7] at b7 ⊢
      have c7 := b7.cell
      have l7 := b7.lt
      have c5 := b5.cell
      have e5 := b5.frozen
      have l5' := b5.lt
      have HB5u := Lib.hid b5
      clear hz hU hg7 b7 b5 r0 r1 r2
      go_wp2_with fail
      exact ⟨⟨1, by decide, by go_num, HB4u.out, HB5u.out, HBu.out⟩, by simp [intOf]⟩
    · rw [if_neg (by decide)] at b5
      have HB4r := Lib.hid b4
      have HBr := Lib.hid hb
      have c5 := b5.cell
      have l5 := b5.lt
      have c4 := b4.cell
      have e4 := b4.frozen
      have l4' := b4.lt
      clear b4 b5 hb
      go_wp2_with fail
      refine set2 (M := fun W => bodyPost _ _ _ _ _ W) HB4r.out fun T hT bT => ?_
      exact bodyPost_ret (v := .agg #[.int .i64 0, .int .i64 255]) (res_row (cs := [.int .i64 0, .int .i64 255]) (g := g4) rfl rfl spn_under rfl (by rw [spn_size]; rfl) bT) rfl ⟨rfl, below_put HBr.out hT hg4w⟩
set_option maxRecDepth 100000 in
set_option maxHeartbeats 1000000 in
theorem gUnder3 (v : Value) (w : World) (hv : RdA 3 w v 1 (cdc 2 5 5)) (hL : Lwd w) : Calls Tryz.prog 124 #[v, .int .i64 3] w (Ret (.agg #[.int .i64 0, .int .i64 255]) w) := by
  obtain ⟨gF, oF, cF, hvF, -, -, -, lF, qF⟩ := Rd.form hv (by decide)
  subst hvF
  have HR := Lib.hid (fun j u hj => qF j u hj)
  have HBt : ∀ W, Below w.heap.size w W → Calls Tryz.prog 51 #[.int .i64 3] W (fun e w' => e = .returned (.int .i64 8) ∧ w' = W) := fun W hW => gBits 3 (by decide) W (hL.keep hW)
  have HBT := Lib.hid HBt
  clear HBt qF hv hL
  go_enter Tryz.func124, Tryz.ntmps124
  go_upto_region 1 with (fail)
  refine wp_stk1 fun W hW hz b4 => ?_
  obtain ⟨g4, hg4⟩ : ∃ g, g = w.heap.size := ⟨_, rfl⟩
  rw [← hg4] at b4 ⊢
  have HW := Lib.hid hW
  have HB4 := Lib.hid b4
  have l4 := b4.lt
  have HG4 := Lib.hid hg4
  have hg4w : w.heap.size ≤ g4 := by omega
  clear hz hW b4 hg4
  go_wp2_with fail
  refine (HBT.out W HW.out).mono ?_
  rintro e W1 ⟨rfl, rfl⟩
  go_upto_region 2 with (fail)
  refine wp_stk1 fun V hV hz b5 => ?_
  have HV := Lib.hid (HW.out.trans (hV.mono HW.out.size))
  have HB4V := Lib.hid (HB4.out.keep hV)
  obtain ⟨g5, hg5⟩ : ∃ g, g = W1.heap.size := ⟨_, rfl⟩
  rw [← hg5] at b5 ⊢
  have hne : g4 ≠ g5 := by omega
  have HB5 := Lib.hid b5
  have hw5 : w.heap.size ≤ g5 := by have := HW.out.size; omega
  clear hz hV b5 hg5
  go_wp2_with fail
  go_loopw [15] (fun i wr => ∃ k : Nat, k ≤ 1 ∧ i = .int .i64 (k : Int) ∧ Blk wr g4 182 #[.int .i64 0, .int .i64 0] ∧ Blk wr g5 182 (if k = 0 then #[.int .i64 0, .int .i64 255] else #[.int .i64 0, .int .i64 255]) ∧ Below w.heap.size w wr) (fun i _ => 2 - (intOf i).toNat)
  case atStart => exact ⟨0, by decide, rfl, HB4V.out, HB5.out, HV.out⟩
  case round =>
    obtain ⟨k, hk, rfl, b4, b5, hb⟩ := hrel
    obtain rfl | rfl : k = 0 ∨ k = 1 := by omega
    · rw [if_pos rfl] at b5
      have r0 : wr.cell? ⟨gF, oF, none⟩ = some (.int .i64 2) := (hb.cell (p := ⟨gF, oF + 0, none⟩) lF).trans (HR.out 0 _ rfl)
      have r1 : wr.cell? ⟨gF, oF + 1, none⟩ = some (.int .i64 5) := (hb.cell (p := ⟨gF, oF + 1, none⟩) lF).trans (HR.out 1 _ rfl)
      have r2 : wr.cell? ⟨gF, oF + 2, none⟩ = some (.int .i64 5) := (hb.cell (p := ⟨gF, oF + 2, none⟩) lF).trans (HR.out 2 _ rfl)
      have lF2 := Nat.lt_of_lt_of_le lF hb.size
      have HB4r := Lib.hid b4
      have HB5r := Lib.hid b5
      have HBr := Lib.hid hb
      have l5 := b5.lt
      have hs5 := hb.size
      clear b4 b5 hb
      go_upto_region 5 with (fail)
      refine wp_stk1 fun U hU hz b7 => ?_
      have b5 := HB5r.out.keep hU
      have HB4u := Lib.hid (HB4r.out.keep hU)
      have HBu := Lib.hid (HBr.out.trans (hU.mono HBr.out.size))
      obtain ⟨g7, hg7⟩ : ∃ g, g = wr.heap.size := ⟨_, rfl⟩
      rw [← hg7] at b7 ⊢
      have c7 := b7.cell
      have l7 := b7.lt
      have c5 := b5.cell
      have e5 := b5.frozen
      have l5' := b5.lt
      have HB5u := Lib.hid b5
      clear hz hU hg7 b7 b5 r0 r1 r2
      go_wp2_with fail
      exact ⟨⟨1, by decide, by go_num, HB4u.out, HB5u.out, HBu.out⟩, by simp [intOf]⟩
    · rw [if_neg (by decide)] at b5
      have HB4r := Lib.hid b4
      have HBr := Lib.hid hb
      have c5 := b5.cell
      have l5 := b5.lt
      have c4 := b4.cell
      have e4 := b4.frozen
      have l4' := b4.lt
      clear b4 b5 hb
      go_wp2_with fail
      refine set2 (M := fun W => bodyPost _ _ _ _ _ W) HB4r.out fun T hT bT => ?_
      exact bodyPost_ret (v := .agg #[.int .i64 0, .int .i64 255]) (res_row (cs := [.int .i64 0, .int .i64 255]) (g := g4) rfl rfl spn_under rfl (by rw [spn_size]; rfl) bT) rfl ⟨rfl, below_put HBr.out hT hg4w⟩
set_option maxRecDepth 100000 in
set_option maxHeartbeats 1000000 in
theorem gUnder2 (v : Value) (w : World) (hv : RdA 3 w v 1 (cdc 2 5 5)) (hL : Lwd w) : Calls Tryz.prog 124 #[v, .int .i64 2] w (Ret (.agg #[.int .i64 5, .int .i64 5]) w) := by
  obtain ⟨gF, oF, cF, hvF, -, -, -, lF, qF⟩ := Rd.form hv (by decide)
  subst hvF
  have HR := Lib.hid (fun j u hj => qF j u hj)
  have HBt : ∀ W, Below w.heap.size w W → Calls Tryz.prog 51 #[.int .i64 2] W (fun e w' => e = .returned (.int .i64 4) ∧ w' = W) := fun W hW => gBits 2 (by decide) W (hL.keep hW)
  have HBT := Lib.hid HBt
  clear HBt qF hv hL
  go_enter Tryz.func124, Tryz.ntmps124
  go_upto_region 1 with (fail)
  refine wp_stk1 fun W hW hz b4 => ?_
  obtain ⟨g4, hg4⟩ : ∃ g, g = w.heap.size := ⟨_, rfl⟩
  rw [← hg4] at b4 ⊢
  have HW := Lib.hid hW
  have HB4 := Lib.hid b4
  have l4 := b4.lt
  have HG4 := Lib.hid hg4
  have hg4w : w.heap.size ≤ g4 := by omega
  clear hz hW b4 hg4
  go_wp2_with fail
  refine (HBT.out W HW.out).mono ?_
  rintro e W1 ⟨rfl, rfl⟩
  go_upto_region 2 with (fail)
  refine wp_stk1 fun V hV hz b5 => ?_
  have HV := Lib.hid (HW.out.trans (hV.mono HW.out.size))
  have HB4V := Lib.hid (HB4.out.keep hV)
  obtain ⟨g5, hg5⟩ : ∃ g, g = W1.heap.size := ⟨_, rfl⟩
  rw [← hg5] at b5 ⊢
  have hne : g4 ≠ g5 := by omega
  have HB5 := Lib.hid b5
  have hw5 : w.heap.size ≤ g5 := by have := HW.out.size; omega
  clear hz hV b5 hg5
  go_wp2_with fail
  go_loopw [15] (fun i wr => ∃ k : Nat, k ≤ 1 ∧ i = .int .i64 (k : Int) ∧ Blk wr g4 182 #[.int .i64 0, .int .i64 0] ∧ Blk wr g5 182 (if k = 0 then #[.int .i64 0, .int .i64 15] else #[.int .i64 5, .int .i64 5]) ∧ Below w.heap.size w wr) (fun i _ => 2 - (intOf i).toNat)
  case atStart => exact ⟨0, by decide, rfl, HB4V.out, HB5.out, HV.out⟩
  case round =>
    obtain ⟨k, hk, rfl, b4, b5, hb⟩ := hrel
    obtain rfl | rfl : k = 0 ∨ k = 1 := by omega
    · rw [if_pos rfl] at b5
      have r0 : wr.cell? ⟨gF, oF, none⟩ = some (.int .i64 2) := (hb.cell (p := ⟨gF, oF + 0, none⟩) lF).trans (HR.out 0 _ rfl)
      have r1 : wr.cell? ⟨gF, oF + 1, none⟩ = some (.int .i64 5) := (hb.cell (p := ⟨gF, oF + 1, none⟩) lF).trans (HR.out 1 _ rfl)
      have r2 : wr.cell? ⟨gF, oF + 2, none⟩ = some (.int .i64 5) := (hb.cell (p := ⟨gF, oF + 2, none⟩) lF).trans (HR.out 2 _ rfl)
      have lF2 := Nat.lt_of_lt_of_le lF hb.size
      have HB4r := Lib.hid b4
      have HB5r := Lib.hid b5
      have HBr := Lib.hid hb
      have l5 := b5.lt
      have hs5 := hb.size
      clear b4 b5 hb
      go_upto_region 5 with (fail)
      refine wp_stk1 fun U hU hz b7 => ?_
      have b5 := HB5r.out.keep hU
      have HB4u := Lib.hid (HB4r.out.keep hU)
      have HBu := Lib.hid (HBr.out.trans (hU.mono HBr.out.size))
      obtain ⟨g7, hg7⟩ : ∃ g, g = wr.heap.size := ⟨_, rfl⟩
      rw [← hg7] at b7 ⊢
      have c7 := b7.cell
      have l7 := b7.lt
      have c5 := b5.cell
      have e5 := b5.frozen
      have l5' := b5.lt
      have HB5u := Lib.hid b5
      clear hz hU hg7 b7 b5 r0 r1 r2
      go_wp2_with fail
      have hP := (Put.set U g5 0 (.int .i64 5)).trans (Put.set (U.setCell ⟨g5, 0, none⟩ (.int .i64 5)) g5 1 (.int .i64 5))
      exact ⟨⟨1, by decide, by go_num, hP.blk HB4u.out hne, (HB5u.out.set_ 0 (.int .i64 5)).set_ 1 (.int .i64 5), below_put HBu.out hP hw5⟩, by simp [intOf]⟩
    · rw [if_neg (by decide)] at b5
      have HB4r := Lib.hid b4
      have HBr := Lib.hid hb
      have c5 := b5.cell
      have l5 := b5.lt
      have c4 := b4.cell
      have e4 := b4.frozen
      have l4' := b4.lt
      clear b4 b5 hb
      go_wp2_with fail
      refine set2 (M := fun W => bodyPost _ _ _ _ _ W) HB4r.out fun T hT bT => ?_
      exact bodyPost_ret (v := .agg #[.int .i64 5, .int .i64 5]) (res_row (cs := [.int .i64 5, .int .i64 5]) (g := g4) rfl rfl spn_under rfl (by rw [spn_size]; rfl) bT) rfl ⟨rfl, below_put HBr.out hT hg4w⟩
end Go.Proofs.YtficeebbbkmhcaaGreatDoor
namespace Go.Proofs.YtficeebbbkmhcaaGreatDoor
open Go.RowKit

def anyK (n : Nat) (bs : Nat → Bool) : Bool := (List.range n).any bs
theorem anyK_true (n k : Nat) (bs : Nat → Bool) (h : k < n) (hb : bs k = true) : anyK n bs = true := List.any_eq_true.2 ⟨k, List.mem_range.2 h, hb⟩
theorem anyK_false (n : Nat) (bs : Nat → Bool) (h : ∀ k, k < n → bs k = false) : anyK n bs = false := by
  unfold anyK
  rw [List.any_eq_false]
  intro k hk
  rw [h k (List.mem_range.1 hk)]
  decide
set_option maxRecDepth 100000 in
set_option maxHeartbeats 1000000 in
theorem gIdxI (n : Nat) (hn : n ≤ 140737488355327) (bs : Nat → Bool) (u : Nat → Value) (A : Option Addr) (g off cap : Nat) (hA : 0 < n → A = some ⟨g, off, none⟩) (w : World) (F : FuncId) (cp : List Value) (hen : ∀ args w, (callFunc F args).run Tryz.prog w = .ok (.enter F args) w)
    (hcell : ∀ k W, k < n → Below w.heap.size w W → g < W.heap.size ∧ W.cell? ⟨g, off + k, none⟩ = some (u k)) (hcall : ∀ k W, k < n → Below w.heap.size w W → Calls Tryz.prog F ((u k) :: cp).toArray W (Ret (.bool (bs k)) W)) :
    Calls Tryz.prog 149 #[.slice A n cap, .func (.func F) #[] cp.toArray] w (RetR (fun _ _ v _ => ∃ r : Int, v = .int .i64 r ∧ ((anyK n bs = false ∧ r = -1) ∨ (anyK n bs = true ∧ 0 ≤ r))) w) := by
  have HC := Lib.hid hcell
  have HK := Lib.hid hcall
  have HEN := Lib.hid hen
  have HA := Lib.hid hA
  clear hcell hcall hen hA
  go_enter Tryz.func149, Tryz.ntmps149
  go_wp2
  go_loopw [8] (fun i wr => ∃ k : Nat, k ≤ n ∧ i = .int .i64 k ∧ (∀ j, j < k → bs j = false) ∧ Below w.heap.size w wr) (fun i _ => n - (intOf i).toNat)
  case atStart => exact ⟨0, Nat.zero_le _, rfl, fun j hj => absurd hj (by omega), Below.refl _ _⟩
  case round =>
    obtain ⟨k, hk, rfl, hall, hB⟩ := hrel
    have HAll := Lib.hid hall
    clear hall
    by_cases hlt : k < n
    · have hA := HA.out (by omega)
      subst hA
      obtain ⟨hgs, hc⟩ := HC.out k wr hlt hB
      have hcl := Lib.hid (HK.out k wr hlt hB)
      have hen := HEN.out
      go_wp2_with fail
      refine (Calls.mono hcl.out ?_)
      rintro e w2 ⟨rfl, hb⟩
      clear hen hc
      cases hbk : bs k
      · have HB := Lib.hid hbk
        clear hbk
        go_wp2
        exact ⟨⟨k + 1, by omega, by go_num, fun j hj => by
          rcases Nat.lt_succ_iff_lt_or_eq.1 hj with h1 | h1
          · exact HAll.out j h1
          · subst h1; exact HB.out, hB.trans (hb.mono hB.size)⟩, by simp [intOf]; omega⟩
      · have HB := Lib.hid hbk
        clear hbk
        go_wp2
        go_ret
        exact ⟨_, rfl, ⟨k, rfl, .inr ⟨anyK_true n k bs hlt HB.out, by omega⟩⟩, hB.trans (hb.mono hB.size)⟩
    · obtain rfl : k = n := by omega
      go_wp2
      go_ret
      exact ⟨_, rfl, ⟨-1, rfl, .inl ⟨anyK_false _ _ HAll.out, rfl⟩⟩, hB⟩
set_option maxRecDepth 100000 in
set_option maxHeartbeats 1000000 in
theorem gConI (n : Nat) (hn : n ≤ 140737488355327) (bs : Nat → Bool) (u : Nat → Value) (A : Option Addr) (g off cap : Nat) (hA : 0 < n → A = some ⟨g, off, none⟩) (w : World) (F : FuncId) (cp : List Value) (hen : ∀ args w, (callFunc F args).run Tryz.prog w = .ok (.enter F args) w)
    (hcell : ∀ k W, k < n → Below w.heap.size w W → g < W.heap.size ∧ W.cell? ⟨g, off + k, none⟩ = some (u k)) (hcall : ∀ k W, k < n → Below w.heap.size w W → Calls Tryz.prog F ((u k) :: cp).toArray W (Ret (.bool (bs k)) W)) :
    Calls Tryz.prog 133 #[.slice A n cap, .func (.func F) #[] cp.toArray] w (Ret (.bool (anyK n bs)) w) := by
  have HI := Lib.hid (gIdxI n hn bs u A g off cap hA w F cp hen hcell hcall)
  clear hcell hcall hen hA
  go_enter Tryz.func133, Tryz.ntmps133
  go_wp2_with fail
  refine HI.out.mono ?_
  rintro e w2 ⟨v, rfl, ⟨r, rfl, hr⟩, hb⟩
  rcases hr with ⟨h1, rfl⟩ | ⟨h1, h2⟩
  · have H1 := Lib.hid h1
    clear h1
    go_wp2
    go_ret
    exact ⟨by rw [H1.out]; rfl, hb⟩
  · have H1 := Lib.hid h1
    clear h1
    go_wp2
    go_ret
    exact ⟨by rw [H1.out]; rfl, hb⟩
set_option maxRecDepth 100000 in
set_option maxHeartbeats 1000000 in
theorem gIdxC (n : Nat) (hn : n ≤ 140737488355327) (bs : Nat → Bool) (u1 u2 u3 : Nat → Value) (A : Option Addr) (g off cap : Nat) (hA : 0 < n → A = some ⟨g, off, none⟩) (w : World) (F : FuncId) (cp : List Value) (hen : ∀ args w, (callFunc F args).run Tryz.prog w = .ok (.enter F args) w)
    (hcell : ∀ k W, k < n → Below w.heap.size w W → g < W.heap.size ∧ W.cell? ⟨g, off + k * 3, none⟩ = some (u1 k) ∧ W.cell? ⟨g, off + k * 3 + 1, none⟩ = some (u2 k) ∧ W.cell? ⟨g, off + k * 3 + 2, none⟩ = some (u3 k)) (hcall : ∀ k W, k < n → Below w.heap.size w W → Calls Tryz.prog F ((.agg #[u1 k, u2 k, u3 k]) :: cp).toArray W (Ret (.bool (bs k)) W)) :
    Calls Tryz.prog 106 #[.slice A n cap, .func (.func F) #[] cp.toArray] w (RetR (fun _ _ v _ => ∃ r : Int, v = .int .i64 r ∧ ((anyK n bs = false ∧ r = -1) ∨ (anyK n bs = true ∧ 0 ≤ r))) w) := by
  have HC := Lib.hid hcell
  have HK := Lib.hid hcall
  have HEN := Lib.hid hen
  have HA := Lib.hid hA
  clear hcell hcall hen hA
  go_enter Tryz.func106, Tryz.ntmps106
  go_wp2
  go_loopw [8] (fun i wr => ∃ k : Nat, k ≤ n ∧ i = .int .i64 k ∧ (∀ j, j < k → bs j = false) ∧ Below w.heap.size w wr) (fun i _ => n - (intOf i).toNat)
  case atStart => exact ⟨0, Nat.zero_le _, rfl, fun j hj => absurd hj (by omega), Below.refl _ _⟩
  case round =>
    obtain ⟨k, hk, rfl, hall, hB⟩ := hrel
    have HAll := Lib.hid hall
    clear hall
    by_cases hlt : k < n
    · have hA := HA.out (by omega)
      subst hA
      obtain ⟨hgs, hc⟩ := HC.out k wr hlt hB
      have hcl := Lib.hid (HK.out k wr hlt hB)
      have hen := HEN.out
      go_wp2_with fail
      refine (Calls.mono hcl.out ?_)
      rintro e w2 ⟨rfl, hb⟩
      clear hen hc
      cases hbk : bs k
      · have HB := Lib.hid hbk
        clear hbk
        go_wp2
        exact ⟨⟨k + 1, by omega, by go_num, fun j hj => by
          rcases Nat.lt_succ_iff_lt_or_eq.1 hj with h1 | h1
          · exact HAll.out j h1
          · subst h1; exact HB.out, hB.trans (hb.mono hB.size)⟩, by simp [intOf]; omega⟩
      · have HB := Lib.hid hbk
        clear hbk
        go_wp2
        go_ret
        exact ⟨_, rfl, ⟨k, rfl, .inr ⟨anyK_true n k bs hlt HB.out, by omega⟩⟩, hB.trans (hb.mono hB.size)⟩
    · obtain rfl : k = n := by omega
      go_wp2
      go_ret
      exact ⟨_, rfl, ⟨-1, rfl, .inl ⟨anyK_false _ _ HAll.out, rfl⟩⟩, hB⟩
set_option maxRecDepth 100000 in
set_option maxHeartbeats 1000000 in
theorem gConC (n : Nat) (hn : n ≤ 140737488355327) (bs : Nat → Bool) (u1 u2 u3 : Nat → Value) (A : Option Addr) (g off cap : Nat) (hA : 0 < n → A = some ⟨g, off, none⟩) (w : World) (F : FuncId) (cp : List Value) (hen : ∀ args w, (callFunc F args).run Tryz.prog w = .ok (.enter F args) w)
    (hcell : ∀ k W, k < n → Below w.heap.size w W → g < W.heap.size ∧ W.cell? ⟨g, off + k * 3, none⟩ = some (u1 k) ∧ W.cell? ⟨g, off + k * 3 + 1, none⟩ = some (u2 k) ∧ W.cell? ⟨g, off + k * 3 + 2, none⟩ = some (u3 k)) (hcall : ∀ k W, k < n → Below w.heap.size w W → Calls Tryz.prog F ((.agg #[u1 k, u2 k, u3 k]) :: cp).toArray W (Ret (.bool (bs k)) W)) :
    Calls Tryz.prog 67 #[.slice A n cap, .func (.func F) #[] cp.toArray] w (Ret (.bool (anyK n bs)) w) := by
  have HI := Lib.hid (gIdxC n hn bs u1 u2 u3 A g off cap hA w F cp hen hcell hcall)
  clear hcell hcall hen hA
  go_enter Tryz.func67, Tryz.ntmps67
  go_wp2_with fail
  refine HI.out.mono ?_
  rintro e w2 ⟨v, rfl, ⟨r, rfl, hr⟩, hb⟩
  rcases hr with ⟨h1, rfl⟩ | ⟨h1, h2⟩
  · have H1 := Lib.hid h1
    clear h1
    go_wp2
    go_ret
    exact ⟨by rw [H1.out]; rfl, hb⟩
  · have H1 := Lib.hid h1
    clear h1
    go_wp2
    go_ret
    exact ⟨by rw [H1.out]; rfl, hb⟩
end Go.Proofs.YtficeebbbkmhcaaGreatDoor
namespace Go.Proofs.YtficeebbbkmhcaaGreatDoor
open Go.RowKit Go.Maps

theorem gUnder (c : Nat) (hc : c < 4) (v : Value) (w : World) (hv : RdA 3 w v 1 (cdc 2 5 5)) (hL : Lwd w) : Calls Tryz.prog 124 #[v, .int .i64 (c : Int)] w (Ret (.agg #[.int .i64 (undLo c), .int .i64 (undHi c)]) w) := by
  obtain rfl | rfl | rfl | rfl : c = 0 ∨ c = 1 ∨ c = 2 ∨ c = 3 := by omega
  · exact gUnder0 v w hv hL
  · exact gUnder1 v w hv hL
  · exact gUnder2 v w hv hL
  · exact gUnder3 v w hv hL
theorem und_le (c : Nat) (hc : c < 4) : undLo c ≤ undHi c := by
  obtain rfl | rfl | rfl | rfl : c = 0 ∨ c = 1 ∨ c = 2 ∨ c = 3 := by omega
  all_goals decide
theorem en_attestor_typecheck_satisfiable_1 : ∀ args w, (callFunc 134 args).run Tryz.prog w = .ok (.enter 134 args) w := enters_of Tryz.func134 (by kernel_rfl) rfl
theorem gSat1 (c : Nat) (hc : c < 4) (v : Value) (bx : Nat) (w : World) (hbx : w.cell? ⟨bx, 0, none⟩ = some v) (hlt : bx < w.heap.size) (hv : RdA 3 w v 1 (cdc 2 5 5)) (hL : Lwd w) :
    Calls Tryz.prog 134 #[.int .i64 (c : Int), .pointer (some ⟨bx, 0, none⟩)] w (Ret (.bool false) w) := by
  have hU := Lib.hid (gUnder c hc v w hv hL)
  have hle := und_le c hc
  obtain ⟨A, cap, rfl⟩ := Rd.len hv
  obtain ⟨lo, hlo⟩ : ∃ x, x = undLo c := ⟨_, rfl⟩
  obtain ⟨hi, hhi⟩ : ∃ x, x = undHi c := ⟨_, rfl⟩
  rw [← hlo, ← hhi] at hU hle
  clear hlo hhi hv hL
  go_enter Tryz.func134, Tryz.ntmps134
  go_wp2_with fail
  refine hU.out.mono ?_
  rintro e W ⟨rfl, hW⟩
  have HW := Lib.hid hW
  clear hW hbx
  go_upto_region 2 with (fail)
  refine wp_stk1 fun V hV hz b4 => ?_
  have HV := Lib.hid (HW.out.trans (hV.mono HW.out.size))
  have c4 := b4.cell
  have l4 := b4.lt
  have hn : ¬ hi < lo := by omega
  clear hz hV b4
  go_wp2_with fail
  exact bodyPost_ret (v := .bool false) (by simp [results, Tryz.results134, go_sem]) rfl ⟨rfl, HV.out⟩
theorem any_false4 : anyK 4 (fun _ => false) = false := rfl
set_option maxRecDepth 100000 in
theorem gSatis (v : Value) (w : World) (hv : RdA 3 w v 1 (cdc 2 5 5)) (hL : Lwd w) : Calls Tryz.prog 122 #[v] w (Ret (.bool true) w) := by
  obtain ⟨A, cap, rfl⟩ := Rd.len hv
  have HV := Lib.hid hv
  have HL := Lib.hid hL
  have hmf : ∀ (fn : Fn) (first cap : Array Value) (w : World), (Instr.makeFunc fn first cap).run Tryz.prog w = .ok (.func fn first cap) w := fun _ _ _ _ => rfl
  clear hv hL
  go_enter Tryz.func122, Tryz.ntmps122
  go_upto_region 1 with (fail)
  refine wp_stk1 fun W hW hz b1 => ?_
  obtain ⟨g1, hg1⟩ : ∃ g, g = w.heap.size := ⟨_, rfl⟩
  rw [← hg1] at b1 ⊢
  have HW := Lib.hid hW
  have HB1 := Lib.hid b1
  clear hz hW b1 hg1
  go_wp2_with fail
  refine calls_stk1 fun V hV hz b3 => ?_
  have HC := gConI 4 (by decide) (fun _ => false) (fun k => .int .i64 (k : Int)) (some ⟨W.heap.size, 0, none⟩) W.heap.size 0 4 (fun _ => rfl) V 134 [.pointer (some ⟨g1, 0, none⟩)] en_attestor_typecheck_satisfiable_1
    (fun k X hk hX => ⟨Nat.lt_of_lt_of_le b3.lt hX.size, by
      rw [hX.cell (p := ⟨W.heap.size, 0 + k, none⟩) b3.lt, Nat.zero_add, b3.cell]
      obtain rfl | rfl | rfl | rfl : k = 0 ∨ k = 1 ∨ k = 2 ∨ k = 3 := by omega
      all_goals rfl⟩)
    (fun k X hk hX => by
      have h1 := (HB1.out.keep hV).keep hX
      have h2 := HW.out.trans ((hV.mono HW.out.size).trans (hX.mono (Nat.le_trans HW.out.size hV.size)))
      exact gSat1 k hk _ g1 X ((h1.cell 0).trans rfl) h1.lt (HV.out.keep h2) (HL.out.keep h2))
  have HB := Lib.hid (HW.out.trans (hV.mono HW.out.size))
  clear hz hV b3
  refine HC.mono ?_
  rintro e X ⟨rfl, hX⟩
  have HX := Lib.hid (HB.out.trans (hX.mono HB.out.size))
  clear hX HC
  rw [any_false4]
  go_wp2_with fail
  exact bodyPost_ret (v := .bool true) (by simp [results, Tryz.results122, go_sem]) rfl ⟨rfl, HX.out⟩
end Go.Proofs.YtficeebbbkmhcaaGreatDoor
namespace Go.Proofs.YtficeebbbkmhcaaGreatDoor
open Go.RowKit Go.Maps

theorem en_attestor_typecheck_power : ∀ args w, (callFunc 123 args).run Tryz.prog w = .ok (.enter 123 args) w := enters_of Tryz.func123 (by kernel_rfl) rfl
structure MulB (w : World) (a b : Nat) (p : Int) : Prop where
  pa : Blk w a 37 #[.int .u64 p]
  pb : Blk w b 4 #[.bool true]
theorem MulB.keep {w X : World} {a b : Nat} {p : Int} (h : MulB w a b p) (hb : Below w.heap.size w X) : MulB X a b p := ⟨h.pa.keep hb, h.pb.keep hb⟩
set_option maxRecDepth 100000 in
theorem gMulStep (a b N : Nat) (hab : a ≠ b) (ha : N ≤ a) (hb : N ≤ b) (p f m : Int) (hp : 0 ≤ p) (hp' : p < 4611686018427387904) (hf : 0 ≤ f) (hf' : f < 4611686018427387904) (hm : p * f = m) (hm' : m < 4611686018427387904) (w : World) (h : MulB w a b p) :
    Calls Tryz.prog 150 #[.int .i64 f, .pointer (some ⟨a, 0, none⟩), .pointer (some ⟨b, 0, none⟩)] w fun e w' => e = .returned (.tuple #[.int .i64 m, .bool true]) ∧ MulB w' a b m ∧ Below N w w' := by
  have hm0 : 0 ≤ m := by rw [← hm]; exact Int.mul_nonneg hp hf
  have HM := mul64_i p f hp (by omega) hf (by omega) w
  rw [hm, show m / 18446744073709551616 = 0 by omega, show m % 18446744073709551616 = m by omega] at HM
  replace HM := Lib.hid HM
  have HPB := Lib.hid h.pb
  have HPA := Lib.hid h.pa
  have c1 := h.pa.cell
  have l1 := h.pa.lt
  have c2 := h.pb.cell
  have l2 := h.pb.lt
  have e1 := h.pa.frozen
  have e2 := h.pb.frozen
  have hw : IntKind.u64.wrap f = f := by
    have : IntKind.u64.wrap f = f % 18446744073709551616 := rfl
    omega
  clear h hm
  go_enter Tryz.func150, Tryz.ntmps150
  go_wp2_with fail
  refine HM.out.mono ?_
  rintro e w2 ⟨rfl, rfl⟩
  go_upto_region 3 with (fail)
  refine set1 (M := fun W => Code.wp _ _ _ _ W) HPB.out fun X hX bX => ?_
  have HAX := Lib.hid (hX.blk HPA.out hab)
  have HBX := Lib.hid (show Blk X b 4 #[.bool true] from bX)
  have HX := Lib.hid (below_put (Below.refl N _) hX hb)
  clear c1 c2 e1 e2 l1 l2
  have c1 := HAX.out.cell
  have e1 := HAX.out.frozen
  have l1 := HAX.out.lt
  clear hX bX
  go_upto_region 4 with (fail)
  refine set1 (M := fun W => Code.wp _ _ _ _ W) HAX.out fun Y hY bY => ?_
  have bY2 : Blk Y a 37 #[.int .u64 m] := bY
  have bb := hY.blk HBX.out (Ne.symm hab)
  have f0 := gw_blk bY2
  have f1 := gw_blk bb
  have HAY := Lib.hid bY2
  have HBY := Lib.hid bb
  have HY := Lib.hid (below_put HX.out hY ha)
  have hwi : IntKind.i64.wrap m = m := IntWalk.i64_in _ (by omega)
  clear c1 e1 l1 hY bY bY2 bb
  refine wp_region_rg 4 [] (by kernel_rfl) (by kernel_rfl) (by kernel_rfl) trivial ?_
  iterate 4 (refine rg_det rfl rfl rfl (fun K hK => ?_); go_big_quiet_op; refine hK _ ?_; clear hK K)
  refine rg_nil (fun w' hw' hF => ?_)
  obtain ⟨z, rfl⟩ := hw'
  simp only [List.drop_succ_cons, List.drop_zero]
  have HZ := Lib.hid (show MulB z.w a b m from ⟨HAY.out.keep z.h, HBY.out.keep z.h⟩)
  have HZB := Lib.hid (HY.out.trans (z.h.mono (by have := HAY.out.lt; omega)))
  obtain ⟨V, hV⟩ : ∃ V, V = z.w := ⟨_, rfl⟩
  rw [← hV] at HZ HZB ⊢
  clear hF hV z f0 f1
  go_wp2_with fail
  exact bodyPost_ret (v := .tuple #[.int .i64 m, .bool true]) (by simp [results, Tryz.results150, go_sem]) rfl ⟨rfl, HZ.out, HZB.out⟩
end Go.Proofs.YtficeebbbkmhcaaGreatDoor
namespace Go.Proofs.YtficeebbbkmhcaaGreatDoor
open Go.RowKit Go.Maps

theorem gMultiplier (w : World) : Calls Tryz.prog 135 #[.int .i64 3] w fun e w' => ∃ a b, e = .returned (.func (.func 150) #[] #[.pointer (some ⟨a, 0, none⟩), .pointer (some ⟨b, 0, none⟩)]) ∧ a ≠ b ∧ w.heap.size ≤ a ∧ w.heap.size ≤ b ∧ MulB w' a b 3 ∧ Below w.heap.size w w' := by
  have hmf : ∀ (fn : Fn) (first cap : Array Value) (w : World), (Instr.makeFunc fn first cap).run Tryz.prog w = .ok (.func fn first cap) w := fun _ _ _ _ => rfl
  go_enter Tryz.func135, Tryz.ntmps135
  go_upto_region 2 with (fail)
  refine wp_stk2 fun W hW hz ba bb => ?_
  have HA := Lib.hid ba
  have HB := Lib.hid bb
  have HW := Lib.hid hW
  clear ba bb hW hz
  go_wp2_with fail
  exact bodyPost_ret (v := .func (.func 150) #[] #[.pointer (some ⟨w.heap.size, 0, none⟩), .pointer (some ⟨w.heap.size + 1, 0, none⟩)]) (by simp [results, Tryz.results135, go_sem]) rfl ⟨_, _, rfl, by omega, Nat.le_refl _, by omega, ⟨HA.out, HB.out⟩, HW.out⟩
set_option maxRecDepth 100000 in
set_option maxHeartbeats 1000000 in
theorem gPower15 (w : World) : Calls Tryz.prog 123 #[.int .i64 3, .int .i64 255, .int .i64 2] w (Ret (.tuple #[.int .i64 195075, .bool true]) w) := by
  go_enter Tryz.func123, Tryz.ntmps123
  go_wp2_with fail
  refine (gMultiplier w).mono ?_
  rintro e W ⟨a, b, rfl, hab, ha, hb, hM, hW⟩
  have HM := Lib.hid hM
  have HW := Lib.hid hW
  have H1 := Lib.hid (fun X (h : MulB X a b 3) => gMulStep a b w.heap.size hab ha hb 3 1 3 (by decide) (by decide) (by decide) (by decide) rfl (by decide) X h)
  have H2 := Lib.hid (fun X (h : MulB X a b 3) => gMulStep a b w.heap.size hab ha hb 3 255 765 (by decide) (by decide) (by decide) (by decide) rfl (by decide) X h)
  have H3 := Lib.hid (fun X (h : MulB X a b 765) => gMulStep a b w.heap.size hab ha hb 765 255 195075 (by decide) (by decide) (by decide) (by decide) rfl (by decide) X h)
  clear hM hW
  go_wp2_with fail
  refine (H1.out W HM.out).mono ?_
  rintro e V ⟨rfl, hM, hV⟩
  have HMV := Lib.hid hM
  have HV := Lib.hid (HW.out.trans hV)
  clear hM hV
  go_wp2_with fail
  go_loopw [9, 10, 19] (fun n o i wr => o = .bool true ∧ ((i = .int .i64 0 ∧ n = .int .i64 3 ∧ MulB wr a b 3) ∨ (i = .int .i64 1 ∧ n = .int .i64 765 ∧ MulB wr a b 765) ∨ (i = .int .i64 2 ∧ n = .int .i64 195075)) ∧ Below w.heap.size w wr) (fun _ _ i _ => 3 - (intOf i).toNat)
  case atStart => exact ⟨rfl, .inl ⟨rfl, rfl, HMV.out⟩, HV.out⟩
  case round =>
    obtain ⟨rfl, ⟨rfl, rfl, hM⟩ | ⟨rfl, rfl, hM⟩ | ⟨rfl, rfl⟩, hB⟩ := hrel
    · have HMr := Lib.hid hM
      have HBr := Lib.hid hB
      clear hM hB
      go_wp2_with fail
      refine (H2.out wr HMr.out).mono ?_
      rintro e V2 ⟨rfl, hM, hV⟩
      have HM2 := Lib.hid hM
      have HV2 := Lib.hid (HBr.out.trans hV)
      clear hM hV
      go_wp2_with fail
      exact ⟨⟨rfl, .inr (.inl ⟨rfl, rfl, HM2.out⟩), HV2.out⟩, by simp [intOf]⟩
    · have HMr := Lib.hid hM
      have HBr := Lib.hid hB
      clear hM hB
      go_wp2_with fail
      refine (H3.out wr HMr.out).mono ?_
      rintro e V2 ⟨rfl, hM, hV⟩
      have HM2 := Lib.hid hM
      have HV2 := Lib.hid (HBr.out.trans hV)
      clear hM hV
      go_wp2_with fail
      exact ⟨⟨rfl, .inr (.inr ⟨rfl, rfl⟩), HV2.out⟩, by simp [intOf]⟩
    · have HBr := Lib.hid hB
      clear hB
      go_wp2_with fail
      exact bodyPost_ret (v := .tuple #[.int .i64 195075, .bool true]) (by simp [results, Tryz.results123, go_sem]) rfl ⟨rfl, HBr.out⟩
end Go.Proofs.YtficeebbbkmhcaaGreatDoor
