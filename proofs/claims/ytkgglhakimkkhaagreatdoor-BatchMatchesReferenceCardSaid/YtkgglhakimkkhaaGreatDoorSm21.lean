/-
  The reference's Make, by contract.
  That two slices that read alike are told to be the same.
  The reference's Same of claims.
-/
import Derived.Test.YtkgglhakimkkhaaGreatDoorVb9
import Derived.Test.YtkgglhakimkkhaaGreatDoorTk
import Derived.Test.YtkgglhakimkkhaaGreatDoorVb5
import Derived.Test.YtkgglhakimkkhaaGreatDoorMr3
import Derived.Test.YtkgglhakimkkhaaGreatDoorWt2
import Derived.Test.YtkgglhakimkkhaaGreatDoorZv
namespace Go.Proofs.YtkgglhakimkkhaaGreatDoor
open Go.RowKit

theorem en_attestor_attestorref21_Make : ∀ args w, (callFunc 22 args).run Tryz.prog w = .ok (.enter 22 args) w := enters_of Tryz.func22 (by kernel_rfl) rfl
set_option maxRecDepth 100000 in
set_option maxHeartbeats 4000000 in
theorem rMakeB (T : List E) (cs : List ClW) (n : Nat) (hn : n ≤ 8) (st : List Nat) (hst : StOk st) (vt vl : Value) (lo hi lo2 hi2 : Nat) (w : World) (hT : ExtS lo2 hi2 w vt T) (hcs : ClmU lo hi w vl cs) (hTl : T.length = 2 ^ n) (hpl : ∀ x ∈ cs, x.1.p.length = n) :
    Calls Tryz.prog 22 #[vt, vl, tsV st 0] w fun e w' => ∃ v1 A cap, e = .returned (.tuple #[v1, clV (⟨(mkIt st (tabB T cs (rhT st)) n).C, mev T (mkIt st (tabB T cs (rhT st)) n).C⟩, (A, cap)), tsV (mkIt st (tabB T cs (rhT st)) n).st 1]) ∧ TabS w.heap.size w'.heap.size w' v1 (mkIt st (tabB T cs (rhT st)) n).R ∧ ExtS w.heap.size w'.heap.size w' (.slice A n cap) (mkIt st (tabB T cs (rhT st)) n).C ∧ Below w.heap.size w w' := by
  obtain ⟨S, hS⟩ : ∃ S, S = tsV st 0 := ⟨_, rfl⟩
  rw [← hS]
  obtain ⟨A, cap, rfl⟩ := hcs.len
  obtain ⟨AT, capT, rfl⟩ := Rd.len hT
  obtain ⟨ie, he0, hez0, hez1, hez2⟩ := info_parts ext_info
  obtain ⟨itr, ztr, ht0, htz0, htz1⟩ := tr_zero
  have h2n : 2 ^ n ≤ 2 ^ 8 := Nat.pow_le_pow_right (by decide) hn
  have h2p : 0 < 2 ^ n := Nat.two_pow_pos n
  have HST := Lib.hid hst
  have HS := Lib.hid (fun W (hW : Below w.heap.size w W) => rSumB T cs (rhT st) n hn (.slice AT T.length capT) (.slice A cs.length cap) lo hi lo2 hi2 W (Rd.keep hT hW) (hcs.keep hW) hTl hpl)
  have HE := Lib.hid (fun W (hW : Below w.heap.size w W) (coins : List E) (hc : coins.length = n) (AC : Option Addr) (capC lo3 hi3 : Nat) (hcn : ExtS lo3 hi3 W (.slice AC coins.length capC) coins) => show Calls Tryz.prog 41 #[.slice AT T.length capT, .slice AC coins.length capC] W (Ret (ev (mev T coins)) W) from by
    rw [← dotE_all T coins (by rw [hc, hTl])]
    exact rEval T coins (by rw [hTl]; omega) (by rw [hc]; omega) _ _ _ _ _ _ W (Rd.keep hT hW) hcn)
  have HLg := Lib.hid (fun W => show Calls Tryz.prog 36 #[.slice AT T.length capT] W (Ret (.int .i64 (n : Int)) W) from by
    rw [hTl]
    exact rLogB n (by omega) AT capT W)
  have HAL := Lib.hid (show AllLen (tabB T cs (rhT st)) (2 ^ n) from hTl ▸ tabB_all T cs (rhT st))
  clear hT hcs hpl hst
  unfold sv at HS
  change Hid (∀ W (hW : Below w.heap.size w W), Calls _ _ _ _ (fun e w' => ∃ v1 v2, e = _ ∧ SumS 0 w'.heap.size w' v1 v2 (tabB T cs (rhT st)) trmB ∧ _)) at HS
  generalize valB cs (rhT st) = yv at *
  obtain ⟨M, hM⟩ : ∃ M, M = cs.length := ⟨_, rfl⟩
  rw [← hM] at HS ⊢
  clear hM
  have HTB := Lib.hid (show (tabB T cs (rhT st)).length = 2 from rfl)
  generalize tabB T cs (rhT st) = T0 at *
  obtain ⟨NT, hNT⟩ : ∃ NT, NT = T.length := ⟨_, rfl⟩
  rw [← hNT] at HS HE HLg ⊢
  clear hNT hTl
  go_enter Tryz.func22, Tryz.ntmps22
  go_upto_region 1 with (fail)
  refine wp_stk3 fun W hB hz b1 b2 b3 => ?_
  have b1' : Blk W w.heap.size 60 (tsc st 0).toArray := by first | exact b1 | (rw [hS] at b1; exact b1)
  have b2' : Blk W (w.heap.size + 1) 42 #[.slice none 0 0, .int .u64 0, .int .u64 0] := b2
  obtain ⟨cs0, hcs0, b3'⟩ : ∃ cs : Array Value, cs.size = 33 ∧ Blk W (w.heap.size + 1 + 1) 60 cs := ⟨_, rfl, b3⟩
  have hWs : W.heap.size = w.heap.size + 1 + 1 + 1 := hz.out
  clear b1 b2 b3 hz
  refine wp_region_lit ?_
  refine wpList_plain rfl fun K1 hK1 => wp_of_step (stepAt_mono (fun v17 w17 hh => ?_) (step_loadT rfl rfl HST.out.len b1'))
  obtain ⟨rfl, rfl⟩ := hh
  refine hK1 _ _ ?_
  clear hK1 K1
  try simp only [Act.put, List.setIfInBounds_toArray, List.set_cons_succ, List.set_cons_zero]
  refine wpList_plain rfl fun K2 hK2 => wp_of_step (stepAt_mono (fun v18 w18 hh => ?_) (step_callv en_attestor_attestorref10_Challenge (rChal st 0 HST.out (by decide) bBatch (by decide) _) rfl rfl))
  obtain ⟨rfl, B18⟩ := hh
  refine hK2 _ _ ?_
  clear hK2 K2
  try simp only [Act.put, List.setIfInBounds_toArray, List.set_cons_succ, List.set_cons_zero]
  rw [show chaT st 0 (stB bBatch) = rhT st from rfl]
  iterate 1 (refine wpList_plain rfl fun K hK => ?_; go_big_op; refine hK _ _ ?_; clear hK K)
  refine wpList_plain rfl fun K4 hK4 => wp_of_step (stepAt_mono (fun v19 w19 hh => ?_) (step_ext (v := tsV st 1) rfl rfl rfl))
  obtain ⟨rfl, rfl⟩ := hh
  refine hK4 _ _ ?_
  clear hK4 K4
  try simp only [Act.put, List.setIfInBounds_toArray, List.set_cons_succ, List.set_cons_zero]
  refine wpList_plain rfl fun K5 hK5 => wp_of_step (stepAt_mono (fun v20 w20 hh => ?_) (step_ext (v := ev (rhT st)) rfl rfl rfl))
  obtain ⟨rfl, rfl⟩ := hh
  refine hK5 _ _ ?_
  clear hK5 K5
  try simp only [Act.put, List.setIfInBounds_toArray, List.set_cons_succ, List.set_cons_zero]
  have b1x := b1'.keep B18
  have b2x := b2'.keep B18
  have b3x := b3'.keep B18
  have hBx := hB.trans (B18.mono hB.size)
  have hxs : w.heap.size + 1 + 1 + 1 ≤ w20.heap.size := by have := B18.size; omega
  clear b1' b2' b3' hB B18 hWs
  refine wpList_plain rfl fun K6 hK6 => wp_of_step (stepAt_mono (fun v9 w9' hh => ?_) (step_new0 he0 hez0 rfl))
  obtain ⟨rfl, rfl⟩ := hh
  refine hK6 _ _ ?_
  clear hK6 K6
  try simp only [Act.put, List.setIfInBounds_toArray, List.set_cons_succ, List.set_cons_zero]
  have b9 : Blk (w20.alloc (.cells (Value.agg #[.int .u64 0, .int .u64 0]).cells 26)) w20.heap.size 26 (ec (0 : E)).toArray := World.alloc_heap_new w20 _
  have BA := (Below.refl _ w20).alloc (Nat.le_refl _) (.cells (Value.agg #[.int .u64 0, .int .u64 0]).cells 26)
  refine wpList_putT rfl (.tmp 5) (.tmp 21) rfl rfl rfl (b1x.keep BA) (by rw [List.size_toArray, tsc_len _ _ HST.out.len]) HST.out.len fun X hX bX => ?_
  have b2X := hX.blk (b2x.keep BA) (by omega)
  have b3X := hX.blk (b3x.keep BA) (by omega)
  have b9X := hX.blk b9 (by omega)
  have hBX := below_put (hBx.trans (BA.mono hBx.size)) hX (by omega)
  have hXs : X.heap.size = w20.heap.size + 1 := by rw [hX.size]; simp
  clear b1x b2x b3x b9 hBx hX BA
  refine wpList_putE rfl (.tmp 9) (.tmp 22) rfl rfl rfl b9X rfl fun Y hY b9Y => ?_
  have b1Y := hY.blk bX (by omega)
  have b2Y := hY.blk b2X (by omega)
  have b3Y := hY.blk b3X (by omega)
  have hBY := below_put hBX hY (by omega)
  have hYs := hY.size
  clear bX b2X b3X b9X hBX hY
  obtain ⟨rho, hrho⟩ : ∃ rho, rho = rhT st := ⟨_, rfl⟩
  rw [← hrho] at b9Y HS ⊢
  clear hrho
  have e1 := blkE0 b9Y
  have e2 := blkE1 b9Y
  obtain ⟨n9, hn9⟩ : ∃ n, n = w20.heap.size := ⟨_, rfl⟩
  rw [← hn9] at b9Y e1 e2 hxs hXs ⊢
  clear hn9
  try simp only [Act.put, List.setIfInBounds_toArray, List.set_cons_succ, List.set_cons_zero]
  unfold ev at HS
  go_upto_region 2 with (fail)
  go_wp2_with fail
  refine (HS.out Y hBY).mono ?_
  rintro e w2 ⟨v1, v2, rfl, hSm, hb2⟩
  have b12 := b1Y.keep hb2
  have b22 := b2Y.keep hb2
  have b32 := b3Y.keep hb2
  have hB2 := hBY.trans (hb2.mono hBY.size)
  have hs2 := hb2.size
  obtain ⟨A1, cp1, rfl⟩ := hSm.ht.len
  obtain ⟨A2, cp2, rfl⟩ := hSm.hp.len
  clear b1Y b2Y b3Y b9Y e1 e2 HS hBY
  go_upto_region 5 with (fail)
  refine wp_stk4 fun Z hBZ hzZ d1 d2 d3 d4 => ?_
  have hZs : Z.heap.size = w2.heap.size + 1 + 1 + 1 + 1 := hzZ.out
  obtain ⟨n10, hn10⟩ : ∃ n, n = w2.heap.size := ⟨_, rfl⟩
  rw [← hn10] at d1 d3 d4 hZs ⊢
  have b1Z := b12.keep hBZ
  have b2Z := b22.keep hBZ
  have b3Z := b32.keep hBZ
  have d3' : Blk Z (n10 + 1 + 1) 22 #[] := d3
  have d4' : Blk Z (n10 + 1 + 1 + 1) 26 #[] := d4
  have hMS : MkS n10 (n10 + 2) w (.slice A2 trmB.length cp2) (mkIt st T0 0).R (.slice (some ⟨n10 + 1 + 1, 0, none⟩) 0 0) (mkIt st T0 0).C (.slice (some ⟨n10 + 1 + 1 + 1, 0, none⟩) 0 0) (mkIt st T0 0).T (.slice A1 T0.length cp1) Z :=
    ⟨hB2.trans (hBZ.mono hB2.size), by omega, by omega, ⟨[], ⟨rfl, .inr ⟨n10 + 1 + 1, 0, #[], rfl, Nat.le_refl _, d3', Nat.le_refl _, Nat.zero_le _, rfl, rfl⟩⟩, rfl, (fun k x t h => by simp at h)⟩, ⟨rfl, .inr ⟨n10 + 1 + 1 + 1, 0, #[], rfl, by omega, d4', Nat.le_refl _, Nat.zero_le _, rfl, rfl⟩⟩, (fun g hg e => by simp [Value.ownBlock] at hg e; omega), ⟨0, w2.heap.size, by omega, hSm.ht.keep hBZ, (fun b hb => by simp [Value.ownBlock] at hb; omega), (fun b hb => by simp [Value.ownBlock] at hb; omega)⟩, by omega, by rw [hn10]; exact hSm.hp.keep hBZ⟩
  have HSP := Lib.hid (⟨hSm.ix, hSm.short⟩ : _ ∧ _)
  have hq10 : w.heap.size + 1 + 1 + 1 < n10 := by omega
  have b4Z : Blk Z n10 37 #[.slice A1 T0.length cp1, .slice A2 trmB.length cp2] := d1
  clear b12 b22 b32 hBZ hzZ d1 d2 d3 d4 d3' d4' hSm hB2 hs2 hb2 hn10 hYs hXs
  have HTM := Lib.hid (show trmB.length = 1 from rfl)
  generalize trmB.length = ntr at *
  go_wp2_with fail
  go_loopw [12, 13, 14] (fun u c i wr => ∃ j : Nat, j ≤ n ∧ i = .int .i64 j ∧ slLen u = j ∧ ∃ vt', MkS n10 (n10 + 2) w (.slice A2 ntr cp2) (mkIt st T0 j).R u (mkIt st T0 j).C c (mkIt st T0 j).T vt' wr ∧ Blk wr w.heap.size 60 (tsc (mkIt st T0 j).st 1).toArray ∧ Blk wr (w.heap.size + 1) 42 #[.slice none 0 0, .int .u64 0, .int .u64 0] ∧ Blk wr (w.heap.size + 1 + 1) 60 cs0 ∧ Blk wr n10 37 #[vt', .slice A2 ntr cp2]) (fun _ _ i _ => n - (intOf i).toNat)
  case atStart => exact ⟨0, Nat.zero_le _, rfl, rfl, _, hMS, b1Z, b2Z, b3Z, b4Z⟩
  case round =>
    clear hMS b1Z b2Z b3Z b4Z
    obtain ⟨j, hj, rfl, hlu, vt', hm, b1, b2, b3, b4⟩ := hrel
    have hNr := hm.hN
    have HNX := Lib.hid (show mkIt st T0 (j + 1) = mkStep (mkIt st T0 j) from rfl)
    have hlR := mkIt_lenR st T0 j
    have hlC := mkIt_lenC st T0 j
    have hlT := (mkIt_lenT st T0 j).trans HTB.out
    have hok := mkIt_ok st T0 HST.out j
    have hal := mkIt_all st T0 n j HAL.out hj
    have HEN := Lib.hid (show j = n → mkIt st T0 n = mkIt st T0 j from fun e => by rw [e])
    generalize mkIt st T0 j = s at *
    obtain ⟨Au, cu, hv⟩ := hm.row.rowT.len (by omega)
    rw [hlR] at hv
    subst hv
    obtain ⟨Ac, cc, hv⟩ := hm.own.len
    rw [hlC] at hv
    subst hv
    obtain ⟨AT', cT', hv⟩ : ∃ A c, vt' = .slice A s.T.length c := by
      obtain ⟨L, H, t1, t2, t3⟩ := hm.tab
      exact t2.len
    rw [hlT] at hv
    subst hv
    have HOK := Lib.hid hok
    clear hok
    go_wp2_with fail
    refine (HLg.out wr).mono ?_
    rintro e wl ⟨rfl, hbl⟩
    have hml := hm.keep hbl
    have b1l := b1.keep hbl
    have b2l := b2.keep hbl
    have b3l := b3.keep hbl
    have b4l := b4.keep hbl
    have hsl := hbl.size
    clear hm b1 b2 b3 b4 hbl
    have e4 := b4l.cell
    by_cases hlt : j < n
    · have h2m : 2 ^ (n - j) = 2 * 2 ^ (n - 1 - j) := by rw [← Nat.pow_succ']; congr 1; omega
      have hm2 : 2 ^ (n - 1 - j) ≤ 256 := Nat.le_trans (Nat.pow_le_pow_right (by decide) (show n - 1 - j ≤ 8 by omega)) (by decide)
      have hm0 : 0 < 2 ^ (n - 1 - j) := Nat.two_pow_pos _
      rw [h2m] at hal
      generalize 2 ^ (n - 1 - j) = m at *
      have HA := Lib.hid hal
      clear hal h2m
      go_wp2_with fail
      obtain ⟨L, H, t1, t2, t3, t4⟩ := hml.tab
      have HPw := Lib.hid (show SumS 0 wl.heap.size wl (.slice AT' 2 cT') (.slice A2 ntr cp2) s.T trmB from ⟨t2.base, hml.trm.base, by rw [hlT, ← HTB.out]; exact HSP.out.1, by decide, HSP.out.2⟩)
      refine (rRound s.T trmB m HA.out (by omega) (by omega) (by omega) _ _ 0 wl.heap.size wl HPw.out).mono ?_
      rintro e w3 ⟨v3, rfl, hE3, hb3⟩
      replace hE3 : ExtS wl.heap.size w3.heap.size w3 v3 (rndE s.T trmB) := hE3
      have hglen : (rndE s.T trmB).length ≤ 10000 := by rw [rndE_length]; decide
      obtain ⟨A3, k3, rfl⟩ := Rd.len hE3
      have HST2 := Lib.hid (show mkStep s = ⟨s.R ++ [rndE s.T trmB], s.C ++ [coT (rdT s.st (rndE s.T trmB))], rdT s.st (rndE s.T trmB), bndE s.T (coT (rdT s.st (rndE s.T trmB)))⟩ from rfl)
      generalize rndE s.T trmB = g at *
      have hm3 := hml.keep hb3
      have b13 := b1l.keep hb3
      have b23 := b2l.keep hb3
      have b33 := b3l.keep hb3
      have b43 := b4l.keep hb3
      have hos := hml.outR (hi := w3.heap.size) (Nat.le_refl _)
      have hNl := hml.hN
      have hs3 := hb3.size
      clear HPw hml b1l b2l b3l b4l e4 t1 t2 t3 t4 hb3
      go_upto_region 9 with (fail)
      refine wp_region_lit ?_
      iterate 3 (refine wpList_plain rfl fun K hK => ?_; go_big_op; refine hK _ _ ?_; clear hK K)
      refine wpList_mkR (y := g) (lo := wl.heap.size) (hi := w3.heap.size) rfl _ _ rfl rfl rfl (hm3.keep (below_al1 w3 _)) (blk_al1 w3 _ _) (Rd.keep hE3 (below_al1 w3 _)) hNl (below_al1 w3 _).size hos.1 hos.2 (by omega) fun v4 w4 hm4 hl4 => ?_
      obtain ⟨A4, c4, hv4⟩ := hm4.row.rowT.len (by rw [List.length_append, hlR]; show j + 1 ≤ _; omega)
      rw [List.length_append, hlR] at hv4
      subst hv4
      have hE4 := Lib.hid (show ExtS wl.heap.size w3.heap.size w4 (.slice A3 g.length k3) g from hl4.rd (Rd.keep hE3 (below_al1 w3 _)) hos.1)
      have b14 := hl4.low (hm3.keep (below_al1 w3 _)) (b13.keep (below_al1 w3 _)) (by omega)
      have b24 := hl4.low (hm3.keep (below_al1 w3 _)) (b23.keep (below_al1 w3 _)) (by omega)
      have b34 := hl4.low (hm3.keep (below_al1 w3 _)) (b33.keep (below_al1 w3 _)) (by omega)
      have b44 := hl4.low (hm3.keep (below_al1 w3 _)) (b43.keep (below_al1 w3 _)) (by omega)
      clear hm3 b13 b23 b33 b43 hl4 hE3 hos
      try simp only [Act.put, List.setIfInBounds_toArray, List.set_cons_succ, List.set_cons_zero]
      go_upto_region 10 with (fail)
      refine wp_region_lit ?_
      refine wpList_plain rfl fun K10 hK10 => wp_of_step (stepAt_mono (fun v44 w44 hh => ?_) (step_loadT rfl rfl HOK.out.len b14))
      obtain ⟨rfl, rfl⟩ := hh
      refine hK10 _ _ ?_
      clear hK10 K10
      try simp only [Act.put, List.setIfInBounds_toArray, List.set_cons_succ, List.set_cons_zero]
      iterate 1 (refine wpList_plain rfl fun K hK => ?_; go_big_op; refine hK _ _ ?_; clear hK K)
      refine wpList_plain rfl fun K12 hK12 => wp_of_step (stepAt_mono (fun v46 w46 hh => ?_) (step_callv en_attestor_attestorref10_AbsorbExt (rAbsExt s.st 1 HOK.out bRound (by decide) g hglen _ wl.heap.size w3.heap.size _ hE4.out) rfl rfl))
      obtain ⟨rfl, B46⟩ := hh
      refine hK12 _ _ ?_
      clear hK12 K12
      try simp only [Act.put, List.setIfInBounds_toArray, List.set_cons_succ, List.set_cons_zero]
      rw [show absT s.st (stB bRound) (exB g) = rdT s.st g from rfl]
      have hm5 := hm4.keep B46
      have b15 := b14.keep B46
      have b25 := b24.keep B46
      have b35 := b34.keep B46
      have b45 := b44.keep B46
      clear hm4 b14 b24 b34 b44 B46 hE4
      refine wpList_putT rfl (.tmp 5) (.tmp 46) rfl rfl rfl b15 (by rw [List.size_toArray, tsc_len _ _ HOK.out.len]) (rdT_ok s.st g).len fun X6 hX6 b16 => ?_
      have hm6 := hm5.putT hX6 (by omega) (Nat.le_refl _) HOK.out.len b15
      have b26 := hX6.blk b25 (by omega)
      have b36 := hX6.blk b35 (by omega)
      have b46 := hX6.blk b45 (by omega)
      clear hm5 b15 b25 b35 b45 hX6
      have HSP2 := Lib.hid (rdT_ok s.st g)
      try simp only [Act.put, List.setIfInBounds_toArray, List.set_cons_succ, List.set_cons_zero]
      go_upto_region 11 with (fail)
      refine wp_region_lit ?_
      refine wpList_plain rfl fun K14 hK14 => wp_of_step (stepAt_mono (fun v48 w48 hh => ?_) (step_loadT rfl rfl HSP2.out.len b16))
      obtain ⟨rfl, rfl⟩ := hh
      refine hK14 _ _ ?_
      clear hK14 K14
      try simp only [Act.put, List.setIfInBounds_toArray, List.set_cons_succ, List.set_cons_zero]
      refine wpList_plain rfl fun K15 hK15 => wp_of_step (stepAt_mono (fun v49 w49 hh => ?_) (step_callv en_attestor_attestorref10_Challenge (rChal (rdT s.st g) 0 HSP2.out (by decide) bCoin (by decide) _) rfl rfl))
      obtain ⟨rfl, B49⟩ := hh
      refine hK15 _ _ ?_
      clear hK15 K15
      try simp only [Act.put, List.setIfInBounds_toArray, List.set_cons_succ, List.set_cons_zero]
      rw [show chaT (rdT s.st g) 0 (stB bCoin) = coT (rdT s.st g) from rfl]
      iterate 1 (refine wpList_plain rfl fun K hK => ?_; go_big_op; refine hK _ _ ?_; clear hK K)
      refine wpList_plain rfl fun K17 hK17 => wp_of_step (stepAt_mono (fun v50 w50 hh => ?_) (step_ext (v := tsV (rdT s.st g) 1) rfl rfl rfl))
      obtain ⟨rfl, rfl⟩ := hh
      refine hK17 _ _ ?_
      clear hK17 K17
      try simp only [Act.put, List.setIfInBounds_toArray, List.set_cons_succ, List.set_cons_zero]
      refine wpList_plain rfl fun K18 hK18 => wp_of_step (stepAt_mono (fun v51 w51 hh => ?_) (step_ext (v := ev (coT (rdT s.st g))) rfl rfl rfl))
      obtain ⟨rfl, rfl⟩ := hh
      refine hK18 _ _ ?_
      clear hK18 K18
      try simp only [Act.put, List.setIfInBounds_toArray, List.set_cons_succ, List.set_cons_zero]
      have hm7 := hm6.keep B49
      have b17 := b16.keep B49
      have b27 := b26.keep B49
      have b37 := b36.keep B49
      have b47 := b46.keep B49
      clear hm6 b16 b26 b36 b46 B49
      refine wpList_plain rfl fun K19 hK19 => wp_of_step (stepAt_mono (fun v16 w16 hh => ?_) (step_new0 ht0 htz0 rfl))
      obtain ⟨rfl, rfl⟩ := hh
      refine hK19 _ _ ?_
      clear hK19 K19
      try simp only [Act.put, List.setIfInBounds_toArray, List.set_cons_succ, List.set_cons_zero]
      have d16 : Blk (w51.alloc (.cells ztr.cells 60)) w51.heap.size 60 ztr.cells := blk_al1 w51 _ _
      have B16 := below_al1 w51 (.cells ztr.cells 60)
      have hsA : (w51.alloc (.cells ztr.cells 60)).heap.size = w51.heap.size + 1 := by simp
      have hN7 := hm7.hN
      obtain ⟨n16, hn16⟩ : ∃ n, n = w51.heap.size := ⟨_, rfl⟩
      rw [← hn16] at d16 hsA hN7 ⊢
      have hn16a : w51.heap.size ≤ n16 := by omega
      clear hn16
      generalize w51.alloc (.cells ztr.cells 60) = W9 at *
      refine wpList_plain rfl fun K20 hK20 => wp_of_step (stepAt_mono (fun v17 w17 hh => ?_) (step_new0 he0 hez0 rfl))
      obtain ⟨rfl, rfl⟩ := hh
      refine hK20 _ _ ?_
      clear hK20 K20
      try simp only [Act.put, List.setIfInBounds_toArray, List.set_cons_succ, List.set_cons_zero]
      have d17 : Blk (W9.alloc (.cells (Value.agg #[.int .u64 0, .int .u64 0]).cells 26)) W9.heap.size 26 (ec (0 : E)).toArray := blk_al1 W9 _ _
      have B17 := below_al1 W9 (.cells (Value.agg #[.int .u64 0, .int .u64 0]).cells 26)
      rw [hsA] at d17 ⊢
      have d16b := d16.keep B17
      have hBk := B16.trans (B17.mono B16.size)
      clear d16 B16 B17 hsA
      generalize W9.alloc (.cells (Value.agg #[.int .u64 0, .int .u64 0]).cells 26) = WA at *
      refine wpList_putT rfl (.tmp 16) (.tmp 50) rfl rfl rfl d16b htz1 (rdT_ok s.st g).len fun XB hXB d16B => ?_
      have d17B := hXB.blk d17 (by omega)
      have hBB := below_put hBk hXB hn16a
      clear d16b d17 hBk hXB
      refine wpList_putE rfl (.tmp 17) (.tmp 51) rfl rfl rfl d17B rfl fun XC hXC d17C => ?_
      have d16C := hXC.blk d16B (by omega)
      have hBC := below_put hBB hXC (by omega)
      have hne17 := hm7.cLt (g := n16 + 1) (by omega)
      have hm8 := hm7.keep hBC
      have b18 := b17.keep hBC
      have b28 := b27.keep hBC
      have b38 := b37.keep hBC
      have b48 := b47.keep hBC
      clear hm7 b17 b27 b37 b47 hBC hXC hBB d16B d17B
      try simp only [Act.put, List.setIfInBounds_toArray, List.set_cons_succ, List.set_cons_zero]
      go_upto_region 12 with (fail)
      refine wp_region_lit ?_
      refine wpList_plain rfl fun K22 hK22 => wp_of_step (stepAt_mono (fun v52 w52 hh => ?_) (step_loadT rfl rfl HSP2.out.len d16C))
      obtain ⟨rfl, rfl⟩ := hh
      refine hK22 _ _ ?_
      clear hK22 K22
      try simp only [Act.put, List.setIfInBounds_toArray, List.set_cons_succ, List.set_cons_zero]
      refine wpList_putT rfl (.tmp 5) (.tmp 52) rfl rfl rfl b18 (by rw [List.size_toArray, tsc_len _ _ HSP2.out.len]) HSP2.out.len fun XD hXD b1D => ?_
      have hmD := hm8.putT hXD (by omega) (Nat.le_refl _) HSP2.out.len b18
      have b2D := hXD.blk b28 (by omega)
      have b3D := hXD.blk b38 (by omega)
      have b4D := hXD.blk b48 (by omega)
      have d17D := hXD.blk d17C (by omega)
      clear hm8 b18 b28 b38 b48 d16C d17C hXD
      have e1 := blkE0 d17D
      have e2 := blkE1 d17D
      generalize coT (rdT s.st g) = y at *
      try simp only [Act.put, List.setIfInBounds_toArray, List.set_cons_succ, List.set_cons_zero]
      go_upto_region 13 with (fail)
      refine wp_region_lit ?_
      iterate 2 (refine wpList_plain rfl fun K hK => ?_; go_big_op; refine hK _ _ ?_; clear hK K)
      refine wpList_plain rfl fun K25 hK25 => wp_of_step (stepAt_mono (fun v55 w55 hh => ?_) (step_litX (y := y) rfl rfl))
      obtain ⟨⟨rfl, hl55, b55⟩, B55⟩ := hh
      refine hK25 _ _ ?_
      clear hK25 K25
      try simp only [Act.put, List.setIfInBounds_toArray, List.set_cons_succ, List.set_cons_zero]
      have hmE := hmD.keep B55
      have b1E := b1D.keep B55
      have b2E := b2D.keep B55
      have b3E := b3D.keep B55
      have b4E := b4D.keep B55
      have d17E := d17D.keep B55
      clear hmD b1D b2D b3D b4D d17D e1 e2
      refine wpList_mkC rfl _ _ rfl rfl rfl hmE b55 (by omega) fun v56 w56 hmF hl56 => ?_
      obtain ⟨A5, c5, hv5⟩ := hmF.own.len
      rw [List.length_append, hlC] at hv5
      subst hv5
      have b1F := hl56.lowC hmE b1E (by omega)
      have b2F := hl56.lowC hmE b2E (by omega)
      have b3F := hl56.lowC hmE b3E (by omega)
      have b4F := hl56.lowC hmE b4E (by omega)
      have d17F := hl56.1 _ _ _ d17E hne17
      clear hmE b1E b2E b3E b4E d17E hl56 B55 b55
      have e1 := blkE0 d17F
      have e2 := blkE1 d17F
      have e4 := b4F.cell
      try simp only [Act.put, List.setIfInBounds_toArray, List.set_cons_succ, List.set_cons_zero]
      go_upto_region 14 with (fail)
      go_wp2_with fail
      obtain ⟨L5, H5, t15, t25, t35, t45⟩ := hmF.tab
      have HBd := Lib.hid (show Calls Tryz.prog 63 #[.agg #[.slice AT' 2 cT', .slice A2 ntr cp2], .agg #[.int .u64 (fv y.a), .int .u64 (fv y.b)]] w56 _ from rBindS s.T y m HA.out (by omega) (by omega) (.slice AT' 2 cT') (.slice A2 ntr cp2) L5 H5 w56 t25 ⟨_, _, _, rfl⟩)
      refine HBd.out.mono ?_
      rintro e w6 ⟨v6, rfl, ⟨vt6, rfl, hT6⟩, hb6⟩
      obtain ⟨A6, c6, rfl⟩ := hT6.len
      unfold sv
      have hm6 := hmF.keep hb6
      have hoo := hmF.outR (hi := w6.heap.size) (Nat.le_refl _)
      have hn5 := hmF.hN
      have b46 := b4F.keep hb6
      have b16 := b1F.keep hb6
      have b26 := b2F.keep hb6
      have b36 := b3F.keep hb6
      have h66 := hb6.size
      have e6 := b46.cell
      have f6 := b46.frozen
      clear e1 e2 e4 d17F b1F b2F b3F b4F HBd t15 t25 t35 t45 hmF hb6
      go_upto_region 7 with (fail)
      refine set2 (M := fun W => Code.wp _ _ _ _ W) b46 fun Y hY bY => ?_
      have hm7 := hm6.put' hY (by omega) (by omega) ⟨w56.heap.size, w6.heap.size, by rw [hY.size]; exact Nat.le_refl _, hT6.put hY (.inl (by omega)), hoo.1, hoo.2⟩ (trm_other hm6.trm (by rw [hY.size]; exact Nat.le_refl _) fun k _ h2 _ => hY.other k (by omega))
      have b1Y := hY.blk b16 (by omega)
      have b2Y := hY.blk b26 (by omega)
      have b3Y := hY.blk b36 (by omega)
      clear hm6 b16 b26 b36 b46 hoo hT6 e6 f6 hY
      have HM7 := Lib.hid hm7
      have HB7 := Lib.hid bY
      clear hm7 bY
      go_wp2_with fail
      exact ⟨⟨j + 1, by omega, by go_num, rfl, _, by rw [HNX.out, HST2.out]; exact HM7.out, by rw [HNX.out, HST2.out]; exact b1Y, b2Y, b3Y, HB7.out⟩, by simp [intOf]; omega⟩
    · obtain rfl : j = n := by omega
      have HE0 := Lib.hid (HEN.out rfl)
      have HRW := Lib.hid (hml.row.rowT.tabs (by omega))
      have hcw : ExtS (n10 + 2) wl.heap.size wl (.slice Ac j cc) s.C := hml.own.ext (by omega) (Nat.le_refl _)
      have HCW := Lib.hid hcw
      have hBr := hml.hB
      have HEc := Lib.hid (fun W1 (hW : Below wl.heap.size wl W1) => show Calls Tryz.prog 41 #[.slice AT NT capT, .slice Ac j cc] W1 (Ret (ev (mev T s.C)) W1) from by
        have := HE.out W1 (hBr.trans (hW.mono hBr.size)) s.C hlC Ac cc (n10 + 2) wl.heap.size (by rw [hlC]; exact Rd.keep HCW.out hW)
        rwa [hlC] at this)
      have hNl := hml.hN
      obtain ⟨x0, hx0⟩ : ∃ x0, x0 = mev T s.C := ⟨_, rfl⟩
      rw [← hx0] at HEc
      have HX0 := Lib.hid hx0
      clear hx0
      clear hml hcw HE HAL e4 hal
      go_upto_region 15 with (fail)
      refine wp_region_swap 8 6 undef [(4, Spec.val (.agg #[.int .u64 (fv (x0).a), .int .u64 (fv (x0).b)])), (6, Spec.val (tsV s.st 1))] (by kernel_rfl) (by kernel_rfl) (by kernel_rfl) rfl rfl rfl rfl trivial ?_ ?_
      iterate 4 (refine rg_det rfl rfl rfl (fun K hK => ?_); go_big_quiet_op; refine hK _ ?_; clear hK K)
      refine rg_val rfl rfl (fun W1 hW1 hF => step_callv en_attestor_attestorref05_Eval (HEc.out W1 (grw_below hW1)) rfl rfl) ?_
      intro a' ha
      simp only [Act.put, List.setIfInBounds_toArray, List.set_cons_succ, List.set_cons_zero] at ha
      subst ha
      refine rg_det rfl rfl rfl (fun K hK => ?_)
      go_big_quiet_op
      refine hK _ ?_; clear hK K
      refine rg_val rfl rfl (fun W1 hW1 hF => step_loadTB rfl rfl HOK.out.len (b1l.below (grw_below hW1) b1l.lt)) ?_
      intro a' ha
      simp only [Act.put, List.setIfInBounds_toArray, List.set_cons_succ, List.set_cons_zero] at ha
      subst ha
      refine rg_det rfl rfl rfl (fun K hK => ?_)
      go_big_quiet_op
      refine hK _ ?_; clear hK K
      refine rg_nil (fun w' hw' hF => ?_)
      obtain ⟨y, rfl⟩ := hw'
      simp only [List.drop_succ_cons, List.drop_zero]
      rotate_left 1
      iterate 4 (refine rg_det rfl rfl rfl (fun K hK => ?_); go_big_quiet_op; refine hK _ ?_; clear hK K)
      refine rg_val rfl rfl (fun W1 hW1 hF => step_callv en_attestor_attestorref05_Eval (HEc.out W1 (grw_below hW1)) rfl rfl) ?_
      intro a' ha
      simp only [Act.put, List.setIfInBounds_toArray, List.set_cons_succ, List.set_cons_zero] at ha
      subst ha
      refine rg_det rfl rfl rfl (fun K hK => ?_)
      go_big_quiet_op
      refine hK _ ?_; clear hK K
      refine rg_pass rfl rfl ?_
      intro a' ha
      simp only [Act.put, List.setIfInBounds_toArray, List.set_cons_succ, List.set_cons_zero] at ha
      subst ha
      refine rg_det rfl rfl rfl (fun K hK => ?_)
      go_big_quiet_op
      refine hK _ ?_; clear hK K
      refine rg_nil (fun w' hw' hF => ?_)
      obtain ⟨y, rfl⟩ := hw'
      simp only [List.drop_succ_cons, List.drop_zero]
      refine wpList_putS ?_
      intro a' ha
      simp only [Act.put, List.setIfInBounds_toArray, List.set_cons_succ, List.set_cons_zero] at ha
      subst ha
      rotate_right 1
      all_goals
        clear hF
        have b1z := b1l.gw y
        have b2z := b2l.gw y
        have b3z := b3l.gw y
        have hBz := hBr.trans (y.h.mono hBr.size)
        have hys := y.h.size
        have hRz := HRW.out.keep y.h
        have hCz : ExtS (n10 + 2) wl.heap.size y.w (.slice Ac j cc) s.C := Rd.keep HCW.out y.h
        refine wpList_put rfl 42 (.tmp 7) (.tmp 65) rfl rfl (cells := [.slice Ac j cc, .int .u64 (fv x0.a), .int .u64 (fv x0.b)]) rfl b2z (by show 0 + 3 ≤ 3; decide) claim_size rfl (spl_all _ _ rfl) fun Z hZ bZ => ?_
        have b1Z := hZ.blk b1z (by omega)
        have b3Z := hZ.blk b3z (by omega)
        have hRZ := hRz.put hZ (.inl (by omega))
        have hCZ : ExtS (n10 + 2) wl.heap.size Z (.slice Ac j cc) s.C := hZ.rd hCz (.inl (by omega))
        have hBZ := below_put hBz hZ (by omega)
        have hZs := hZ.size
        clear b1z b2z b3z hBz hRz hCz
      rotate_left 1
      simp only [Act.put, List.setIfInBounds_toArray, List.set_cons_succ, List.set_cons_zero]
      refine wpList_plain rfl fun K hK => wp_of_step (stepAt_mono (fun v w' hh => ?_) (step_loadT rfl rfl HOK.out.len b1Z))
      obtain ⟨rfl, rfl⟩ := hh
      refine hK _ _ ?_
      clear hK K
      rotate_right 1
      all_goals
        refine wpList_putT rfl (.tmp 8) (.tmp 66) rfl rfl rfl b3Z hcs0 HOK.out.len fun V hV bV => ?_
        have bZV := hV.blk bZ (by omega)
        have hRV := hRZ.put hV (.inl (by omega))
        have hCV : ExtS (n10 + 2) wl.heap.size V (.slice Ac j cc) s.C := hV.rd hCZ (.inl (by omega))
        have hBV := below_put hBZ hV (by omega)
        have hVs := hV.size
        go_wp2_with fail
        refine bodyPost_ret (v := .tuple #[.slice Au j cu, .agg #[.slice Ac j cc, .int .u64 (fv x0.a), .int .u64 (fv x0.b)], tsV s.st 1]) (res_three (c1 := [.slice Ac j cc, .int .u64 (fv x0.a), .int .u64 (fv x0.b)]) (c2 := tsc s.st 1) rfl rfl rfl rfl Tryz.underlying42 rfl claim_size bZV Tryz.underlying60 rfl (by rw [tr_size, tsc_len _ _ HOK.out.len]) bV) rfl ?_
        rw [HE0.out, ← HX0.out]
        exact ⟨.slice Au j cu, Ac, cc, by unfold clV clc ptV; rw [hlC], hRV.wide (by omega) (by omega), Rd.wide hCV (by omega) (by omega), hBV⟩
end Go.Proofs.YtkgglhakimkkhaaGreatDoor
namespace Go.Proofs.YtkgglhakimkkhaaGreatDoor
open Go.RowKit

set_option maxRecDepth 100000 in
set_option maxHeartbeats 1000000 in
theorem xSame (xs : List E) (v1 v2 : Value) (lo1 hi1 lo2 hi2 : Nat) (w : World) (h1 : ExtS lo1 hi1 w v1 xs) (h2 : ExtS lo2 hi2 w v2 xs) :
    Calls Tryz.prog 42 #[v1, v2] w (Ret (.bool true) w) := by
  obtain ⟨A1, cap1, rfl⟩ := h1.len
  obtain ⟨A2, cap2, rfl⟩ := h2.len
  have hlen := h1.2.1
  have hnn : (((xs.length : Int) != (xs.length : Int))) = false := by simp
  go_enter Tryz.func42, Tryz.ntmps42
  go_wp2
  go_loopw [5] (fun i wr => ∃ k : Nat, k ≤ xs.length ∧ i = .int .i64 k ∧ Below w.heap.size w wr) (fun i _ => xs.length - (intOf i).toNat)
  case atStart => exact ⟨0, Nat.zero_le _, rfl, Below.refl _ _⟩
  case round =>
    obtain ⟨k, hk, rfl, hB⟩ := hrel
    by_cases hlt : k < xs.length
    · obtain ⟨g, off, cap', hv, q1, q2, q3, q4, q5⟩ := exts_cells h1 (by omega)
      cases hv
      obtain ⟨g', off', cap'', hv, r1, r2, r3, r4, r5⟩ := exts_cells h2 (by omega)
      cases hv
      obtain ⟨x, hx⟩ : ∃ x, xs[k]? = some x := ⟨xs[k], List.getElem?_eq_getElem hlt⟩
      obtain ⟨d1, d2⟩ := q5 k x hx
      obtain ⟨d3, d4⟩ := r5 k x hx
      have c1 := gw_cell (W := wr) (Nat.lt_of_lt_of_le q4 hB.size) ((hB.cell (p := ⟨g, off + k * 2, none⟩) q4).trans d1)
      have c2 := gw_cell (W := wr) (Nat.lt_of_lt_of_le q4 hB.size) ((hB.cell (p := ⟨g, off + k * 2 + 1, none⟩) q4).trans d2)
      have c3 := gw_cell (W := wr) (Nat.lt_of_lt_of_le r4 hB.size) ((hB.cell (p := ⟨g', off' + k * 2, none⟩) r4).trans d3)
      have c4 := gw_cell (W := wr) (Nat.lt_of_lt_of_le r4 hB.size) ((hB.cell (p := ⟨g', off' + k * 2 + 1, none⟩) r4).trans d4)
      clear q5 r5 d1 d2 d3 d4 hx h1 h2
      go_wp2
      refine wp_region_rg 9 [] (by kernel_rfl) (by kernel_rfl) (by kernel_rfl) trivial ?_
      iterate 9 (refine rg_det rfl rfl rfl (fun K hK => ?_); go_big_quiet_op; refine hK _ ?_; clear hK K)
      refine rg_nil (fun w' hw' hF => ?_)
      obtain ⟨z, rfl⟩ := hw'
      simp only [List.drop_succ_cons, List.drop_zero]
      go_wp2
      exact ⟨⟨k + 1, by omega, by go_num, hB.trans (z.h.mono hB.size)⟩, by simp [intOf]; omega⟩
    · go_wp2
      go_ret
      exact ⟨rfl, hB⟩
end Go.Proofs.YtkgglhakimkkhaaGreatDoor
namespace Go.Proofs.YtkgglhakimkkhaaGreatDoor
open Go.RowKit

attribute [local irreducible] wpRg
set_option maxRecDepth 100000 in
set_option maxHeartbeats 2000000 in
theorem rSame21 (p : List E) (y : E) (A1 A2 : Option Addr) (c1 c2 lo hi lo2 hi2 : Nat) (w : World) (h1 : ExtS lo hi w (.slice A1 p.length c1) p) (h2 : ExtS lo2 hi2 w (.slice A2 p.length c2) p) :
    Calls Tryz.prog 12 #[clV (⟨p, y⟩, (A1, c1)), clV (⟨p, y⟩, (A2, c2))] w (Ret (.bool true) w) := by
  have HS := Lib.hid (fun W (hW : Below w.heap.size w W) => xSame p _ _ _ _ _ _ W (Rd.keep h1 hW) (Rd.keep h2 hW))
  clear h1 h2
  unfold clV clc ptV
  dsimp only
  generalize p.length = n at *
  go_enter Tryz.func12, Tryz.ntmps12
  go_upto_region 1 with (fail)
  refine wp_stk2 fun W hB hz b1 b2 => ?_
  have e1 := b1.cell
  have e2 := b2.cell
  clear hz
  go_wp2_with fail
  refine (HS.out W hB).mono ?_
  rintro e w2 ⟨rfl, hb2⟩
  clear e1 e2
  go_wp2_with fail
  go_ret
  exact ⟨rfl, hB.trans (hb2.mono hB.size)⟩
end Go.Proofs.YtkgglhakimkkhaaGreatDoor
