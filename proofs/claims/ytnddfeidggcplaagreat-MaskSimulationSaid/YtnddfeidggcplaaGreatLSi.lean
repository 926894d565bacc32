/-
  MaskSimulation: the walk.
-/
import Derived.Test.YtnddfeidggcplaaGreatZ32
import Derived.Test.YtnddfeidggcplaaGreatMs32
namespace Go.Proofs.YtnddfeidggcplaaGreat
open Go.RowKit

structure Y32 (w : World) (x : Sc32) (gV gS : Nat) (AC AL : Option Addr) (cC cL : Nat) (X : World) : Prop where
  hC : ExtS 0 X.heap.size X (.slice AC x.n cC) x.co
  hL : ExtS 0 X.heap.size X (.slice AL x.l cL) x.rn
  bV : Blk X gV 30 #[.int .u64 (fv x.v.a), .int .u64 (fv x.v.b)]
  bS : Blk X gS 57 #[.slice AC x.n cC, .int .i64 (x.d : Int), .slice AL x.l cL, .int .u64 (fv x.fin.a), .int .u64 (fv x.fin.b)]
  hw : Below w.heap.size w X
theorem Y32.keep {w : World} {x : Sc32} {gV gS : Nat} {AC AL : Option Addr} {cC cL : Nat} {X Y : World} (h : Y32 w x gV gS AC AL cC cL X) (hb : Below X.heap.size X Y) : Y32 w x gV gS AC AL cC cL Y :=
  ⟨ext_base (Rd.keep h.hC hb), ext_base (Rd.keep h.hL hb), h.bV.keep hb, h.bS.keep hb, h.hw.trans (hb.mono h.hw.size)⟩
theorem basE_fz (k : Nat) : eb (fz (-1)) :: 1 :: List.replicate k 0 = basE k := by
  show _ = intE (-1) :: intE 1 :: List.replicate k 0
  rw [one_int, show intE (-1) = eb (fz (-1)) by decide +kernel]
attribute [local irreducible] wpRg
set_option maxRecDepth 100000 in
set_option maxHeartbeats 4000000 in
theorem wkMaskSimulation (x : Sc32) (xC xR : Value) (w : World) (h : Sc32S w.heap.size w x xC xR) :
    Calls Tryz.prog 7 #[sc32 xC xR x] w (Ret (.bool true) w) := by
  have hn4 := x.n_le
  have hd3 := x.d_le
  have hl20 := x.l_le
  have HQ := Lib.hid (fun W (hW : Below w.heap.size w W) => lSim32 x xC xR W (h.keep hW hW.size))
  unfold sc32 at *
  clear h
  go_enter Tryz.func7, Tryz.ntmps7
  go_wp2_with fail
  refine calls_stk1 fun W1 hB1 hz1 b1 => ?_
  refine (lSanity32a W1).mono ?_
  rintro e w1 ⟨rfl, hb1⟩
  have h1 := hB1.trans (hb1.mono hB1.size)
  have f1 := (b1.keep hb1).cell
  go_wp2_with fail
  refine (HQ.out w1 h1).mono ?_
  rintro e w2 ⟨AC, cC, AL, cL, rfl, hC, hL, hb2⟩
  clear f1
  unfold ev
  go_upto_region 3 with (fail)
  refine wp_stk2 fun X hX hzX b4 b5 => ?_
  have h2 := h1.trans (hb2.mono h1.size)
  have hY : Y32 w x w2.heap.size (w2.heap.size + 1) AC AL cC cL X := ⟨ext_base (Rd.keep hC hX), ext_base (Rd.keep hL hX), b4, b5, h2.trans (hX.mono h2.size)⟩
  clear hC hL b4 b5 hX hzX hb2 h1 h2 hB1 hz1 b1 hb1 HQ
  have e4 := hY.bV.cell
  have e5 := hY.bS.cell
  go_wp2_with fail
  have hS := gSimulate x.v x.co x.rn x.d x.fin (by omega) (by omega) x.n x.co_len (by omega) AC AL cC cL _ _ _ _ X hY.hC (by rw [x.rn_len]; exact hY.hL)
  rw [x.rn_len] at hS
  unfold ev at hS
  with_reducible refine Calls.mono hS ?_
  rintro e w3 ⟨vr, rfl, hR, hb3⟩
  have hY3 := hY.keep hb3
  obtain ⟨AR, cR, rfl⟩ := hR.len
  replace hR := TabS.base hR
  obtain ⟨rs, hrs⟩ : ∃ rs, rs = simE x.v x.co x.rn x.d x.fin := ⟨_, rfl⟩
  rw [← hrs] at hR ⊢
  obtain ⟨lr, hlr⟩ : ∃ lr, lr = rs.length := ⟨_, rfl⟩
  rw [← hlr]
  have hle : lr ≤ x.n := by rw [hlr, hrs, ← x.co_len]; exact simE_le _ _ _ _ _
  have HFa := Lib.hid (fun (h : lr ≠ 0) => simE_facts x.v x.co x.rn x.d x.fin (by omega) (by rw [← hrs, ← hlr]; exact h))
  have HOk := Lib.hid (fun (h : lr ≠ 0) => simE_ok x.v x.co x.rn x.d x.fin (by omega) (by omega) (by rw [← hrs, ← hlr]; exact h))
  have HZ := Lib.hid (fun (h : 0 < x.n) => simE_len0 x.v x.co x.rn x.d x.fin (by omega) (by rw [x.co_len]; exact h))
  rw [← hrs] at HFa HOk HZ
  rw [← hlr] at HZ
  have HLR := Lib.hid hlr
  have HCL := Lib.hid x.co_len
  have HRL := Lib.hid x.rn_len
  clear hrs hlr hY hb3 e4 e5 hS
  have bS3 := hY3.bS
  have bV3 := hY3.bV
  have hC3 := hY3.hC
  have hL3 := hY3.hL
  have hw3 := hY3.hw
  have e5 := bS3.cell
  by_cases h0 : x.n = 0
  · have hl0 : lr = 0 := by omega
    have q0 : ((x.n : Int) == 0) = true := by rw [h0]; rfl
    clear hR
    subst hl0
    go_wp2_with fail
    go_ret
    exact ⟨rfl, hw3⟩
  · have q0 : ((x.n : Int) == 0) = false := by simp; omega
    have mk := mk_ext (x.d + 1) (by omega) w3
    rw [show ((x.d + 1 : Nat) : Int) = (x.d : Int) + 1 from rfl] at mk
    go_upto_region 8 with (fail)
    refine wp_stk1 fun X4 hX4 hz4 bB => ?_
    clear e5 mk
    go_wp2_with fail
    refine (xFromInt (-1) (by decide) (by decide) X4).mono ?_
    rintro e w4 ⟨he, hb4⟩
    unfold ev at he
    subst he
    have bB4 := bB.keep hb4
    obtain ⟨s1, s2⟩ := blk_cellE bB4 (k := 0) (x := 0) (by simp)
    have e1 := bB4.frozen
    go_upto_region 9 with (fail)
    refine setE1 (M := fun W => Code.wp _ _ _ _ W) bB4 0 _ _ (eb (fz (-1))) rfl rfl (by simp) fun X5 p5 bB5 => ?_
    have h35 := below_put (hX4.trans (hb4.mono hX4.size)) p5 (Nat.le_refl _)
    clear s1 s2 e1 bB bB4 hX4 hb4 p5 hz4
    go_wp2_with fail
    refine (xOne X5).mono ?_
    rintro e w5 ⟨he, hb5⟩
    unfold ev at he
    subst he
    have bB6 := bB5.keep hb5
    obtain ⟨d, hd⟩ : ∃ d, x.d = d + 1 := ⟨x.d - 1, by omega⟩
    have HD := Lib.hid hd
    clear hd
    obtain ⟨s1, s2⟩ := blk_cellE bB6 (k := 1) (x := 0) (by rw [HD.out]; simp)
    have e1 := bB6.frozen
    go_upto_region 10 with (fail)
    refine setE1 (M := fun W => Code.wp _ _ _ _ W) bB6 1 _ _ 1 rfl rfl (by rw [HD.out]; simp) fun X6 p6 bB7 => ?_
    have h36 := below_put (h35.trans (hb5.mono h35.size)) p6 (Nat.le_refl _)
    have bBs : Blk X6 w3.heap.size 30 ((basE (x.d - 1)).flatMap ec).toArray := by
      rw [HD.out] at bB7
      rw [HD.out, Nat.add_sub_cancel, ← basE_fz]
      exact bB7
    clear s1 s2 e1 bB5 bB6 bB7 h35 hb5 p6
    obtain ⟨r, hr⟩ : ∃ r, x.co[x.n - 1]? = some r := ⟨_, List.getElem?_eq_getElem (by rw [HCL.out]; omega)⟩
    obtain ⟨gc, oc, cc, hv, -, -, hgc, lc, qc⟩ := exts_cells (Rd.keep hC3 h36) (by rw [HCL.out]; omega)
    rw [HCL.out] at hv
    cases hv
    obtain ⟨s1, s2⟩ := qc (x.n - 1) r hr
    have hbl : (basE (x.d - 1)).length = x.d + 1 := by simp only [basE, List.length_cons, List.length_replicate]; omega
    have HA := Lib.hid (gAt (basE (x.d - 1)) r (by omega) (.slice (some ⟨w3.heap.size, 0, none⟩) (x.d + 1) (x.d + 1)) 0 X6.heap.size X6 (exts_blk bBs hbl (by omega) (Nat.zero_le _) bBs.lt))
    have HZ2 := Lib.hid (show lr = 0 ↔ atE (basE (x.d - 1)) r = 0 by
      have := HZ.out (by omega)
      rwa [HCL.out, show x.co.getD (x.n - 1) 0 = r by simp [List.getD, hr]] at this)
    have e5 := (bS3.keep h36).cell
    have hw6 := hw3.trans (h36.mono hw3.size)
    clear hbl hr qc HZ
    generalize atE (basE (x.d - 1)) r = sl at *
    unfold ev at HA
    go_wp2_with fail
    with_reducible refine Calls.mono HA.out ?_
    rintro e w7 ⟨rfl, hb7⟩
    go_wp2_with fail
    refine (eIsZero sl w7).mono ?_
    rintro e w8 ⟨rfl, hb8⟩
    have h38 := h36.trans ((hb7.trans (hb8.mono hb7.size)).mono h36.size)
    have hw8 := hw3.trans (h38.mono hw3.size)
    clear s1 s2 e5 HA
    by_cases hsl : sl = 0
    · have hl0 := HZ2.out.2 hsl
      have q1 : decide (sl = 0) = true := by simp [hsl]
      clear hR
      subst hl0
      go_wp2_with fail
      go_ret
      exact ⟨rfl, hw8⟩
    · have hl0 : lr ≠ 0 := fun h => hsl (HZ2.out.1 h)
      have q1 : decide (sl = 0) = false := by simp [hsl]
      obtain ⟨hln, hfa⟩ := HFa.out hl0
      have hv := HOk.out hl0
      have hlrn : lr = x.n := by rw [HLR.out, hln, HCL.out]
      have HV := Lib.hid hv
      have HFA := Lib.hid hfa
      have hR8 := hR.keep h38
      have hS8 := bS3.keep h38
      have hV8 := bV3.keep h38
      have hL8 := Rd.keep hL3 h38
      have hC8 := Rd.keep hC3 h38
      rw [← HLR.out] at hR8
      rw [hlrn] at hR8 ⊢
      clear hfa hv HFa HOk HZ2 hR hle hl0 hsl bBs h36 hw6 bS3 bV3 hL3 hC3
      have e5 := hS8.cell
      go_upto_region 13 with (fail)
      refine wp_stk1 fun X9 hX9 hz9 b9 => ?_
      have e9 := b9.cell
      have e4 := (hV8.keep hX9).cell
      clear e5
      go_wp2_with fail
      have hVf : Calls Tryz.prog 30 #[.agg #[.int .u64 (fv (x.v).a), .int .u64 (fv (x.v).b)], .slice AR x.n cR, .agg #[.int .u64 0, .int .u64 0, .slice (some ⟨gc, oc, none⟩) x.n cC, .int .u64 0, .int .u64 0, .int .i64 (x.d : Int)]] X9 (Ret (.tuple #[.agg #[.int .u64 (fv (x.fin).a), .int .u64 (fv (x.fin).b)], .int .i64 0]) X9) := by
        have := gVerifyM x.v 0 0 rs x.co (x.d : Int) (by omega) (by rw [hln, HCL.out]; omega) (.slice AR x.n cR) (some ⟨gc, oc, none⟩) cC _ _ _ _ X9 (hR8.keep hX9) (by rw [HCL.out]; exact Rd.keep hC8 hX9)
        rw [HCL.out, E.zero_mul, E.add_zero, HV.out] at this
        exact this
      with_reducible refine Calls.mono hVf ?_
      rintro e w10 ⟨rfl, hb10⟩
      have hS10 := (hS8.keep hX9).keep hb10
      go_upto_region 14 with (fail)
      refine wp_stk1 fun X11 hX11 hz11 b10 => ?_
      have hT := hX9.trans ((hb10.trans (hX11.mono hb10.size)).mono hX9.size)
      have hw11 := hw8.trans (hT.mono hw8.size)
      have hs311 := (h38.trans (hT.mono h38.size)).size
      have hS11 := hS10.keep hX11
      have hR11 := hR8.keep hT
      have hL11 := Rd.keep hL8 hT
      have HRN := Lib.hid (hln.trans HCL.out)
      have e5 := hS11.cell
      have e10 := b10.cell
      clear e9 e4 hR8 hL8 hC8 hS8 hV8 hS10 hz9 hz11 hVf q1 q0
      go_wp2_with fail
      clear e5 e10
      go_loopw [12, 13] (fun t i wr => ∃ j : Nat, j ≤ x.n ∧ i = .int .i64 j ∧ (∃ a : Nat, t = .int .i64 a ∧ a ≤ 100 ∧ (j < x.n → a = j * x.d)) ∧ Below X11.heap.size X11 wr) (fun _ i _ => x.n - (intOf i).toNat)
      case atStart => exact ⟨0, Nat.zero_le _, rfl, ⟨0, rfl, by omega, fun _ => (Nat.zero_mul _).symm⟩, Below.refl _ _⟩
      case round =>
        obtain ⟨j, hj, rfl, ⟨a, rfl, ha, haj⟩, hBr⟩ := hrel
        by_cases hlt : j < x.n
        · have ha' := haj hlt
          have HA := Lib.hid ha'.symm
          have ha12 : a ≤ 12 := by
            rw [ha']
            exact Nat.le_trans (Nat.mul_le_mul (show j ≤ 4 by omega) hd3.2) (by decide)
          obtain ⟨g, hg⟩ : ∃ g, rs[j]? = some g := ⟨_, List.getElem?_eq_getElem (by rw [HRN.out]; exact hlt)⟩
          obtain ⟨rr, hrr⟩ : ∃ r, x.co[j]? = some r := ⟨_, List.getElem?_eq_getElem (by rw [HCL.out]; exact hlt)⟩
          obtain ⟨g1, -, -, g4⟩ := HFA.out j g rr hg hrr
          rw [HCL.out] at g4
          have HG := Lib.hid hg
          have HGL := Lib.hid g1
          clear hg hrr g1 haj ha'
          by_cases hlast : j + 1 = x.n
          · have q1 : ((j : Int) == (x.n : Int) - 1) = true := by simp; omega
            rw [if_neg (by omega)] at g4
            have HGK := Lib.hid g4
            clear g4
            go_wp2_with fail
            go_loopw [12, 15] (fun t k wi => ∃ m : Nat, m + 2 ≤ x.d + 1 ∧ k = .int .i64 ((m : Int) + 2) ∧ t = .int .i64 ((a : Int) + m) ∧ Below X11.heap.size X11 wi) (fun _ k _ => x.d + 2 - (intOf k).toNat)
            case atStart => exact ⟨0, by omega, by go_num, by go_num, hBr⟩
            case round =>
              obtain ⟨m, hm, rfl, rfl, hBi⟩ := hrel
              by_cases hx : m + 2 ≤ x.d
              · obtain ⟨z, hz⟩ : ∃ z, g[m + 2]? = some z := ⟨_, List.getElem?_eq_getElem (by rw [HGL.out]; omega)⟩
                have HZ := Lib.hid (show x.rn.getD (a + m) 0 = z by
                  have h1 := HGK.out (m + 2) (by omega) hx
                  rw [show g.getD (m + 2) 0 = z by simp [List.getD, hz], HA.out, show a + (m + 2) - 2 = a + m by omega] at h1
                  exact h1.symm)
                have e5 := (hS11.keep hBi).cell
                go_upto_region 27 with (fail)
                refine wp_stk1 fun Y hY hzY b16 => ?_
                clear hzY
                have hBY := hBi.trans (hY.mono hBi.size)
                have e5' := (hS11.keep hBY).cell
                clear e5
                obtain ⟨gr, orr, cr, hv, -, -, hgr, lr', qr⟩ := tabs_cells (hR11.keep hBY) (by rw [HRN.out]; omega)
                rw [HRN.out] at hv
                cases hv
                obtain ⟨B, cB, d0, hE⟩ := qr j g HG.out
                rw [HGL.out] at d0
                obtain ⟨gg, og, cg, hv, -, -, hgg, lg, qg⟩ := exts_cells hE (by rw [HGL.out]; omega)
                rw [HGL.out] at hv
                cases hv
                obtain ⟨d1, d2⟩ := qg (m + 2) z hz
                clear qr qg hE hz
                by_cases hat : a + m < x.l
                · obtain ⟨gl, ol, cl, hv, -, -, hgl, ll, ql⟩ := exts_cells (Rd.keep hL11 hBY) (by rw [HRL.out]; omega)
                  rw [HRL.out] at hv
                  cases hv
                  obtain ⟨d3, d4⟩ := ql (a + m) z (by
                    have h2 := HZ.out
                    rw [List.getD_eq_getElem?_getD] at h2
                    rw [List.getElem?_eq_getElem (by rw [HRL.out]; exact hat)] at h2 ⊢
                    simpa using h2)
                  have e16 := b16.cell
                  have e16f := b16.frozen
                  clear ql
                  go_upto_region 30 with (fail)
                  refine set2 (M := fun W => Code.wp _ _ _ _ W) b16 fun Y2 pY bY2 => ?_
                  have b16' : Blk Y2 wr.heap.size 30 #[.int .u64 (fv z.a), .int .u64 (fv z.b)] := bY2
                  have hBY2 := below_put hBY pY (by have := hBi.size; omega)
                  have hpc : ∀ {p i : Nat} {u : Value}, p < wr.heap.size → Y.cell? ⟨p, i, none⟩ = some u → Y2.cell? ⟨p, i, none⟩ = some u := fun {p i u} hp hc => (show Keeps (fun q => q ≠ wr.heap.size) Y Y2 from ⟨Nat.le_of_eq pY.size.symm, fun q hq _ => pY.other q hq⟩).cell (by omega) hc
                  have hsi := hBi.size
                  have c0 := gw_cell (W := Y2) (by rw [pY.size]; exact lr') (hpc (by omega) d0)
                  have c1 := gw_cell (W := Y2) (by rw [pY.size]; exact lg) (hpc (by omega) d1)
                  have c2 := gw_cell (W := Y2) (by rw [pY.size]; exact lg) (hpc (by omega) d2)
                  have c3 := gw_blk b16'
                  clear e16 e16f d0 d1 d2 d3 d4 bY2 e5' hpc
                  refine wp_region_rg 9 [] (by kernel_rfl) (by kernel_rfl) (by kernel_rfl) trivial ?_
                  refine rg_det rfl rfl rfl (fun K hK => ?_)
                  go_big_quiet_op
                  refine hK _ ?_; clear hK K
                  refine rg_det rfl rfl rfl (fun K hK => ?_)
                  go_big_quiet_op
                  refine hK _ ?_; clear hK K
                  refine rg_det rfl rfl rfl (fun K hK => ?_)
                  go_big_quiet_op
                  refine hK _ ?_; clear hK K
                  refine rg_det rfl rfl rfl (fun K hK => ?_)
                  go_big_quiet_op
                  refine hK _ ?_; clear hK K
                  refine rg_det rfl rfl rfl (fun K hK => ?_)
                  go_big_quiet_op
                  refine hK _ ?_; clear hK K
                  refine rg_det rfl rfl rfl (fun K hK => ?_)
                  go_big_quiet_op
                  refine hK _ ?_; clear hK K
                  refine rg_det rfl rfl rfl (fun K hK => ?_)
                  go_big_quiet_op
                  refine hK _ ?_; clear hK K
                  refine rg_det rfl rfl rfl (fun K hK => ?_)
                  go_big_quiet_op
                  refine hK _ ?_; clear hK K
                  refine rg_det rfl rfl rfl (fun K hK => ?_)
                  go_big_quiet_op
                  refine hK _ ?_; clear hK K
                  refine rg_nil (fun w' hw' hF => ?_)
                  obtain ⟨zI, rfl⟩ := hw'
                  simp only [List.drop_succ_cons, List.drop_zero]
                  have hBz := hBY2.trans (zI.h.mono hBY2.size)
                  clear hF c0 c1 c2 c3
                  go_wp2_with fail
                  exact ⟨⟨m + 1, by omega, by go_num, by go_num, hBz⟩, by simp [intOf]; omega⟩
                · have hz0 : z = 0 := by
                    rw [← HZ.out, List.getD_eq_getElem?_getD, List.getElem?_eq_none (by rw [HRL.out]; omega)]
                    rfl
                  go_upto_region 30 with (fail)
                  have b16' : Blk Y wr.heap.size 30 #[.int .u64 (fv z.a), .int .u64 (fv z.b)] := by rw [hz0]; exact b16
                  have c0 := gw_cell (W := Y) lr' d0
                  have c1 := gw_cell (W := Y) lg d1
                  have c2 := gw_cell (W := Y) lg d2
                  have c3 := gw_blk b16'
                  clear d0 d1 d2 e5' hz0 b16
                  refine wp_region_rg 9 [] (by kernel_rfl) (by kernel_rfl) (by kernel_rfl) trivial ?_
                  refine rg_det rfl rfl rfl (fun K hK => ?_)
                  go_big_quiet_op
                  refine hK _ ?_; clear hK K
                  refine rg_det rfl rfl rfl (fun K hK => ?_)
                  go_big_quiet_op
                  refine hK _ ?_; clear hK K
                  refine rg_det rfl rfl rfl (fun K hK => ?_)
                  go_big_quiet_op
                  refine hK _ ?_; clear hK K
                  refine rg_det rfl rfl rfl (fun K hK => ?_)
                  go_big_quiet_op
                  refine hK _ ?_; clear hK K
                  refine rg_det rfl rfl rfl (fun K hK => ?_)
                  go_big_quiet_op
                  refine hK _ ?_; clear hK K
                  refine rg_det rfl rfl rfl (fun K hK => ?_)
                  go_big_quiet_op
                  refine hK _ ?_; clear hK K
                  refine rg_det rfl rfl rfl (fun K hK => ?_)
                  go_big_quiet_op
                  refine hK _ ?_; clear hK K
                  refine rg_det rfl rfl rfl (fun K hK => ?_)
                  go_big_quiet_op
                  refine hK _ ?_; clear hK K
                  refine rg_det rfl rfl rfl (fun K hK => ?_)
                  go_big_quiet_op
                  refine hK _ ?_; clear hK K
                  refine rg_nil (fun w' hw' hF => ?_)
                  obtain ⟨zI, rfl⟩ := hw'
                  simp only [List.drop_succ_cons, List.drop_zero]
                  have hBz := hBY.trans (zI.h.mono hBY.size)
                  clear hF c0 c1 c2 c3
                  go_wp2_with fail
                  exact ⟨⟨m + 1, by omega, by go_num, by go_num, hBz⟩, by simp [intOf]; omega⟩
              · have e5 := (hS11.keep hBi).cell
                go_wp2_with fail
                exact ⟨⟨j + 1, by omega, by go_num, ⟨a + m, by go_num, by omega, fun h => absurd h (by omega)⟩, hBi⟩, by simp [intOf]; omega⟩
          · have q1 : ((j : Int) == (x.n : Int) - 1) = false := by simp; omega
            rw [if_pos (by omega)] at g4
            have HGK := Lib.hid g4
            clear g4
            go_wp2_with fail
            go_loopw [12, 15] (fun t k wi => ∃ m : Nat, m + 1 ≤ x.d + 1 ∧ k = .int .i64 ((m : Int) + 1) ∧ t = .int .i64 ((a : Int) + m) ∧ Below X11.heap.size X11 wi) (fun _ k _ => x.d + 2 - (intOf k).toNat)
            case atStart => exact ⟨0, by omega, by go_num, by go_num, hBr⟩
            case round =>
              obtain ⟨m, hm, rfl, rfl, hBi⟩ := hrel
              by_cases hx : m + 1 ≤ x.d
              · obtain ⟨z, hz⟩ : ∃ z, g[m + 1]? = some z := ⟨_, List.getElem?_eq_getElem (by rw [HGL.out]; omega)⟩
                have HZ := Lib.hid (show x.rn.getD (a + m) 0 = z by
                  have h1 := HGK.out (m + 1) (by omega) hx
                  rw [show g.getD (m + 1) 0 = z by simp [List.getD, hz], HA.out, show a + (m + 1) - 1 = a + m by omega] at h1
                  exact h1.symm)
                have e5 := (hS11.keep hBi).cell
                go_upto_region 27 with (fail)
                refine wp_stk1 fun Y hY hzY b16 => ?_
                clear hzY
                have hBY := hBi.trans (hY.mono hBi.size)
                have e5' := (hS11.keep hBY).cell
                clear e5
                obtain ⟨gr, orr, cr, hv, -, -, hgr, lr', qr⟩ := tabs_cells (hR11.keep hBY) (by rw [HRN.out]; omega)
                rw [HRN.out] at hv
                cases hv
                obtain ⟨B, cB, d0, hE⟩ := qr j g HG.out
                rw [HGL.out] at d0
                obtain ⟨gg, og, cg, hv, -, -, hgg, lg, qg⟩ := exts_cells hE (by rw [HGL.out]; omega)
                rw [HGL.out] at hv
                cases hv
                obtain ⟨d1, d2⟩ := qg (m + 1) z hz
                clear qr qg hE hz
                by_cases hat : a + m < x.l
                · obtain ⟨gl, ol, cl, hv, -, -, hgl, ll, ql⟩ := exts_cells (Rd.keep hL11 hBY) (by rw [HRL.out]; omega)
                  rw [HRL.out] at hv
                  cases hv
                  obtain ⟨d3, d4⟩ := ql (a + m) z (by
                    have h2 := HZ.out
                    rw [List.getD_eq_getElem?_getD] at h2
                    rw [List.getElem?_eq_getElem (by rw [HRL.out]; exact hat)] at h2 ⊢
                    simpa using h2)
                  have e16 := b16.cell
                  have e16f := b16.frozen
                  clear ql
                  go_upto_region 30 with (fail)
                  refine set2 (M := fun W => Code.wp _ _ _ _ W) b16 fun Y2 pY bY2 => ?_
                  have b16' : Blk Y2 wr.heap.size 30 #[.int .u64 (fv z.a), .int .u64 (fv z.b)] := bY2
                  have hBY2 := below_put hBY pY (by have := hBi.size; omega)
                  have hpc : ∀ {p i : Nat} {u : Value}, p < wr.heap.size → Y.cell? ⟨p, i, none⟩ = some u → Y2.cell? ⟨p, i, none⟩ = some u := fun {p i u} hp hc => (show Keeps (fun q => q ≠ wr.heap.size) Y Y2 from ⟨Nat.le_of_eq pY.size.symm, fun q hq _ => pY.other q hq⟩).cell (by omega) hc
                  have hsi := hBi.size
                  have c0 := gw_cell (W := Y2) (by rw [pY.size]; exact lr') (hpc (by omega) d0)
                  have c1 := gw_cell (W := Y2) (by rw [pY.size]; exact lg) (hpc (by omega) d1)
                  have c2 := gw_cell (W := Y2) (by rw [pY.size]; exact lg) (hpc (by omega) d2)
                  have c3 := gw_blk b16'
                  clear e16 e16f d0 d1 d2 d3 d4 bY2 e5' hpc
                  refine wp_region_rg 9 [] (by kernel_rfl) (by kernel_rfl) (by kernel_rfl) trivial ?_
                  refine rg_det rfl rfl rfl (fun K hK => ?_)
                  go_big_quiet_op
                  refine hK _ ?_; clear hK K
                  refine rg_det rfl rfl rfl (fun K hK => ?_)
                  go_big_quiet_op
                  refine hK _ ?_; clear hK K
                  refine rg_det rfl rfl rfl (fun K hK => ?_)
                  go_big_quiet_op
                  refine hK _ ?_; clear hK K
                  refine rg_det rfl rfl rfl (fun K hK => ?_)
                  go_big_quiet_op
                  refine hK _ ?_; clear hK K
                  refine rg_det rfl rfl rfl (fun K hK => ?_)
                  go_big_quiet_op
                  refine hK _ ?_; clear hK K
                  refine rg_det rfl rfl rfl (fun K hK => ?_)
                  go_big_quiet_op
                  refine hK _ ?_; clear hK K
                  refine rg_det rfl rfl rfl (fun K hK => ?_)
                  go_big_quiet_op
                  refine hK _ ?_; clear hK K
                  refine rg_det rfl rfl rfl (fun K hK => ?_)
                  go_big_quiet_op
                  refine hK _ ?_; clear hK K
                  refine rg_det rfl rfl rfl (fun K hK => ?_)
                  go_big_quiet_op
                  refine hK _ ?_; clear hK K
                  refine rg_nil (fun w' hw' hF => ?_)
                  obtain ⟨zI, rfl⟩ := hw'
                  simp only [List.drop_succ_cons, List.drop_zero]
                  have hBz := hBY2.trans (zI.h.mono hBY2.size)
                  clear hF c0 c1 c2 c3
                  go_wp2_with fail
                  exact ⟨⟨m + 1, by omega, by go_num, by go_num, hBz⟩, by simp [intOf]; omega⟩
                · have hz0 : z = 0 := by
                    rw [← HZ.out, List.getD_eq_getElem?_getD, List.getElem?_eq_none (by rw [HRL.out]; omega)]
                    rfl
                  go_upto_region 30 with (fail)
                  have b16' : Blk Y wr.heap.size 30 #[.int .u64 (fv z.a), .int .u64 (fv z.b)] := by rw [hz0]; exact b16
                  have c0 := gw_cell (W := Y) lr' d0
                  have c1 := gw_cell (W := Y) lg d1
                  have c2 := gw_cell (W := Y) lg d2
                  have c3 := gw_blk b16'
                  clear d0 d1 d2 e5' hz0 b16
                  refine wp_region_rg 9 [] (by kernel_rfl) (by kernel_rfl) (by kernel_rfl) trivial ?_
                  refine rg_det rfl rfl rfl (fun K hK => ?_)
                  go_big_quiet_op
                  refine hK _ ?_; clear hK K
                  refine rg_det rfl rfl rfl (fun K hK => ?_)
                  go_big_quiet_op
                  refine hK _ ?_; clear hK K
                  refine rg_det rfl rfl rfl (fun K hK => ?_)
                  go_big_quiet_op
                  refine hK _ ?_; clear hK K
                  refine rg_det rfl rfl rfl (fun K hK => ?_)
                  go_big_quiet_op
                  refine hK _ ?_; clear hK K
                  refine rg_det rfl rfl rfl (fun K hK => ?_)
                  go_big_quiet_op
                  refine hK _ ?_; clear hK K
                  refine rg_det rfl rfl rfl (fun K hK => ?_)
                  go_big_quiet_op
                  refine hK _ ?_; clear hK K
                  refine rg_det rfl rfl rfl (fun K hK => ?_)
                  go_big_quiet_op
                  refine hK _ ?_; clear hK K
                  refine rg_det rfl rfl rfl (fun K hK => ?_)
                  go_big_quiet_op
                  refine hK _ ?_; clear hK K
                  refine rg_det rfl rfl rfl (fun K hK => ?_)
                  go_big_quiet_op
                  refine hK _ ?_; clear hK K
                  refine rg_nil (fun w' hw' hF => ?_)
                  obtain ⟨zI, rfl⟩ := hw'
                  simp only [List.drop_succ_cons, List.drop_zero]
                  have hBz := hBY.trans (zI.h.mono hBY.size)
                  clear hF c0 c1 c2 c3
                  go_wp2_with fail
                  exact ⟨⟨m + 1, by omega, by go_num, by go_num, hBz⟩, by simp [intOf]; omega⟩
              · have e5 := (hS11.keep hBi).cell
                go_wp2_with fail
                exact ⟨⟨j + 1, by omega, by go_num, ⟨a + m, by go_num, by omega, fun h => by rw [← HA.out, Nat.succ_mul]; omega⟩, hBi⟩, by simp [intOf]; omega⟩
        · have hBw := hw11.trans (hBr.mono hw11.size)
          go_wp2_with fail
          go_ret
          exact ⟨rfl, hBw⟩
end Go.Proofs.YtnddfeidggcplaaGreat
