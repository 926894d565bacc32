/-
  MaskLinear: the walk.
-/
import Derived.Test.YtnddfeidggcplaaGreatRo32
import Derived.Deep.RegionHeld3
namespace Go.Proofs.YtnddfeidggcplaaGreat
open Go.RowKit

theorem three_keep {W X : World} {g h : Nat} {a b c : Value} (hB : Below W.heap.size W X) (hg : g < W.heap.size) (hh : h < W.heap.size)
    (k : W.cell? ⟨g, 0, none⟩ = some a ∧ W.cell? ⟨g, 1, none⟩ = some b ∧ W.cell? ⟨h, 2, none⟩ = some c) : X.cell? ⟨g, 0, none⟩ = some a ∧ X.cell? ⟨g, 1, none⟩ = some b ∧ X.cell? ⟨h, 2, none⟩ = some c :=
  ⟨(hB.cell (p := ⟨g, 0, none⟩) hg).trans k.1, (hB.cell (p := ⟨g, 1, none⟩) hg).trans k.2.1, (hB.cell (p := ⟨h, 2, none⟩) hh).trans k.2.2⟩
theorem prvM_len {plain m : List (List E)} {rho : E} {co : List E} {D i : Nat} {g : List E} (hm : ∀ g ∈ m, g.length = D + 1) (h : (prvM plain m rho co)[i]? = some g) : g.length = D + 1 := by
  obtain ⟨-, rfl, hl⟩ := prvM_row hm h
  exact (linR_length _ _ _).trans hl
attribute [local irreducible] wpRg
set_option maxRecDepth 100000 in
set_option maxHeartbeats 4000000 in
theorem wkMaskLinear (q : Q32) (A : Nat → Option Addr) (cc : Nat → Nat) (AL : Option Addr) (cL : Nat) (vM vC : Value) (w : World) (h : Q32S w.heap.size w q A cc AL cL vM vC) :
    Calls Tryz.prog 6 #[qv32 A cc AL cL vM vC q] w (Ret (.bool true) w) := by
  have HVL := Lib.hid (show (prvV q.tabs q.co).length = 3 by
    unfold prvV
    rw [List.length_map, bndAll_length, q.tabs_len])
  have HQ := Lib.hid (fun W (hW : Below w.heap.size w W) => lMade32 q A cc AL cL vM vC W (h.keep hW hW.size))
  unfold qv32 at *
  clear h
  go_enter Tryz.func6, Tryz.ntmps6
  go_wp2_with fail
  refine calls_stk1 fun W1 hB1 hz1 b1 => ?_
  refine (lSanity32a W1).mono ?_
  rintro e w1 ⟨rfl, hb1⟩
  have h1 := hB1.trans (hb1.mono hB1.size)
  have f1 := (b1.keep hb1).cell
  go_wp2_with fail
  refine (HQ.out w1 h1).mono ?_
  rintro e w2 ⟨vt, vp, vm, AC, cC, rfl, hS, hM, hC, hb2⟩
  obtain ⟨AT, cT, hv⟩ := hS.ht.len
  replace hv : vt = .slice AT 3 cT := by rw [hv, q.tabs_len]
  subst hv
  obtain ⟨AP, cP, rfl⟩ := hS.hp.len
  obtain ⟨AM, cM, hv⟩ := hM.len
  replace hv : vm = .slice AM q.n cM := by rw [hv, q.m_len]
  subst hv
  rw [q.co_len] at hC ⊢
  clear f1
  unfold sv
  go_upto_region 3 with (fail)
  refine wp_stk2 fun X hX hzX b4 b6 => ?_
  have h2 := h1.trans (hb2.mono h1.size)
  have hZ : Z32 w q w2.heap.size (w2.heap.size + 1) AT AP AM AC cT cP cM cC X :=
    ⟨⟨(hS.ht.keep hX).base, (hS.hp.keep hX).base, hS.ix, hS.few, hS.short⟩, (hM.keep hX).base, ext_base (Rd.keep hC hX), b4, b6, h2.trans (hX.mono h2.size)⟩
  clear hS hM hC b4 b6 hX hzX hb2 h1 h2 hB1 hz1 b1 hb1 HQ
  have e4 := hZ.bS.cell
  have e6 := hZ.bW.cell
  go_wp2_with fail
  refine (hZ.prove (Below.refl _ _)).mono ?_
  rintro e w4 ⟨v1, v2, rfl, hR, hV, hb4⟩
  obtain ⟨AV, cV, hv⟩ := Rd.len hV
  replace hv : v2 = .slice AV 3 cV := by rw [hv, HVL.out]
  subst hv
  obtain ⟨AR, cR, hv⟩ := hR.len
  replace hv : v1 = .slice AR q.n cR := by rw [hv, prvM_length, q.m_len]
  subst hv
  have hZ4 := hZ.keep hb4
  clear e4 e6 hZ hb4 hV
  have e4 := hZ4.bS.cell
  have e6 := hZ4.bW.cell
  go_wp2_with fail
  refine (hZ4.plain (Below.refl _ _)).mono ?_
  rintro e w5 ⟨v3, v4, rfl, hR2, hV2, hb5⟩
  obtain ⟨AV2, cV2, hv⟩ := Rd.len hV2
  replace hv : v4 = .slice AV2 3 cV2 := by rw [hv, HVL.out]
  subst hv
  obtain ⟨AR2, cR2, hv⟩ := hR2.len
  replace hv : v3 = .slice AR2 q.n cR2 := by rw [hv, prvR_length, q.co_len]
  subst hv
  have hZ5 := hZ4.keep hb5
  replace hR := (hR.keep hb5).base
  replace hR2 := hR2.base
  clear e4 e6 hZ4 hb5 hV2
  have e4 := hZ5.bS.cell
  go_upto_region 6 with (fail)
  refine wp_stk2 fun Y hY hzY b0 b11 => ?_
  have hYs : Y.heap.size = w5.heap.size + 2 := by have := hzY.out; omega
  have HZ5 := Lib.hid hZ5
  have HY := Lib.hid hY
  have HYs := Lib.hid hYs
  have hw5 := hZ5.hw
  have bS5 := hZ5.bS
  have bW5 := hZ5.bW
  obtain ⟨np, hnp⟩ : ∃ np, np = q.ps.length := ⟨_, rfl⟩
  rw [← hnp] at bS5
  have hnp4 : np ≤ 4 := by rw [hnp]; exact q.S.trms_len
  have HNP := Lib.hid hnp
  have lS5 := bS5.lt
  clear hzY hYs e4 hZ5 hnp
  go_wp2_with fail
  go_loopw [12] (fun i wr => ∃ k : Nat, k ≤ np ∧ i = .int .i64 k ∧ ∃ u, RowZ w5.heap.size 0 w5.heap.size w5 wr u (zrE (q.ps.take k)) ∧ u.ownBlock ≠ some (w5.heap.size + 1) ∧ Blk wr (w5.heap.size + 1) 36 #[.slice AT 3 cT, u] ∧ Below w5.heap.size w5 wr ∧ w5.heap.size + 2 ≤ wr.heap.size) (fun i _ => np - (intOf i).toNat)
  case atStart => exact ⟨0, Nat.zero_le _, rfl, .slice (some ⟨w5.heap.size, 0, none⟩) 0 0, RowZ.first (Nat.le_refl _) b0, by simp [Value.ownBlock], b11, HY.out, by rw [HYs.out]; exact Nat.le_refl _⟩
  case round =>
    obtain ⟨k, hk, rfl, u, hrow, hne, b11, hBr, hrs⟩ := hrel
    have hkl : (zrE (q.ps.take k)).length = k := by rw [zrE_length, List.length_take, ← HNP.out]; omega
    obtain ⟨AU, cU, hv⟩ := hrow.len
    rw [hkl] at hv
    subst hv
    have bSr := bS5.keep hBr
    have e1 := bSr.cell
    by_cases hlt : k < np
    · obtain ⟨gP, oP, cP', hv, -, -, -, lP, qP⟩ := trms_cells HZ5.out.hS.hp (by rw [← HNP.out]; omega)
      rw [← HNP.out] at hv
      cases hv
      obtain ⟨p, hp⟩ : ∃ p, q.ps[k]? = some p := ⟨_, List.getElem?_eq_getElem (by rw [← HNP.out]; exact hlt)⟩
      obtain ⟨At', ct', d1, d2, d3, d4⟩ := qP k p hp
      have HP := Lib.hid (zrE_succ q.ps k p hp)
      obtain ⟨c, tl⟩ := p
      simp only at *
      obtain ⟨tln, htln⟩ : ∃ n, n = tl.length := ⟨_, rfl⟩
      rw [← htln] at d3 d4
      have HD4 : Hid (IdxS 0 w5.heap.size w5 (.slice At' tln ct') tl) := Lib.hid d4
      have f3 := gw_cell (W := wr) (Nat.lt_of_lt_of_le lP hBr.size) ((hBr.cell (p := ⟨gP, oP + k * 3 + 2, none⟩) lP).trans d3)
      have f4 := gw_blk bSr
      have f5 := gw_blk b11
      obtain ⟨j0, hj0, jz0, jz1, jz2⟩ := info_parts prod_info
      clear qP d1 d2 d3 d4 hp htln
      go_wp2_with fail
      refine wp_region_rg 10 [(9, Spec.rel (Lit 74 1 #[.int .u64 0, .int .u64 0, .slice At' tln ct']) (LitF 1))] (by kernel_rfl) (by kernel_rfl) (by kernel_rfl) ⟨fit_lit, trivial⟩ ?_
      refine rg_det rfl rfl rfl (fun K hK => ?_)
      go_big_quiet_op
      refine hK _ ?_; clear hK K
      refine rg_det rfl rfl rfl (fun K hK => ?_)
      go_big_quiet_op
      refine hK _ ?_; clear hK K
      refine rg_det rfl rfl rfl (fun K hK => ?_)
      go_big_quiet_op
      refine hK _ ?_; clear hK K
      refine rg_det rfl rfl rfl (fun K hK => ?_)
      go_big_quiet_op
      refine hK _ ?_; clear hK K
      refine rg_det rfl rfl rfl (fun K hK => ?_)
      go_big_quiet_op
      refine hK _ ?_; clear hK K
      refine rg_det rfl rfl rfl (fun K hK => ?_)
      go_big_quiet_op
      refine hK _ ?_; clear hK K
      refine rg_det rfl rfl rfl (fun K hK => ?_)
      go_big_quiet_op
      refine hK _ ?_; clear hK K
      refine rg_det rfl rfl rfl (fun K hK => ?_)
      go_big_quiet_op
      refine hK _ ?_; clear hK K
      refine rg_det rfl rfl rfl (fun K hK => ?_)
      go_big_quiet_op
      refine hK _ ?_; clear hK K
      refine rg_rel rfl rfl (fun W1 hW1 hF => step_lit1 Tryz.underlying34 hj0 jz0 jz1 (by decide) (by decide) rfl rfl rfl) ?_
      intro n9 m9 v9 hn9 hm9 hd9 hf9 a' ha
      simp only [Act.put, List.setIfInBounds_toArray, List.set_cons_succ, List.set_cons_zero] at ha
      subst ha
      obtain rfl := hf9
      refine rg_nil (fun w' hw' hF => ?_)
      obtain ⟨z, rfl⟩ := hw'
      simp only [List.drop_succ_cons, List.drop_zero]
      obtain ⟨hm9', -, hl9, b9⟩ := end_last hF
      have hrz := hrow.keep z.h
      have b11z := b11.gw z
      have hBz := hBr.trans (z.h.mono hBr.size)
      have hzs := z.h.size
      clear hF hd9 f3 f4 f5 e1 hrow b11
      go_wp2_with (at_builtin; refine wpList_appZ (x := .slice At' tln ct') (y := ⟨0, tl⟩) (lo := 0) (hi := w5.heap.size) (V := w5) (base := w5.heap.size) (ps := zrE (q.ps.take k)) rfl _ _ rfl Tryz.underlying34 rfl rfl ?hrow ?hsrc rfl ?hE ?hk ?hbase ?_)
      case hrow => exact hrz
      case hsrc =>
        have e : fv (0 : E).a = 0 := fv0
        have e' : fv (0 : E).b = 0 := fv0
        show Blk _ _ _ #[.int .u64 (fv (0 : E).a), .int .u64 (fv (0 : E).b), _]
        rw [e, e']
        exact b9
      case hE => exact HD4.out
      case hk => rw [hkl]; omega
      case hbase => omega
      intro u' w6 hrow6 hB6 hg6 ho6
      rw [← HP.out] at hrow6
      obtain ⟨A6, c6, hv⟩ := hrow6.len
      rw [show (zrE (q.ps.take (k + 1))).length = k + 1 by rw [zrE_length, List.length_take, ← HNP.out]; omega] at hv
      subst hv
      have hne6 : (Value.slice A6 (k + 1) c6).ownBlock ≠ some (w5.heap.size + 1) := by
        rcases ho6 with h | h
        · rw [h]; exact hne
        · rw [h, ne_eq, Option.some.injEq]; omega
      have b116 := blk_grown b11z hg6 hne
      have hBw6 : Below w5.heap.size w5 w6 := hBz.trans (hB6.mono (by omega))
      have hs6 := hg6.size
      have e1 := b116.cell
      have e2 := b116.frozen
      clear hg6 hrz b11z ho6
      go_wp2_with fail
      have hp : Put w6 _ (w5.heap.size + 1) := Put.set w6 (w5.heap.size + 1) 1 (.slice A6 (k + 1) c6)
      exact ⟨⟨k + 1, by omega, by go_num, .slice A6 (k + 1) c6, hrow6.put hp hne6, hne6, b116.set_ 1 _, below_put hBw6 hp (by omega), by rw [hp.size]; omega⟩, by simp [intOf]; omega⟩
    · obtain rfl : k = np := by omega
      have hps : q.ps.take k = q.ps := List.take_of_length_le (by rw [← HNP.out]; exact Nat.le_refl _)
      rw [hps] at hrow
      have TS := hrow.trms (by rw [zrE_length, ← HNP.out]; omega) hBr (Nat.le_refl _)
      have hZr := HZ5.out.keep hBr
      clear hrow hkl hps
      have HSz := Lib.hid (show SumS 0 wr.heap.size wr (.slice AT 3 cT) (.slice AU k cU) q.tabs (zrE q.ps) from ⟨hZr.hS.ht, TS, fun p hp => by
        obtain ⟨p', hp', rfl⟩ := List.mem_map.1 hp
        exact hZr.hS.ix p' hp', by rw [zrE_length]; exact hZr.hS.few, fun p hp => by
        obtain ⟨p', hp', rfl⟩ := List.mem_map.1 hp
        exact hZr.hS.short p' hp'⟩)
      have HPz := Lib.hid (show ∀ W1, Below wr.heap.size wr W1 → Calls Tryz.prog 14 #[.agg #[.slice AT 3 cT, .slice AU k cU], .slice AM q.n cM, .agg #[.int .u64 (fv (1 : E).a), .int .u64 (fv (1 : E).b), .slice AC q.n cC]] W1 (PrvM W1 (prvM (prvR q.tabs (zrE q.ps) q.co) q.m 1 q.co) (prvV q.tabs q.co) · ·) from fun W1 hW => by
        have := gProveM q.tabs (zrE q.ps) q.m 1 q.co q.n q.co_len (Nat.le_trans q.n_le (by decide)) q.all (by rw [q.tabs_len]; decide) (by rw [q.tabs_len]; decide) q.m_len (by rw [deg_zr]; exact q.m_row) (by rw [deg_zr]; exact Nat.le_trans q.deg (by decide)) AC cC (.slice AT 3 cT) (.slice AU k cU) (.slice AM q.n cM) _ _ _ _ 0 W1.heap.size W1 (HSz.out.keep hW) ((hZr.keep hW).hM) (by rw [q.co_len]; exact (hZr.keep hW).hC)
        rw [q.co_len] at this
        exact this)
      go_wp2_with fail
      have l11 := b11.lt
      have bWr := bW5.keep hBr
      have lWr := bWr.lt
      have K0 : wr.cell? ⟨w5.heap.size + 1, 0, none⟩ = some (.slice AT 3 cT) ∧ wr.cell? ⟨w5.heap.size + 1, 1, none⟩ = some (.slice AU k cU) ∧ wr.cell? ⟨w2.heap.size + 1, 2, none⟩ = some (.slice AC q.n cC) := ⟨b11.cell 0, b11.cell 1, bWr.cell 2⟩
      have KD := three_keep (below_Dr wr) l11 lWr K0
      clear e1
      go_region_held3 (fun X => X.cell? ⟨w5.heap.size + 1, 0, none⟩ = some (.slice AT 3 cT) ∧ X.cell? ⟨w5.heap.size + 1, 1, none⟩ = some (.slice AU k cU) ∧ X.cell? ⟨w2.heap.size + 1, 2, none⟩ = some (.slice AC q.n cC))
        (first | with_reducible exact KD | with_reducible exact K7 | with_reducible exact K8)
        (first
          | (go_at_call 37
             refine (xOne wr.drew).mono ?_
             rintro e w7 ⟨he, hb7⟩
             unfold ev at he
             subst he
             have B7 : Below wr.heap.size wr w7 := (below_Dr wr).trans hb7
             have K7 := three_keep B7 l11 lWr K0)
          | (go_at_call 14
             refine (HPz.out w7 B7).mono ?_
             rintro e w8 ⟨v5, v6, rfl, hR3, hV3, hb8⟩
             obtain ⟨AR3, cR3, hv⟩ := hR3.len
             replace hv : v5 = .slice AR3 q.n cR3 := by rw [hv, prvM_length, q.m_len]
             subst hv
             obtain ⟨AV3, cV3, rfl⟩ := Rd.len hV3
             have B8 : Below wr.heap.size wr w8 := B7.trans (hb8.mono B7.size)
             have K8 := three_keep B8 l11 lWr K0))
      have hB8 := hw5.trans ((hBr.trans (B8.mono hBr.size)).mono hw5.size)
      have h58 := hBr.trans (B8.mono hBr.size)
      have bW8 := bW5.keep h58
      replace hR := hR.keep h58
      replace hR2 := hR2.keep h58
      have HL := Lib.hid (msk_linear q.tabs q.ps q.m q.rho q.co q.m_row)
      have hn5 := q.n_le
      have HlR := Lib.hid (show (prvM (prvR q.tabs q.ps q.co) q.m q.rho q.co).length = q.n by rw [prvM_length, q.m_len])
      have HlP := Lib.hid (show (prvR q.tabs q.ps q.co).length = q.n by rw [prvR_length, q.co_len])
      have HlA := Lib.hid (show (prvM (prvR q.tabs (zrE q.ps) q.co) q.m 1 q.co).length = q.n by rw [prvM_length, q.m_len])
      have HrR := Lib.hid (show ∀ (i : Nat) (g : List E), (prvM (prvR q.tabs q.ps q.co) q.m q.rho q.co)[i]? = some g → g.length = degE q.ps + 1 from fun i g h => prvM_len q.m_row h)
      have HrP := Lib.hid (prv_row q.ps q.co q.tabs)
      have HrA := Lib.hid (show ∀ (i : Nat) (g : List E), (prvM (prvR q.tabs (zrE q.ps) q.co) q.m 1 q.co)[i]? = some g → g.length = degE q.ps + 1 from fun i g h => prvM_len q.m_row h)
      have hD3 := q.deg
      clear K0 KD K7 K8 HPz HSz hb7 hb8 B7 B8 hV3 hBr hrs hk b11 bSr bWr l11 lWr lS5 HZ5 hZr TS HY HYs b0 hY hne bS5 HNP hnp4
      generalize prvM (prvR q.tabs q.ps q.co) q.m q.rho q.co = R at *
      generalize prvM (prvR q.tabs (zrE q.ps) q.co) q.m 1 q.co = Al at *
      generalize prvR q.tabs q.ps q.co = P at *
      generalize degE q.ps = D at *
      generalize (prvV q.tabs q.co).length = lV at *
      go_wp2_with fail
      go_loopw [15] (fun i wr => ∃ k : Nat, k ≤ q.n ∧ i = .int .i64 k ∧ Below w8.heap.size w8 wr) (fun i _ => q.n - (intOf i).toNat)
      case atStart => exact ⟨0, Nat.zero_le _, rfl, Below.refl _ _⟩
      case round =>
        obtain ⟨i, hi, rfl, hB⟩ := hrel
        by_cases hlt : i < q.n
        · obtain ⟨gR, oR, cR', hv, -, -, -, lR, qR⟩ := tabs_cells (hR.keep hB) (by rw [HlR.out]; omega)
          rw [HlR.out] at hv
          cases hv
          obtain ⟨gP, oP, cP', hv, -, -, -, lP, qP⟩ := tabs_cells (hR2.keep hB) (by rw [HlP.out]; omega)
          rw [HlP.out] at hv
          cases hv
          obtain ⟨gA, oA, cA', hv, -, -, -, lA, qA⟩ := tabs_cells (hR3.keep hB) (by rw [HlA.out]; omega)
          rw [HlA.out] at hv
          cases hv
          obtain ⟨rL, hrL⟩ : ∃ g, R[i]? = some g := ⟨_, List.getElem?_eq_getElem (by rw [HlR.out]; exact hlt)⟩
          obtain ⟨pL, hpL⟩ : ∃ g, P[i]? = some g := ⟨_, List.getElem?_eq_getElem (by rw [HlP.out]; exact hlt)⟩
          obtain ⟨aL, haL⟩ : ∃ g, Al[i]? = some g := ⟨_, List.getElem?_eq_getElem (by rw [HlA.out]; exact hlt)⟩
          obtain ⟨A1, c1, d1, x1⟩ := qR i rL hrL
          obtain ⟨A2, c2, d2, x2⟩ := qP i pL hpL
          obtain ⟨A3, c3, d3, x3⟩ := qA i aL haL
          have hl1 := HrR.out i rL hrL
          have hl2 := HrP.out i pL hpL
          have hl3 := HrA.out i aL haL
          rw [hl1] at d1 x1
          rw [hl2] at d2 x2
          rw [hl3] at d3 x3
          have HLi := Lib.hid (fun x gx px ax => HL.out i x rL pL aL gx px ax hrL hpL haL)
          have Hl1 := Lib.hid hl1
          have Hl2 := Lib.hid hl2
          have Hl3 := Lib.hid hl3
          obtain ⟨g1, o1, c1', hv, -, -, -, l1, q1⟩ := exts_cells x1 (by omega)
          rw [hl1] at hv
          cases hv
          obtain ⟨g2, o2, c2', hv, -, -, -, l2, q2⟩ := exts_cells x2 (by omega)
          rw [hl2] at hv
          cases hv
          obtain ⟨g3, o3, c3', hv, -, -, -, l3, q3⟩ := exts_cells x3 (by omega)
          rw [hl3] at hv
          cases hv
          have Q1 := Lib.hid q1
          have Q2 := Lib.hid q2
          have Q3 := Lib.hid q3
          have f1 := gw_cell (W := wr) lR d1
          have f2 := gw_cell (W := wr) lP d2
          have f3 := gw_cell (W := wr) lA d3
          clear hl1 hl2 hl3 qR qP qA q1 q2 q3 hrL hpL haL x1 x2 x3
          go_wp2_with fail
          refine wp_region_rg 22 [] (by kernel_rfl) (by kernel_rfl) (by kernel_rfl) trivial ?_
          refine rg_det rfl rfl rfl (fun K hK => ?_)
          go_big_quiet_op
          refine hK _ ?_; clear hK K
          refine rg_det rfl rfl rfl (fun K hK => ?_)
          go_big_quiet_op
          refine hK _ ?_; clear hK K
          refine rg_det rfl rfl rfl (fun K hK => ?_)
          go_big_quiet_op
          refine hK _ ?_; clear hK K
          refine rg_det rfl rfl rfl (fun K hK => ?_)
          go_big_quiet_op
          refine hK _ ?_; clear hK K
          refine rg_det rfl rfl rfl (fun K hK => ?_)
          go_big_quiet_op
          refine hK _ ?_; clear hK K
          refine rg_det rfl rfl rfl (fun K hK => ?_)
          go_big_quiet_op
          refine hK _ ?_; clear hK K
          refine rg_det rfl rfl rfl (fun K hK => ?_)
          go_big_quiet_op
          refine hK _ ?_; clear hK K
          refine rg_det rfl rfl rfl (fun K hK => ?_)
          go_big_quiet_op
          refine hK _ ?_; clear hK K
          refine rg_det rfl rfl rfl (fun K hK => ?_)
          go_big_quiet_op
          refine hK _ ?_; clear hK K
          refine rg_det rfl rfl rfl (fun K hK => ?_)
          go_big_quiet_op
          refine hK _ ?_; clear hK K
          refine rg_det rfl rfl rfl (fun K hK => ?_)
          go_big_quiet_op
          refine hK _ ?_; clear hK K
          refine rg_det rfl rfl rfl (fun K hK => ?_)
          go_big_quiet_op
          refine hK _ ?_; clear hK K
          refine rg_det rfl rfl rfl (fun K hK => ?_)
          go_big_quiet_op
          refine hK _ ?_; clear hK K
          refine rg_det rfl rfl rfl (fun K hK => ?_)
          go_big_quiet_op
          refine hK _ ?_; clear hK K
          refine rg_det rfl rfl rfl (fun K hK => ?_)
          go_big_quiet_op
          refine hK _ ?_; clear hK K
          refine rg_det rfl rfl rfl (fun K hK => ?_)
          go_big_quiet_op
          refine hK _ ?_; clear hK K
          refine rg_det rfl rfl rfl (fun K hK => ?_)
          go_big_quiet_op
          refine hK _ ?_; clear hK K
          refine rg_det rfl rfl rfl (fun K hK => ?_)
          go_big_quiet_op
          refine hK _ ?_; clear hK K
          refine rg_det rfl rfl rfl (fun K hK => ?_)
          go_big_quiet_op
          refine hK _ ?_; clear hK K
          refine rg_det rfl rfl rfl (fun K hK => ?_)
          go_big_quiet_op
          refine hK _ ?_; clear hK K
          refine rg_det rfl rfl rfl (fun K hK => ?_)
          go_big_quiet_op
          refine hK _ ?_; clear hK K
          refine rg_det rfl rfl rfl (fun K hK => ?_)
          go_big_quiet_op
          refine hK _ ?_; clear hK K
          refine rg_nil (fun w' hw' hF => ?_)
          obtain ⟨z9, rfl⟩ := hw'
          simp only [List.drop_succ_cons, List.drop_zero]
          have hB9 := hB.trans (z9.h.mono hB.size)
          clear hF f1 f2 f3
          go_wp2_with fail
          go_loopw [16] (fun i wr => ∃ k : Nat, k ≤ D + 1 ∧ i = .int .i64 k ∧ Below z9.w.heap.size z9.w wr) (fun i _ => D + 1 - (intOf i).toNat)
          case atStart => exact ⟨0, Nat.zero_le _, rfl, Below.refl _ _⟩
          case round =>
            obtain ⟨j, hj, rfl, hBx⟩ := hrel
            rename_i wx
            have hBw := z9.h.trans (hBx.mono z9.h.size)
            have e1 := (hBw.cell (p := ⟨gR, oR + i, none⟩) lR).trans d1
            have e2 := (hBw.cell (p := ⟨gP, oP + i, none⟩) lP).trans d2
            have e3 := (hBw.cell (p := ⟨gA, oA + i, none⟩) lA).trans d3
            by_cases hltj : j < D + 1
            · obtain ⟨gx, hgx, -⟩ := get_of (l := rL) (k := j) (by rw [Hl1.out]; exact hltj)
              obtain ⟨px, hpx, -⟩ := get_of (l := pL) (k := j) (by rw [Hl2.out]; exact hltj)
              obtain ⟨ax, hax, -⟩ := get_of (l := aL) (k := j) (by rw [Hl3.out]; exact hltj)
              have hE := HLi.out j gx px ax hgx hpx hax
              obtain ⟨k1, k2⟩ := Q1.out j gx hgx
              obtain ⟨k3, k4⟩ := Q2.out j px hpx
              obtain ⟨k5, k6⟩ := Q3.out j ax hax
              have f1 := gw_cell (Nat.lt_of_lt_of_le lR hBw.size) e1
              have f2 := gw_cell (Nat.lt_of_lt_of_le lP hBw.size) e2
              have f3 := gw_cell (Nat.lt_of_lt_of_le lA hBw.size) e3
              have f4 := gw_cell (Nat.lt_of_lt_of_le l1 hBw.size) ((hBw.cell (p := ⟨g1, o1 + j * 2, none⟩) l1).trans k1)
              have f5 := gw_cell (Nat.lt_of_lt_of_le l1 hBw.size) ((hBw.cell (p := ⟨g1, o1 + j * 2 + 1, none⟩) l1).trans k2)
              have f6 := gw_cell (Nat.lt_of_lt_of_le l2 hBw.size) ((hBw.cell (p := ⟨g2, o2 + j * 2, none⟩) l2).trans k3)
              have f7 := gw_cell (Nat.lt_of_lt_of_le l2 hBw.size) ((hBw.cell (p := ⟨g2, o2 + j * 2 + 1, none⟩) l2).trans k4)
              have f8 := gw_cell (Nat.lt_of_lt_of_le l3 hBw.size) ((hBw.cell (p := ⟨g3, o3 + j * 2, none⟩) l3).trans k5)
              have f9 := gw_cell (Nat.lt_of_lt_of_le l3 hBw.size) ((hBw.cell (p := ⟨g3, o3 + j * 2 + 1, none⟩) l3).trans k6)
              have f10 := gw_blk (bW8.keep (hB.trans (hBw.mono hB.size)))
              have HAd := Lib.hid (show ∀ W1, Calls Tryz.prog 32 #[ev px, ev (q.rho * ax)] W1 (Ret (ev gx) W1) from fun W1 => by rw [← hE]; exact eAdd _ _ W1)
              clear hE hgx hpx hax k1 k2 k3 k4 k5 k6
              go_wp2_with fail
              clear e1 e2 e3
              refine wp_region_rg 25 [(23, Spec.val (.agg #[.int .u64 (fv ((q.rho * ax)).a), .int .u64 (fv ((q.rho * ax)).b)])), (24, Spec.val (.agg #[.int .u64 (fv (gx).a), .int .u64 (fv (gx).b)]))] (by kernel_rfl) (by kernel_rfl) (by kernel_rfl) trivial ?_
              refine rg_det rfl rfl rfl (fun K hK => ?_)
              go_big_quiet_op
              refine hK _ ?_; clear hK K
              refine rg_det rfl rfl rfl (fun K hK => ?_)
              go_big_quiet_op
              refine hK _ ?_; clear hK K
              refine rg_det rfl rfl rfl (fun K hK => ?_)
              go_big_quiet_op
              refine hK _ ?_; clear hK K
              refine rg_det rfl rfl rfl (fun K hK => ?_)
              go_big_quiet_op
              refine hK _ ?_; clear hK K
              refine rg_det rfl rfl rfl (fun K hK => ?_)
              go_big_quiet_op
              refine hK _ ?_; clear hK K
              refine rg_det rfl rfl rfl (fun K hK => ?_)
              go_big_quiet_op
              refine hK _ ?_; clear hK K
              refine rg_det rfl rfl rfl (fun K hK => ?_)
              go_big_quiet_op
              refine hK _ ?_; clear hK K
              refine rg_det rfl rfl rfl (fun K hK => ?_)
              go_big_quiet_op
              refine hK _ ?_; clear hK K
              refine rg_det rfl rfl rfl (fun K hK => ?_)
              go_big_quiet_op
              refine hK _ ?_; clear hK K
              refine rg_det rfl rfl rfl (fun K hK => ?_)
              go_big_quiet_op
              refine hK _ ?_; clear hK K
              refine rg_det rfl rfl rfl (fun K hK => ?_)
              go_big_quiet_op
              refine hK _ ?_; clear hK K
              refine rg_det rfl rfl rfl (fun K hK => ?_)
              go_big_quiet_op
              refine hK _ ?_; clear hK K
              refine rg_det rfl rfl rfl (fun K hK => ?_)
              go_big_quiet_op
              refine hK _ ?_; clear hK K
              refine rg_det rfl rfl rfl (fun K hK => ?_)
              go_big_quiet_op
              refine hK _ ?_; clear hK K
              refine rg_det rfl rfl rfl (fun K hK => ?_)
              go_big_quiet_op
              refine hK _ ?_; clear hK K
              refine rg_det rfl rfl rfl (fun K hK => ?_)
              go_big_quiet_op
              refine hK _ ?_; clear hK K
              refine rg_det rfl rfl rfl (fun K hK => ?_)
              go_big_quiet_op
              refine hK _ ?_; clear hK K
              refine rg_det rfl rfl rfl (fun K hK => ?_)
              go_big_quiet_op
              refine hK _ ?_; clear hK K
              refine rg_det rfl rfl rfl (fun K hK => ?_)
              go_big_quiet_op
              refine hK _ ?_; clear hK K
              refine rg_det rfl rfl rfl (fun K hK => ?_)
              go_big_quiet_op
              refine hK _ ?_; clear hK K
              refine rg_det rfl rfl rfl (fun K hK => ?_)
              go_big_quiet_op
              refine hK _ ?_; clear hK K
              refine rg_det rfl rfl rfl (fun K hK => ?_)
              go_big_quiet_op
              refine hK _ ?_; clear hK K
              refine rg_det rfl rfl rfl (fun K hK => ?_)
              go_big_quiet_op
              refine hK _ ?_; clear hK K
              refine rg_val rfl rfl (fun W1 hW1 hF => step_callv en_attestor_ext_Mul (eMul q.rho ax W1) rfl rfl) ?_
              intro a' ha
              simp only [Act.put, List.setIfInBounds_toArray, List.set_cons_succ, List.set_cons_zero] at ha
              subst ha
              refine rg_val rfl rfl (fun W1 hW1 hF => step_callv en_attestor_ext_Add (HAd.out W1) rfl rfl) ?_
              intro a' ha
              simp only [Act.put, List.setIfInBounds_toArray, List.set_cons_succ, List.set_cons_zero] at ha
              subst ha
              refine rg_nil (fun w' hw' hF => ?_)
              obtain ⟨z7, rfl⟩ := hw'
              simp only [List.drop_succ_cons, List.drop_zero]
              clear hF f1 f2 f3 f4 f5 f6 f7 f8 f9 f10
              go_wp2_with fail
              exact ⟨⟨j + 1, by omega, by go_num, hBx.trans (z7.h.mono hBx.size)⟩, by simp [intOf]; omega⟩
            · obtain rfl : j = D + 1 := by omega
              go_wp2_with fail
              exact ⟨⟨i + 1, by omega, by go_num, hB9.trans (hBx.mono hB9.size)⟩, by simp [intOf]; omega⟩
        · obtain rfl : i = q.n := by omega
          go_wp2_with fail
          go_ret
          exact ⟨rfl, hB8.trans (hB.mono hB8.size)⟩
end Go.Proofs.YtnddfeidggcplaaGreat
