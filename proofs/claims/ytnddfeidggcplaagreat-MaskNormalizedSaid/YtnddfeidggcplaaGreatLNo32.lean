/-
  MaskNormalized: the walk.
-/
import Derived.Test.YtnddfeidggcplaaGreatSh32
import Derived.Deep.RegionHeld3
namespace Go.Proofs.YtnddfeidggcplaaGreat
open Go.RowKit

def HeldN (b4 b5 gS gW : Nat) (a1 a2 c1 c2 s1 s2 r1 r2 r3 : Value) (X : World) : Prop :=
  X.cell? ⟨b4, 0, none⟩ = some a1 ∧ X.cell? ⟨b4, 1, none⟩ = some a2 ∧ X.cell? ⟨b5, 0, none⟩ = some c1 ∧ X.cell? ⟨b5, 1, none⟩ = some c2 ∧ X.cell? ⟨gS, 0, none⟩ = some s1 ∧ X.cell? ⟨gS, 1, none⟩ = some s2 ∧ X.cell? ⟨gW, 0, none⟩ = some r1 ∧ X.cell? ⟨gW, 1, none⟩ = some r2 ∧ X.cell? ⟨gW, 2, none⟩ = some r3
theorem HeldN.keep {W X : World} {b4 b5 gS gW : Nat} {a1 a2 c1 c2 s1 s2 r1 r2 r3 : Value} (hB : Below W.heap.size W X) (h1 : b4 < W.heap.size) (h2 : b5 < W.heap.size) (h3 : gS < W.heap.size) (h4 : gW < W.heap.size) (k : HeldN b4 b5 gS gW a1 a2 c1 c2 s1 s2 r1 r2 r3 W) :
    HeldN b4 b5 gS gW a1 a2 c1 c2 s1 s2 r1 r2 r3 X :=
  ⟨(hB.cell (p := ⟨b4, 0, none⟩) h1).trans k.1, (hB.cell (p := ⟨b4, 1, none⟩) h1).trans k.2.1, (hB.cell (p := ⟨b5, 0, none⟩) h2).trans k.2.2.1, (hB.cell (p := ⟨b5, 1, none⟩) h2).trans k.2.2.2.1, (hB.cell (p := ⟨gS, 0, none⟩) h3).trans k.2.2.2.2.1, (hB.cell (p := ⟨gS, 1, none⟩) h3).trans k.2.2.2.2.2.1, (hB.cell (p := ⟨gW, 0, none⟩) h4).trans k.2.2.2.2.2.2.1, (hB.cell (p := ⟨gW, 1, none⟩) h4).trans k.2.2.2.2.2.2.2.1, (hB.cell (p := ⟨gW, 2, none⟩) h4).trans k.2.2.2.2.2.2.2.2⟩
theorem gw_keep {V W : World} {p : Addr} {v : Value} (f : ∀ z : GW V, z.w.cell? p = some v) (h : Below V.heap.size V W) : ∀ z : GW W, z.w.cell? p = some v :=
  fun z => f ⟨z.w, h.trans (z.h.mono h.size)⟩
attribute [local irreducible] wpRg
set_option maxRecDepth 100000 in
set_option maxHeartbeats 4000000 in
theorem wkMaskNormalized (q : Q32) (A : Nat → Option Addr) (cc : Nat → Nat) (AL : Option Addr) (cL : Nat) (vM vC : Value) (za zb : Int) (ha : 0 ≤ za ∧ za < 256) (hb : 0 ≤ zb ∧ zb < 256) (r : Raw) (hr : Word r.1 ∧ Word r.2) (w : World) (h : Q32S w.heap.size w q A cc AL cL vM vC) :
    Calls Tryz.prog 9 #[qv32 A cc AL cL vM vC q, .agg #[.int .u8 za, .int .u8 zb], .agg #[.int .u64 r.1, .int .u64 r.2]] w (Ret (.bool true) w) := by
  obtain ⟨ha0, ha1⟩ := ha
  obtain ⟨hb0, hb1'⟩ := hb
  obtain ⟨na, rfl⟩ := Int.eq_ofNat_of_zero_le ha0
  obtain ⟨nb, rfl⟩ := Int.eq_ofNat_of_zero_le hb0
  have HXM := Lib.hid (xMade r.1 r.2 hr.1.1 hr.1.2 hr.2.1 hr.2.2)
  obtain ⟨r1, r2⟩ := r
  simp only at *
  generalize em r1 r2 = y at *
  clear hr
  have HQ := Lib.hid (fun W (hW : Below w.heap.size w W) => lMade32 q A cc AL cL vM vC W (h.keep hW hW.size))
  unfold qv32 at *
  clear h
  go_enter Tryz.func9, Tryz.ntmps9
  go_wp2_with fail
  refine calls_stk3 fun W1 hB1 hz1 b1 b4 b5 => ?_
  refine (lSanity32a W1).mono ?_
  rintro e w1 ⟨rfl, hb1⟩
  have h1 := hB1.trans (hb1.mono hB1.size)
  have f1 := (b1.keep hb1).cell
  go_wp2_with fail
  refine (HQ.out w1 h1).mono ?_
  rintro e w2 ⟨vt, vp, vm, AC, cC, rfl, hS, hM, hC, hb2⟩
  obtain ⟨AT, cT, hv⟩ := hS.ht.len
  replace hv : vt = .slice AT 3 cT := by rw [hv, q.tabs_len]
  subst hv
  obtain ⟨AP, cP, rfl⟩ := hS.hp.len
  obtain ⟨AM, cM, hv⟩ := hM.len
  replace hv : vm = .slice AM q.n cM := by rw [hv, q.m_len]
  subst hv
  rw [q.co_len] at hC ⊢
  clear f1
  unfold sv
  go_upto_region 3 with (fail)
  refine wp_stk2 fun X hX hzX b8 b6 => ?_
  have h2 := h1.trans (hb2.mono h1.size)
  have hZ : Z32 w q w2.heap.size (w2.heap.size + 1) AT AP AM AC cT cP cM cC X :=
    ⟨⟨(hS.ht.keep hX).base, (hS.hp.keep hX).base, hS.ix, hS.few, hS.short⟩, (hM.keep hX).base, ext_base (Rd.keep hC hX), b8, b6, h2.trans (hX.mono h2.size)⟩
  replace b4 := b4.keep (hb1.trans ((hb2.trans (hX.mono hb2.size)).mono hb1.size))
  replace b5 := b5.keep (hb1.trans ((hb2.trans (hX.mono hb2.size)).mono hb1.size))
  clear hS hM hC b8 b6 hX hzX hb2 h1 h2 hB1 hz1 b1 hb1 HQ
  have e4 := hZ.bS.cell
  have e6 := hZ.bW.cell
  go_wp2_with fail
  refine (hZ.prove (Below.refl _ _)).mono ?_
  rintro e w4 ⟨v1, v2, rfl, hR, hV, hb4⟩
  obtain ⟨AV, cV, rfl⟩ := Rd.len hV
  obtain ⟨AR, cR, hv⟩ := hR.len
  replace hv : v1 = .slice AR q.n cR := by rw [hv, prvM_length, q.m_len]
  subst hv
  have hZ4 := hZ.keep hb4
  replace b4 := b4.keep hb4
  replace b5 := b5.keep hb4
  replace hR := hR.base
  clear e4 e6 hZ hb4 hV
  go_upto_region 4 with (fail)
  have lA := b4.lt
  have lC := b5.lt
  have lS := hZ4.bS.lt
  have lW := hZ4.bW.lt
  have hMV := Lib.hid (prvM_mv (m := q.m) (co := q.co) (a := na % q.n) (b := nb % q.n) (c := y) (prvR q.tabs q.ps q.co) q.rho q.n q.m_len (fun i hi => by
    have h1 := q.m_row (q.m.getD i []) (by rw [show q.m.getD i [] = q.m[i]'(by rw [q.m_len]; exact hi) by simp [List.getD, q.m_len, hi]]; exact List.getElem_mem _)
    have h2 := q.deg
    have h3 := degE_pos q.ps
    omega) (fun h => Nat.mod_lt _ h) (fun h => Nat.mod_lt _ h))
  have hmr : ∀ g ∈ mvK q.m (na % q.n) (nb % q.n) y q.n, g.length = degE q.ps + 1 := by
    intro g hg
    obtain ⟨i, hi, rfl⟩ := List.mem_map.1 hg
    rw [mvR_length, show q.m.getD i [] = q.m[i]'(by rw [q.m_len]; exact List.mem_range.1 hi) by simp [List.getD, q.m_len, List.mem_range.1 hi]]
    exact q.m_row _ (List.getElem_mem _)
  have HMo := Lib.hid (fun W1 (hW : Below w4.heap.size w4 W1) => rMoved q.m q.n na nb q.m_len (Nat.le_trans q.n_le (by decide)) (fun g hg => by have := q.m_row g hg; have := q.deg; omega) (by omega) (by omega) y AM cM 0 W1.heap.size W1 (hZ4.keep hW).hM)
  have HPm := Lib.hid (show ∀ W1 v3 lo hi, Below w4.heap.size w4 W1 → TabS lo hi W1 v3 (mvK q.m (na % q.n) (nb % q.n) y q.n) → Calls Tryz.prog 14 #[.agg #[.slice AT 3 cT, .slice AP q.ps.length cP], v3, .agg #[.int .u64 (fv q.rho.a), .int .u64 (fv q.rho.b), .slice AC q.n cC]] W1 (PrvM W1 (prvM (prvR q.tabs q.ps q.co) q.m q.rho q.co) (prvV q.tabs q.co) · ·) from fun W1 v3 lo hi hW hT => by
    have k := hZ4.keep hW
    have := gProveM q.tabs q.ps (mvK q.m (na % q.n) (nb % q.n) y q.n) q.rho q.co q.n q.co_len (Nat.le_trans q.n_le (by decide)) q.all (by rw [q.tabs_len]; decide) (by rw [q.tabs_len]; decide) (mvK_length _ _ _ _ _) hmr (Nat.le_trans q.deg (by decide)) AC cC (.slice AT 3 cT) (.slice AP q.ps.length cP) v3 _ _ _ _ 0 W1.heap.size W1 k.hS hT (by rw [q.co_len]; exact k.hC)
    rw [q.co_len, hMV.out] at this
    exact this)
  clear hmr
  have HML := Lib.hid (mvK_length q.m (na % q.n) (nb % q.n) y q.n)
  generalize mvK q.m (na % q.n) (nb % q.n) y q.n = mv at *
  clear hMV
  have bS4 := hZ4.bS
  have bW4 := hZ4.bW
  have K0 : HeldN (w.heap.size + 1) (w.heap.size + 1 + 1) w2.heap.size (w2.heap.size + 1) (.int .u8 na) (.int .u8 nb) (.int .u64 r1) (.int .u64 r2) (.slice AT 3 cT) (.slice AP q.ps.length cP) (.int .u64 (fv q.rho.a)) (.int .u64 (fv q.rho.b)) (.slice AC q.n cC) w4 :=
    ⟨b4.cell 0, b4.cell 1, b5.cell 0, b5.cell 1, bS4.cell 0, bS4.cell 1, bW4.cell 0, bW4.cell 1, bW4.cell 2⟩
  have KD := HeldN.keep (below_Dr w4) lA lC lS lW K0
  have K0' := Lib.hid K0
  clear K0
  unfold HeldN at KD
  go_region_held3 (fun X => X.cell? ⟨w.heap.size + 1, 0, none⟩ = some (.int .u8 na) ∧ X.cell? ⟨w.heap.size + 1, 1, none⟩ = some (.int .u8 nb) ∧ X.cell? ⟨w.heap.size + 1 + 1, 0, none⟩ = some (.int .u64 r1) ∧ X.cell? ⟨w.heap.size + 1 + 1, 1, none⟩ = some (.int .u64 r2) ∧ X.cell? ⟨w2.heap.size, 0, none⟩ = some (.slice AT 3 cT) ∧ X.cell? ⟨w2.heap.size, 1, none⟩ = some (.slice AP q.ps.length cP) ∧ X.cell? ⟨w2.heap.size + 1, 0, none⟩ = some (.int .u64 (fv q.rho.a)) ∧ X.cell? ⟨w2.heap.size + 1, 1, none⟩ = some (.int .u64 (fv q.rho.b)) ∧ X.cell? ⟨w2.heap.size + 1, 2, none⟩ = some (.slice AC q.n cC))
    (first | with_reducible exact KD | with_reducible exact K5 | with_reducible exact K6 | with_reducible exact K7)
    (first
      | (go_at_call 29
         refine (HXM.out w4.drew).mono ?_
         rintro e w5 ⟨he, hb5⟩
         unfold ev at he
         subst he
         have B5 : Below w4.heap.size w4 w5 := (below_Dr w4).trans hb5
         have K5 := HeldN.keep B5 lA lC lS lW K0'.out
         unfold HeldN at K5)
      | (go_at_call 44
         refine (HMo.out w5 B5).mono ?_
         rintro e w6 ⟨v3, rfl, hT3, hb6⟩
         obtain ⟨A3, c3, rfl⟩ := TabS.len hT3
         have B6 : Below w4.heap.size w4 w6 := B5.trans (hb6.mono B5.size)
         have K6 := HeldN.keep B6 lA lC lS lW K0'.out
         unfold HeldN at K6)
      | (go_at_call 14
         refine (HPm.out w6 _ _ _ B6 hT3).mono ?_
         rintro e w7 ⟨v5, v6, rfl, hR3, hV3, hb7⟩
         obtain ⟨AR3, cR3, hv⟩ := hR3.len
         replace hv : v5 = .slice AR3 q.n cR3 := by rw [hv, prvM_length, q.m_len]
         subst hv
         obtain ⟨AV3, cV3, rfl⟩ := Rd.len hV3
         have B7 : Below w4.heap.size w4 w7 := B6.trans (hb7.mono B6.size)
         have K7 := HeldN.keep B7 lA lC lS lW K0'.out
         unfold HeldN at K7))
  have hZ7 := hZ4.keep B7
  replace hR := hR.keep B7
  clear KD K5 K6 K7 K0' HXM HMo HPm B5 B6 hb5 hb6 hb7 hT3 hV3 b4 b5 lA lC lS lW bS4 bW4 hZ4 HML
  go_wp2_with fail
  refine (rSameR (prvM (prvR q.tabs q.ps q.co) q.m q.rho q.co) (.slice AR q.n cR) (.slice AR3 q.n cR3) _ _ _ _ w7 hR hR3).mono ?_
  rintro e w8 ⟨rfl, hb8⟩
  have hZ8 := hZ7.keep hb8
  replace hR := (hR.keep hb8)
  have e6 := hZ8.bW.cell
  clear hR3 hb8 hZ7
  go_wp2_with fail
  refine (eIsZero q.rho w8).mono ?_
  rintro e w9 ⟨rfl, hb9⟩
  have hZ9 := hZ8.keep hb9
  replace hR := hR.keep hb9
  clear e6 hb9 hZ8
  have hw9 := hZ9.hw
  by_cases hr0 : q.rho = 0
  · rw [decide_eq_true hr0]
    clear hr0 hR hZ9
    go_wp2_with fail
    go_ret
    exact ⟨rfl, hw9⟩
  · rw [decide_eq_false hr0]
    obtain ⟨K, hX, hKl, hKr, hKn, hKd, hKt, hKe⟩ := exp_all q.tabs q.ps q.m q.rho q.co (by rw [q.co_len]; exact q.all) (by rw [q.tabs_len]; decide) q.deg (by rw [q.m_len, q.co_len]) q.m_row hr0
    rw [q.m_len] at hKl
    rw [q.co_len] at hX
    clear hr0
    have e4 := hZ9.bS.cell
    have e6 := hZ9.bW.cell
    have HE := Lib.hid (show Calls Tryz.prog 16 #[.agg #[.slice AT 3 cT, .slice AP q.ps.length cP], .slice AR q.n cR, .agg #[.int .u64 (fv q.rho.a), .int .u64 (fv q.rho.b), .slice AC q.n cC]] w9 (ExpR w9 (K, 0) · ·) by
      have := gExplain q.tabs q.ps (prvM (prvR q.tabs q.ps q.co) q.m q.rho q.co) q.rho q.co q.n (Nat.le_trans q.n_le (by decide)) q.all (by rw [q.tabs_len]; decide) (by rw [q.tabs_len]; decide) (Nat.le_trans q.deg (by decide)) (by rw [prvM_length, q.m_len]; exact Nat.le_trans q.n_le (by decide)) AC cC (.slice AT 3 cT) (.slice AP q.ps.length cP) (.slice AR q.n cR) _ _ _ _ 0 w9.heap.size w9 hZ9.hS hR (by rw [q.co_len]; exact hZ9.hC)
      rw [q.co_len, hX] at this
      exact this)
    clear hX
    go_wp2_with fail
    refine (HE.out).mono ?_
    rintro e w10 ⟨v7, rfl, hK, hb10⟩
    replace hK : TabS w9.heap.size w10.heap.size w10 v7 K := hK
    obtain ⟨AK, cK, hv⟩ := hK.len
    rw [hKl] at hv
    subst hv
    have hZ10 := hZ9.keep hb10
    clear HE hR e4 e6 hb10 hZ9 hw9
    have e4 := hZ10.bS.cell
    obtain ⟨D, hD⟩ : ∃ x, x = degE q.ps := ⟨_, rfl⟩
    have hD9 : D ≤ 3 := by rw [hD]; exact q.deg
    have HD := Lib.hid hD
    clear hD
    go_wp2_with fail
    refine (hZ10.degree (Below.refl _ _)).mono ?_
    rintro e w11 ⟨rfl, hb11⟩
    rw [← HD.out] at hKr hKd ⊢
    have hZ11 := hZ10.keep hb11
    replace hK := hK.keep hb11
    clear e4 hZ10 hb11
    have HSh := Lib.hid (show Calls Tryz.prog 42 #[.slice AK q.n cK, .int .i64 ((D : Int) + 1)] w11 (Ret (.bool true) w11) from lShaped K (D + 1) (by omega) (by rw [hKl]; exact Nat.le_trans q.n_le (by decide)) hKr (.slice AK q.n cK) _ _ w11 hK)
    go_wp2_with fail
    refine (HSh.out).mono ?_
    rintro e w12 ⟨rfl, hb12⟩
    have hZ12 := hZ11.keep hb12
    replace hK := hK.keep hb12
    clear HSh hZ11 hb12
    have HKN := Lib.hid hKn
    have HKD := Lib.hid hKd
    have HKR := Lib.hid hKr
    have HKL := Lib.hid hKl
    have HML := Lib.hid q.m_len
    have HMR := Lib.hid (show ∀ (i : Nat) (g : List E), q.m[i]? = some g → g.length = D + 1 from fun i g hg => by rw [HD.out]; exact q.m_row g (List.mem_of_getElem? hg))
    have hn3 := q.n_le
    have hw12 := hZ12.hw
    have hM12 := hZ12.hM
    clear hKn hKd hKr hKl
    go_wp2_with fail
    go_loopw [17] (fun i wr => ∃ k : Nat, k ≤ q.n ∧ i = .int .i64 k ∧ Below w12.heap.size w12 wr) (fun i _ => q.n - (intOf i).toNat)
    case atStart => exact ⟨0, Nat.zero_le _, rfl, Below.refl _ _⟩
    case round =>
      obtain ⟨i, hi, rfl, hB⟩ := hrel
      obtain ⟨V, hV⟩ : ∃ V, V = wr := ⟨_, rfl⟩
      subst hV
      by_cases hlt : i < q.n
      · obtain ⟨gR, oR, cR', hv, -, -, -, lR, qR⟩ := tabs_cells (hK.keep hB) (by rw [HKL.out]; omega)
        rw [HKL.out] at hv
        cases hv
        obtain ⟨gP, oP, cP', hv, -, -, -, lP, qP⟩ := tabs_cells (hM12.keep hB) (by rw [HML.out]; omega)
        rw [HML.out] at hv
        cases hv
        obtain ⟨rL, hrL⟩ : ∃ g, K[i]? = some g := ⟨_, List.getElem?_eq_getElem (by rw [HKL.out]; exact hlt)⟩
        obtain ⟨pL, hpL⟩ : ∃ g, q.m[i]? = some g := ⟨_, List.getElem?_eq_getElem (by rw [HML.out]; exact hlt)⟩
        obtain ⟨A1, c1, d1, x1⟩ := qR i rL hrL
        obtain ⟨A2, c2, d2, x2⟩ := qP i pL hpL
        have hl1 := HKR.out i rL hrL
        have hl2 := HMR.out i pL hpL
        rw [hl1] at d1 x1
        rw [hl2] at d2 x2
        have HLi := Lib.hid (fun x hx => HKD.out i rL pL x hrL hpL hx)
        have HLn := Lib.hid (fun h => HKN.out i rL h hrL)
        have Hl1 := Lib.hid hl1
        have Hl2 := Lib.hid hl2
        obtain ⟨g1, o1, c1', hv, -, -, -, l1, q1⟩ := exts_cells x1 (by omega)
        rw [hl1] at hv
        cases hv
        obtain ⟨g2, o2, c2', hv, -, -, -, l2, q2⟩ := exts_cells x2 (by omega)
        rw [hl2] at hv
        cases hv
        have Q1 := Lib.hid q1
        have Q2 := Lib.hid q2
        obtain ⟨k0, hk0, hk0d⟩ := get_of (l := rL) (k := 0) (by rw [Hl1.out]; omega)
        obtain ⟨k1, hk1, hk1d⟩ := get_of (l := rL) (k := 1) (by rw [Hl1.out]; have := degE_pos q.ps; have := HD.out; omega)
        obtain ⟨m0, hm0, hm0d⟩ := get_of (l := pL) (k := 0) (by rw [Hl2.out]; omega)
        obtain ⟨w1, w2⟩ := q1 0 k0 hk0
        obtain ⟨w3, w4⟩ := q1 1 k1 hk1
        obtain ⟨w5, w6⟩ := q2 0 m0 hm0
        rw [hk0d, hk1d] at HLn
        simp only [Nat.zero_mul, Nat.one_mul, Nat.add_zero] at w1 w2 w3 w4 w5 w6
        have HLx := Lib.hid (show ∀ x, x < D + 1 → rL.getD x 0 - k0 = pL.getD x 0 - m0 from fun x hx => by rw [← hk0d, ← hm0d]; exact HLi.out x hx)
        have f1 := gw_cell lR d1
        have f2 := gw_cell lP d2
        have f4 := gw_cell l1 w1
        have f5 := gw_cell l1 w2
        have f6 := gw_cell l1 w3
        have f7 := gw_cell l1 w4
        clear hl1 hl2 qR qP q1 q2 hrL hpL x1 x2 hk0 hk1 hm0 hk0d hk1d hm0d HLi
        have hX : Below V.heap.size V V := Below.refl _ _
        by_cases h0 : i = 0
        · have hgt : ¬ (0 < i) := by omega
          clear h0 HLn
          go_wp2_with fail
          refine wp_region_rg 18 [] (by kernel_rfl) (by kernel_rfl) (by kernel_rfl) trivial ?_
          refine rg_det rfl rfl rfl (fun K hK => ?_)
          go_big_quiet_op
          refine hK _ ?_; clear hK K
          refine rg_det rfl rfl rfl (fun K hK => ?_)
          go_big_quiet_op
          refine hK _ ?_; clear hK K
          refine rg_det rfl rfl rfl (fun K hK => ?_)
          go_big_quiet_op
          refine hK _ ?_; clear hK K
          refine rg_skip (by kernel_rfl) ?_
          intro a' ha
          simp only [Act.put, List.setIfInBounds_toArray, List.set_cons_succ, List.set_cons_zero] at ha
          subst ha
          refine rg_skip (by kernel_rfl) ?_
          intro a' ha
          simp only [Act.put, List.setIfInBounds_toArray, List.set_cons_succ, List.set_cons_zero] at ha
          subst ha
          refine rg_skip (by kernel_rfl) ?_
          intro a' ha
          simp only [Act.put, List.setIfInBounds_toArray, List.set_cons_succ, List.set_cons_zero] at ha
          subst ha
          refine rg_skip (by kernel_rfl) ?_
          intro a' ha
          simp only [Act.put, List.setIfInBounds_toArray, List.set_cons_succ, List.set_cons_zero] at ha
          subst ha
          refine rg_skip (by kernel_rfl) ?_
          intro a' ha
          simp only [Act.put, List.setIfInBounds_toArray, List.set_cons_succ, List.set_cons_zero] at ha
          subst ha
          refine rg_skip (by kernel_rfl) ?_
          intro a' ha
          simp only [Act.put, List.setIfInBounds_toArray, List.set_cons_succ, List.set_cons_zero] at ha
          subst ha
          refine rg_skip (by kernel_rfl) ?_
          intro a' ha
          simp only [Act.put, List.setIfInBounds_toArray, List.set_cons_succ, List.set_cons_zero] at ha
          subst ha
          refine rg_skip (by kernel_rfl) ?_
          intro a' ha
          simp only [Act.put, List.setIfInBounds_toArray, List.set_cons_succ, List.set_cons_zero] at ha
          subst ha
          refine rg_skip (by kernel_rfl) ?_
          intro a' ha
          simp only [Act.put, List.setIfInBounds_toArray, List.set_cons_succ, List.set_cons_zero] at ha
          subst ha
          refine rg_skip (by kernel_rfl) ?_
          intro a' ha
          simp only [Act.put, List.setIfInBounds_toArray, List.set_cons_succ, List.set_cons_zero] at ha
          subst ha
          refine rg_skip (by kernel_rfl) ?_
          intro a' ha
          simp only [Act.put, List.setIfInBounds_toArray, List.set_cons_succ, List.set_cons_zero] at ha
          subst ha
          refine rg_skip (by kernel_rfl) ?_
          intro a' ha
          simp only [Act.put, List.setIfInBounds_toArray, List.set_cons_succ, List.set_cons_zero] at ha
          subst ha
          refine rg_skip (by kernel_rfl) ?_
          intro a' ha
          simp only [Act.put, List.setIfInBounds_toArray, List.set_cons_succ, List.set_cons_zero] at ha
          subst ha
          refine rg_skip (by kernel_rfl) ?_
          intro a' ha
          simp only [Act.put, List.setIfInBounds_toArray, List.set_cons_succ, List.set_cons_zero] at ha
          subst ha
          refine rg_skip (by kernel_rfl) ?_
          intro a' ha
          simp only [Act.put, List.setIfInBounds_toArray, List.set_cons_succ, List.set_cons_zero] at ha
          subst ha
          refine rg_nil (fun w' hw' hF => ?_)
          obtain ⟨z9, rfl⟩ := hw'
          simp only [List.drop_succ_cons, List.drop_zero]
          have hB9 := hB.trans (z9.h.mono hB.size)
          clear hF f4 f5 f6 f7
          go_wp2_with fail
          go_loopw [18] (fun i wr => ∃ k : Nat, 1 ≤ k ∧ k ≤ D + 1 ∧ i = .int .i64 k ∧ Below z9.w.heap.size z9.w wr) (fun i _ => D + 1 - (intOf i).toNat)
          case atStart => exact ⟨1, Nat.le_refl _, by omega, rfl, Below.refl _ _⟩
          case round =>
            obtain ⟨j, hj1, hj, rfl, hBx⟩ := hrel
            have hBw := z9.h.trans (hBx.mono z9.h.size)
            have e1 := (hBw.cell (p := ⟨gR, oR + i, none⟩) lR).trans d1
            have e2 := (hBw.cell (p := ⟨gP, oP + i, none⟩) lP).trans d2
            by_cases hltj : j < D + 1
            · obtain ⟨kx, hkx, hkxd⟩ := get_of (l := rL) (k := j) (by rw [Hl1.out]; exact hltj)
              obtain ⟨mx, hmx, hmxd⟩ := get_of (l := pL) (k := j) (by rw [Hl2.out]; exact hltj)
              have hE := HLx.out j hltj
              rw [hkxd, hmxd] at hE
              obtain ⟨y1, y2⟩ := Q1.out j kx hkx
              obtain ⟨y3, y4⟩ := Q2.out j mx hmx
              have f1' := gw_keep f1 hBw
              have f2' := gw_keep f2 hBw
              have f3 := gw_cell (Nat.lt_of_lt_of_le l1 hBw.size) ((hBw.cell (p := ⟨g1, o1 + j * 2, none⟩) l1).trans y1)
              have f4 := gw_cell (Nat.lt_of_lt_of_le l1 hBw.size) ((hBw.cell (p := ⟨g1, o1 + j * 2 + 1, none⟩) l1).trans y2)
              have f5 := gw_cell (Nat.lt_of_lt_of_le l2 hBw.size) ((hBw.cell (p := ⟨g2, o2 + j * 2, none⟩) l2).trans y3)
              have f6 := gw_cell (Nat.lt_of_lt_of_le l2 hBw.size) ((hBw.cell (p := ⟨g2, o2 + j * 2 + 1, none⟩) l2).trans y4)
              have f7 := gw_cell (Nat.lt_of_lt_of_le l1 hBw.size) ((hBw.cell (p := ⟨g1, o1, none⟩) l1).trans w1)
              have f8 := gw_cell (Nat.lt_of_lt_of_le l1 hBw.size) ((hBw.cell (p := ⟨g1, o1 + 1, none⟩) l1).trans w2)
              have f9 := gw_cell (Nat.lt_of_lt_of_le l2 hBw.size) ((hBw.cell (p := ⟨g2, o2, none⟩) l2).trans w5)
              have f10 := gw_cell (Nat.lt_of_lt_of_le l2 hBw.size) ((hBw.cell (p := ⟨g2, o2 + 1, none⟩) l2).trans w6)
              have HSb := Lib.hid (show ∀ W1, Calls Tryz.prog 45 #[ev mx, ev m0] W1 (Ret (ev (kx - k0)) W1) from fun W1 => by rw [hE]; exact eSub _ _ W1)
              clear hE hkx hkxd hmx hmxd y1 y2 y3 y4
              go_wp2_with fail
              clear e1 e2
              refine wp_region_rg 28 [(13, Spec.val (.agg #[.int .u64 (fv ((kx - k0)).a), .int .u64 (fv ((kx - k0)).b)])), (27, Spec.val (.agg #[.int .u64 (fv ((kx - k0)).a), .int .u64 (fv ((kx - k0)).b)]))] (by kernel_rfl) (by kernel_rfl) (by kernel_rfl) trivial ?_
              refine rg_det rfl rfl rfl (fun K hK => ?_)
              go_big_quiet_op
              refine hK _ ?_; clear hK K
              refine rg_det rfl rfl rfl (fun K hK => ?_)
              go_big_quiet_op
              refine hK _ ?_; clear hK K
              refine rg_det rfl rfl rfl (fun K hK => ?_)
              go_big_quiet_op
              refine hK _ ?_; clear hK K
              refine rg_det rfl rfl rfl (fun K hK => ?_)
              go_big_quiet_op
              refine hK _ ?_; clear hK K
              refine rg_det rfl rfl rfl (fun K hK => ?_)
              go_big_quiet_op
              refine hK _ ?_; clear hK K
              refine rg_det rfl rfl rfl (fun K hK => ?_)
              go_big_quiet_op
              refine hK _ ?_; clear hK K
              refine rg_det rfl rfl rfl (fun K hK => ?_)
              go_big_quiet_op
              refine hK _ ?_; clear hK K
              refine rg_det rfl rfl rfl (fun K hK => ?_)
              go_big_quiet_op
              refine hK _ ?_; clear hK K
              refine rg_det rfl rfl rfl (fun K hK => ?_)
              go_big_quiet_op
              refine hK _ ?_; clear hK K
              refine rg_det rfl rfl rfl (fun K hK => ?_)
              go_big_quiet_op
              refine hK _ ?_; clear hK K
              refine rg_det rfl rfl rfl (fun K hK => ?_)
              go_big_quiet_op
              refine hK _ ?_; clear hK K
              refine rg_det rfl rfl rfl (fun K hK => ?_)
              go_big_quiet_op
              refine hK _ ?_; clear hK K
              refine rg_det rfl rfl rfl (fun K hK => ?_)
              go_big_quiet_op
              refine hK _ ?_; clear hK K
              refine rg_val rfl rfl (fun W1 hW1 hF => step_callv en_attestor_ext_Sub (eSub kx k0 W1) rfl rfl) ?_
              intro a' ha
              simp only [Act.put, List.setIfInBounds_toArray, List.set_cons_succ, List.set_cons_zero] at ha
              subst ha
              refine rg_det rfl rfl rfl (fun K hK => ?_)
              go_big_quiet_op
              refine hK _ ?_; clear hK K
              refine rg_det rfl rfl rfl (fun K hK => ?_)
              go_big_quiet_op
              refine hK _ ?_; clear hK K
              refine rg_det rfl rfl rfl (fun K hK => ?_)
              go_big_quiet_op
              refine hK _ ?_; clear hK K
              refine rg_det rfl rfl rfl (fun K hK => ?_)
              go_big_quiet_op
              refine hK _ ?_; clear hK K
              refine rg_det rfl rfl rfl (fun K hK => ?_)
              go_big_quiet_op
              refine hK _ ?_; clear hK K
              refine rg_det rfl rfl rfl (fun K hK => ?_)
              go_big_quiet_op
              refine hK _ ?_; clear hK K
              refine rg_det rfl rfl rfl (fun K hK => ?_)
              go_big_quiet_op
              refine hK _ ?_; clear hK K
              refine rg_det rfl rfl rfl (fun K hK => ?_)
              go_big_quiet_op
              refine hK _ ?_; clear hK K
              refine rg_det rfl rfl rfl (fun K hK => ?_)
              go_big_quiet_op
              refine hK _ ?_; clear hK K
              refine rg_det rfl rfl rfl (fun K hK => ?_)
              go_big_quiet_op
              refine hK _ ?_; clear hK K
              refine rg_det rfl rfl rfl (fun K hK => ?_)
              go_big_quiet_op
              refine hK _ ?_; clear hK K
              refine rg_det rfl rfl rfl (fun K hK => ?_)
              go_big_quiet_op
              refine hK _ ?_; clear hK K
              refine rg_det rfl rfl rfl (fun K hK => ?_)
              go_big_quiet_op
              refine hK _ ?_; clear hK K
              refine rg_val rfl rfl (fun W1 hW1 hF => step_callv en_attestor_ext_Sub (HSb.out W1) rfl rfl) ?_
              intro a' ha
              simp only [Act.put, List.setIfInBounds_toArray, List.set_cons_succ, List.set_cons_zero] at ha
              subst ha
              refine rg_nil (fun w' hw' hF => ?_)
              obtain ⟨z7, rfl⟩ := hw'
              simp only [List.drop_succ_cons, List.drop_zero]
              clear hF f1' f2' f3 f4 f5 f6 f7 f8 f9 f10
              go_wp2_with fail
              exact ⟨⟨j + 1, by omega, by omega, by go_num, hBx.trans (z7.h.mono hBx.size)⟩, by simp [intOf]; omega⟩
            · obtain rfl : j = D + 1 := by omega
              go_wp2_with fail
              exact ⟨⟨i + 1, by omega, by go_num, hB9.trans (hBx.mono hB9.size)⟩, by simp [intOf]; omega⟩
        · have hgt : 0 < i := by omega
          have hD1 : (1 : Int) < (D : Int) + 1 := by have := degE_pos q.ps; have := HD.out; omega
          have hz := HLn.out (by omega)
          have HZr := Lib.hid (show ∀ W1, Calls Tryz.prog 39 #[ev (k0 + k1)] W1 (Ret (.bool true) W1) from fun W1 => by have := eIsZero (k0 + k1) W1; rwa [decide_eq_true hz] at this)
          clear h0 HLn hz
          go_wp2_with fail
          refine wp_region_rg 18 [(15, Spec.val (.agg #[.int .u64 (fv ((k0 + k1)).a), .int .u64 (fv ((k0 + k1)).b)])), (16, Spec.val (.bool true))] (by kernel_rfl) (by kernel_rfl) (by kernel_rfl) trivial ?_
          refine rg_det rfl rfl rfl (fun K hK => ?_)
          go_big_quiet_op
          refine hK _ ?_; clear hK K
          refine rg_det rfl rfl rfl (fun K hK => ?_)
          go_big_quiet_op
          refine hK _ ?_; clear hK K
          refine rg_det rfl rfl rfl (fun K hK => ?_)
          go_big_quiet_op
          refine hK _ ?_; clear hK K
          refine rg_det rfl rfl rfl (fun K hK => ?_)
          go_big_quiet_op
          refine hK _ ?_; clear hK K
          refine rg_det rfl rfl rfl (fun K hK => ?_)
          go_big_quiet_op
          refine hK _ ?_; clear hK K
          refine rg_det rfl rfl rfl (fun K hK => ?_)
          go_big_quiet_op
          refine hK _ ?_; clear hK K
          refine rg_det rfl rfl rfl (fun K hK => ?_)
          go_big_quiet_op
          refine hK _ ?_; clear hK K
          refine rg_det rfl rfl rfl (fun K hK => ?_)
          go_big_quiet_op
          refine hK _ ?_; clear hK K
          refine rg_det rfl rfl rfl (fun K hK => ?_)
          go_big_quiet_op
          refine hK _ ?_; clear hK K
          refine rg_det rfl rfl rfl (fun K hK => ?_)
          go_big_quiet_op
          refine hK _ ?_; clear hK K
          refine rg_det rfl rfl rfl (fun K hK => ?_)
          go_big_quiet_op
          refine hK _ ?_; clear hK K
          refine rg_det rfl rfl rfl (fun K hK => ?_)
          go_big_quiet_op
          refine hK _ ?_; clear hK K
          refine rg_det rfl rfl rfl (fun K hK => ?_)
          go_big_quiet_op
          refine hK _ ?_; clear hK K
          refine rg_det rfl rfl rfl (fun K hK => ?_)
          go_big_quiet_op
          refine hK _ ?_; clear hK K
          refine rg_det rfl rfl rfl (fun K hK => ?_)
          go_big_quiet_op
          refine hK _ ?_; clear hK K
          refine rg_val rfl rfl (fun W1 hW1 hF => step_callv en_attestor_ext_Add (eAdd k0 k1 W1) rfl rfl) ?_
          intro a' ha
          simp only [Act.put, List.setIfInBounds_toArray, List.set_cons_succ, List.set_cons_zero] at ha
          subst ha
          refine rg_val rfl rfl (fun W1 hW1 hF => step_callv en_attestor_ext_IsZero (HZr.out W1) rfl rfl) ?_
          intro a' ha
          simp only [Act.put, List.setIfInBounds_toArray, List.set_cons_succ, List.set_cons_zero] at ha
          subst ha
          refine rg_det rfl rfl rfl (fun K hK => ?_)
          go_big_quiet_op
          refine hK _ ?_; clear hK K
          refine rg_nil (fun w' hw' hF => ?_)
          obtain ⟨z9, rfl⟩ := hw'
          simp only [List.drop_succ_cons, List.drop_zero]
          have hB9 := hB.trans (z9.h.mono hB.size)
          clear hF f4 f5 f6 f7
          go_wp2_with fail
          go_loopw [18] (fun i wr => ∃ k : Nat, 1 ≤ k ∧ k ≤ D + 1 ∧ i = .int .i64 k ∧ Below z9.w.heap.size z9.w wr) (fun i _ => D + 1 - (intOf i).toNat)
          case atStart => exact ⟨1, Nat.le_refl _, by omega, rfl, Below.refl _ _⟩
          case round =>
            obtain ⟨j, hj1, hj, rfl, hBx⟩ := hrel
            have hBw := z9.h.trans (hBx.mono z9.h.size)
            have e1 := (hBw.cell (p := ⟨gR, oR + i, none⟩) lR).trans d1
            have e2 := (hBw.cell (p := ⟨gP, oP + i, none⟩) lP).trans d2
            by_cases hltj : j < D + 1
            · obtain ⟨kx, hkx, hkxd⟩ := get_of (l := rL) (k := j) (by rw [Hl1.out]; exact hltj)
              obtain ⟨mx, hmx, hmxd⟩ := get_of (l := pL) (k := j) (by rw [Hl2.out]; exact hltj)
              have hE := HLx.out j hltj
              rw [hkxd, hmxd] at hE
              obtain ⟨y1, y2⟩ := Q1.out j kx hkx
              obtain ⟨y3, y4⟩ := Q2.out j mx hmx
              have f1' := gw_keep f1 hBw
              have f2' := gw_keep f2 hBw
              have f3 := gw_cell (Nat.lt_of_lt_of_le l1 hBw.size) ((hBw.cell (p := ⟨g1, o1 + j * 2, none⟩) l1).trans y1)
              have f4 := gw_cell (Nat.lt_of_lt_of_le l1 hBw.size) ((hBw.cell (p := ⟨g1, o1 + j * 2 + 1, none⟩) l1).trans y2)
              have f5 := gw_cell (Nat.lt_of_lt_of_le l2 hBw.size) ((hBw.cell (p := ⟨g2, o2 + j * 2, none⟩) l2).trans y3)
              have f6 := gw_cell (Nat.lt_of_lt_of_le l2 hBw.size) ((hBw.cell (p := ⟨g2, o2 + j * 2 + 1, none⟩) l2).trans y4)
              have f7 := gw_cell (Nat.lt_of_lt_of_le l1 hBw.size) ((hBw.cell (p := ⟨g1, o1, none⟩) l1).trans w1)
              have f8 := gw_cell (Nat.lt_of_lt_of_le l1 hBw.size) ((hBw.cell (p := ⟨g1, o1 + 1, none⟩) l1).trans w2)
              have f9 := gw_cell (Nat.lt_of_lt_of_le l2 hBw.size) ((hBw.cell (p := ⟨g2, o2, none⟩) l2).trans w5)
              have f10 := gw_cell (Nat.lt_of_lt_of_le l2 hBw.size) ((hBw.cell (p := ⟨g2, o2 + 1, none⟩) l2).trans w6)
              have HSb := Lib.hid (show ∀ W1, Calls Tryz.prog 45 #[ev mx, ev m0] W1 (Ret (ev (kx - k0)) W1) from fun W1 => by rw [hE]; exact eSub _ _ W1)
              clear hE hkx hkxd hmx hmxd y1 y2 y3 y4
              go_wp2_with fail
              clear e1 e2
              refine wp_region_rg 28 [(13, Spec.val (.agg #[.int .u64 (fv ((kx - k0)).a), .int .u64 (fv ((kx - k0)).b)])), (27, Spec.val (.agg #[.int .u64 (fv ((kx - k0)).a), .int .u64 (fv ((kx - k0)).b)]))] (by kernel_rfl) (by kernel_rfl) (by kernel_rfl) trivial ?_
              refine rg_det rfl rfl rfl (fun K hK => ?_)
              go_big_quiet_op
              refine hK _ ?_; clear hK K
              refine rg_det rfl rfl rfl (fun K hK => ?_)
              go_big_quiet_op
              refine hK _ ?_; clear hK K
              refine rg_det rfl rfl rfl (fun K hK => ?_)
              go_big_quiet_op
              refine hK _ ?_; clear hK K
              refine rg_det rfl rfl rfl (fun K hK => ?_)
              go_big_quiet_op
              refine hK _ ?_; clear hK K
              refine rg_det rfl rfl rfl (fun K hK => ?_)
              go_big_quiet_op
              refine hK _ ?_; clear hK K
              refine rg_det rfl rfl rfl (fun K hK => ?_)
              go_big_quiet_op
              refine hK _ ?_; clear hK K
              refine rg_det rfl rfl rfl (fun K hK => ?_)
              go_big_quiet_op
              refine hK _ ?_; clear hK K
              refine rg_det rfl rfl rfl (fun K hK => ?_)
              go_big_quiet_op
              refine hK _ ?_; clear hK K
              refine rg_det rfl rfl rfl (fun K hK => ?_)
              go_big_quiet_op
              refine hK _ ?_; clear hK K
              refine rg_det rfl rfl rfl (fun K hK => ?_)
              go_big_quiet_op
              refine hK _ ?_; clear hK K
              refine rg_det rfl rfl rfl (fun K hK => ?_)
              go_big_quiet_op
              refine hK _ ?_; clear hK K
              refine rg_det rfl rfl rfl (fun K hK => ?_)
              go_big_quiet_op
              refine hK _ ?_; clear hK K
              refine rg_det rfl rfl rfl (fun K hK => ?_)
              go_big_quiet_op
              refine hK _ ?_; clear hK K
              refine rg_val rfl rfl (fun W1 hW1 hF => step_callv en_attestor_ext_Sub (eSub kx k0 W1) rfl rfl) ?_
              intro a' ha
              simp only [Act.put, List.setIfInBounds_toArray, List.set_cons_succ, List.set_cons_zero] at ha
              subst ha
              refine rg_det rfl rfl rfl (fun K hK => ?_)
              go_big_quiet_op
              refine hK _ ?_; clear hK K
              refine rg_det rfl rfl rfl (fun K hK => ?_)
              go_big_quiet_op
              refine hK _ ?_; clear hK K
              refine rg_det rfl rfl rfl (fun K hK => ?_)
              go_big_quiet_op
              refine hK _ ?_; clear hK K
              refine rg_det rfl rfl rfl (fun K hK => ?_)
              go_big_quiet_op
              refine hK _ ?_; clear hK K
              refine rg_det rfl rfl rfl (fun K hK => ?_)
              go_big_quiet_op
              refine hK _ ?_; clear hK K
              refine rg_det rfl rfl rfl (fun K hK => ?_)
              go_big_quiet_op
              refine hK _ ?_; clear hK K
              refine rg_det rfl rfl rfl (fun K hK => ?_)
              go_big_quiet_op
              refine hK _ ?_; clear hK K
              refine rg_det rfl rfl rfl (fun K hK => ?_)
              go_big_quiet_op
              refine hK _ ?_; clear hK K
              refine rg_det rfl rfl rfl (fun K hK => ?_)
              go_big_quiet_op
              refine hK _ ?_; clear hK K
              refine rg_det rfl rfl rfl (fun K hK => ?_)
              go_big_quiet_op
              refine hK _ ?_; clear hK K
              refine rg_det rfl rfl rfl (fun K hK => ?_)
              go_big_quiet_op
              refine hK _ ?_; clear hK K
              refine rg_det rfl rfl rfl (fun K hK => ?_)
              go_big_quiet_op
              refine hK _ ?_; clear hK K
              refine rg_det rfl rfl rfl (fun K hK => ?_)
              go_big_quiet_op
              refine hK _ ?_; clear hK K
              refine rg_val rfl rfl (fun W1 hW1 hF => step_callv en_attestor_ext_Sub (HSb.out W1) rfl rfl) ?_
              intro a' ha
              simp only [Act.put, List.setIfInBounds_toArray, List.set_cons_succ, List.set_cons_zero] at ha
              subst ha
              refine rg_nil (fun w' hw' hF => ?_)
              obtain ⟨z7, rfl⟩ := hw'
              simp only [List.drop_succ_cons, List.drop_zero]
              clear hF f1' f2' f3 f4 f5 f6 f7 f8 f9 f10
              go_wp2_with fail
              exact ⟨⟨j + 1, by omega, by omega, by go_num, hBx.trans (z7.h.mono hBx.size)⟩, by simp [intOf]; omega⟩
            · obtain rfl : j = D + 1 := by omega
              go_wp2_with fail
              exact ⟨⟨i + 1, by omega, by go_num, hB9.trans (hBx.mono hB9.size)⟩, by simp [intOf]; omega⟩
      · obtain rfl : i = q.n := by omega
        have hBV := hw12.trans (hB.mono hw12.size)
        have yW := gw_blk (hZ12.bW.keep hB)
        obtain ⟨tM, htM⟩ : ∃ x, x = totM q.m := ⟨_, rfl⟩
        obtain ⟨eM, heM⟩ : ∃ x, x = evM q.m q.co := ⟨_, rfl⟩
        have XM := Lib.hid (fun W1 (h : Below V.heap.size V W1) => htM ▸ hZ12.totM (hB.trans (h.mono hB.size)))
        have XE := Lib.hid (fun W1 (h : Below V.heap.size V W1) => heM ▸ hZ12.evM (hB.trans (h.mono hB.size)))
        have hKV := hK.keep hB
        have YM := Lib.hid (show ∀ W1, Below V.heap.size V W1 → Calls Tryz.prog 20 #[.slice AK q.n cK] W1 (Ret (ev tM) W1) from fun W1 h => by
          rw [htM, ← hKt]
          exact gTotM K (by rw [HKL.out]; omega) (fun g hg => by
            obtain ⟨i, hi, rfl⟩ := List.mem_iff_getElem.1 hg
            rw [HKR.out i _ (List.getElem?_eq_getElem hi)]
            have := degE_pos q.ps
            have := HD.out
            omega) (.slice AK q.n cK) _ _ W1 (hKV.keep h))
        have YE := Lib.hid (show ∀ W1, Below V.heap.size V W1 → Calls Tryz.prog 22 #[.slice AK q.n cK, .slice AC q.n cC] W1 (Ret (ev eM) W1) from fun W1 h => by
          rw [heM, ← hKe]
          have k := hZ12.keep (hB.trans (h.mono hB.size))
          exact gEvM K q.co (by rw [HKL.out, q.co_len]; exact Nat.le_refl _) (by rw [HKL.out]; omega) (fun g hg => by
            obtain ⟨i, hi, rfl⟩ := List.mem_iff_getElem.1 hg
            rw [HKR.out i _ (List.getElem?_eq_getElem hi)]
            omega) (.slice AK q.n cK) (.slice AC q.n cC) _ _ _ _ W1 (hKV.keep h) k.hC)
        clear htM heM hKV hK hKt hKe hZ12 hM12
        go_wp2_with fail
        refine wp_region_rg 18 [(1, Spec.val (.agg #[.int .u64 (fv (tM).a), .int .u64 (fv (tM).b)])), (3, Spec.val (.agg #[.int .u64 (fv (tM).a), .int .u64 (fv (tM).b)])), (9, Spec.val (.agg #[.int .u64 (fv (eM).a), .int .u64 (fv (eM).b)])), (13, Spec.val (.agg #[.int .u64 (fv (eM).a), .int .u64 (fv (eM).b)]))] (by kernel_rfl) (by kernel_rfl) (by kernel_rfl) trivial ?_
        refine rg_det rfl rfl rfl (fun K hK => ?_)
        go_big_quiet_op
        refine hK _ ?_; clear hK K
        refine rg_val rfl rfl (fun W1 hW1 hF => step_callv en_attestor_mask_Total (YM.out W1 (grw_below hW1)) rfl rfl) ?_
        intro a' ha
        simp only [Act.put, List.setIfInBounds_toArray, List.set_cons_succ, List.set_cons_zero] at ha
        subst ha
        refine rg_det rfl rfl rfl (fun K hK => ?_)
        go_big_quiet_op
        refine hK _ ?_; clear hK K
        refine rg_val rfl rfl (fun W1 hW1 hF => step_callv en_attestor_mask_Total (XM.out W1 (grw_below hW1)) rfl rfl) ?_
        intro a' ha
        simp only [Act.put, List.setIfInBounds_toArray, List.set_cons_succ, List.set_cons_zero] at ha
        subst ha
        refine rg_det rfl rfl rfl (fun K hK => ?_)
        go_big_quiet_op
        refine hK _ ?_; clear hK K
        refine rg_det rfl rfl rfl (fun K hK => ?_)
        go_big_quiet_op
        refine hK _ ?_; clear hK K
        refine rg_det rfl rfl rfl (fun K hK => ?_)
        go_big_quiet_op
        refine hK _ ?_; clear hK K
        refine rg_det rfl rfl rfl (fun K hK => ?_)
        go_big_quiet_op
        refine hK _ ?_; clear hK K
        refine rg_det rfl rfl rfl (fun K hK => ?_)
        go_big_quiet_op
        refine hK _ ?_; clear hK K
        refine rg_val rfl rfl (fun W1 hW1 hF => step_callv en_attestor_mask_Eval (YE.out W1 (grw_below hW1)) rfl rfl) ?_
        intro a' ha
        simp only [Act.put, List.setIfInBounds_toArray, List.set_cons_succ, List.set_cons_zero] at ha
        subst ha
        refine rg_det rfl rfl rfl (fun K hK => ?_)
        go_big_quiet_op
        refine hK _ ?_; clear hK K
        refine rg_det rfl rfl rfl (fun K hK => ?_)
        go_big_quiet_op
        refine hK _ ?_; clear hK K
        refine rg_det rfl rfl rfl (fun K hK => ?_)
        go_big_quiet_op
        refine hK _ ?_; clear hK K
        refine rg_val rfl rfl (fun W1 hW1 hF => step_callv en_attestor_mask_Eval (XE.out W1 (grw_below hW1)) rfl rfl) ?_
        intro a' ha
        simp only [Act.put, List.setIfInBounds_toArray, List.set_cons_succ, List.set_cons_zero] at ha
        subst ha
        refine rg_det rfl rfl rfl (fun K hK => ?_)
        go_big_quiet_op
        refine hK _ ?_; clear hK K
        refine rg_det rfl rfl rfl (fun K hK => ?_)
        go_big_quiet_op
        refine hK _ ?_; clear hK K
        refine rg_det rfl rfl rfl (fun K hK => ?_)
        go_big_quiet_op
        refine hK _ ?_; clear hK K
        refine rg_det rfl rfl rfl (fun K hK => ?_)
        go_big_quiet_op
        refine hK _ ?_; clear hK K
        refine rg_nil (fun w' hw' hF => ?_)
        obtain ⟨z6, rfl⟩ := hw'
        simp only [List.drop_succ_cons, List.drop_zero]
        have hBz := hBV.trans (z6.h.mono hBV.size)
        clear hF
        go_wp2_with fail
        go_ret
        exact ⟨rfl, hBz⟩
end Go.Proofs.YtnddfeidggcplaaGreat
