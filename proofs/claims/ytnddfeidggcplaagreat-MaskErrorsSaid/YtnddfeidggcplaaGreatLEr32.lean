/-
  MaskErrors: the walk.
-/
import Derived.Test.YtnddfeidggcplaaGreatEr32
import Derived.Lib.MinMax
namespace Go.Proofs.YtnddfeidggcplaaGreat
open Go.RowKit

theorem step_min1 {P : Program} {o : Oper} {a : Act} {w : World} {x y : Operand} {ts : Array TypeId} {p q m : Int} (ho : o.op = .call { callee := .builtin .min, args := #[x, y], argTypes := ts }) (hx : a.eval x = .int .i64 p) (hy : a.eval y = .int .i64 q) (hm : min p q = m) :
    stepAt P o a w (fun v w' => v = .int .i64 m ∧ Below w.heap.size w w') := by
  unfold stepAt execOp
  simp [ho, hx, hy, resolve, invoke, builtin, Lib.run_min_ints, stepUpon, hm, Sem.run_bind]
  exact Below.refl _ _
theorem prvM_cons (tabs : List (List E)) (ps : List Trm) (m : List (List E)) (rho : E) (co : List E) (h : AllLen tabs (2 ^ co.length)) (h0 : 0 < tabs.length) (h3 : degE ps ≤ 3) (hm : m.length = co.length) (hr : ∀ g ∈ m, g.length = degE ps + 1) :
    (prvM (prvR tabs ps co) m rho co).length = co.length ∧ (∀ (i : Nat) (g : List E), (prvM (prvR tabs ps co) m rho co)[i]? = some g → g.length = degE ps + 1) ∧ sumOk (prvM (prvR tabs ps co) m rho co) co = true := by
  obtain ⟨C, hC⟩ := prvM_steps tabs ps m rho co h h0 h3 hm hr
  have hl : (prvM (prvR tabs ps co) m rho co).length = co.length := by rw [prvM_length, hm]
  refine ⟨hl, fun i g hg => ?_, sumOk_steps _ co hl C (fun i g r q1 q2 => (hC i g r q1 q2).2)⟩
  have hi : i < co.length := by have := (List.getElem?_eq_some_iff.1 hg).1; omega
  exact (hC i g co[i] hg (List.getElem?_eq_getElem hi)).1
theorem exps32 {w : World} {q : Q32} {gS gW : Nat} {AT AP AM AC : Option Addr} {cT cP cM cC : Nat} {Y : World} (h : Z32 w q gS gW AT AP AM AC cT cP cM cC Y) (rs K : List (List E)) (c : Int) (hrl : rs.length ≤ 1000)
    (hX : explE (prvR q.tabs q.ps q.co) rs q.rho q.co q.co.length (degE q.ps) = (K, c)) (lo hi : Nat) (vR : Value) (hR : TabS lo hi Y vR rs) :
    Calls Tryz.prog 16 #[.agg #[.slice AT 3 cT, .slice AP q.ps.length cP], vR, .agg #[.int .u64 (fv q.rho.a), .int .u64 (fv q.rho.b), .slice AC q.n cC]] Y (ExpR Y (K, c) · ·) := by
  have := gExplain q.tabs q.ps rs q.rho q.co q.n (Nat.le_trans q.n_le (by decide)) q.all (by rw [q.tabs_len]; decide) (by rw [q.tabs_len]; decide) (Nat.le_trans q.deg (by decide)) hrl AC cC (.slice AT 3 cT) (.slice AP q.ps.length cP) vR _ _ _ _ 0 Y.heap.size Y h.hS hR (by rw [q.co_len]; exact h.hC)
  rw [q.co_len] at this hX
  rw [hX] at this
  exact this
theorem flat_set0 (r : List E) (v : E) (h : 0 < r.length) : ((r.flatMap ec).set 0 (.int .u64 (fv v.a))).set 1 (.int .u64 (fv v.b)) = (r.set 0 v).flatMap ec := by
  match r, h with
  | x :: r, _ => simp [ec]
theorem el_set {lo hi : Nat} {X : World} {us : List Value} {rs : List (List E)} {n i : Nat} {u : Value} {r : List E} (hul : us.length = n) (hrl : rs.length = n) (el : ∀ (k : Nat) (u : Value) (t : List E), us[k]? = some u → rs[k]? = some t → ExtS lo hi X u t) (h : ExtS lo hi X u r) :
    ∀ (k : Nat) (x : Value) (t : List E), (us.set i u)[k]? = some x → (rs.set i r)[k]? = some t → ExtS lo hi X x t := by
  intro k x t hx ht
  by_cases hk : i = k
  · subst hk
    have hi : i < us.length := by have := (List.getElem?_eq_some_iff.1 hx).1; rwa [List.length_set] at this
    rw [List.getElem?_set_self hi] at hx
    rw [List.getElem?_set_self (by omega)] at ht
    cases hx; cases ht
    exact h
  · rw [List.getElem?_set_ne hk] at hx ht
    exact el k x t hx ht
attribute [local irreducible] wpRg
set_option maxRecDepth 100000 in
set_option maxHeartbeats 8000000 in
theorem wkMaskErrors (q : Q32) (A : Nat → Option Addr) (cc : Nat → Nat) (AL : Option Addr) (cL : Nat) (vM vC : Value) (za : Int) (ha : 0 ≤ za ∧ za < 256) (r : Raw) (hr : Word r.1 ∧ Word r.2) (w : World) (h : Q32S w.heap.size w q A cc AL cL vM vC) :
    Calls Tryz.prog 10 #[qv32 A cc AL cL vM vC q, .int .u8 za, .agg #[.int .u64 r.1, .int .u64 r.2]] w (Ret (.bool true) w) := by
  obtain ⟨ha0, ha1⟩ := ha
  obtain ⟨na, rfl⟩ := Int.eq_ofNat_of_zero_le ha0
  have HXM := Lib.hid (xMade r.1 r.2 hr.1.1 hr.1.2 hr.2.1 hr.2.2)
  obtain ⟨r1, r2⟩ := r
  simp only at *
  generalize em r1 r2 = y at *
  clear hr ha0
  have HQ := Lib.hid (fun W (hW : Below w.heap.size w W) => lMade32 q A cc AL cL vM vC W (h.keep hW hW.size))
  unfold qv32 at *
  clear h
  go_enter Tryz.func10, Tryz.ntmps10
  go_wp2_with fail
  refine calls_stk2 fun W1 hB1 hz1 b1 b5 => ?_
  refine (lSanity32a W1).mono ?_
  rintro e w1 ⟨rfl, hb1⟩
  have h1 := hB1.trans (hb1.mono hB1.size)
  have f1 := (b1.keep hb1).cell
  go_wp2_with fail
  refine (HQ.out w1 h1).mono ?_
  rintro e w2 ⟨vt, vp, vm, AC, cC, rfl, hS, hM, hC, hb2⟩
  obtain ⟨AT, cT, hv⟩ := hS.ht.len
  replace hv : vt = .slice AT 3 cT := by rw [hv, q.tabs_len]
  subst hv
  obtain ⟨AP, cP, rfl⟩ := hS.hp.len
  obtain ⟨AM, cM, hv⟩ := hM.len
  replace hv : vm = .slice AM q.n cM := by rw [hv, q.m_len]
  subst hv
  rw [q.co_len] at hC ⊢
  clear f1
  unfold sv
  go_upto_region 3 with (fail)
  refine wp_stk2 fun X hX hzX b8 b6 => ?_
  have h2 := h1.trans (hb2.mono h1.size)
  have hZ : Z32 w q w2.heap.size (w2.heap.size + 1) AT AP AM AC cT cP cM cC X :=
    ⟨⟨(hS.ht.keep hX).base, (hS.hp.keep hX).base, hS.ix, hS.few, hS.short⟩, (hM.keep hX).base, ext_base (Rd.keep hC hX), b8, b6, h2.trans (hX.mono h2.size)⟩
  replace b5 := b5.keep (hb1.trans ((hb2.trans (hX.mono hb2.size)).mono hb1.size))
  clear hS hM hC b8 b6 hX hzX hb2 h1 h2 hB1 hz1 b1 hb1 HQ
  have e4 := hZ.bS.cell
  have e6 := hZ.bW.cell
  go_wp2_with fail
  refine (hZ.prove (Below.refl _ _)).mono ?_
  rintro e w4 ⟨v1, v2, rfl, hR, hV, hb4⟩
  obtain ⟨AV, cV, rfl⟩ := Rd.len hV
  obtain ⟨AR, cR, hv⟩ := hR.len
  replace hv : v1 = .slice AR q.n cR := by rw [hv, prvM_length, q.m_len]
  subst hv
  have hZ4 := hZ.keep hb4
  replace b5 := b5.keep hb4
  clear e4 e6 hZ hb4 hV
  have e5 := b5.cell
  go_wp2_with fail
  refine (HXM.out w4).mono ?_
  rintro e w5 ⟨he, hb5⟩
  unfold ev at he
  subst he
  go_upto_region 5 with (fail)
  refine wp_stk1 fun Y hY hzY b13 => ?_
  have hY5 := hb5.trans (hY.mono hb5.size)
  have hZ5 := hZ4.keep hY5
  replace hR := (hR.keep hY5).base
  clear e5 b5 hzY hY hY5 hb5 hZ4 HXM
  have e6 := hZ5.bW.cell
  have e13 := b13.cell
  have hw5 := hZ5.hw
  go_wp2_with fail
  refine (eIsZero q.rho Y).mono ?_
  rintro e w6 ⟨rfl, hb6⟩
  have hw6 := hw5.trans (hb6.mono hw5.size)
  by_cases hr0 : q.rho = 0
  · rw [decide_eq_true hr0]
    clear hr0
    go_wp2_with fail
    go_ret
    exact ⟨rfl, hw6⟩
  · rw [decide_eq_false hr0]
    have HR0 := Lib.hid hr0
    clear hr0
    by_cases hn0 : q.n = 0
    · have hn1 : ((q.n : Int) == 0) = true := by rw [hn0]; rfl
      clear hn0
      go_wp2_with fail
      go_ret
      exact ⟨rfl, hw6⟩
    · have hn1 : ((q.n : Int) == 0) = false := by simp; omega
      have e13' := (b13.keep hb6).cell
      go_wp2_with fail
      refine (eIsZero y w6).mono ?_
      rintro e w7 ⟨rfl, hb7⟩
      have hw7 := hw6.trans (hb7.mono hw6.size)
      by_cases hy0 : y = 0
      · rw [decide_eq_true hy0]
        clear hy0
        go_wp2_with fail
        go_ret
        exact ⟨rfl, hw7⟩
      · rw [decide_eq_false hy0]
        have HY0 := Lib.hid hy0
        have h57 := hb6.trans (hb7.mono hb6.size)
        have hZ7 := hZ5.keep h57
        replace hR := (hR.keep h57).base
        replace b13 := b13.keep h57
        clear hy0 e6 e13 e13' hb6 hb7 hw5 hw6 hw7 hZ5 h57
        have hq2 : AllLen q.tabs (2 ^ q.co.length) := by rw [q.co_len]; exact q.all
        obtain ⟨c1, c2, c3⟩ := prvM_cons q.tabs q.ps q.m q.rho q.co hq2 (by rw [q.tabs_len]; decide) q.deg (by rw [q.m_len, q.co_len]) q.m_row
        obtain ⟨rs, hrs⟩ : ∃ rs, rs = prvM (prvR q.tabs q.ps q.co) q.m q.rho q.co := ⟨_, rfl⟩
        rw [← hrs] at c1 c2 c3 hR
        obtain ⟨D, hD⟩ : ∃ x, x = degE q.ps := ⟨_, rfl⟩
        have hD9 : D ≤ 3 := by rw [hD]; exact q.deg
        have hD1 : 1 ≤ D := by rw [hD]; exact degE_pos q.ps
        rw [← hD] at c2
        have hn3 := q.n_le
        have HRL := Lib.hid (show rs.length = q.n by rw [c1, q.co_len])
        have HC1 := Lib.hid c1
        have HC2 := Lib.hid c2
        have HC3 := Lib.hid c3
        have HD := Lib.hid hD
        clear c1 c2 c3 hq2 hrs hD
        obtain ⟨us, hul, hRd, hel⟩ := hR
        rw [HRL.out] at hul hRd
        have HUL := Lib.hid hul
        have HEL := Lib.hid hel
        have HRd := Lib.hid hRd
        have hone : ∀ u ∈ us, u.oneCell' = true := fun u hu => by
          obtain ⟨k, hk, rfl⟩ := List.mem_iff_getElem.1 hu
          obtain ⟨A1, c1, h⟩ := Rd.len (hel k _ (rs[k]'(by rw [HRL.out]; omega)) (List.getElem?_eq_getElem hk) (List.getElem?_eq_getElem (by rw [HRL.out]; omega)))
          rw [h]; rfl
        clear hul hel hRd
        have hm1 : Int.tmod (na : Int) (q.n : Int) = ((na % q.n : Nat) : Int) := rfl
        have li : na % q.n < q.n := Nat.mod_lt _ (by omega)
        generalize na % q.n = i at *
        obtain ⟨s0, hs0, hsz0, hsz1, hsz2⟩ := info_parts sl_info
        go_wp2_with (at_builtin; refine wpList_cp (W := w7) rfl _ _ rfl Tryz.underlying37 hs0 hsz0 hsz1 hsz2 rfl (by decide) (cl := us) hone rfl rfl HRd.out ?h0 ?hn (by decide) ?_)
        case h0 => omega
        case hn => omega
        intro g1 k1 X1 hB1 lg1 u1
        have hs1 := hB1.size
        go_wp2_with (at_builtin; refine wpList_cp (W := X1) rfl _ _ rfl Tryz.underlying37 hs0 hsz0 hsz1 hsz2 rfl (by decide) (cl := us) hone rfl rfl (Rd.keep HRd.out hB1) ?h0 ?hn (by decide) ?_)
        case h0 => omega
        case hn => omega
        intro g2 k2 X2 hB2 lg2 u2
        have hs2 := hB2.size
        go_wp2_with (at_builtin; refine wpList_cp (W := X2) rfl _ _ rfl Tryz.underlying37 hs0 hsz0 hsz1 hsz2 rfl (by decide) (cl := us) hone rfl rfl (Rd.keep HRd.out (hB1.trans (hB2.mono hB1.size))) ?h0 ?hn (by decide) ?_)
        case h0 => omega
        case hn => omega
        intro g3 k3 X3 hB3 lg3 u3
        have hs3 := hB3.size
        have lu1 := u1.lt
        have lu2 := u2.lt
        have lu3 := u3.lt
        have u1' := (u1.keep hB2).keep hB3
        have u2' := u2.keep hB3
        have h37 := hB1.trans (hB2.mono hB1.size)
        have h37' := h37.trans (hB3.mono h37.size)
        clear u1 u2 hB1 hB2 hB3 h37
        obtain ⟨r, hr⟩ : ∃ r, rs[i]? = some r := ⟨_, List.getElem?_eq_getElem (by rw [HRL.out]; exact li)⟩
        have hrD := HC2.out i r hr
        obtain ⟨u, hu⟩ : ∃ u, us[i]? = some u := ⟨_, List.getElem?_eq_getElem (by rw [HUL.out]; exact li)⟩
        have hE := HEL.out i u r hu hr
        obtain ⟨AU, cU, rfl⟩ := Rd.len hE
        rw [hrD] at hu hE
        unfold ExtS at hE
        rw [hrD] at hE
        have hcU : D ≤ cU := by
          obtain ⟨g, off, cap, hv, h2, -⟩ := Rd.form hE (by omega)
          cases hv
          omega
        obtain ⟨gR, oR, cR', hv, -, -, -, lR, qR⟩ := Rd.form HRd.out (by omega)
        cases hv
        have dR := (h37'.cell (p := ⟨gR, oR + i, none⟩) lR).trans (qR i _ hu)
        have f1 := gw_cell (W := X3) (Nat.lt_of_lt_of_le lR h37'.size) dR
        have HRI := Lib.hid hr
        have HUI := Lib.hid hu
        have HE := Lib.hid hE
        have HrD := Lib.hid hrD
        have hmn : (if ((D : Int) + 1) < 1 then ((D : Int) + 1) else 1) = 1 := by rw [if_neg (by omega)]
        clear hr hu hrD hE
        go_upto_region 9 with (fail)
        refine wp_region_rg 20 [(16, Spec.val (.int .i64 1))] (by kernel_rfl) (by kernel_rfl) (by kernel_rfl) trivial ?_
        refine rg_det rfl rfl rfl (fun K hK => ?_)
        go_big_quiet_op
        refine hK _ ?_; clear hK K
        refine rg_det rfl rfl rfl (fun K hK => ?_)
        go_big_quiet_op
        refine hK _ ?_; clear hK K
        refine rg_det rfl rfl rfl (fun K hK => ?_)
        go_big_quiet_op
        refine hK _ ?_; clear hK K
        refine rg_det rfl rfl rfl (fun K hK => ?_)
        go_big_quiet_op
        refine hK _ ?_; clear hK K
        refine rg_det rfl rfl rfl (fun K hK => ?_)
        go_big_quiet_op
        refine hK _ ?_; clear hK K
        refine rg_det rfl rfl rfl (fun K hK => ?_)
        go_big_quiet_op
        refine hK _ ?_; clear hK K
        refine rg_det rfl rfl rfl (fun K hK => ?_)
        go_big_quiet_op
        refine hK _ ?_; clear hK K
        refine rg_det rfl rfl rfl (fun K hK => ?_)
        go_big_quiet_op
        refine hK _ ?_; clear hK K
        refine rg_det rfl rfl rfl (fun K hK => ?_)
        go_big_quiet_op
        refine hK _ ?_; clear hK K
        refine rg_det rfl rfl rfl (fun K hK => ?_)
        go_big_quiet_op
        refine hK _ ?_; clear hK K
        refine rg_det rfl rfl rfl (fun K hK => ?_)
        go_big_quiet_op
        refine hK _ ?_; clear hK K
        refine rg_det rfl rfl rfl (fun K hK => ?_)
        go_big_quiet_op
        refine hK _ ?_; clear hK K
        refine rg_det rfl rfl rfl (fun K hK => ?_)
        go_big_quiet_op
        refine hK _ ?_; clear hK K
        refine rg_det rfl rfl rfl (fun K hK => ?_)
        go_big_quiet_op
        refine hK _ ?_; clear hK K
        refine rg_det rfl rfl rfl (fun K hK => ?_)
        go_big_quiet_op
        refine hK _ ?_; clear hK K
        refine rg_det rfl rfl rfl (fun K hK => ?_)
        go_big_quiet_op
        refine hK _ ?_; clear hK K
        refine rg_val rfl rfl (fun W1 hW1 hF => (step_min1 rfl rfl rfl (by omega))) ?_
        intro a' ha
        simp only [Act.put, List.setIfInBounds_toArray, List.set_cons_succ, List.set_cons_zero] at ha
        subst ha
        refine rg_det rfl rfl rfl (fun K hK => ?_)
        go_big_quiet_op
        refine hK _ ?_; clear hK K
        refine rg_det rfl rfl rfl (fun K hK => ?_)
        go_big_quiet_op
        refine hK _ ?_; clear hK K
        refine rg_det rfl rfl rfl (fun K hK => ?_)
        go_big_quiet_op
        refine hK _ ?_; clear hK K
        refine rg_nil (fun w' hw' hF => ?_)
        obtain ⟨z, rfl⟩ := hw'
        simp only [List.drop_succ_cons, List.drop_zero]
        have hzh := z.h
        have hzs := hzh.size
        have v1 := u1'.keep hzh
        have v2 := u2'.keep hzh
        have v3 := u3.keep hzh
        have h3z := h37'.trans (hzh.mono h37'.size)
        clear hF f1 u1' u2' u3 dR h37'
        have e1 := v1.frozen
        have e2 := v1.cell HUI.out
        go_upto_region 10 with (fail)
        have hp := Put.set z.w g1 i (.slice AU D cU)
        have p1 := v1.set i (.slice AU D cU)
        generalize (z.w.setCell ⟨g1, i, none⟩ (.slice AU D cU)) = X4 at *
        have p2 := v2.other hp (by omega)
        have p3 := v3.other hp (by omega)
        have h34 := below_put h3z hp (by omega)
        have hX4a := Nat.le_of_eq hp.size
        have hX4b := Nat.le_of_eq hp.size.symm
        have dR4 := (h34.cell (p := ⟨gR, oR + i, none⟩) lR).trans (qR i _ HUI.out)
        clear e1 e2 v1 v2 v3
        have hown2 := p2.own (Nat.le_refl g2)
        go_wp2_with (at_builtin; refine wpList_app3 (base := g2) (k := q.n) (cs := us) rfl _ _ rfl Tryz.underlying37 hs0 hsz0 hsz1 hsz2 rfl (by decide) (cl := [.slice AU (D + 1) cU]) rfl (fun u hu => by rw [List.mem_singleton.1 hu]; rfl) rfl rfl ?hown ?hsrc ?h63 ?hby ?hbase ?_)
        case hown => exact own_below hown2 (Nat.le_refl _) ((Below.refl _ _).alloc (by omega) _)
        case hsrc => exact Blk.new_at _ _ _ rfl
        case h63 => unfold maxLen; omega
        case hby => omega
        case hbase => simp; omega
        intro vL X5 hown5 hgr5 hB5 hob5
        obtain ⟨g5, k5, rfl, lg5, p5⟩ := RowU.of_own hown5 (by omega)
        have lu5 := p5.lt
        have hal4 : Below X4.heap.size X4 (X4.alloc (.cells #[.slice AU (D + 1) cU] 22)) := (Below.refl _ _).alloc (Nat.le_refl _) _
        have hs5 := hgr5.size
        have hs5' : X4.heap.size + 1 ≤ X5.heap.size := by simpa using hs5
        have p15 := (p1.keep hal4).grown hgr5 (by simp [Value.ownBlock]; omega)
        have p35 := (p3.keep hal4).grown hgr5 (by simp [Value.ownBlock]; omega)
        have h45 : Below g2 X4 X5 := ((Below.refl _ _).alloc (by omega) _).trans hB5
        have h35 := h34.trans (h45.mono (by omega))
        have dR5 := (h35.cell (p := ⟨gR, oR + i, none⟩) lR).trans (qR i _ HUI.out)
        have lg51 : g5 ≠ g1 := by omega
        have lg53 : g5 ≠ g3 := by
          rcases hob5 with h | h
          · simp [Value.ownBlock] at h; omega
          · simp [Value.ownBlock] at h; omega
        clear p1 p2 p3 hown2 hown5 hgr5 hB5 hob5 hs5 dR4 hal4 hp
        obtain ⟨t0, ht0, tz0, tz1, tz2⟩ := info_parts ext_info
        have lR5 : gR < X5.heap.size := Nat.lt_of_lt_of_le lR h35.size
        have dR5' : (X5.alloc (.cells #[] 30)).cell? ⟨gR, oR + i, none⟩ = some (.slice AU (D + 1) cU) := (((Below.refl _ X5).alloc (Nat.le_refl _) (.cells #[] 30)).cell (p := ⟨gR, oR + i, none⟩) lR5).trans dR5
        clear dR5
        go_wp2_with (at_builtin; refine wpList_cp (W := X5) (n := D + 1) (lo := 0) (hi2 := w7.heap.size) (v2 := .slice AU (D + 1) cU) rfl _ _ rfl Tryz.underlying22 ht0 tz0 tz1 tz2 rfl (by decide) (cl := r.flatMap ec) (fun u hu => by obtain ⟨x, _, hx⟩ := List.mem_flatMap.1 hu; exact ec_one x u hx) rfl rfl (Rd.keep HE.out h35) ?h0 ?hn (by decide) ?_)
        case h0 => omega
        case hn => omega
        intro g6 k6 X6 hB6 lg6 p6
        have hs6 := hB6.size
        have lu6 := p6.lt
        have p16 := p15.keep hB6
        have p36 := p35.keep hB6
        have p56 := p5.keep hB6
        have h36 := h35.trans (hB6.mono h35.size)
        have e1 := p36.frozen
        have e2 := p36.cell HUI.out
        clear p15 p35 p5
        go_upto_region 12 with (fail)
        have hp := Put.set X6 g3 i (.slice (some ⟨g6, 0, none⟩) (D + 1) k6)
        have p3 := p36.set i (.slice (some ⟨g6, 0, none⟩) (D + 1) k6)
        generalize (X6.setCell ⟨g3, i, none⟩ (.slice (some ⟨g6, 0, none⟩) (D + 1) k6)) = X7 at *
        have p1 := p16.other hp (by omega)
        have p5 := p56.other hp (by omega)
        have p6' := p6.other hp (by omega)
        have h37 := below_put h36 hp (by omega)
        have hX7a := Nat.le_of_eq hp.size
        have hX7b := Nat.le_of_eq hp.size.symm
        have lul : i < us.length := by rw [HUL.out]; exact li
        have c3 := p3.cell (j := i) (List.getElem?_set_self lul)
        obtain ⟨r0, rl, hr0⟩ : ∃ r0 rl, r = r0 :: rl := by
          match r, HrD.out with
          | a :: l, _ => exact ⟨a, l, rfl⟩
        subst hr0
        have c61 := p6'.cell (j := 0) (u := .int .u64 (fv r0.a)) (by simp [ec])
        have c62 := p6'.cell (j := 1) (u := .int .u64 (fv r0.b)) (by simp [ec])
        have b7 := b13.keep h37
        have f1 := gw_cell p3.lt c3
        have f2 := gw_cell p6'.lt c61
        have f3 := gw_cell p6'.lt c62
        have f4 := gw_blk b7
        clear e1 e2 p16 p36 p56 p6 hp c61 c62
        go_upto_region 14 with (fail)
        refine wp_region_rg 13 [(11, Spec.val (.agg #[.int .u64 (fv (r0 + y).a), .int .u64 (fv (r0 + y).b)]))] (by kernel_rfl) (by kernel_rfl) (by kernel_rfl) trivial ?_
        refine rg_det rfl rfl rfl (fun K hK => ?_)
        go_big_quiet_op
        refine hK _ ?_; clear hK K
        refine rg_det rfl rfl rfl (fun K hK => ?_)
        go_big_quiet_op
        refine hK _ ?_; clear hK K
        refine rg_det rfl rfl rfl (fun K hK => ?_)
        go_big_quiet_op
        refine hK _ ?_; clear hK K
        refine rg_det rfl rfl rfl (fun K hK => ?_)
        go_big_quiet_op
        refine hK _ ?_; clear hK K
        refine rg_det rfl rfl rfl (fun K hK => ?_)
        go_big_quiet_op
        refine hK _ ?_; clear hK K
        refine rg_det rfl rfl rfl (fun K hK => ?_)
        go_big_quiet_op
        refine hK _ ?_; clear hK K
        refine rg_det rfl rfl rfl (fun K hK => ?_)
        go_big_quiet_op
        refine hK _ ?_; clear hK K
        refine rg_det rfl rfl rfl (fun K hK => ?_)
        go_big_quiet_op
        refine hK _ ?_; clear hK K
        refine rg_det rfl rfl rfl (fun K hK => ?_)
        go_big_quiet_op
        refine hK _ ?_; clear hK K
        refine rg_det rfl rfl rfl (fun K hK => ?_)
        go_big_quiet_op
        refine hK _ ?_; clear hK K
        refine rg_det rfl rfl rfl (fun K hK => ?_)
        go_big_quiet_op
        refine hK _ ?_; clear hK K
        refine rg_val rfl rfl (fun W1 hW1 hF => step_callv en_attestor_ext_Add (eAdd r0 y W1) rfl rfl) ?_
        intro a' ha
        simp only [Act.put, List.setIfInBounds_toArray, List.set_cons_succ, List.set_cons_zero] at ha
        subst ha
        refine rg_det rfl rfl rfl (fun K hK => ?_)
        go_big_quiet_op
        refine hK _ ?_; clear hK K
        refine rg_nil (fun w' hw' hF => ?_)
        obtain ⟨z2, rfl⟩ := hw'
        simp only [List.drop_succ_cons, List.drop_zero]
        have hz2 := z2.h
        have hz2s := hz2.size
        have r1' := p1.keep hz2
        have r5' := p5.keep hz2
        have r3' := p3.keep hz2
        have r6' := p6'.keep hz2
        have h38 := h37.trans (hz2.mono h37.size)
        have e1 := r6'.frozen
        have e2 := r6'.cell (j := 0) (u := .int .u64 (fv r0.a)) (by simp [ec])
        have e3 := r6'.cell (j := 1) (u := .int .u64 (fv r0.b)) (by simp [ec])
        clear hF f1 f2 f3 f4 b7 p1 p5 p3 p6' c3
        go_upto_region 15 with (fail)
        have hp := (Put.set z2.w g6 0 (.int .u64 (fv (r0 + y).a))).trans (Put.set _ g6 1 (.int .u64 (fv (r0 + y).b)))
        have s6 := (r6'.set 0 (.int .u64 (fv (r0 + y).a))).set 1 (.int .u64 (fv (r0 + y).b))
        rw [flat_set0 (r0 :: rl) (r0 + y) (by simp)] at s6
        generalize ((z2.w.setCell ⟨g6, 0, none⟩ (.int .u64 (fv (r0 + y).a))).setCell ⟨g6, 1, none⟩ (.int .u64 (fv (r0 + y).b))) = X9 at *
        have s1 := r1'.other hp (by omega)
        have s5 := r5'.other hp (by omega)
        have s3 := r3'.other hp (by omega)
        have h39 := below_put h38 hp (by omega)
        have hZ9 := hZ7.keep h39
        clear e1 e2 e3 r1' r5' r3' r6' hp
        have l1 := s1.lt
        have l5 := s5.lt
        have l3 := s3.lt
        have l6 := s6.lt
        have hEl : ∀ (k : Nat) (u : Value) (t : List E), us[k]? = some u → rs[k]? = some t → ExtS 0 X9.heap.size X9 u t := fun k u t hu ht => Rd.wide (Rd.keep (HEL.out k u t hu ht) h39) (Nat.le_refl _) h39.size
        have hEr : ExtS 0 X9.heap.size X9 (.slice AU (D + 1) cU) (r0 :: rl) := hEl i _ _ HUI.out HRI.out
        have T1 : TabS 0 X9.heap.size X9 (.slice (some ⟨g1, 0, none⟩) q.n k1) (rs.set i ((r0 :: rl).take D)) :=
          s1.tabs (by rw [List.length_set, HRL.out]) (by omega) (Nat.zero_le _) l1 (el_set HUL.out HRL.out hEl (exts_take hEr (by rw [HrD.out]; omega)))
        have hEb : ExtS 0 X9.heap.size X9 (.slice (some ⟨g6, 0, none⟩) (D + 1) k6) ((r0 :: rl).set 0 (r0 + y)) := by
          unfold ExtS
          rw [List.length_set, HrD.out]
          exact s6.rd (by omega) (Nat.zero_le _) l6
        have T3 : TabS 0 X9.heap.size X9 (.slice (some ⟨g3, 0, none⟩) q.n k3) (rs.set i ((r0 :: rl).set 0 (r0 + y))) :=
          s3.tabs (by rw [List.length_set, HRL.out]) (by omega) (Nat.zero_le _) l3 (el_set HUL.out HRL.out hEl hEb)
        have T5 : TabS 0 X9.heap.size X9 (.slice (some ⟨g5, 0, none⟩) (q.n + 1) k5) (rs ++ [r0 :: rl]) :=
          s5.tabs (by rw [List.length_append, HRL.out]; rfl) (by omega) (Nat.zero_le _) l5 (fun k u t hu ht => by
            by_cases hk : k < us.length
            · rw [List.getElem?_append_left hk] at hu
              rw [List.getElem?_append_left (by rw [HRL.out, ← HUL.out]; exact hk)] at ht
              exact hEl k u t hu ht
            · have hkk : k < (us ++ [Value.slice AU (D + 1) cU]).length := (List.getElem?_eq_some_iff.1 hu).1
              simp only [List.length_append, List.length_cons, List.length_nil] at hkk
              obtain rfl : k = us.length := by omega
              rw [List.getElem?_append_right (Nat.le_refl _), Nat.sub_self] at hu
              rw [List.getElem?_append_right (by rw [HRL.out, HUL.out]; exact Nat.le_refl _), HUL.out, HRL.out, Nat.sub_self] at ht
              simp only [List.getElem?_cons_zero, Option.some.injEq] at hu ht
              subst hu
              subst ht
              exact hEr)
        have hco := q.co_len
        have hln1 : ∀ x, (rs.set i x).length ≤ 1000 := fun x => by rw [List.length_set, HRL.out]; omega
        have hln2 : (rs ++ [r0 :: rl]).length ≤ 1000 := by rw [List.length_append, HRL.out]; simp; omega
        have K1 := Lib.hid (fun W (h : Below X9.heap.size X9 W) => exps32 (hZ9.keep h) _ [] 61 (hln1 _) (by rw [← HD.out]; exact err_short (prvR q.tabs q.ps q.co) rs q.rho q.co D HC1.out HR0.out i (by rw [HRL.out]; exact li) ((r0 :: rl).take D) (by rw [List.length_take, HrD.out]; omega)) _ _ _ (T1.keep h))
        have K5 := Lib.hid (fun W (h : Below X9.heap.size X9 W) => exps32 (hZ9.keep h) _ [] 1 hln2 (by rw [← HD.out]; exact err_long (prvR q.tabs q.ps q.co) rs q.rho q.co D HC1.out (r0 :: rl)) _ _ _ (T5.keep h))
        obtain ⟨LB, hLB⟩ := err_bent (prvR q.tabs q.ps q.co) rs q.rho q.co D HC1.out HC2.out HC3.out HR0.out hD1 i (r0 :: rl) HRI.out y HY0.out
        replace hLB : explE (prvR q.tabs q.ps q.co) (rs.set i ((r0 :: rl).set 0 (r0 + y))) q.rho q.co q.co.length D = (LB, wantE rs q.co i ((r0 :: rl).set 0 (r0 + y))) := hLB
        obtain ⟨wn, hwn⟩ : ∃ x, x = wantE rs q.co i ((r0 :: rl).set 0 (r0 + y)) := ⟨_, rfl⟩
        rw [← hwn] at hLB
        have HWN := Lib.hid hwn
        clear hwn
        have K3 := Lib.hid (fun W (h : Below X9.heap.size X9 W) => exps32 (hZ9.keep h) _ LB wn (hln1 _) (by rw [← HD.out]; exact hLB) _ _ _ (T3.keep h))
        have e1 := hZ9.bS.cell
        have e2 := hZ9.bW.cell
        clear hLB hln1 hln2
        go_wp2_with fail
        refine (K1.out X9 (Below.refl _ _)).mono ?_
        rintro e Y1 ⟨v8, rfl, -, hb1⟩
        have hZ10 := hZ9.keep hb1
        clear e1 e2
        have e1 := hZ10.bS.cell
        have e2 := hZ10.bW.cell
        go_wp2_with fail
        refine (K5.out Y1 hb1).mono ?_
        rintro e Y2 ⟨v9, rfl, -, hb2⟩
        have hZ11 := hZ10.keep hb2
        clear e1 e2
        have e1 := hZ11.bS.cell
        have e2 := hZ11.bW.cell
        have hb12 := hb1.trans (hb2.mono hb1.size)
        go_wp2_with fail
        refine (K3.out Y2 hb12).mono ?_
        rintro e Y3 ⟨v10, rfl, -, hb3⟩
        have hZ12 := hZ11.keep hb3
        have hb13' := hb12.trans (hb3.mono hb12.size)
        clear e1 e2 K1 K5 K3 hZ10 hZ11
        go_upto_region 19 with (fail)
        have hwf := hZ12.hw
        by_cases hi0 : 0 < i
        · obtain rfl : wn = 60 := HWN.out.trans (if_pos (.inl hi0))
          clear HWN
          have hi1 : (0 : Int) < (i : Int) := by omega
          refine wp_region_rg 26 [] (by kernel_rfl) (by kernel_rfl) (by kernel_rfl) trivial ?_
          refine rg_det rfl rfl rfl (fun K hK => ?_)
          go_big_quiet_op
          refine hK _ ?_; clear hK K
          refine rg_det rfl rfl rfl (fun K hK => ?_)
          go_big_quiet_op
          refine hK _ ?_; clear hK K
          refine rg_det rfl rfl rfl (fun K hK => ?_)
          go_big_quiet_op
          refine hK _ ?_; clear hK K
          refine rg_skip (by kernel_rfl) ?_
          intro a' ha
          simp only [Act.put, List.setIfInBounds_toArray, List.set_cons_succ, List.set_cons_zero] at ha
          subst ha
          refine rg_skip (by kernel_rfl) ?_
          intro a' ha
          simp only [Act.put, List.setIfInBounds_toArray, List.set_cons_succ, List.set_cons_zero] at ha
          subst ha
          refine rg_skip (by kernel_rfl) ?_
          intro a' ha
          simp only [Act.put, List.setIfInBounds_toArray, List.set_cons_succ, List.set_cons_zero] at ha
          subst ha
          refine rg_skip (by kernel_rfl) ?_
          intro a' ha
          simp only [Act.put, List.setIfInBounds_toArray, List.set_cons_succ, List.set_cons_zero] at ha
          subst ha
          refine rg_skip (by kernel_rfl) ?_
          intro a' ha
          simp only [Act.put, List.setIfInBounds_toArray, List.set_cons_succ, List.set_cons_zero] at ha
          subst ha
          refine rg_skip (by kernel_rfl) ?_
          intro a' ha
          simp only [Act.put, List.setIfInBounds_toArray, List.set_cons_succ, List.set_cons_zero] at ha
          subst ha
          refine rg_skip (by kernel_rfl) ?_
          intro a' ha
          simp only [Act.put, List.setIfInBounds_toArray, List.set_cons_succ, List.set_cons_zero] at ha
          subst ha
          refine rg_skip (by kernel_rfl) ?_
          intro a' ha
          simp only [Act.put, List.setIfInBounds_toArray, List.set_cons_succ, List.set_cons_zero] at ha
          subst ha
          refine rg_skip (by kernel_rfl) ?_
          intro a' ha
          simp only [Act.put, List.setIfInBounds_toArray, List.set_cons_succ, List.set_cons_zero] at ha
          subst ha
          refine rg_skip (by kernel_rfl) ?_
          intro a' ha
          simp only [Act.put, List.setIfInBounds_toArray, List.set_cons_succ, List.set_cons_zero] at ha
          subst ha
          refine rg_skip (by kernel_rfl) ?_
          intro a' ha
          simp only [Act.put, List.setIfInBounds_toArray, List.set_cons_succ, List.set_cons_zero] at ha
          subst ha
          refine rg_skip (by kernel_rfl) ?_
          intro a' ha
          simp only [Act.put, List.setIfInBounds_toArray, List.set_cons_succ, List.set_cons_zero] at ha
          subst ha
          refine rg_skip (by kernel_rfl) ?_
          intro a' ha
          simp only [Act.put, List.setIfInBounds_toArray, List.set_cons_succ, List.set_cons_zero] at ha
          subst ha
          refine rg_skip (by kernel_rfl) ?_
          intro a' ha
          simp only [Act.put, List.setIfInBounds_toArray, List.set_cons_succ, List.set_cons_zero] at ha
          subst ha
          refine rg_skip (by kernel_rfl) ?_
          intro a' ha
          simp only [Act.put, List.setIfInBounds_toArray, List.set_cons_succ, List.set_cons_zero] at ha
          subst ha
          refine rg_skip (by kernel_rfl) ?_
          intro a' ha
          simp only [Act.put, List.setIfInBounds_toArray, List.set_cons_succ, List.set_cons_zero] at ha
          subst ha
          refine rg_skip (by kernel_rfl) ?_
          intro a' ha
          simp only [Act.put, List.setIfInBounds_toArray, List.set_cons_succ, List.set_cons_zero] at ha
          subst ha
          refine rg_skip (by kernel_rfl) ?_
          intro a' ha
          simp only [Act.put, List.setIfInBounds_toArray, List.set_cons_succ, List.set_cons_zero] at ha
          subst ha
          refine rg_skip (by kernel_rfl) ?_
          intro a' ha
          simp only [Act.put, List.setIfInBounds_toArray, List.set_cons_succ, List.set_cons_zero] at ha
          subst ha
          refine rg_skip (by kernel_rfl) ?_
          intro a' ha
          simp only [Act.put, List.setIfInBounds_toArray, List.set_cons_succ, List.set_cons_zero] at ha
          subst ha
          refine rg_skip (by kernel_rfl) ?_
          intro a' ha
          simp only [Act.put, List.setIfInBounds_toArray, List.set_cons_succ, List.set_cons_zero] at ha
          subst ha
          refine rg_skip (by kernel_rfl) ?_
          intro a' ha
          simp only [Act.put, List.setIfInBounds_toArray, List.set_cons_succ, List.set_cons_zero] at ha
          subst ha
          refine rg_det rfl rfl rfl (fun K hK => ?_)
          go_big_quiet_op
          refine hK _ ?_; clear hK K
          refine rg_nil (fun w' hw' hF => ?_)
          obtain ⟨z3, rfl⟩ := hw'
          simp only [List.drop_succ_cons, List.drop_zero]
          have hwz := hwf.trans (z3.h.mono hwf.size)
          clear hF
          go_wp2_with fail
          go_ret
          exact ⟨rfl, hwz⟩
        · obtain rfl : i = 0 := by omega
          have hi1 : ¬ ((0 : Int) < ((0 : Nat) : Int)) := by omega
          clear hi0
          by_cases hn1 : 1 < q.n
          · have hn2 : (1 : Int) < (q.n : Int) := by omega
            obtain ⟨gC, oC, cC', hv, -, -, -, lC, qC⟩ := exts_cells hZ12.hC (by rw [q.co_len]; omega)
            rw [q.co_len] at hv
            cases hv
            obtain ⟨c0, hc0, hc0d⟩ := get_of (l := q.co) (k := 0) (by rw [q.co_len]; omega)
            obtain ⟨d1, d2⟩ := qC 0 c0 hc0
            simp only [Nat.zero_mul, Nat.add_zero, Nat.zero_add] at d1 d2
            have h3e := h39.trans (hb13'.mono h39.size)
            have d3 := (h3e.cell (p := ⟨gR, oR + 0, none⟩) lR).trans (qR 0 _ HUI.out)
            rw [Nat.add_zero] at d3
            have s3' := s3.keep hb13'
            have d4 := s3'.cell (j := 0) (List.getElem?_set_self lul)
            have y1 := gw_cell lC d1
            have y2 := gw_cell lC d2
            have y3 := gw_cell (Nat.lt_of_lt_of_le lR h3e.size) d3
            have y4 := gw_cell s3'.lt d4
            have y5 := gw_blk hZ12.bW
            have HB1 := Lib.hid (show ∀ W, Below Y3.heap.size Y3 W → Calls Tryz.prog 40 #[.slice (some ⟨g6, 0, none⟩) (D + 1) k6, ev c0] W (Ret (ev (atE ((r0 :: rl).set 0 (r0 + y)) c0)) W) from fun W h => gAt _ c0 (by rw [List.length_set, HrD.out]; omega) _ _ _ W (Rd.keep (Rd.keep hEb hb13') h))
            have HB2 := Lib.hid (show ∀ W, Below Y3.heap.size Y3 W → Calls Tryz.prog 40 #[.slice AU (D + 1) cU, ev c0] W (Ret (ev (atE (r0 :: rl) c0)) W) from fun W h => gAt _ c0 (by rw [HrD.out]; omega) _ _ _ W (Rd.keep (Rd.keep hEr hb13') h))
            have hwn : wn = if atE ((r0 :: rl).set 0 (r0 + y)) c0 ≠ atE (r0 :: rl) c0 then 60 else 0 := by
              rw [HWN.out]
              unfold wantE
              rw [hc0d, show rs.getD 0 [] = r0 :: rl by rw [List.getD_eq_getElem?_getD, HRI.out]; rfl, HRL.out]
              simp only [hn1, Nat.lt_irrefl, true_and, false_or]
            clear qC hc0 hc0d d1 d2 d3 d4 HWN hEl hEr hEb T1 T3 T5 s1 s3 s5 s6 hZ9 hZ12 qR
            obtain ⟨aB, haB⟩ : ∃ x, x = atE ((r0 :: rl).set 0 (r0 + y)) c0 := ⟨_, rfl⟩
            obtain ⟨aR, haR⟩ : ∃ x, x = atE (r0 :: rl) c0 := ⟨_, rfl⟩
            rw [← haB] at HB1 hwn
            rw [← haR] at HB2 hwn
            clear haB haR
            rcases ext_casesX aB aR with rfl | ⟨hne, hx⟩ | ⟨hne, hx, hx2⟩
            · obtain rfl : wn = 0 := by rw [hwn, if_neg (by simp)]
              clear hwn
              refine wp_region_rg 26 [(14, Spec.val (.agg #[.int .u64 (fv (aB).a), .int .u64 (fv (aB).b)])), (22, Spec.val (.agg #[.int .u64 (fv (aB).a), .int .u64 (fv (aB).b)]))] (by kernel_rfl) (by kernel_rfl) (by kernel_rfl) trivial ?_
              refine rg_det rfl rfl rfl (fun K hK => ?_)
              go_big_quiet_op
              refine hK _ ?_; clear hK K
              refine rg_det rfl rfl rfl (fun K hK => ?_)
              go_big_quiet_op
              refine hK _ ?_; clear hK K
              refine rg_det rfl rfl rfl (fun K hK => ?_)
              go_big_quiet_op
              refine hK _ ?_; clear hK K
              refine rg_det rfl rfl rfl (fun K hK => ?_)
              go_big_quiet_op
              refine hK _ ?_; clear hK K
              refine rg_det rfl rfl rfl (fun K hK => ?_)
              go_big_quiet_op
              refine hK _ ?_; clear hK K
              refine rg_det rfl rfl rfl (fun K hK => ?_)
              go_big_quiet_op
              refine hK _ ?_; clear hK K
              refine rg_det rfl rfl rfl (fun K hK => ?_)
              go_big_quiet_op
              refine hK _ ?_; clear hK K
              refine rg_det rfl rfl rfl (fun K hK => ?_)
              go_big_quiet_op
              refine hK _ ?_; clear hK K
              refine rg_det rfl rfl rfl (fun K hK => ?_)
              go_big_quiet_op
              refine hK _ ?_; clear hK K
              refine rg_det rfl rfl rfl (fun K hK => ?_)
              go_big_quiet_op
              refine hK _ ?_; clear hK K
              refine rg_det rfl rfl rfl (fun K hK => ?_)
              go_big_quiet_op
              refine hK _ ?_; clear hK K
              refine rg_det rfl rfl rfl (fun K hK => ?_)
              go_big_quiet_op
              refine hK _ ?_; clear hK K
              refine rg_det rfl rfl rfl (fun K hK => ?_)
              go_big_quiet_op
              refine hK _ ?_; clear hK K
              refine rg_det rfl rfl rfl (fun K hK => ?_)
              go_big_quiet_op
              refine hK _ ?_; clear hK K
              refine rg_val rfl rfl (fun W1 hW1 hF => step_callv en_attestor_poly_At (HB1.out W1 (grw_below hW1)) rfl rfl) ?_
              intro a' ha
              simp only [Act.put, List.setIfInBounds_toArray, List.set_cons_succ, List.set_cons_zero] at ha
              subst ha
              refine rg_det rfl rfl rfl (fun K hK => ?_)
              go_big_quiet_op
              refine hK _ ?_; clear hK K
              refine rg_det rfl rfl rfl (fun K hK => ?_)
              go_big_quiet_op
              refine hK _ ?_; clear hK K
              refine rg_det rfl rfl rfl (fun K hK => ?_)
              go_big_quiet_op
              refine hK _ ?_; clear hK K
              refine rg_det rfl rfl rfl (fun K hK => ?_)
              go_big_quiet_op
              refine hK _ ?_; clear hK K
              refine rg_det rfl rfl rfl (fun K hK => ?_)
              go_big_quiet_op
              refine hK _ ?_; clear hK K
              refine rg_det rfl rfl rfl (fun K hK => ?_)
              go_big_quiet_op
              refine hK _ ?_; clear hK K
              refine rg_det rfl rfl rfl (fun K hK => ?_)
              go_big_quiet_op
              refine hK _ ?_; clear hK K
              refine rg_val rfl rfl (fun W1 hW1 hF => step_callv en_attestor_poly_At (HB2.out W1 (grw_below hW1)) rfl rfl) ?_
              intro a' ha
              simp only [Act.put, List.setIfInBounds_toArray, List.set_cons_succ, List.set_cons_zero] at ha
              subst ha
              refine rg_det rfl rfl rfl (fun K hK => ?_)
              go_big_quiet_op
              refine hK _ ?_; clear hK K
              refine rg_det rfl rfl rfl (fun K hK => ?_)
              go_big_quiet_op
              refine hK _ ?_; clear hK K
              refine rg_det rfl rfl rfl (fun K hK => ?_)
              go_big_quiet_op
              refine hK _ ?_; clear hK K
              refine rg_nil (fun w' hw' hF => ?_)
              obtain ⟨z3, rfl⟩ := hw'
              simp only [List.drop_succ_cons, List.drop_zero]
              have hwz := hwf.trans (z3.h.mono hwf.size)
              clear hF y1 y2 y3 y4 y5
              go_wp2_with fail
              go_ret
              exact ⟨rfl, hwz⟩
            · obtain rfl : wn = 60 := by rw [hwn, if_pos hne]
              clear hwn hne
              refine wp_region_rg 26 [(14, Spec.val (.agg #[.int .u64 (fv (aB).a), .int .u64 (fv (aB).b)])), (22, Spec.val (.agg #[.int .u64 (fv (aR).a), .int .u64 (fv (aR).b)]))] (by kernel_rfl) (by kernel_rfl) (by kernel_rfl) trivial ?_
              refine rg_det rfl rfl rfl (fun K hK => ?_)
              go_big_quiet_op
              refine hK _ ?_; clear hK K
              refine rg_det rfl rfl rfl (fun K hK => ?_)
              go_big_quiet_op
              refine hK _ ?_; clear hK K
              refine rg_det rfl rfl rfl (fun K hK => ?_)
              go_big_quiet_op
              refine hK _ ?_; clear hK K
              refine rg_det rfl rfl rfl (fun K hK => ?_)
              go_big_quiet_op
              refine hK _ ?_; clear hK K
              refine rg_det rfl rfl rfl (fun K hK => ?_)
              go_big_quiet_op
              refine hK _ ?_; clear hK K
              refine rg_det rfl rfl rfl (fun K hK => ?_)
              go_big_quiet_op
              refine hK _ ?_; clear hK K
              refine rg_det rfl rfl rfl (fun K hK => ?_)
              go_big_quiet_op
              refine hK _ ?_; clear hK K
              refine rg_det rfl rfl rfl (fun K hK => ?_)
              go_big_quiet_op
              refine hK _ ?_; clear hK K
              refine rg_det rfl rfl rfl (fun K hK => ?_)
              go_big_quiet_op
              refine hK _ ?_; clear hK K
              refine rg_det rfl rfl rfl (fun K hK => ?_)
              go_big_quiet_op
              refine hK _ ?_; clear hK K
              refine rg_det rfl rfl rfl (fun K hK => ?_)
              go_big_quiet_op
              refine hK _ ?_; clear hK K
              refine rg_det rfl rfl rfl (fun K hK => ?_)
              go_big_quiet_op
              refine hK _ ?_; clear hK K
              refine rg_det rfl rfl rfl (fun K hK => ?_)
              go_big_quiet_op
              refine hK _ ?_; clear hK K
              refine rg_det rfl rfl rfl (fun K hK => ?_)
              go_big_quiet_op
              refine hK _ ?_; clear hK K
              refine rg_val rfl rfl (fun W1 hW1 hF => step_callv en_attestor_poly_At (HB1.out W1 (grw_below hW1)) rfl rfl) ?_
              intro a' ha
              simp only [Act.put, List.setIfInBounds_toArray, List.set_cons_succ, List.set_cons_zero] at ha
              subst ha
              refine rg_det rfl rfl rfl (fun K hK => ?_)
              go_big_quiet_op
              refine hK _ ?_; clear hK K
              refine rg_det rfl rfl rfl (fun K hK => ?_)
              go_big_quiet_op
              refine hK _ ?_; clear hK K
              refine rg_det rfl rfl rfl (fun K hK => ?_)
              go_big_quiet_op
              refine hK _ ?_; clear hK K
              refine rg_det rfl rfl rfl (fun K hK => ?_)
              go_big_quiet_op
              refine hK _ ?_; clear hK K
              refine rg_det rfl rfl rfl (fun K hK => ?_)
              go_big_quiet_op
              refine hK _ ?_; clear hK K
              refine rg_det rfl rfl rfl (fun K hK => ?_)
              go_big_quiet_op
              refine hK _ ?_; clear hK K
              refine rg_det rfl rfl rfl (fun K hK => ?_)
              go_big_quiet_op
              refine hK _ ?_; clear hK K
              refine rg_val rfl rfl (fun W1 hW1 hF => step_callv en_attestor_poly_At (HB2.out W1 (grw_below hW1)) rfl rfl) ?_
              intro a' ha
              simp only [Act.put, List.setIfInBounds_toArray, List.set_cons_succ, List.set_cons_zero] at ha
              subst ha
              refine rg_det rfl rfl rfl (fun K hK => ?_)
              go_big_quiet_op
              refine hK _ ?_; clear hK K
              refine rg_det rfl rfl rfl (fun K hK => ?_)
              go_big_quiet_op
              refine hK _ ?_; clear hK K
              refine rg_det rfl rfl rfl (fun K hK => ?_)
              go_big_quiet_op
              refine hK _ ?_; clear hK K
              refine rg_nil (fun w' hw' hF => ?_)
              obtain ⟨z3, rfl⟩ := hw'
              simp only [List.drop_succ_cons, List.drop_zero]
              have hwz := hwf.trans (z3.h.mono hwf.size)
              clear hF y1 y2 y3 y4 y5
              go_wp2_with fail
              go_ret
              exact ⟨rfl, hwz⟩
            · obtain rfl : wn = 60 := by rw [hwn, if_pos hne]
              clear hwn hne
              refine wp_region_rg 26 [(14, Spec.val (.agg #[.int .u64 (fv (aB).a), .int .u64 (fv (aB).b)])), (22, Spec.val (.agg #[.int .u64 (fv (aR).a), .int .u64 (fv (aR).b)]))] (by kernel_rfl) (by kernel_rfl) (by kernel_rfl) trivial ?_
              refine rg_det rfl rfl rfl (fun K hK => ?_)
              go_big_quiet_op
              refine hK _ ?_; clear hK K
              refine rg_det rfl rfl rfl (fun K hK => ?_)
              go_big_quiet_op
              refine hK _ ?_; clear hK K
              refine rg_det rfl rfl rfl (fun K hK => ?_)
              go_big_quiet_op
              refine hK _ ?_; clear hK K
              refine rg_det rfl rfl rfl (fun K hK => ?_)
              go_big_quiet_op
              refine hK _ ?_; clear hK K
              refine rg_det rfl rfl rfl (fun K hK => ?_)
              go_big_quiet_op
              refine hK _ ?_; clear hK K
              refine rg_det rfl rfl rfl (fun K hK => ?_)
              go_big_quiet_op
              refine hK _ ?_; clear hK K
              refine rg_det rfl rfl rfl (fun K hK => ?_)
              go_big_quiet_op
              refine hK _ ?_; clear hK K
              refine rg_det rfl rfl rfl (fun K hK => ?_)
              go_big_quiet_op
              refine hK _ ?_; clear hK K
              refine rg_det rfl rfl rfl (fun K hK => ?_)
              go_big_quiet_op
              refine hK _ ?_; clear hK K
              refine rg_det rfl rfl rfl (fun K hK => ?_)
              go_big_quiet_op
              refine hK _ ?_; clear hK K
              refine rg_det rfl rfl rfl (fun K hK => ?_)
              go_big_quiet_op
              refine hK _ ?_; clear hK K
              refine rg_det rfl rfl rfl (fun K hK => ?_)
              go_big_quiet_op
              refine hK _ ?_; clear hK K
              refine rg_det rfl rfl rfl (fun K hK => ?_)
              go_big_quiet_op
              refine hK _ ?_; clear hK K
              refine rg_det rfl rfl rfl (fun K hK => ?_)
              go_big_quiet_op
              refine hK _ ?_; clear hK K
              refine rg_val rfl rfl (fun W1 hW1 hF => step_callv en_attestor_poly_At (HB1.out W1 (grw_below hW1)) rfl rfl) ?_
              intro a' ha
              simp only [Act.put, List.setIfInBounds_toArray, List.set_cons_succ, List.set_cons_zero] at ha
              subst ha
              refine rg_det rfl rfl rfl (fun K hK => ?_)
              go_big_quiet_op
              refine hK _ ?_; clear hK K
              refine rg_det rfl rfl rfl (fun K hK => ?_)
              go_big_quiet_op
              refine hK _ ?_; clear hK K
              refine rg_det rfl rfl rfl (fun K hK => ?_)
              go_big_quiet_op
              refine hK _ ?_; clear hK K
              refine rg_det rfl rfl rfl (fun K hK => ?_)
              go_big_quiet_op
              refine hK _ ?_; clear hK K
              refine rg_det rfl rfl rfl (fun K hK => ?_)
              go_big_quiet_op
              refine hK _ ?_; clear hK K
              refine rg_det rfl rfl rfl (fun K hK => ?_)
              go_big_quiet_op
              refine hK _ ?_; clear hK K
              refine rg_det rfl rfl rfl (fun K hK => ?_)
              go_big_quiet_op
              refine hK _ ?_; clear hK K
              refine rg_val rfl rfl (fun W1 hW1 hF => step_callv en_attestor_poly_At (HB2.out W1 (grw_below hW1)) rfl rfl) ?_
              intro a' ha
              simp only [Act.put, List.setIfInBounds_toArray, List.set_cons_succ, List.set_cons_zero] at ha
              subst ha
              refine rg_det rfl rfl rfl (fun K hK => ?_)
              go_big_quiet_op
              refine hK _ ?_; clear hK K
              refine rg_det rfl rfl rfl (fun K hK => ?_)
              go_big_quiet_op
              refine hK _ ?_; clear hK K
              refine rg_det rfl rfl rfl (fun K hK => ?_)
              go_big_quiet_op
              refine hK _ ?_; clear hK K
              refine rg_nil (fun w' hw' hF => ?_)
              obtain ⟨z3, rfl⟩ := hw'
              simp only [List.drop_succ_cons, List.drop_zero]
              have hwz := hwf.trans (z3.h.mono hwf.size)
              clear hF y1 y2 y3 y4 y5
              go_wp2_with fail
              go_ret
              exact ⟨rfl, hwz⟩
          · have hn2 : ¬ ((1 : Int) < (q.n : Int)) := by omega
            obtain rfl : wn = 0 := HWN.out.trans (if_neg (by rw [HRL.out]; omega))
            clear HWN
            refine wp_region_rg 26 [] (by kernel_rfl) (by kernel_rfl) (by kernel_rfl) trivial ?_
            refine rg_det rfl rfl rfl (fun K hK => ?_)
            go_big_quiet_op
            refine hK _ ?_; clear hK K
            refine rg_det rfl rfl rfl (fun K hK => ?_)
            go_big_quiet_op
            refine hK _ ?_; clear hK K
            refine rg_det rfl rfl rfl (fun K hK => ?_)
            go_big_quiet_op
            refine hK _ ?_; clear hK K
            refine rg_det rfl rfl rfl (fun K hK => ?_)
            go_big_quiet_op
            refine hK _ ?_; clear hK K
            refine rg_det rfl rfl rfl (fun K hK => ?_)
            go_big_quiet_op
            refine hK _ ?_; clear hK K
            refine rg_det rfl rfl rfl (fun K hK => ?_)
            go_big_quiet_op
            refine hK _ ?_; clear hK K
            refine rg_det rfl rfl rfl (fun K hK => ?_)
            go_big_quiet_op
            refine hK _ ?_; clear hK K
            refine rg_skip (by kernel_rfl) ?_
            intro a' ha
            simp only [Act.put, List.setIfInBounds_toArray, List.set_cons_succ, List.set_cons_zero] at ha
            subst ha
            refine rg_skip (by kernel_rfl) ?_
            intro a' ha
            simp only [Act.put, List.setIfInBounds_toArray, List.set_cons_succ, List.set_cons_zero] at ha
            subst ha
            refine rg_skip (by kernel_rfl) ?_
            intro a' ha
            simp only [Act.put, List.setIfInBounds_toArray, List.set_cons_succ, List.set_cons_zero] at ha
            subst ha
            refine rg_skip (by kernel_rfl) ?_
            intro a' ha
            simp only [Act.put, List.setIfInBounds_toArray, List.set_cons_succ, List.set_cons_zero] at ha
            subst ha
            refine rg_skip (by kernel_rfl) ?_
            intro a' ha
            simp only [Act.put, List.setIfInBounds_toArray, List.set_cons_succ, List.set_cons_zero] at ha
            subst ha
            refine rg_skip (by kernel_rfl) ?_
            intro a' ha
            simp only [Act.put, List.setIfInBounds_toArray, List.set_cons_succ, List.set_cons_zero] at ha
            subst ha
            refine rg_skip (by kernel_rfl) ?_
            intro a' ha
            simp only [Act.put, List.setIfInBounds_toArray, List.set_cons_succ, List.set_cons_zero] at ha
            subst ha
            refine rg_skip (by kernel_rfl) ?_
            intro a' ha
            simp only [Act.put, List.setIfInBounds_toArray, List.set_cons_succ, List.set_cons_zero] at ha
            subst ha
            refine rg_skip (by kernel_rfl) ?_
            intro a' ha
            simp only [Act.put, List.setIfInBounds_toArray, List.set_cons_succ, List.set_cons_zero] at ha
            subst ha
            refine rg_skip (by kernel_rfl) ?_
            intro a' ha
            simp only [Act.put, List.setIfInBounds_toArray, List.set_cons_succ, List.set_cons_zero] at ha
            subst ha
            refine rg_skip (by kernel_rfl) ?_
            intro a' ha
            simp only [Act.put, List.setIfInBounds_toArray, List.set_cons_succ, List.set_cons_zero] at ha
            subst ha
            refine rg_skip (by kernel_rfl) ?_
            intro a' ha
            simp only [Act.put, List.setIfInBounds_toArray, List.set_cons_succ, List.set_cons_zero] at ha
            subst ha
            refine rg_skip (by kernel_rfl) ?_
            intro a' ha
            simp only [Act.put, List.setIfInBounds_toArray, List.set_cons_succ, List.set_cons_zero] at ha
            subst ha
            refine rg_skip (by kernel_rfl) ?_
            intro a' ha
            simp only [Act.put, List.setIfInBounds_toArray, List.set_cons_succ, List.set_cons_zero] at ha
            subst ha
            refine rg_skip (by kernel_rfl) ?_
            intro a' ha
            simp only [Act.put, List.setIfInBounds_toArray, List.set_cons_succ, List.set_cons_zero] at ha
            subst ha
            refine rg_skip (by kernel_rfl) ?_
            intro a' ha
            simp only [Act.put, List.setIfInBounds_toArray, List.set_cons_succ, List.set_cons_zero] at ha
            subst ha
            refine rg_skip (by kernel_rfl) ?_
            intro a' ha
            simp only [Act.put, List.setIfInBounds_toArray, List.set_cons_succ, List.set_cons_zero] at ha
            subst ha
            refine rg_det rfl rfl rfl (fun K hK => ?_)
            go_big_quiet_op
            refine hK _ ?_; clear hK K
            refine rg_det rfl rfl rfl (fun K hK => ?_)
            go_big_quiet_op
            refine hK _ ?_; clear hK K
            refine rg_nil (fun w' hw' hF => ?_)
            obtain ⟨z3, rfl⟩ := hw'
            simp only [List.drop_succ_cons, List.drop_zero]
            have hwz := hwf.trans (z3.h.mono hwf.size)
            clear hF
            go_wp2_with fail
            go_ret
            exact ⟨rfl, hwz⟩
end Go.Proofs.YtnddfeidggcplaaGreat
