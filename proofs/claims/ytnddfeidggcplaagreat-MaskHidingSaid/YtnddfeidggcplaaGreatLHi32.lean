/-
  MaskHiding: the walk.
-/
import Derived.Test.YtnddfeidggcplaaGreatSh32
import Derived.Test.YtnddfeidggcplaaGreatHm32
import Derived.Test.YtnddfeidggcplaaGreatMs32
import Derived.Test.YtnddfeidggcplaaGreatSw32
namespace Go.Proofs.YtnddfeidggcplaaGreat
open Go.RowKit

def tbK (O : Nat → List Raw) (N k : Nat) : List (List E) := (List.range k).map fun i => madeAll (O i) N
theorem tbK_succ (O : Nat → List Raw) (N k : Nat) : tbK O N (k + 1) = tbK O N k ++ [madeAll (O k) N] := by simp [tbK, List.range_succ]
theorem tbK_length (O : Nat → List Raw) (N k : Nat) : (tbK O N k).length = k := by simp [tbK]
theorem tbK_all (O : Nat → List Raw) (N k : Nat) : AllLen (tbK O N k) N := fun t ht => by
  obtain ⟨i, _, rfl⟩ := List.mem_map.1 ht
  exact madeAll_length _ _
theorem prvM_cons (tabs : List (List E)) (ps : List Trm) (m : List (List E)) (rho : E) (co : List E) (h : AllLen tabs (2 ^ co.length)) (h0 : 0 < tabs.length) (h3 : degE ps ≤ 3) (hm : m.length = co.length) (hr : ∀ g ∈ m, g.length = degE ps + 1) :
    (prvM (prvR tabs ps co) m rho co).length = co.length ∧ (∀ (i : Nat) (g : List E), (prvM (prvR tabs ps co) m rho co)[i]? = some g → g.length = degE ps + 1) ∧ sumOk (prvM (prvR tabs ps co) m rho co) co = true := by
  obtain ⟨C, hC⟩ := prvM_steps tabs ps m rho co h h0 h3 hm hr
  have hl : (prvM (prvR tabs ps co) m rho co).length = co.length := by rw [prvM_length, hm]
  refine ⟨hl, fun i g hg => ?_, sumOk_steps _ co hl C (fun i g r q1 q2 => (hC i g r q1 q2).2)⟩
  have hi : i < co.length := by have := (List.getElem?_eq_some_iff.1 hg).1; omega
  exact (hC i g co[i] hg (List.getElem?_eq_getElem hi)).1
theorem prove32 (q : Q32) (tabs : List (List E)) (hal : AllLen tabs (2 ^ q.n)) (hl : tabs.length = 3) (K : List (List E)) (hKl : K.length = q.n) (hKr : ∀ (i : Nat) (g : List E), K[i]? = some g → g.length = degE q.ps + 1) (R : List (List E)) (hR : prvM (prvR tabs q.ps q.co) K q.rho q.co = R) (A AP AC : Option Addr) (c cP cC lo hi : Nat) (vK : Value) (Y : World)
    (hS : SumS 0 Y.heap.size Y (.slice A 3 c) (.slice AP q.ps.length cP) tabs q.ps) (hK : TabS lo hi Y vK K) (hC : ExtS 0 Y.heap.size Y (.slice AC q.n cC) q.co) :
    Calls Tryz.prog 14 #[.agg #[.slice A 3 c, .slice AP q.ps.length cP], vK, .agg #[.int .u64 (fv q.rho.a), .int .u64 (fv q.rho.b), .slice AC q.n cC]] Y (PrvM Y R (prvV tabs q.co) · ·) := by
  have := gProveM tabs q.ps K q.rho q.co q.n q.co_len (Nat.le_trans q.n_le (by decide)) hal (by rw [hl]; decide) (by rw [hl]; decide) hKl (fun g hg => by
    obtain ⟨i, hi, rfl⟩ := List.mem_iff_getElem.1 hg
    exact hKr i _ (List.getElem?_eq_getElem hi)) (Nat.le_trans q.deg (by decide)) AC cC (.slice A 3 c) (.slice AP q.ps.length cP) vK _ _ _ _ 0 Y.heap.size Y hS hK (by rw [q.co_len]; exact hC)
  rw [q.co_len, hR] at this
  exact this
theorem expl32 (q : Q32) (tabs : List (List E)) (hal : AllLen tabs (2 ^ q.n)) (hl : tabs.length = 3) (rs K : List (List E)) (hrl : rs.length = q.n) (hX : explE (prvR tabs q.ps q.co) rs q.rho q.co q.co.length (degE q.ps) = (K, 0)) (A AP AC : Option Addr) (c cP cC lo hi : Nat) (vR : Value) (Y : World)
    (hS : SumS 0 Y.heap.size Y (.slice A 3 c) (.slice AP q.ps.length cP) tabs q.ps) (hR : TabS lo hi Y vR rs) (hC : ExtS 0 Y.heap.size Y (.slice AC q.n cC) q.co) :
    Calls Tryz.prog 16 #[.agg #[.slice A 3 c, .slice AP q.ps.length cP], vR, .agg #[.int .u64 (fv q.rho.a), .int .u64 (fv q.rho.b), .slice AC q.n cC]] Y (ExpR Y (K, 0) · ·) := by
  have := gExplain tabs q.ps rs q.rho q.co q.n (Nat.le_trans q.n_le (by decide)) hal (by rw [hl]; decide) (by rw [hl]; decide) (Nat.le_trans q.deg (by decide)) (by rw [hrl]; exact Nat.le_trans q.n_le (by decide)) AC cC (.slice A 3 c) (.slice AP q.ps.length cP) vR _ _ _ _ 0 Y.heap.size Y hS hR (by rw [q.co_len]; exact hC)
  rw [q.co_len] at this hX
  rw [hX] at this
  exact this
theorem SumS.base32 {lo hi : Nat} {w X : World} {vt vp : Value} {tabs : List (List E)} {ps : List Trm} (h : SumS lo hi w vt vp tabs ps) (hb : Below w.heap.size w X) : SumS 0 X.heap.size X vt vp tabs ps :=
  ⟨(h.ht.keep hb).base, (h.hp.keep hb).base, h.ix, h.few, h.short⟩
structure H32 (w : World) (q : Q32) (tb : List (List E)) (gS gW gT g5 : Nat) (c5 : Array Value) (AT AP AM AC AU : Option Addr) (cT cP cM cC cU : Nat) (X : World) : Prop where
  hZ : Z32 w q gS gW AT AP AM AC cT cP cM cC X
  hT : SumS 0 X.heap.size X (.slice AU 3 cU) (.slice AP q.ps.length cP) tb q.ps
  bT : Blk X gT 36 #[.slice AU 3 cU, .slice AP q.ps.length cP]
  b5 : Blk X g5 55 c5
theorem H32.keep {w : World} {q : Q32} {tb : List (List E)} {gS gW gT g5 : Nat} {c5 : Array Value} {AT AP AM AC AU : Option Addr} {cT cP cM cC cU : Nat} {X Y : World} (h : H32 w q tb gS gW gT g5 c5 AT AP AM AC AU cT cP cM cC cU X) (hb : Below X.heap.size X Y) : H32 w q tb gS gW gT g5 c5 AT AP AM AC AU cT cP cM cC cU Y :=
  ⟨h.hZ.keep hb, h.hT.base32 hb, h.bT.keep hb, h.b5.keep hb⟩
attribute [local irreducible] wpRg
set_option maxRecDepth 100000 in
set_option maxHeartbeats 8000000 in
theorem wkMaskHiding (q : Q32) (A : Nat → Option Addr) (cc : Nat → Nat) (AL : Option Addr) (cL : Nat) (vM vC : Value) (O : Nat → List Raw) (B : Nat → Option Addr) (bc : Nat → Nat) (x : Sc32) (xC xR : Value) (w : World) (h : Q32S w.heap.size w q A cc AL cL vM vC)
    (hO : ∀ k, k < 3 → RawS 0 w.heap.size w (.slice (B k) (O k).length (bc k)) (O k)) (hx : Sc32S w.heap.size w x xC xR) :
    Calls Tryz.prog 8 #[qv32 A cc AL cL vM vC q, .agg #[.slice (B 0) (O 0).length (bc 0), .slice (B 1) (O 1).length (bc 1), .slice (B 2) (O 2).length (bc 2)], sc32 xC xR x] w (Ret (.bool true) w) := by
  have HS := Lib.hid (fun W (hW : Below w.heap.size w W) => lSim32 x xC xR W (hx.keep hW hW.size))
  have HO := Lib.hid hO
  obtain ⟨L0, hL0⟩ : ∃ l, l = (O 0).length := ⟨_, rfl⟩
  obtain ⟨L1, hL1⟩ : ∃ l, l = (O 1).length := ⟨_, rfl⟩
  obtain ⟨L2, hL2⟩ : ∃ l, l = (O 2).length := ⟨_, rfl⟩
  rw [← hL0, ← hL1, ← hL2]
  have HL0 := Lib.hid hL0
  have HL1 := Lib.hid hL1
  have HL2 := Lib.hid hL2
  unfold sc32 at *
  clear hL0 hL1 hL2 hO hx
  have HQ := Lib.hid (fun W (hW : Below w.heap.size w W) => lMade32 q A cc AL cL vM vC W (h.keep hW hW.size))
  unfold qv32 at *
  clear h
  go_enter Tryz.func8, Tryz.ntmps8
  go_wp2_with fail
  refine calls_stk3 fun W1 hB1 hz1 b1 b4 b5 => ?_
  refine (lSanity32a W1).mono ?_
  rintro e w1 ⟨rfl, hb1⟩
  have h1 := hB1.trans (hb1.mono hB1.size)
  have f1 := (b1.keep hb1).cell
  go_wp2_with fail
  refine (HQ.out w1 h1).mono ?_
  rintro e w2 ⟨vt, vp, vm, AC, cC, rfl, hS, hM, hC, hb2⟩
  obtain ⟨AT, cT, hv⟩ := hS.ht.len
  replace hv : vt = .slice AT 3 cT := by rw [hv, q.tabs_len]
  subst hv
  obtain ⟨AP, cP, rfl⟩ := hS.hp.len
  obtain ⟨AM, cM, hv⟩ := hM.len
  replace hv : vm = .slice AM q.n cM := by rw [hv, q.m_len]
  subst hv
  rw [q.co_len] at hC ⊢
  clear f1
  unfold sv
  go_upto_region 3 with (fail)
  refine wp_stk2 fun X hX hzX b8 b6 => ?_
  have h2 := h1.trans (hb2.mono h1.size)
  have hZ : Z32 w q w2.heap.size (w2.heap.size + 1) AT AP AM AC cT cP cM cC X :=
    ⟨⟨(hS.ht.keep hX).base, (hS.hp.keep hX).base, hS.ix, hS.few, hS.short⟩, (hM.keep hX).base, ext_base (Rd.keep hC hX), b8, b6, h2.trans (hX.mono h2.size)⟩
  replace b4 := b4.keep (hb1.trans ((hb2.trans (hX.mono hb2.size)).mono hb1.size))
  replace b5 := b5.keep (hb1.trans ((hb2.trans (hX.mono hb2.size)).mono hb1.size))
  clear hS hM hC b8 b6 hX hzX hb2 h1 h2 hB1 hz1 b1 hb1 HQ
  have e6 := hZ.bW.cell
  go_wp2_with fail
  refine (eIsZero q.rho X).mono ?_
  rintro e w3 ⟨rfl, hb3⟩
  have hZ3 := hZ.keep hb3
  replace b4 := b4.keep hb3
  replace b5 := b5.keep hb3
  clear e6 hb3 hZ
  have e4 := hZ3.bS.cell
  have e6 := hZ3.bW.cell
  by_cases hr0 : q.rho = 0
  · rw [decide_eq_true hr0]
    have HE := Lib.hid (show Calls Tryz.prog 16 #[.agg #[.slice AT 3 cT, .slice AP q.ps.length cP], .slice AM q.n cM, .agg #[.int .u64 (fv q.rho.a), .int .u64 (fv q.rho.b), .slice AC q.n cC]] w3 (ExpR w3 ([], 3) · ·) by
      have := gExplain q.tabs q.ps q.m q.rho q.co q.n (Nat.le_trans q.n_le (by decide)) q.all (by rw [q.tabs_len]; decide) (by rw [q.tabs_len]; decide) (Nat.le_trans q.deg (by decide)) (by rw [q.m_len]; exact Nat.le_trans q.n_le (by decide)) AC cC (.slice AT 3 cT) (.slice AP q.ps.length cP) (.slice AM q.n cM) _ _ _ _ 0 w3.heap.size w3 hZ3.hS hZ3.hM (by rw [q.co_len]; exact hZ3.hC)
      rw [q.co_len, show explE (prvR q.tabs q.ps q.co) q.m q.rho q.co q.n (degE q.ps) = ([], 3) by unfold explE; rw [if_neg (by rw [q.m_len, q.co_len]; simp), if_pos hr0]] at this
      exact this)
    have hw3 := hZ3.hw
    clear hr0 hZ3
    go_wp2_with fail
    refine (HE.out).mono ?_
    rintro e w4 ⟨v7, rfl, hK, hb4⟩
    clear hK e4 e6
    have hw4 := hw3.trans (hb4.mono hw3.size)
    go_wp2_with fail
    go_ret
    exact ⟨rfl, hw4⟩
  · rw [decide_eq_false hr0]
    have HR0 := Lib.hid hr0
    clear hr0 e6
    go_upto_region 7 with (fail)
    refine wp_stk1 fun Y hY hzY b13 => ?_
    have hYs := hzY.out
    clear hzY e4
    obtain ⟨N, hN⟩ : ∃ N, N = 2 ^ q.n := ⟨_, rfl⟩
    have hN8 : N ≤ 8 := by rw [hN]; exact Nat.pow_le_pow_right (by decide) q.n_le
    have hall : AllLen q.tabs N := by rw [hN]; exact q.all
    have htl := q.tabs_len
    have HAL := Lib.hid hall
    have HTL := Lib.hid htl
    have HNE := Lib.hid hN
    have HTS := Lib.hid (tbK_succ O N)
    clear hN hall htl
    obtain ⟨s0, hs0, hsz0, hsz1, hsz2⟩ := info_parts sl_info
    go_wp2_with fail
    go_loopw [14] (fun i wr => ∃ k : Nat, k ≤ 3 ∧ i = .int .i64 k ∧ ∃ vT, RowT (w3.heap.size + 1) wr vT (tbK O N k) ∧ Blk wr w3.heap.size 36 #[vT, .slice AP q.ps.length cP] ∧ Below w3.heap.size w3 wr ∧ w3.heap.size + 1 ≤ wr.heap.size) (fun i _ => 3 - (intOf i).toNat)
    case atStart => exact ⟨0, by decide, rfl, .slice none 0 0, RowT.first _ _, b13, hY, by omega⟩
    case round =>
      obtain ⟨j, hj, rfl, vT, hrow, b13, hBr, hrs⟩ := hrel
      obtain ⟨V, hV⟩ : ∃ V, V = wr := ⟨_, rfl⟩
      subst hV
      obtain ⟨AU, cU, hv⟩ := hrow.len'
      rw [tbK_length] at hv
      subst hv
      have bSr := hZ3.bS.keep hBr
      have bAr := b4.keep hBr
      have e1 := bSr.cell
      by_cases hlt : j < 3
      · obtain ⟨gT, oT, cT', hv, -, -, hgT, lT, qT⟩ := tabs_cells hZ3.hS.ht (by rw [HTL.out]; decide)
        rw [HTL.out] at hv
        cases hv
        obtain ⟨tb, htb⟩ : ∃ t, q.tabs[j]? = some t := ⟨_, List.getElem?_eq_getElem (by rw [HTL.out]; exact hlt)⟩
        obtain ⟨At, ct, d1, -⟩ := qT j tb htb
        rw [HAL.out tb (List.mem_of_getElem? htb)] at d1
        have hc : V.cell? ⟨w.heap.size + 1, j, none⟩ = some (.slice (B j) (O j).length (bc j)) := by
          rw [bAr.cell]
          match j, hlt with
          | 0, _ => rw [HL0.out]; rfl
          | 1, _ => rw [HL1.out]; rfl
          | 2, _ => rw [HL2.out]; rfl
        have f1 := gw_cell bAr.lt hc
        have f2 := gw_blk b13
        have f3 := gw_blk bSr
        have f4 := gw_cell (Nat.lt_of_lt_of_le lT hBr.size) ((hBr.cell (p := ⟨gT, oT + j, none⟩) lT).trans d1)
        have hrw := HO.out j hlt
        have hwV := hZ3.hw.trans (hBr.mono hZ3.hw.size)
        have HX := Lib.hid (show ∀ W1, Below V.heap.size V W1 → Calls Tryz.prog 41 #[.slice (B j) (O j).length (bc j), .int .i64 (N : Int)] W1 (RetR (ExtA (madeAll (O j) N)) W1) from fun W1 h => xExact (O j) N (by omega) _ _ _ W1 ⟨Rd.keep (Rd.keep hrw.1 hwV) h, hrw.2⟩)
        have hrem : Int.tmod (j : Int) 3 = (j : Int) := by
          rw [Int.tmod_eq_emod_of_nonneg (by omega)]
          omega
        have hn8 := bAr.lt
        clear qT htb d1 hc hrw
        go_wp2_with fail
        clear e1
        refine wp_region_rg 14 [(12, Spec.rel (ExtA (madeAll (O j) N)) (SlF (madeAll (O j) N).length)), (13, Spec.rel (LitT V.heap.size (madeAll (O j) N)) (LitF 1))] (by kernel_rfl) (by kernel_rfl) (by kernel_rfl) ⟨fit_ext, fit_litT, trivial⟩ ?_
        refine rg_det rfl rfl rfl (fun K hK => ?_)
        go_big_quiet_op
        refine hK _ ?_; clear hK K
        refine rg_det rfl rfl rfl (fun K hK => ?_)
        go_big_quiet_op
        refine hK _ ?_; clear hK K
        refine rg_det rfl rfl rfl (fun K hK => ?_)
        go_big_quiet_op
        refine hK _ ?_; clear hK K
        refine rg_det rfl rfl rfl (fun K hK => ?_)
        go_big_quiet_op
        refine hK _ ?_; clear hK K
        refine rg_det rfl rfl rfl (fun K hK => ?_)
        go_big_quiet_op
        refine hK _ ?_; clear hK K
        refine rg_det rfl rfl rfl (fun K hK => ?_)
        go_big_quiet_op
        refine hK _ ?_; clear hK K
        refine rg_det rfl rfl rfl (fun K hK => ?_)
        go_big_quiet_op
        refine hK _ ?_; clear hK K
        refine rg_det rfl rfl rfl (fun K hK => ?_)
        go_big_quiet_op
        refine hK _ ?_; clear hK K
        refine rg_det rfl rfl rfl (fun K hK => ?_)
        go_big_quiet_op
        refine hK _ ?_; clear hK K
        refine rg_det rfl rfl rfl (fun K hK => ?_)
        go_big_quiet_op
        refine hK _ ?_; clear hK K
        refine rg_det rfl rfl rfl (fun K hK => ?_)
        go_big_quiet_op
        refine hK _ ?_; clear hK K
        refine rg_det rfl rfl rfl (fun K hK => ?_)
        go_big_quiet_op
        refine hK _ ?_; clear hK K
        refine rg_rel rfl rfl (fun W1 hW1 hF => step_callr en_attestor_attestorref03_Exactly (HX.out W1 (grw_below hW1)) rfl rfl) ?_
        intro n12 m12 v12 hn12 hm12 hd12 hf12 a' ha
        simp only [Act.put, List.setIfInBounds_toArray, List.set_cons_succ, List.set_cons_zero] at ha
        subst ha
        obtain ⟨A12, cap12, rfl⟩ := hf12
        refine rg_rel rfl rfl (fun W1 hW1 hF => stepAt_mono (fun v w' h => ⟨⟨h.1.1, h.1.2.1, _, _, _, h.1.2.2, rfl, Nat.le_trans (Nat.le_refl _) hn12, Nat.le_trans (pick_last hF (by kernel_rfl)).1 h.2.size, Rd.keep (pick_last hF (by kernel_rfl)).2 h.2⟩, h.2⟩) (step_lit1 Tryz.underlying27 hs0 hsz0 hsz1 (by decide) (by decide) rfl rfl rfl)) ?_
        intro n13 m13 v13 hn13 hm13 hd13 hf13 a' ha
        simp only [Act.put, List.setIfInBounds_toArray, List.set_cons_succ, List.set_cons_zero] at ha
        subst ha
        obtain rfl := hf13
        refine rg_nil (fun w' hw' hF => ?_)
        obtain ⟨z, rfl⟩ := hw'
        simp only [List.drop_succ_cons, List.drop_zero]
        obtain ⟨hm13', -, hl13, y, l1, l2, by13, hy1, hlo, hhi, hE⟩ := end_last hF
        have hrz := hrow.keep z.h
        have hout : Outside l1 l2 (.slice AU j cU) := hrow.out hlo
        have hzs := z.h.size
        have b13z := b13.gw z
        have hBz := hBr.trans (z.h.mono hBr.size)
        have HTj := Lib.hid (HTS.out j)
        clear hF HX f1 f2 f3 f4 hd12 hd13 hrow b13 bSr bAr
        go_wp2_with (at_builtin; refine wpList_appT (x := y) (y := madeAll (O j) N) (lo := l1) (hi := l2) (base := w3.heap.size + 1) (ts := tbK O N j) rfl _ _ rfl Tryz.underlying27 rfl rfl ?hrow ?hsrc hy1 ?hE ?hlo ?hhi ?hout ?hk ?hbase ?_)
        case hrow => exact hrz
        case hsrc => exact by13
        case hE => exact hE
        case hlo => omega
        case hhi => omega
        case hout => exact hout
        case hk => rw [tbK_length]; omega
        case hbase => omega
        intro u' w5 hrow5 hB5 hg5 hob5
        rw [← HTj.out] at hrow5
        obtain ⟨A', c', hv⟩ := hrow5.len'
        rw [tbK_length] at hv
        subst hv
        have b135 := b13z.below hB5 (by omega)
        have hs5 := hB5.size
        have hBw5 : Below w3.heap.size w3 w5 := hBz.trans (hB5.mono (by omega))
        have e1 := b135.cell
        have e2 := b135.frozen
        clear hrz b13z hg5 hob5 by13 hE
        go_wp2_with fail
        have hp : Put w5 _ w3.heap.size := Put.set w5 w3.heap.size 0 (.slice A' (j + 1) c')
        exact ⟨⟨j + 1, by omega, by go_num, .slice A' (j + 1) c', hrow5.put hp (by omega), b135.set_ 0 _, below_put hBw5 hp (Nat.le_refl _), by rw [hp.size]; omega⟩, by simp [intOf]; omega⟩
      · obtain rfl : j = 3 := by omega
        rw [show ((3 : Nat) : Int) = 3 from rfl]
        have hTt := hrow.tabs (by rw [tbK_length]; decide)
        have hbA := b5.keep hBr
        have hZr := hZ3.keep hBr
        have hH : H32 w q (tbK O N 3) w2.heap.size (w2.heap.size + 1) w3.heap.size (w.heap.size + 1 + 1) _ AT AP AM AC AU cT cP cM cC cU V :=
          ⟨hZr, ⟨hTt.base, hZr.hS.hp, fun p hp => by rw [tbK_length]; have := hZr.hS.ix p hp; rwa [q.tabs_len] at this, hZr.hS.few, hZr.hS.short⟩, b13, hbA⟩
        have hTA := Lib.hid (show AllLen (tbK O N 3) (2 ^ q.n) by rw [← HNE.out]; exact tbK_all O N 3)
        have hTl := Lib.hid (tbK_length O N 3)
        clear hZr hTt hrow b13 bSr bAr b4 hZ3 hY HAL HTL HTS HNE HO HL0 HL1 HL2 hBr hrs
        clear hYs hlt hj e1
        generalize tbK O N 3 = tb at *
        have e4 := hH.hZ.bS.cell
        have e6 := hH.hZ.bW.cell
        have hq2 : AllLen q.tabs (2 ^ q.co.length) := by rw [q.co_len]; exact q.all
        obtain ⟨c1, c2, c3⟩ := prvM_cons q.tabs q.ps q.m q.rho q.co hq2 (by rw [q.tabs_len]; decide) q.deg (by rw [q.m_len, q.co_len]) q.m_row
        obtain ⟨rs, hrs⟩ : ∃ rs, rs = prvM (prvR q.tabs q.ps q.co) q.m q.rho q.co := ⟨_, rfl⟩
        rw [← hrs] at c1 c2 c3
        have HPr := Lib.hid (prove32 q q.tabs q.all q.tabs_len q.m q.m_len (fun i g hg => q.m_row g (List.mem_of_getElem? hg)) rs hrs.symm _ _ _ _ _ _ _ _ (.slice AM q.n cM) V hH.hZ.hS hH.hZ.hM hH.hZ.hC)
        have HC1 := Lib.hid c1
        have HC2 := Lib.hid c2
        have HC3 := Lib.hid c3
        clear hq2 hrs c1 c2 c3
        go_wp2_with fail
        refine (HPr.out).mono ?_
        rintro e w6 ⟨v1, v2, rfl, hR, hV2, hb6⟩
        obtain ⟨AV, cV, rfl⟩ := Rd.len hV2
        obtain ⟨AR, cR, hv⟩ := hR.len
        rw [HC1.out, q.co_len] at hv
        subst hv
        replace hH := hH.keep hb6
        clear HPr hV2 hb6 e4 e6
        obtain ⟨D, hD⟩ : ∃ x, x = degE q.ps := ⟨_, rfl⟩
        have hD9 : D ≤ 3 := by rw [hD]; exact q.deg
        have hD1 : 1 ≤ D := by rw [hD]; exact degE_pos q.ps
        have HD := Lib.hid hD
        clear hD
        obtain ⟨K, hX, hKl, hKr, hKp⟩ := exp_hide tb q.ps rs q.rho q.co (by rw [q.co_len]; exact hTA.out) (by rw [hTl.out]; decide) q.deg HC1.out HC2.out HC3.out HR0.out
        rw [q.co_len] at hKl
        have e4 := (hH.bT).cell
        have e6 := hH.hZ.bW.cell
        have HE := Lib.hid (expl32 q _ hTA.out hTl.out rs K (by rw [HC1.out, q.co_len]) hX _ _ _ _ _ _ _ _ _ _ hH.hT hR hH.hZ.hC)
        have HKP := Lib.hid hKp
        have HKR := Lib.hid hKr
        have HKL := Lib.hid hKl
        clear hX hKp hKr hKl
        go_wp2_with fail
        refine (HE.out).mono ?_
        rintro e w10 ⟨v7, rfl, hK, hb10⟩
        replace hK : TabS _ w10.heap.size w10 v7 K := hK
        obtain ⟨AK, cK, hv⟩ := hK.len
        rw [HKL.out] at hv
        subst hv
        replace hH := hH.keep hb10
        replace hR := hR.keep hb10
        clear HE e4 e6 hb10
        have e4 := (hH.bT).cell
        go_wp2_with fail
        refine (gDegree _ _ q.ps _ _ w10 (hH.hT).hp (hH.hT).short).mono ?_
        rintro e w11 ⟨rfl, hb11⟩
        rw [← HD.out]
        replace hH := hH.keep hb11
        replace hK := hK.keep hb11
        replace hR := hR.keep hb11
        clear e4 hb11
        have HSh := Lib.hid (show Calls Tryz.prog 42 #[.slice AK q.n cK, .int .i64 ((D : Int) + 1)] w11 (Ret (.bool true) w11) from lShaped K (D + 1) (by omega) (by rw [HKL.out]; exact Nat.le_trans q.n_le (by decide)) (fun i g h => by rw [HD.out]; exact HKR.out i g h) (.slice AK q.n cK) _ _ w11 hK)
        go_wp2_with fail
        refine (HSh.out).mono ?_
        rintro e w12 ⟨rfl, hb12⟩
        replace hH := hH.keep hb12
        replace hK := hK.keep hb12
        replace hR := hR.keep hb12
        clear HSh hb12
        have e4 := (hH.bT).cell
        have e6 := hH.hZ.bW.cell
        have HPr := Lib.hid (prove32 q _ hTA.out hTl.out K HKL.out HKR.out rs HKP.out _ _ _ _ _ _ _ _ (.slice AK q.n cK) w12 hH.hT hK hH.hZ.hC)
        go_wp2_with fail
        refine (HPr.out).mono ?_
        rintro e w13 ⟨v1, v2, rfl, hG, hV2, hb13⟩
        obtain ⟨AV2, cV2, rfl⟩ := Rd.len hV2
        obtain ⟨AG, cG, hv⟩ := hG.len
        rw [show (rs).length = q.n from (by rw [HC1.out, q.co_len])] at hv
        subst hv
        replace hH := hH.keep hb13
        replace hR := hR.keep hb13
        clear HPr hV2 hb13 e4 e6 hK HKP HKR HKL
        have e5 := hH.b5.cell
        have hw13 := hH.hZ.hw
        go_wp2_with fail
        refine (HS.out w13 hw13).mono ?_
        rintro e w14 ⟨AX, cX, AL', cL', rfl, hCX, hLX, hb14⟩
        clear e5 hCX
        unfold ev
        go_upto_region 17 with (fail)
        refine wp_stk2 fun X1 hX1 hzX1 b21 b22 => ?_
        have hX1s := hzX1.out
        have l14 := hb14.size
        have h14 := hb14.trans (hX1.mono hb14.size)
        have hLX1 := Rd.keep hLX hX1
        have e6 := (hH.hZ.bW.keep h14).cell
        have e22 := b22.cell
        have e22f := b22.frozen
        clear hzX1 hLX
        go_upto_region 18 with (fail)
        refine set1 (M := fun W => Code.wp _ _ _ _ W) b22 fun X2 hP2 b22' => ?_
        have h15 := below_put h14 hP2 (by omega)
        have b21' := hP2.blk b21 (by omega)
        have hLX2 := hP2.rd hLX1 (.inr (by omega))
        have hX2s := hP2.size
        clear e6 e22 e22f b22 b21 hP2 hLX1 h14
        have e4 := (hH.hZ.bS.keep h15).cell
        go_wp2_with fail
        refine (gDegree _ _ q.ps _ _ X2 (hH.hZ.hS.base32 h15).hp hH.hZ.hS.short).mono ?_
        rintro e X3 ⟨rfl, hb3'⟩
        rw [← HD.out]
        have h16 := h15.trans (hb3'.mono h15.size)
        have b22'' := b22'.keep hb3'
        have b21'' := b21'.keep hb3'
        have hLX3 := Rd.keep hLX2 hb3'
        have hX3s := hb3'.size
        have e22 := b22''.cell
        have e22f := b22''.frozen
        clear b22' b21' hLX2 e4 h15 hb3'
        go_upto_region 19 with (fail)
        refine set1 (M := fun W => Code.wp _ _ _ _ W) b22'' fun X4 hP4 b22 => ?_
        replace b22 : Blk X4 (w14.heap.size + 1) 57 #[.slice AC q.n cC, .int .i64 (D : Int), .slice AL' x.l cL', .int .u64 (fv x.fin.a), .int .u64 (fv x.fin.b)] := b22
        have h17 := below_put h16 hP4 (by omega)
        have b21 := hP4.blk b21'' (by omega)
        have hLX4 := hP4.rd hLX3 (.inr (by omega))
        replace hLX4 : ExtS w13.heap.size w14.heap.size X4 (.slice AL' x.l cL') x.rn := hLX4
        clear e22 e22f b22'' b21'' hP4 hLX3 h16 hX3s hX2s hX1s l14 hb14
        replace hH := hH.keep h17
        replace hR := hR.keep h17
        replace hG := hG.keep h17
        have HSi := Lib.hid (show Calls Tryz.prog 27 #[.agg #[.int .u64 (fv x.v.a), .int .u64 (fv x.v.b)], .agg #[.slice AC q.n cC, .int .i64 (D : Int), .slice AL' x.l cL', .int .u64 (fv x.fin.a), .int .u64 (fv x.fin.b)]] X4 (SimR X4 (simE x.v q.co x.rn D x.fin) · ·) by
          have := gSimulate x.v q.co x.rn D x.fin hD1 (by omega) q.n q.co_len (Nat.le_trans q.n_le (by decide)) AC AL' cC cL' _ _ _ _ X4 hH.hZ.hC (by rw [x.rn_len]; exact hLX4)
          rw [x.rn_len] at this
          exact this)
        have e21 := b21.cell
        have e22 := b22.cell
        have HF0 := Lib.hid (fun h => sim_len x.v q.co x.rn D x.fin hD1 h)
        have HF1 := Lib.hid (fun h => sim_sumOk x.v q.co x.rn D x.fin hD1 h)
        clear h17 hLX4 b21 b22
        generalize simE x.v q.co x.rn D x.fin = F at *
        go_wp2_with fail
        refine (HSi.out).mono ?_
        rintro e X5 ⟨v8, rfl, hFr, hb5⟩
        obtain ⟨AF, cF, rfl⟩ := hFr.len
        replace hH := hH.keep hb5
        replace hR := hR.keep hb5
        replace hG := hG.keep hb5
        clear HSi e21 e22 hb5
        go_wp2_with fail
        refine (rSameR rs (.slice AG q.n cG) (.slice AR q.n cR) _ _ _ _ X5 hG hR).mono ?_
        rintro e X6 ⟨rfl, hb6⟩
        replace hH := hH.keep hb6
        replace hR := hR.keep hb6
        replace hG := hG.keep hb6
        replace hFr := hFr.keep hb6
        clear hb6
        by_cases hFl : F.length = q.n
        · have HFL := Lib.hid hFl
          rw [hFl] at hFr ⊢
          have HC4 := Lib.hid (HF1.out (by rw [hFl, q.co_len]))
          clear hFl HF0 HF1 hR hG
          have hR := hFr
          clear hFr
          go_upto_region 22 with (fail)
          obtain ⟨K, hX, hKl, hKr, hKp⟩ := exp_hide q.tabs q.ps F q.rho q.co (by rw [q.co_len]; exact q.all) (by rw [q.tabs_len]; decide) q.deg (by rw [HFL.out, q.co_len]) (by rw [← HD.out]; exact HC4.out.1) HC4.out.2 HR0.out
          rw [q.co_len] at hKl
          have e4 := (hH.hZ.bS).cell
          have e6 := hH.hZ.bW.cell
          have HE := Lib.hid (expl32 q _ q.all q.tabs_len F K HFL.out hX _ _ _ _ _ _ _ _ _ _ hH.hZ.hS hR hH.hZ.hC)
          have HKP := Lib.hid hKp
          have HKR := Lib.hid hKr
          have HKL := Lib.hid hKl
          clear hX hKp hKr hKl
          go_wp2_with fail
          refine (HE.out).mono ?_
          rintro e w10 ⟨v7, rfl, hK, hb10⟩
          replace hK : TabS _ w10.heap.size w10 v7 K := hK
          obtain ⟨AK, cK, hv⟩ := hK.len
          rw [HKL.out] at hv
          subst hv
          replace hH := hH.keep hb10
          replace hR := hR.keep hb10
          clear HE e4 e6 hb10
          have e4 := (hH.hZ.bS).cell
          go_wp2_with fail
          refine (gDegree _ _ q.ps _ _ w10 (hH.hZ.hS).hp (hH.hZ.hS).short).mono ?_
          rintro e w11 ⟨rfl, hb11⟩
          rw [← HD.out]
          replace hH := hH.keep hb11
          replace hK := hK.keep hb11
          replace hR := hR.keep hb11
          clear e4 hb11
          have HSh := Lib.hid (show Calls Tryz.prog 42 #[.slice AK q.n cK, .int .i64 ((D : Int) + 1)] w11 (Ret (.bool true) w11) from lShaped K (D + 1) (by omega) (by rw [HKL.out]; exact Nat.le_trans q.n_le (by decide)) (fun i g h => by rw [HD.out]; exact HKR.out i g h) (.slice AK q.n cK) _ _ w11 hK)
          go_wp2_with fail
          refine (HSh.out).mono ?_
          rintro e w12 ⟨rfl, hb12⟩
          replace hH := hH.keep hb12
          replace hK := hK.keep hb12
          replace hR := hR.keep hb12
          clear HSh hb12
          have e4 := (hH.hZ.bS).cell
          have e6 := hH.hZ.bW.cell
          have HPr := Lib.hid (prove32 q _ q.all q.tabs_len K HKL.out HKR.out F HKP.out _ _ _ _ _ _ _ _ (.slice AK q.n cK) w12 hH.hZ.hS hK hH.hZ.hC)
          go_wp2_with fail
          refine (HPr.out).mono ?_
          rintro e w13 ⟨v1, v2, rfl, hG, hV2, hb13⟩
          obtain ⟨AV2, cV2, rfl⟩ := Rd.len hV2
          obtain ⟨AG, cG, hv⟩ := hG.len
          rw [show (F).length = q.n from HFL.out] at hv
          subst hv
          replace hH := hH.keep hb13
          replace hR := hR.keep hb13
          clear HPr hV2 hb13 e4 e6 hK HKP HKR HKL
          go_wp2_with fail
          refine (rSameR F (.slice AG q.n cG) (.slice AF q.n cF) _ _ _ _ _ hG hR).mono ?_
          rintro e X9 ⟨rfl, hb9⟩
          have hw9 := hH.hZ.hw.trans (hb9.mono hH.hZ.hw.size)
          go_wp2_with fail
          go_ret
          exact ⟨rfl, hw9⟩
        · have HFL := Lib.hid (HF0.out (by rw [q.co_len]; exact hFl))
          have hn0 : ¬ (0 = q.n) := fun e => hFl (by rw [HFL.out]; exact e)
          rw [HFL.out] at hFr ⊢
          rw [List.length_nil] at hFr ⊢
          clear hFl HF0 HF1
          have hn1 : ¬ ((0 : Int) = (q.n : Int)) := by omega
          have hn2 : ((0 : Int) == (q.n : Int)) = false := by simp; omega
          have hn3 : ((0 : Nat) == q.n) = false := by simp; omega
          go_wp2_with fail
          refine (rSameR rs (.slice AG q.n cG) (.slice AR q.n cR) _ _ _ _ X6 hG hR).mono ?_
          rintro e X9 ⟨rfl, hb9⟩
          have hw9 := hH.hZ.hw.trans (hb9.mono hH.hZ.hw.size)
          go_wp2_with fail
          go_ret
          exact ⟨rfl, hw9⟩
end Go.Proofs.YtnddfeidggcplaaGreat
