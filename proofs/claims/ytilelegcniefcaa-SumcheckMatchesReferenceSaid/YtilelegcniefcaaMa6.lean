/-
  Made of the reference's sum-check, by contract.
-/
import Derived.Test.YtilelegcniefcaaMd6
namespace Go.Proofs.Ytilelegcniefcaa
open Go.RowKit

/-- What Made hands back. -/
def MadeA (tabs : List (List E)) (ps : List Trm) (lo hi : Nat) (v : Value) (w : World) : Prop := ∃ vt vp, v = sv vt vp ∧ TabS lo hi w vt tabs ∧ TrmS lo hi w vp ps
/-- A slice literal of one slice of elements, which lies in a stretch of new blocks. -/
def LitT (b : Nat) (y : List E) (n m : Nat) (v : Value) (w : World) : Prop := v = .slice (some ⟨n, 0, none⟩) 1 1 ∧ n < m ∧ ∃ x lo hi, Blk w n 22 #[x] ∧ x.oneCell' = true ∧ b ≤ lo ∧ hi ≤ m ∧ ExtS lo hi w x y
theorem fit_litT {b : Nat} {y : List E} : Fit (LitT b y) (LitF 1) := ⟨fun _ _ _ _ _ ⟨h1, h2, x, lo, hi, h3, h4, h5, h6, h7⟩ hb => ⟨h1, h2, x, lo, hi, h3.below hb h2, h4, h5, h6, Rd.below h7 hb h6⟩, fun _ => ⟨_, rfl⟩, fun _ _ _ _ h => h.1⟩
theorem TrmS.put {lo hi g : Nat} {w w' : World} {v : Value} {ps : List Trm} (h : TrmS lo hi w v ps) (hp : Put w w' g) (hne : g < lo ∨ hi ≤ g) : TrmS lo hi w' v ps :=
  h.other (by rw [hp.size]; exact Nat.le_refl _) fun k h1 h2 _ => hp.other k (by omega)
set_option maxRecDepth 100000 in
set_option maxHeartbeats 8000000 in
theorem rMade6 (q : Raw6) (most : Nat) (hm : most ≤ 5) (A C : Nat → Option Addr) (cc : Nat → Nat) (AL : Option Addr) (cL lo hi : Nat) (w : World)
    (hT : ∀ k, k < 3 → RawS lo hi w (.slice (A k) (q.T k).length (cc k)) (q.T k)) (hL : TRawS lo hi w (.slice AL q.L.length cL) q.L) (hN : Byte q.N) :
    Calls Try.prog 13 #[.agg #[.slice (A 0) (q.T 0).length (cc 0), .slice (A 1) (q.T 1).length (cc 1), .slice (A 2) (q.T 2).length (cc 2), .slice AL q.L.length cL, .int .u8 q.N], .int .i64 (most : Int)] w
      (RetR (MadeA (q.tabs most) q.trms) w) := by
  obtain ⟨n, hn⟩ : ∃ n, n = q.n most := ⟨_, rfl⟩
  have hn5 : n ≤ 5 := by have := q.n_le most; omega
  have hni : q.N % ((most : Int) + 1) = (n : Int) := by
    rw [hn]
    unfold Raw6.n
    have h1 := Int.emod_nonneg q.N (b := (most : Int) + 1) (by omega)
    omega
  obtain ⟨h01, h02⟩ := hN
  obtain ⟨N, hNe, hN2, hN6⟩ := pow_i64 n (by omega)
  have HTk := Lib.hid (q.tk_succ most)
  have HTl := Lib.hid (q.tk_length most)
  have HPk := Lib.hid q.pk_succ
  rw [← hn, ← hNe] at HTk
  have HT := Lib.hid hT
  have HLL := Lib.hid hL
  obtain ⟨L0, hL0⟩ : ∃ l, l = (q.T 0).length := ⟨_, rfl⟩
  obtain ⟨L1, hL1⟩ : ∃ l, l = (q.T 1).length := ⟨_, rfl⟩
  obtain ⟨L2, hL2⟩ : ∃ l, l = (q.T 2).length := ⟨_, rfl⟩
  obtain ⟨LL, hLL⟩ : ∃ l, l = q.L.length := ⟨_, rfl⟩
  rw [← hL0, ← hL1, ← hL2, ← hLL]
  have HL0 := Lib.hid hL0
  have HL1 := Lib.hid hL1
  have HL2 := Lib.hid hL2
  have HLn := Lib.hid hLL
  clear hL0 hL1 hL2 hLL hT hL hn hNe
  go_enter Try.func13, Try.ntmps13
  go_upto_region 3 with (fail)
  rw [hni]
  refine wp_stk3 fun W hB hz b1 b2 b3 => ?_
  have hW := hz.out
  have HW := Lib.hid hW
  obtain ⟨s0, hs0, hsz0, hsz1, hsz2⟩ := info_parts sl_info
  obtain ⟨k0, hk0, hkz0, hkz1, hkz2⟩ := info_parts int_info6
  clear hW hz
  go_wp2_with fail
  go_loopw [7] (fun i wr => ∃ j : Nat, j ≤ 3 ∧ i = .int .i64 j ∧ ∃ vT, RowT (w.heap.size + 3) wr vT (q.tk most j) ∧ Blk wr (w.heap.size + 1 + 1) 30 #[vT, .slice none 0 0] ∧ Blk wr w.heap.size 26 #[.slice (A 0) L0 (cc 0), .slice (A 1) L1 (cc 1), .slice (A 2) L2 (cc 2), .slice AL LL cL, .int .u8 q.N] ∧ Blk wr (w.heap.size + 1) 30 #[.slice none 0 0, .slice none 0 0] ∧ Below w.heap.size w wr ∧ w.heap.size + 3 ≤ wr.heap.size) (fun i _ => 3 - (intOf i).toNat)
  case atStart => exact ⟨0, by decide, rfl, .slice none 0 0, RowT.first _ _, b3, b1, b2, hB, by have := HW.out; omega⟩
  case round =>
    obtain ⟨j, hj, rfl, vT, hrow, bs, br, bo, hBr, hsz⟩ := hrel
    obtain ⟨AT, cT, rfl⟩ := hrow.len'
    have hjl := HTl.out j
    rw [hjl] at hrow bs
    clear b1 b2 b3 hB
    by_cases hlt : j < 3
    · have hc : wr.cell? ⟨w.heap.size, j, none⟩ = some (.slice (A j) (q.T j).length (cc j)) := by
        rw [br.cell]
        match j, hlt with
        | 0, _ => rw [HL0.out]; rfl
        | 1, _ => rw [HL1.out]; rfl
        | 2, _ => rw [HL2.out]; rfl
      have c1 := gw_cell br.lt hc
      have c2 := gw_blk bs
      have hr := HT.out j hlt
      have HX := Lib.hid (show ∀ W1, Below wr.heap.size wr W1 → Calls Try.prog 15 #[.slice (A j) (q.T j).length (cc j), .int .i64 (wrap64 ((2 : Int) ^ n))] W1 (RetR (ExtA (madeAll (q.T j) N)) W1) from fun W1 h => by
        rw [hN2]
        exact xExact (q.T j) N (by omega) _ lo hi W1 ⟨Rd.keep (Rd.keep hr.1 hBr) h, hr.2⟩)
      go_wp2_with fail
      refine wp_region_rg 10 [(8, Spec.rel (ExtA (madeAll (q.T j) N)) (SlF (madeAll (q.T j) N).length)), (9, Spec.rel (LitT wr.heap.size (madeAll (q.T j) N)) (LitF 1))] (by kernel_rfl) (by kernel_rfl) (by kernel_rfl) ⟨fit_ext, fit_litT, trivial⟩ ?_
      refine rg_det rfl rfl rfl (fun K hK => ?_)
      go_big_quiet_op
      refine hK _ ?_; clear hK K
      refine rg_det rfl rfl rfl (fun K hK => ?_)
      go_big_quiet_op
      refine hK _ ?_; clear hK K
      refine rg_det rfl rfl rfl (fun K hK => ?_)
      go_big_quiet_op
      refine hK _ ?_; clear hK K
      refine rg_det rfl rfl rfl (fun K hK => ?_)
      go_big_quiet_op
      refine hK _ ?_; clear hK K
      refine rg_det rfl rfl rfl (fun K hK => ?_)
      go_big_quiet_op
      refine hK _ ?_; clear hK K
      refine rg_det rfl rfl rfl (fun K hK => ?_)
      go_big_quiet_op
      refine hK _ ?_; clear hK K
      refine rg_det rfl rfl rfl (fun K hK => ?_)
      go_big_quiet_op
      refine hK _ ?_; clear hK K
      refine rg_det rfl rfl rfl (fun K hK => ?_)
      go_big_quiet_op
      refine hK _ ?_; clear hK K
      refine rg_rel rfl rfl (fun W1 hW1 hF => step_callr en_attestor_attestorref03_Exactly (HX.out W1 (grw_below hW1)) rfl rfl) ?_
      intro n8 m8 v8 hn8 hm8 hd8 hf8 a' ha
      simp only [Act.put, List.setIfInBounds_toArray, List.set_cons_succ, List.set_cons_zero] at ha
      subst ha
      obtain ⟨A8, cap8, rfl⟩ := hf8
      refine rg_rel rfl rfl (fun W1 hW1 hF => stepAt_mono (fun v w' h => ⟨⟨h.1.1, h.1.2.1, _, _, _, h.1.2.2, rfl, Nat.le_trans (Nat.le_refl _) hn8, Nat.le_trans (pick_last hF (by kernel_rfl)).1 h.2.size, Rd.keep (pick_last hF (by kernel_rfl)).2 h.2⟩, h.2⟩) (step_lit1 Try.underlying27 hs0 hsz0 hsz1 (by decide) (by decide) rfl rfl rfl)) ?_
      intro n9 m9 v9 hn9 hm9 hd9 hf9 a' ha
      simp only [Act.put, List.setIfInBounds_toArray, List.set_cons_succ, List.set_cons_zero] at ha
      subst ha
      obtain rfl := hf9
      refine rg_nil (fun w' hw' hF => ?_)
      obtain ⟨z, rfl⟩ := hw'
      simp only [List.drop_succ_cons, List.drop_zero]
      obtain ⟨hm9', -, hl9, x, l1, l2, bx, hx1, hlo, hhi, hE⟩ := end_last hF
      have hrz := hrow.keep z.h
      have hzs := z.h.size
      have bsz := bs.gw z
      have brz := br.gw z
      have boz := bo.gw z
      have hBz := hBr.trans (z.h.mono hBr.size)
      have HTj := Lib.hid (HTk.out j)
      have HJ := Lib.hid hjl
      clear hF HX c1 c2 hc hr hjl hd8 hd9
      go_wp2_with (at_builtin; refine wpList_appT (x := x) (y := madeAll (q.T j) N) (lo := l1) (hi := l2) (base := w.heap.size + 3) (ts := q.tk most j) rfl _ _ rfl Try.underlying27 rfl rfl ?hrow ?hsrc hx1 ?hE ?hlo ?hhi ?hout ?hk ?hbase ?_)
      case hrow => exact hrz
      case hsrc => exact bx
      case hE => exact hE
      case hlo => omega
      case hhi => omega
      case hout => exact hrow.out hlo
      case hk => rw [HJ.out]; omega
      case hbase => omega
      intro u' w3 hrow3 hB3 hg3 hob3
      rw [← HTj.out] at hrow3
      obtain ⟨A', c', hv⟩ := hrow3.len'
      rw [HTl.out] at hv
      subst hv
      have bs3 := bsz.below hB3 (by omega)
      have br3 := brz.below hB3 (by omega)
      have bo3 := boz.below hB3 (by omega)
      have hs3 := hB3.size
      have hBw3 : Below w.heap.size w w3 := hBz.trans (hB3.mono (by omega))
      have e1 := bs3.cell
      have e2 := bs3.frozen
      clear hrz bsz brz boz hg3 hob3 bx hE hrow bs br bo
      go_wp2_with fail
      have hp : Put w3 _ (w.heap.size + 1 + 1) := Put.set w3 (w.heap.size + 1 + 1) 0 (.slice A' (j + 1) c')
      exact ⟨⟨j + 1, by omega, by go_num, .slice A' (j + 1) c', hrow3.put hp (by omega), bs3.set_ 0 _, hp.blk br3 (by omega), hp.blk bo3 (by omega), hBw3.setCell (by show w.heap.size ≤ w.heap.size + 1 + 1; omega) _, by rw [hp.size]; omega⟩, by simp [intOf]; omega⟩
    · obtain rfl : j = 3 := by omega
      rw [show ((3 : Nat) : Int) = 3 from rfl]
      have HTt := Lib.hid (hrow.tabs (by rw [hjl]; decide))
      have HP4 := Lib.hid (show q.trms = q.pk 4 from rfl)
      have HTB := Lib.hid (show q.tabs most = q.tk most 3 from rfl)
      rw [HTB.out]
      generalize q.trms = TR at *
      clear hrow hjl HTk HT
      obtain ⟨V, hV⟩ : ∃ V, V = wr := ⟨_, rfl⟩
      subst hV
      go_wp2_with fail
      go_loopw [8] (fun i X => ∃ k : Nat, k ≤ LL ∧ k ≤ 4 ∧ i = .int .i64 k ∧ ∃ vP, RowP V.heap.size X vP (q.pk k) ∧ Blk X (w.heap.size + 1 + 1) 30 #[.slice AT 3 cT, vP] ∧ Blk X w.heap.size 26 #[.slice (A 0) L0 (cc 0), .slice (A 1) L1 (cc 1), .slice (A 2) L2 (cc 2), .slice AL LL cL, .int .u8 q.N] ∧ Blk X (w.heap.size + 1) 30 #[.slice none 0 0, .slice none 0 0] ∧ Below w.heap.size w X ∧ TabS (w.heap.size + 3) V.heap.size X (.slice AT 3 cT) (q.tk most 3) ∧ V.heap.size ≤ X.heap.size) (fun i _ => 4 - (intOf i).toNat)
      case atStart => exact ⟨0, Nat.zero_le _, by decide, rfl, .slice none 0 0, RowP.first _ _, bs, br, bo, hBr, HTt.out, Nat.le_refl _⟩
      case round =>
        obtain ⟨k, hk1, hk2, rfl, vP, hrow, bs2, br2, bo2, hB2, hT2, hX⟩ := hrel
        obtain ⟨X, hXe⟩ : ∃ X, X = wr := ⟨_, rfl⟩
        subst hXe
        obtain ⟨AP, cP, hv⟩ := hrow.len
        have hpl : (q.pk k).length = k := by unfold Raw6.pk; rw [List.length_map, List.length_take]; have := HLn.out; omega
        rw [hpl] at hv
        subst hv
        clear bs br bo hBr
        by_cases hkl : k < LL
        · by_cases hk4 : k < 4
          · obtain ⟨g, off, cap', hv, q1, q2, q3, q4, q5⟩ := Rd.form (HLL.out.keep hB2).1 (by have := HLn.out; omega)
            rw [← HLn.out] at hv
            cases hv
            obtain ⟨x, hx⟩ : ∃ x, q.L[k]? = some x := ⟨_, List.getElem?_eq_getElem (by have := HLn.out; omega)⟩
            have hxo := HLL.out.2 x (List.mem_of_getElem? hx)
            have hc : ∀ j u, (trawc x)[j]? = some u → X.cell? ⟨g, off + k * 6 + j, none⟩ = some u := fun j u hu => by
              have := q5 (k * 6 + j) _ (flat_get trawc_len _ k j _ _ hx hu)
              rwa [← Nat.add_assoc] at this
            have d0 := hc 0 _ rfl
            have d1 := hc 1 _ rfl
            rw [Nat.add_zero] at d0
            have e1 := br2.cell
            have HPx := Lib.hid (HPk.out k x hx)
            have HC := Lib.hid hc
            clear q5 hx hc
            go_wp2_with fail
            refine (xMade x.c.1 x.c.2 hxo.c1.1 hxo.c1.2 hxo.c2.1 hxo.c2.2 _).mono ?_
            rintro e w2 ⟨he, hb2⟩
            unfold ev at he
            subst he
            go_upto_region 11 with (fail)
            refine wp_stk1 fun Y hY hzY bt => ?_
            have hYs := Lib.hid hzY.out
            have HYB := Lib.hid hY
            clear e1 d0 d1 hzY
            obtain ⟨tn, htn⟩ : ∃ tn, tn = (x.n % 3).toNat := ⟨_, rfl⟩
            have hn3 : x.n % 3 = (tn : Int) := by rw [htn]; omega
            have HTN := Lib.hid (show trLen x = tn + 1 by rw [htn]; rfl)
            have hn8 := hxo.n
            unfold Byte at hn8
            obtain ⟨hn81, hn82⟩ := hn8
            have HT8 := Lib.hid hxo.t
            obtain ⟨ca, hca⟩ : ∃ c, c = em x.c.1 x.c.2 := ⟨_, rfl⟩
            have HCA := Lib.hid hca
            rw [← hca] at bt ⊢
            have hw2 := hb2.size
            clear htn hca hY hxo
            go_wp2_with fail
            go_loopw [10] (fun i Z => ∃ m : Nat, m ≤ tn + 1 ∧ i = .int .i64 m ∧ ∃ u, Z.ownsRow (w2.heap.size + 1) 3 1 u m ((trL x m).flatMap ic) ∧ Blk Z w2.heap.size 66 #[.int .u64 (fv ca.a), .int .u64 (fv ca.b), u] ∧ Below w2.heap.size w2 Z ∧ w2.heap.size + 1 ≤ Z.heap.size) (fun i _ => tn + 1 - (intOf i).toNat)
            case atStart => exact ⟨0, Nat.zero_le _, rfl, .slice none 0 0, ⟨rfl, .inl ⟨rfl, rfl⟩⟩, bt, HYB.out, by have := hYs.out; omega⟩
            case round =>
              obtain ⟨m, hm1, rfl, u, hown, bt, hBZ, hZs⟩ := hrel
              obtain ⟨Au, cu, rfl⟩ := own_len hown
              have brZ := (br2.keep hb2).keep hBZ
              have hgZ : g < wr.heap.size := by have := hBZ.size; omega
              have c1 := gw_blk brZ
              have c2 := gw_cell (W := wr) hgZ (((hb2.cell (p := ⟨g, off + k * 6 + 5, none⟩) q4).trans (HC.out 5 _ rfl)) |> (hBZ.cell (p := ⟨g, off + k * 6 + 5, none⟩) (by show g < w2.heap.size; omega)).trans)
              have e1 := brZ.cell
              have e2 := c2 ⟨wr, Below.refl _ _⟩
              by_cases hlt : m < tn + 1
              · have ha : m < 3 := by omega
                have hcm : X.cell? ⟨g, off + k * 6 + 2 + m, none⟩ = some (.int .u8 (x.t m)) := by
                  have := HC.out (2 + m) (.int .u8 (x.t m)) (by match m, ha with | 0, _ => rfl | 1, _ => rfl | 2, _ => rfl)
                  rwa [← Nat.add_assoc] at this
                have c3 := gw_cell (W := wr) hgZ ((hBZ.cell (p := ⟨g, off + k * 6 + 2 + m, none⟩) (by show g < w2.heap.size; omega)).trans ((hb2.cell (p := ⟨g, off + k * 6 + 2 + m, none⟩) q4).trans hcm))
                clear hcm
                have c4 := gw_blk bt
                obtain ⟨h81, h82⟩ := HT8.out m ha
                have HTm := Lib.hid (show x.t m % 3 = (trIx x m : Int) by unfold trIx; omega)
                have HLm := Lib.hid (trL_succ x m)
                go_wp2_with fail
                refine wp_region_rg 13 [(12, Spec.rel (Lit 3 1 #[.int .i64 (x.t m % 3)]) (LitF 1))] (by kernel_rfl) (by kernel_rfl) (by kernel_rfl) ⟨fit_lit, trivial⟩ ?_
                refine rg_det rfl rfl rfl (fun K hK => ?_)
                go_big_quiet_op
                refine hK _ ?_; clear hK K
                refine rg_det rfl rfl rfl (fun K hK => ?_)
                go_big_quiet_op
                refine hK _ ?_; clear hK K
                refine rg_det rfl rfl rfl (fun K hK => ?_)
                go_big_quiet_op
                refine hK _ ?_; clear hK K
                refine rg_det rfl rfl rfl (fun K hK => ?_)
                go_big_quiet_op
                refine hK _ ?_; clear hK K
                refine rg_det rfl rfl rfl (fun K hK => ?_)
                go_big_quiet_op
                refine hK _ ?_; clear hK K
                refine rg_det rfl rfl rfl (fun K hK => ?_)
                go_big_quiet_op
                refine hK _ ?_; clear hK K
                refine rg_det rfl rfl rfl (fun K hK => ?_)
                go_big_quiet_op
                refine hK _ ?_; clear hK K
                refine rg_det rfl rfl rfl (fun K hK => ?_)
                go_big_quiet_op
                refine hK _ ?_; clear hK K
                refine rg_det rfl rfl rfl (fun K hK => ?_)
                go_big_quiet_op
                refine hK _ ?_; clear hK K
                refine rg_det rfl rfl rfl (fun K hK => ?_)
                go_big_quiet_op
                refine hK _ ?_; clear hK K
                refine rg_det rfl rfl rfl (fun K hK => ?_)
                go_big_quiet_op
                refine hK _ ?_; clear hK K
                refine rg_det rfl rfl rfl (fun K hK => ?_)
                go_big_quiet_op
                refine hK _ ?_; clear hK K
                refine rg_rel rfl rfl (fun W1 hW1 hF => step_litF (parts := [(0, Operand.tmp 76)]) (vs := [.int .i64 (x.t m % 3)]) Try.underlying64 hk0 hkz0 hkz1 rfl (by decide) (by decide) rfl rfl (by simp [Value.cells])) ?_
                intro n12 m12 v12 hn12 hm12 hd12 hf12 a' ha
                simp only [Act.put, List.setIfInBounds_toArray, List.set_cons_succ, List.set_cons_zero] at ha
                subst ha
                obtain rfl := hf12
                refine rg_nil (fun w' hw' hF => ?_)
                obtain ⟨z, rfl⟩ := hw'
                simp only [List.drop_succ_cons, List.drop_zero]
                obtain ⟨hm12, -, hl12, b12⟩ := end_last hF
                have hBz2 := hBZ.trans (z.h.mono hBZ.size)
                have hzs := z.h.size
                have btz := bt.gw z
                clear hF hd12 c1 c2 c3 c4 e1 e2 bt
                go_wp2_with (at_builtin; refine wpList_app3 rfl _ _ rfl Try.underlying64 hk0 hkz0 hkz1 hkz2 rfl (by decide) (cl := [.int .i64 (x.t m % 3)]) rfl (fun u hu => by rw [List.mem_singleton.1 hu]; rfl) rfl rfl (own_below hown (Nat.le_refl _) z.h) b12 ?h63 ?hby ?hbase ?_)
                case h63 => unfold maxLen; omega
                case hby => omega
                case hbase => omega
                intro v' w3 hown3 hg3 hB3 hob3
                have hown4 : w3.ownsRow (w2.heap.size + 1) 3 1 v' (m + 1) ((trL x (m + 1)).flatMap ic) := by
                  rw [HLm.out, List.flatMap_append]
                  have := hown3
                  rw [HTm.out] at this
                  exact this
                obtain ⟨A', c', hv⟩ := own_len hown4
                subst hv
                have bt3 := btz.below hB3 (by omega)
                have hs3 := hB3.size
                have hBw3 : Below w2.heap.size w2 w3 := hBz2.trans (hB3.mono (by omega))
                have e1 := bt3.cell
                have e2 := bt3.frozen
                clear hown3 hg3 hob3 btz b12 hown
                go_wp2_with fail
                have hp : Put w3 _ w2.heap.size := Put.set w3 w2.heap.size 2 (.slice A' (m + 1) c')
                exact ⟨⟨m + 1, by omega, by go_num, .slice A' (m + 1) c', own_put hown4 hp (by omega), bt3.set_ 2 _, hBw3.setCell (by show w2.heap.size ≤ w2.heap.size; omega) _, by rw [hp.size]; omega⟩, by simp [intOf]; omega⟩
              · obtain rfl : m = tn + 1 := by omega
                have hI : IdxS (w2.heap.size + 1) wr.heap.size wr (.slice Au (tn + 1) cu) (trL x (tn + 1)) := by
                  unfold IdxS
                  rw [trL_length]
                  exact Rd.of_own hown (by omega) (Nat.le_refl _)
                have HI := Lib.hid hI
                have hbsZ := (bs2.keep hb2).keep hBZ
                have hboZ := (bo2.keep hb2).keep hBZ
                have hrowZ := (hrow.keep hb2).keep hBZ
                have hTZ := (hT2.keep hb2).keep hBZ
                have hBZ2 := hB2.trans ((hb2.trans (hBZ.mono hb2.size)).mono hB2.size)
                have e3 := hbsZ.cell
                have e4 := bt.cell
                have hsZ := hBZ.size
                have HROW := Lib.hid hrow
                clear hI hown c1 c2 hrow bs2 bo2 hT2 br2
                go_wp2_with (at_builtin; refine wpList_appP (x := .slice Au (tn + 1) cu) (y := ⟨ca, trL x (tn + 1)⟩) (lo := w2.heap.size + 1) (hi := wr.heap.size) (base := V.heap.size) (ps := q.pk k) rfl _ _ rfl Try.underlying28 rfl rfl ?hrow ?hsrc rfl ?hE ?hlo ?hhi ?hout ?hk ?hbase ?_)
                case hrow => exact hrowZ.keep ((Below.refl _ _).alloc (Nat.le_refl _) _)
                case hsrc => exact Blk.new_at _ _ _ rfl
                case hE => exact Rd.keep HI.out ((Below.refl _ _).alloc (Nat.le_refl _) _)
                case hlo => omega
                case hout => exact fun b hb => .inl (by have := (HROW.out.block hb).2; omega)
                case hk => first | omega | (rw [hpl]; omega)
                case hbase => first | omega | (simp; omega)
                intro u' w4 hrow4 hB4 hg4 hob4
                have hal : Below wr.heap.size wr (wr.alloc (.cells #[.int .u64 (fv ca.a), .int .u64 (fv ca.b), .slice Au (tn + 1) cu] 66)) := (Below.refl _ _).alloc (Nat.le_refl _) _
                have hM : (⟨ca, trL x (tn + 1)⟩ : Trm) = trM x := by unfold trM; rw [HCA.out, HTN.out]
                rw [hM, ← HPx.out] at hrow4
                obtain ⟨A', c', hv⟩ := hrow4.len
                rw [show (q.pk (k + 1)).length = k + 1 by rw [HPx.out, List.length_append, hpl]; rfl] at hv
                subst hv
                have bs4 := (hbsZ.keep hal).below hB4 (by omega)
                have br4 := (brZ.keep hal).below hB4 (by omega)
                have bo4 := (hboZ.keep hal).below hB4 (by omega)
                have hs4 : wr.heap.size + 1 ≤ w4.heap.size := by have := hB4.size; simpa using this
                have hT4 := (hTZ.keep hal).other hB4.size fun g h1 h2 h3 => hB4.block g h2
                have hBw4 : Below w.heap.size w w4 := (hBZ2.trans (hal.mono hBZ2.size)).trans (hB4.mono (by omega))
                have e1 := bs4.cell
                have e2 := bs4.frozen
                clear hg4 hob4 hbsZ hboZ hrowZ hTZ brZ e3 e4 bt hM
                go_wp2_with fail
                have hp : Put w4 _ (w.heap.size + 1 + 1) := Put.set w4 (w.heap.size + 1 + 1) 1 (.slice A' (k + 1) c')
                exact ⟨⟨k + 1, by omega, by omega, by go_num, .slice A' (k + 1) c', hrow4.put hp (by omega), bs4.set_ 1 _, hp.blk br4 (by omega), hp.blk bo4 (by omega), hBw4.setCell (by show w.heap.size ≤ w.heap.size + 1 + 1; omega) _, hT4.put hp (.inl (by omega)), by rw [hp.size]; omega⟩, by simp [intOf]; omega⟩
          · obtain rfl : k = 4 := by omega
            have e1 := br2.cell
            have e3 := bs2.cell
            have e4 := bo2.cell
            have e5 := bo2.frozen
            have HP : Hid (TrmS V.heap.size X.heap.size X (.slice AP 4 cP) (q.pk 4)) := Lib.hid (hrow.trms (by rw [hpl]; decide))
            clear hrow
            go_wp2_with fail
            refine set2 (M := fun W => bodyPost _ _ _ _ _ W) bo2 fun X2 hp bo => ?_
            have f1 := bo.cell
            have hs2 := hp.size
            refine bodyPost_ret (v := sv (.slice AT 3 cT) (.slice AP 4 cP)) (by simp [results, Try.results13, go_sem, f1, sv]) rfl (show RetR (MadeA _ _) w (.returned _) X2 from ⟨_, rfl, ⟨_, _, rfl, ?_, ?_⟩, ?_⟩)
            · exact (hT2.put hp (.inl (by omega))).wide (by omega) (by omega)
            · have t1 := TrmS.put HP.out hp (.inl (show w.heap.size + 1 < V.heap.size by omega))
              rw [HP4.out]
              exact t1.wide (by omega) (by omega)
            · exact below_put hB2 hp (by omega)
        · obtain rfl : k = LL := by omega
          have hq4 : q.pk 4 = q.pk k := by
            unfold Raw6.pk
            rw [List.take_of_length_le (by have := HLn.out; omega), List.take_of_length_le (by have := HLn.out; omega)]
          have e1 := br2.cell
          have e3 := bs2.cell
          have e4 := bo2.cell
          have e5 := bo2.frozen
          have HQ4 := Lib.hid hq4
          have HP : Hid (TrmS V.heap.size X.heap.size X (.slice AP k cP) (q.pk k)) := Lib.hid (hrow.trms (by rw [hpl]; omega))
          clear hrow hq4
          go_wp2_with fail
          refine set2 (M := fun W => bodyPost _ _ _ _ _ W) bo2 fun X2 hp bo => ?_
          have f1 := bo.cell
          have hs2 := hp.size
          refine bodyPost_ret (v := sv (.slice AT 3 cT) (.slice AP k cP)) (by simp [results, Try.results13, go_sem, f1, sv]) rfl (show RetR (MadeA _ _) w (.returned _) X2 from ⟨_, rfl, ⟨_, _, rfl, ?_, ?_⟩, ?_⟩)
          · exact (hT2.put hp (.inl (by omega))).wide (by omega) (by omega)
          · have t1 := TrmS.put HP.out hp (.inl (show w.heap.size + 1 < V.heap.size by omega))
            rw [HP4.out, HQ4.out]
            exact t1.wide (by omega) (by omega)
          · exact below_put hB2 hp (by omega)
end Go.Proofs.Ytilelegcniefcaa
