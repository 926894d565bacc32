/-
  Add and Mul of the reference of package poly, by contract.
-/
import Derived.Test.YtilelegcniefcaaTr
import Derived.Test.YtilelegcniefcaaSm6
namespace Go.Proofs.Ytilelegcniefcaa
open Go.RowKit

/-- A block of N elements whose polynomial is known. -/
def PolB (g N : Nat) (f : E → E) (w : World) : Prop := ∃ L : List E, L.length = N ∧ (∀ x, pev L x = f x) ∧ Blk w g 43 (L.flatMap ec).toArray
theorem exts_blk {W : World} {g : Nat} {t : TypeId} {L : List E} {lo hi n : Nat} (h : Blk W g t (L.flatMap ec).toArray) (hn : L.length = n) (hb : n ≤ 1000000) (hlo : lo ≤ g) (hhi : g < hi) : ExtS lo hi W (.slice (some ⟨g, 0, none⟩) n n) L := by
  subst hn
  exact rd_blk h (flat_length ec_len L) hb hlo hhi
theorem PolB.put {g N k : Nat} {f : E → E} {w : World} {L : List E} (b : Blk w g 43 (L.flatMap ec).toArray) (hL : L.length = N) (hp : ∀ x, pev L x = f x) (hk : k < N) (l d : E) (hl : L.getD k 0 = l) :
    PolB g N (fun x => f x + xp x k * d) ((w.setCell ⟨g, k * 2, none⟩ (.int .u64 (fv (l + d).a))).setCell ⟨g, k * 2 + 1, none⟩ (.int .u64 (fv (l + d).b))) := by
  subst hl
  exact ⟨L.set k (L.getD k 0 + d), by rw [List.length_set, hL], fun x => by rw [pev_set x d L k (by omega), hp], blk_setE b k _ (by omega)⟩
theorem gen2 {M P Q : World → Prop} {W : World} (h1 : P W) (h2 : Q W) (h : ∀ X, P X → Q X → M X) : M W := h W h1 h2
theorem PolB.of {g N : Nat} {f f' : E → E} {w : World} (h : PolB g N f w) (e : ∀ x, f x = f' x) : PolB g N f' w := by
  obtain ⟨L, h1, h2, h3⟩ := h
  exact ⟨L, h1, fun x => by rw [h2, e], h3⟩
theorem addK_in (p q : List E) (x : E) (j : Nat) (hp : j < p.length) (hq : j < q.length) : addK p q x j + xp x j * p.getD j 0 + xp x j * q.getD j 0 = addK p q x (j + 1) := by
  unfold addK
  rw [pev_take x p j hp, pev_take x q j hq]
  ac_rfl
theorem addK_l (p q : List E) (x : E) (j : Nat) (hp : j < p.length) (hq : q.length ≤ j) : addK p q x j + xp x j * p.getD j 0 = addK p q x (j + 1) := by
  unfold addK
  rw [pev_take x p j hp, take_past q j hq]
  ac_rfl
theorem addK_r (p q : List E) (x : E) (j : Nat) (hp : p.length ≤ j) (hq : j < q.length) : addK p q x j + xp x j * q.getD j 0 = addK p q x (j + 1) := by
  unfold addK
  rw [take_past p j hp, pev_take x q j hq]
  ac_rfl
set_option maxRecDepth 100000 in
set_option maxHeartbeats 2000000 in
theorem pAdd (p q : List E) (N : Nat) (hN : N = max p.length q.length) (hn : N ≤ 10000) (v u : Value) (lo hi lo2 hi2 : Nat) (w : World) (h : ExtS lo hi w v p) (h' : ExtS lo2 hi2 w u q) :
    Calls Try.prog 87 #[v, u] w (RetR (PolA N (fun x => pev p x + pev q x)) w) := by
  obtain ⟨A, cap, rfl⟩ := Rd.len h
  obtain ⟨A', cap2, rfl⟩ := Rd.len h'
  have HMK := Lib.hid (mk_ext N (by omega))
  have HH := Lib.hid h
  have HH' := Lib.hid h'
  have hp : p.length ≤ N := by omega
  have hq : q.length ≤ N := by omega
  have HMX := Lib.hid (show (if p.length < q.length then (q.length : Int) else (p.length : Int)) = (N : Int) by split <;> omega)
  have HMI := Lib.hid (show (if (p.length : Int) < (q.length : Int) then (q.length : Int) else (p.length : Int)) = (N : Int) by split <;> omega)
  have HMM := Lib.hid (show max (p.length : Int) (q.length : Int) = (N : Int) by omega)
  have hpq : N ≤ p.length ∨ N ≤ q.length := by omega
  clear h h' hN
  go_enter Try.func87, Try.ntmps87
  go_wp2_with (simp only [HMX.out, HMI.out, HMM.out, HMK.out])
  refine wp_stk1 fun W hB hz b => ?_
  have hW := hz.out
  clear hz HMK
  have hP0 : PolB w.heap.size N (fun x => addK p q x 0) W := ⟨List.replicate N 0, by simp, fun x => by rw [pev_zeros]; show (0 : E) = addK p q x 0; unfold addK; rw [List.take_zero, List.take_zero, pev_nil, E.add_zero], b⟩
  clear b
  go_loopw [6] (fun i wr => ∃ j : Nat, j ≤ N ∧ i = .int .i64 j ∧ PolB w.heap.size N (fun x => addK p q x j) wr ∧ Below w.heap.size w wr) (fun i _ => N - (intOf i).toNat)
  case atStart => exact ⟨0, Nat.zero_le _, rfl, hP0, hB⟩
  case round =>
    obtain ⟨j, hj, rfl, ⟨L, hL, hpe, b⟩, hBr⟩ := hrel
    clear hP0 hB
    by_cases hlt : j < N
    · have HPE := Lib.hid hpe
      have HL := Lib.hid hL
      clear hpe hL
      by_cases hjp : j < p.length
      · by_cases hjq : j < q.length
        · have HF := Lib.hid (fun x => addK_in p q x j hjp hjq)
          have hb1 := blk_cellE b (show L[j]? = some (L.getD j 0) by rw [List.getD_eq_getElem?_getD, List.getElem?_eq_getElem (by rw [HL.out]; exact hlt)]; rfl)
          obtain ⟨g1, o1, c1, hv, -, -, -, q4, q5⟩ := exts_cells HH.out (by omega)
          cases hv
          obtain ⟨y6, hy, hyd⟩ := get_of (l := p) (k := j) (by omega)
          obtain ⟨d1, d2⟩ := q5 j y6 hy
          have q6 := Nat.lt_of_lt_of_le q4 hBr.size
          have f1 := gw_cell b.lt hb1.1
          have f2 := gw_cell b.lt hb1.2
          have f3 := gw_cell q6 ((hBr.cell (p := ⟨g1, o1 + j * 2, none⟩) q4).trans d1)
          have f4 := gw_cell q6 ((hBr.cell (p := ⟨g1, o1 + j * 2 + 1, none⟩) q4).trans d2)
          obtain ⟨l6, hl⟩ : ∃ l, l = L.getD j 0 := ⟨_, rfl⟩
          rw [← hl] at f1 f2
          have HL6 := Lib.hid hl.symm
          have HY6 := Lib.hid hyd
          clear q5 hb1 d1 d2 hl hy hyd
          go_wp2_with fail
          refine wp_region_rg 12 [(10, Spec.val (.agg #[.int .u64 (fv (l6 + y6).a), .int .u64 (fv (l6 + y6).b)]))] (by kernel_rfl) (by kernel_rfl) (by kernel_rfl) trivial ?_
          refine rg_det rfl rfl rfl (fun K hK => ?_)
          go_big_quiet_op
          refine hK _ ?_; clear hK K
          refine rg_det rfl rfl rfl (fun K hK => ?_)
          go_big_quiet_op
          refine hK _ ?_; clear hK K
          refine rg_det rfl rfl rfl (fun K hK => ?_)
          go_big_quiet_op
          refine hK _ ?_; clear hK K
          refine rg_det rfl rfl rfl (fun K hK => ?_)
          go_big_quiet_op
          refine hK _ ?_; clear hK K
          refine rg_det rfl rfl rfl (fun K hK => ?_)
          go_big_quiet_op
          refine hK _ ?_; clear hK K
          refine rg_det rfl rfl rfl (fun K hK => ?_)
          go_big_quiet_op
          refine hK _ ?_; clear hK K
          refine rg_det rfl rfl rfl (fun K hK => ?_)
          go_big_quiet_op
          refine hK _ ?_; clear hK K
          refine rg_det rfl rfl rfl (fun K hK => ?_)
          go_big_quiet_op
          refine hK _ ?_; clear hK K
          refine rg_det rfl rfl rfl (fun K hK => ?_)
          go_big_quiet_op
          refine hK _ ?_; clear hK K
          refine rg_det rfl rfl rfl (fun K hK => ?_)
          go_big_quiet_op
          refine hK _ ?_; clear hK K
          refine rg_val rfl rfl (fun W1 hW1 hF => step_callv en_attestor_attestorref02_Add (xAdd l6 y6 W1) rfl rfl) ?_
          intro a' ha
          simp only [Act.put, List.setIfInBounds_toArray, List.set_cons_succ, List.set_cons_zero] at ha
          subst ha
          refine rg_det rfl rfl rfl (fun K hK => ?_)
          go_big_quiet_op
          refine hK _ ?_; clear hK K
          refine rg_nil (fun w' hw' hF => ?_)
          obtain ⟨z6, rfl⟩ := hw'
          simp only [List.drop_succ_cons, List.drop_zero]
          have bz6 := b.keep z6.h
          have s1 := (blk_cellE bz6 (show L[j]? = some l6 by rw [← HL6.out, List.getD_eq_getElem?_getD, List.getElem?_eq_getElem (by rw [HL.out]; exact hlt)]; rfl)).1
          have s2 := (blk_cellE bz6 (show L[j]? = some l6 by rw [← HL6.out, List.getD_eq_getElem?_getD, List.getElem?_eq_getElem (by rw [HL.out]; exact hlt)]; rfl)).2
          have e1 := bz6.frozen
          have hB6 := hBr.trans (z6.h.mono hBr.size)
          have P6 := Lib.hid (PolB.put bz6 HL.out HPE.out hlt l6 y6 HL6.out)
          clear hF f1 f2 f3 f4
          go_upto_region 7 with (fail)
          refine gen2 (M := fun W => Code.wp _ _ _ _ W) P6.out (below_setE hB6 (Nat.le_refl _)) fun X6 hPX6 hBX6 => ?_
          clear s1 s2 e1 bz6 hB6 P6 hBr
          obtain ⟨L2, hL2, hpe2, b2⟩ := hPX6
          have HPE2 := Lib.hid hpe2
          have HLL := Lib.hid hL2
          clear hpe2 hL2 HPE HL b
          have hb2 := blk_cellE b2 (show L2[j]? = some (L2.getD j 0) by rw [List.getD_eq_getElem?_getD, List.getElem?_eq_getElem (by rw [HLL.out]; exact hlt)]; rfl)
          obtain ⟨g2, o2, c2, hv, -, -, -, q4, q5⟩ := exts_cells HH'.out (by omega)
          cases hv
          obtain ⟨y8, hy, hyd⟩ := get_of (l := q) (k := j) (by omega)
          obtain ⟨d1, d2⟩ := q5 j y8 hy
          have q6 := Nat.lt_of_lt_of_le q4 hBX6.size
          have f1 := gw_cell b2.lt hb2.1
          have f2 := gw_cell b2.lt hb2.2
          have f3 := gw_cell q6 ((hBX6.cell (p := ⟨g2, o2 + j * 2, none⟩) q4).trans d1)
          have f4 := gw_cell q6 ((hBX6.cell (p := ⟨g2, o2 + j * 2 + 1, none⟩) q4).trans d2)
          obtain ⟨l8, hl⟩ : ∃ l, l = L2.getD j 0 := ⟨_, rfl⟩
          rw [← hl] at f1 f2
          have HL8 := Lib.hid hl.symm
          have HY8 := Lib.hid hyd
          clear q5 hb2 d1 d2 hl hy hyd
          go_wp2_with fail
          refine wp_region_rg 12 [(10, Spec.val (.agg #[.int .u64 (fv (l8 + y8).a), .int .u64 (fv (l8 + y8).b)]))] (by kernel_rfl) (by kernel_rfl) (by kernel_rfl) trivial ?_
          refine rg_det rfl rfl rfl (fun K hK => ?_)
          go_big_quiet_op
          refine hK _ ?_; clear hK K
          refine rg_det rfl rfl rfl (fun K hK => ?_)
          go_big_quiet_op
          refine hK _ ?_; clear hK K
          refine rg_det rfl rfl rfl (fun K hK => ?_)
          go_big_quiet_op
          refine hK _ ?_; clear hK K
          refine rg_det rfl rfl rfl (fun K hK => ?_)
          go_big_quiet_op
          refine hK _ ?_; clear hK K
          refine rg_det rfl rfl rfl (fun K hK => ?_)
          go_big_quiet_op
          refine hK _ ?_; clear hK K
          refine rg_det rfl rfl rfl (fun K hK => ?_)
          go_big_quiet_op
          refine hK _ ?_; clear hK K
          refine rg_det rfl rfl rfl (fun K hK => ?_)
          go_big_quiet_op
          refine hK _ ?_; clear hK K
          refine rg_det rfl rfl rfl (fun K hK => ?_)
          go_big_quiet_op
          refine hK _ ?_; clear hK K
          refine rg_det rfl rfl rfl (fun K hK => ?_)
          go_big_quiet_op
          refine hK _ ?_; clear hK K
          refine rg_det rfl rfl rfl (fun K hK => ?_)
          go_big_quiet_op
          refine hK _ ?_; clear hK K
          refine rg_val rfl rfl (fun W1 hW1 hF => step_callv en_attestor_attestorref02_Add (xAdd l8 y8 W1) rfl rfl) ?_
          intro a' ha
          simp only [Act.put, List.setIfInBounds_toArray, List.set_cons_succ, List.set_cons_zero] at ha
          subst ha
          refine rg_det rfl rfl rfl (fun K hK => ?_)
          go_big_quiet_op
          refine hK _ ?_; clear hK K
          refine rg_nil (fun w' hw' hF => ?_)
          obtain ⟨z8, rfl⟩ := hw'
          simp only [List.drop_succ_cons, List.drop_zero]
          have bz8 := b2.keep z8.h
          have s1 := (blk_cellE bz8 (show L2[j]? = some l8 by rw [← HL8.out, List.getD_eq_getElem?_getD, List.getElem?_eq_getElem (by rw [HLL.out]; exact hlt)]; rfl)).1
          have s2 := (blk_cellE bz8 (show L2[j]? = some l8 by rw [← HL8.out, List.getD_eq_getElem?_getD, List.getElem?_eq_getElem (by rw [HLL.out]; exact hlt)]; rfl)).2
          have e1 := bz8.frozen
          have hB8 := hBX6.trans (z8.h.mono hBX6.size)
          have P8 := Lib.hid (PolB.put bz8 HLL.out HPE2.out hlt l8 y8 HL8.out)
          clear hF f1 f2 f3 f4
          go_upto_region 4 with (fail)
          refine gen2 (M := fun W => Code.wp _ _ _ _ W) P8.out (below_setE hB8 (Nat.le_refl _)) fun X8 hPX8 hBX8 => ?_
          clear s1 s2 e1 bz8 hB8 P8 hBX6
          have HPF := Lib.hid (hPX8.of (f' := fun x => addK p q x (j + 1)) fun x => by
            show addK p q x j + xp x j * y6 + xp x j * y8 = addK p q x (j + 1)
            rw [← HY6.out, ← HY8.out]
            exact HF.out x)
          clear hPX8 HPE2 b2
          go_wp2_with fail
          exact ⟨⟨j + 1, by omega, by go_num, HPF.out, hBX8⟩, by simp [intOf]; omega⟩
        · have HF := Lib.hid (fun x => addK_l p q x j hjp (by omega))
          have hb3 := blk_cellE b (show L[j]? = some (L.getD j 0) by rw [List.getD_eq_getElem?_getD, List.getElem?_eq_getElem (by rw [HL.out]; exact hlt)]; rfl)
          obtain ⟨g3, o3, c3, hv, -, -, -, q4, q5⟩ := exts_cells HH.out (by omega)
          cases hv
          obtain ⟨y6, hy, hyd⟩ := get_of (l := p) (k := j) (by omega)
          obtain ⟨d1, d2⟩ := q5 j y6 hy
          have q6 := Nat.lt_of_lt_of_le q4 hBr.size
          have f1 := gw_cell b.lt hb3.1
          have f2 := gw_cell b.lt hb3.2
          have f3 := gw_cell q6 ((hBr.cell (p := ⟨g3, o3 + j * 2, none⟩) q4).trans d1)
          have f4 := gw_cell q6 ((hBr.cell (p := ⟨g3, o3 + j * 2 + 1, none⟩) q4).trans d2)
          obtain ⟨l6, hl⟩ : ∃ l, l = L.getD j 0 := ⟨_, rfl⟩
          rw [← hl] at f1 f2
          have HL6 := Lib.hid hl.symm
          have HY6 := Lib.hid hyd
          clear q5 hb3 d1 d2 hl hy hyd
          go_wp2_with fail
          refine wp_region_rg 12 [(10, Spec.val (.agg #[.int .u64 (fv (l6 + y6).a), .int .u64 (fv (l6 + y6).b)]))] (by kernel_rfl) (by kernel_rfl) (by kernel_rfl) trivial ?_
          refine rg_det rfl rfl rfl (fun K hK => ?_)
          go_big_quiet_op
          refine hK _ ?_; clear hK K
          refine rg_det rfl rfl rfl (fun K hK => ?_)
          go_big_quiet_op
          refine hK _ ?_; clear hK K
          refine rg_det rfl rfl rfl (fun K hK => ?_)
          go_big_quiet_op
          refine hK _ ?_; clear hK K
          refine rg_det rfl rfl rfl (fun K hK => ?_)
          go_big_quiet_op
          refine hK _ ?_; clear hK K
          refine rg_det rfl rfl rfl (fun K hK => ?_)
          go_big_quiet_op
          refine hK _ ?_; clear hK K
          refine rg_det rfl rfl rfl (fun K hK => ?_)
          go_big_quiet_op
          refine hK _ ?_; clear hK K
          refine rg_det rfl rfl rfl (fun K hK => ?_)
          go_big_quiet_op
          refine hK _ ?_; clear hK K
          refine rg_det rfl rfl rfl (fun K hK => ?_)
          go_big_quiet_op
          refine hK _ ?_; clear hK K
          refine rg_det rfl rfl rfl (fun K hK => ?_)
          go_big_quiet_op
          refine hK _ ?_; clear hK K
          refine rg_det rfl rfl rfl (fun K hK => ?_)
          go_big_quiet_op
          refine hK _ ?_; clear hK K
          refine rg_val rfl rfl (fun W1 hW1 hF => step_callv en_attestor_attestorref02_Add (xAdd l6 y6 W1) rfl rfl) ?_
          intro a' ha
          simp only [Act.put, List.setIfInBounds_toArray, List.set_cons_succ, List.set_cons_zero] at ha
          subst ha
          refine rg_det rfl rfl rfl (fun K hK => ?_)
          go_big_quiet_op
          refine hK _ ?_; clear hK K
          refine rg_nil (fun w' hw' hF => ?_)
          obtain ⟨z6, rfl⟩ := hw'
          simp only [List.drop_succ_cons, List.drop_zero]
          have bz6 := b.keep z6.h
          have s1 := (blk_cellE bz6 (show L[j]? = some l6 by rw [← HL6.out, List.getD_eq_getElem?_getD, List.getElem?_eq_getElem (by rw [HL.out]; exact hlt)]; rfl)).1
          have s2 := (blk_cellE bz6 (show L[j]? = some l6 by rw [← HL6.out, List.getD_eq_getElem?_getD, List.getElem?_eq_getElem (by rw [HL.out]; exact hlt)]; rfl)).2
          have e1 := bz6.frozen
          have hB6 := hBr.trans (z6.h.mono hBr.size)
          have P6 := Lib.hid (PolB.put bz6 HL.out HPE.out hlt l6 y6 HL6.out)
          clear hF f1 f2 f3 f4
          go_upto_region 7 with (fail)
          refine gen2 (M := fun W => Code.wp _ _ _ _ W) P6.out (below_setE hB6 (Nat.le_refl _)) fun X6 hPX6 hBX6 => ?_
          clear s1 s2 e1 bz6 hB6 P6 hBr
          have HPF := Lib.hid (hPX6.of (f' := fun x => addK p q x (j + 1)) fun x => by
            show addK p q x j + xp x j * y6 = addK p q x (j + 1)
            rw [← HY6.out]
            exact HF.out x)
          clear hPX6 HPE b
          go_wp2_with fail
          exact ⟨⟨j + 1, by omega, by go_num, HPF.out, hBX6⟩, by simp [intOf]; omega⟩
      · have hjq : j < q.length := by omega
        have HF := Lib.hid (fun x => addK_r p q x j (by omega) hjq)
        have hb4 := blk_cellE b (show L[j]? = some (L.getD j 0) by rw [List.getD_eq_getElem?_getD, List.getElem?_eq_getElem (by rw [HL.out]; exact hlt)]; rfl)
        obtain ⟨g4, o4, c4, hv, -, -, -, q4, q5⟩ := exts_cells HH'.out (by omega)
        cases hv
        obtain ⟨y8, hy, hyd⟩ := get_of (l := q) (k := j) (by omega)
        obtain ⟨d1, d2⟩ := q5 j y8 hy
        have q6 := Nat.lt_of_lt_of_le q4 hBr.size
        have f1 := gw_cell b.lt hb4.1
        have f2 := gw_cell b.lt hb4.2
        have f3 := gw_cell q6 ((hBr.cell (p := ⟨g4, o4 + j * 2, none⟩) q4).trans d1)
        have f4 := gw_cell q6 ((hBr.cell (p := ⟨g4, o4 + j * 2 + 1, none⟩) q4).trans d2)
        obtain ⟨l8, hl⟩ : ∃ l, l = L.getD j 0 := ⟨_, rfl⟩
        rw [← hl] at f1 f2
        have HL8 := Lib.hid hl.symm
        have HY8 := Lib.hid hyd
        clear q5 hb4 d1 d2 hl hy hyd
        go_wp2_with fail
        refine wp_region_rg 12 [(10, Spec.val (.agg #[.int .u64 (fv (l8 + y8).a), .int .u64 (fv (l8 + y8).b)]))] (by kernel_rfl) (by kernel_rfl) (by kernel_rfl) trivial ?_
        refine rg_det rfl rfl rfl (fun K hK => ?_)
        go_big_quiet_op
        refine hK _ ?_; clear hK K
        refine rg_det rfl rfl rfl (fun K hK => ?_)
        go_big_quiet_op
        refine hK _ ?_; clear hK K
        refine rg_det rfl rfl rfl (fun K hK => ?_)
        go_big_quiet_op
        refine hK _ ?_; clear hK K
        refine rg_det rfl rfl rfl (fun K hK => ?_)
        go_big_quiet_op
        refine hK _ ?_; clear hK K
        refine rg_det rfl rfl rfl (fun K hK => ?_)
        go_big_quiet_op
        refine hK _ ?_; clear hK K
        refine rg_det rfl rfl rfl (fun K hK => ?_)
        go_big_quiet_op
        refine hK _ ?_; clear hK K
        refine rg_det rfl rfl rfl (fun K hK => ?_)
        go_big_quiet_op
        refine hK _ ?_; clear hK K
        refine rg_det rfl rfl rfl (fun K hK => ?_)
        go_big_quiet_op
        refine hK _ ?_; clear hK K
        refine rg_det rfl rfl rfl (fun K hK => ?_)
        go_big_quiet_op
        refine hK _ ?_; clear hK K
        refine rg_det rfl rfl rfl (fun K hK => ?_)
        go_big_quiet_op
        refine hK _ ?_; clear hK K
        refine rg_val rfl rfl (fun W1 hW1 hF => step_callv en_attestor_attestorref02_Add (xAdd l8 y8 W1) rfl rfl) ?_
        intro a' ha
        simp only [Act.put, List.setIfInBounds_toArray, List.set_cons_succ, List.set_cons_zero] at ha
        subst ha
        refine rg_det rfl rfl rfl (fun K hK => ?_)
        go_big_quiet_op
        refine hK _ ?_; clear hK K
        refine rg_nil (fun w' hw' hF => ?_)
        obtain ⟨z8, rfl⟩ := hw'
        simp only [List.drop_succ_cons, List.drop_zero]
        have bz8 := b.keep z8.h
        have s1 := (blk_cellE bz8 (show L[j]? = some l8 by rw [← HL8.out, List.getD_eq_getElem?_getD, List.getElem?_eq_getElem (by rw [HL.out]; exact hlt)]; rfl)).1
        have s2 := (blk_cellE bz8 (show L[j]? = some l8 by rw [← HL8.out, List.getD_eq_getElem?_getD, List.getElem?_eq_getElem (by rw [HL.out]; exact hlt)]; rfl)).2
        have e1 := bz8.frozen
        have hB8 := hBr.trans (z8.h.mono hBr.size)
        have P8 := Lib.hid (PolB.put bz8 HL.out HPE.out hlt l8 y8 HL8.out)
        clear hF f1 f2 f3 f4
        go_upto_region 4 with (fail)
        refine gen2 (M := fun W => Code.wp _ _ _ _ W) P8.out (below_setE hB8 (Nat.le_refl _)) fun X8 hPX8 hBX8 => ?_
        clear s1 s2 e1 bz8 hB8 P8 hBr
        have HPF := Lib.hid (hPX8.of (f' := fun x => addK p q x (j + 1)) fun x => by
          show addK p q x j + xp x j * y8 = addK p q x (j + 1)
          rw [← HY8.out]
          exact HF.out x)
        clear hPX8 HPE b
        go_wp2_with fail
        exact ⟨⟨j + 1, by omega, by go_num, HPF.out, hBX8⟩, by simp [intOf]; omega⟩
    · obtain rfl : j = N := by omega
      have hX := exts_blk (lo := w.heap.size) (hi := wr.heap.size) b hL (by omega) (Nat.le_refl _) b.lt
      have HX := Lib.hid hX
      have HPE := Lib.hid (show ∀ x, pev L x = pev p x + pev q x from fun x => by rw [hpe]; unfold addK; rw [List.take_of_length_le hp, List.take_of_length_le hq])
      have HL := Lib.hid hL
      clear hX hpe hL b
      go_wp2_with fail
      refine (pTrim L (by rw [HL.out]; omega) _ _ _ wr HX.out).mono ?_
      rintro e w2 ⟨v2, rfl, ⟨cs, c1, c2, c3⟩, hb⟩
      rw [HL.out] at c1
      obtain ⟨A2, cap2', rfl⟩ := Rd.len c3
      go_wp2_with fail
      go_ret
      exact ⟨_, rfl, ⟨cs, c1, fun x => by rw [c2, HPE.out], Rd.wide c3 hBr.size (Nat.le_refl _)⟩, hBr.trans (hb.mono hBr.size)⟩
set_option maxRecDepth 100000 in
set_option maxHeartbeats 2000000 in
theorem pMul (p q : List E) (N : Nat) (hN : N = p.length + q.length) (hn : N ≤ 10000) (v u : Value) (lo hi lo2 hi2 : Nat) (w : World) (h : ExtS lo hi w v p) (h' : ExtS lo2 hi2 w u q) :
    Calls Try.prog 86 #[v, u] w (RetR (PolA N (fun x => pev p x * pev q x)) w) := by
  obtain ⟨A, cap, rfl⟩ := Rd.len h
  obtain ⟨A', cap2, rfl⟩ := Rd.len h'
  have HMK := Lib.hid (mk_ext N (by omega))
  have HH := Lib.hid h
  have HH' := Lib.hid h'
  have hp : p.length ≤ N := by omega
  have hq : q.length ≤ N := by omega
  have HMX := Lib.hid (show (p.length : Int) + (q.length : Int) = (N : Int) by omega)
  have HNN := Lib.hid hN
  have hpq : p.length + q.length ≤ N := by omega
  clear h h' hN
  go_enter Try.func86, Try.ntmps86
  go_wp2_with (simp only [HMX.out, HMK.out])
  refine wp_stk1 fun W hB hz b => ?_
  have hW := hz.out
  clear hz HMK
  have hP0 : PolB w.heap.size N (fun x => mulK p q x 0 0) W := ⟨List.replicate N 0, by simp, fun x => by rw [pev_zeros]; show (0 : E) = mulK p q x 0 0; rw [mulK_zero], b⟩
  clear b
  go_loopw [6] (fun i wr => ∃ j : Nat, j ≤ p.length ∧ i = .int .i64 j ∧ PolB w.heap.size N (fun x => mulK p q x j 0) wr ∧ Below w.heap.size w wr) (fun i _ => p.length - (intOf i).toNat)
  case atStart => exact ⟨0, Nat.zero_le _, rfl, hP0, hB⟩
  case round =>
    obtain ⟨j, hj, rfl, hP, hBr⟩ := hrel
    clear hP0 hB
    by_cases hlt : j < p.length
    · go_wp2_with fail
      go_loopw [7] (fun i wr => ∃ k : Nat, k ≤ q.length ∧ i = .int .i64 k ∧ PolB w.heap.size N (fun x => mulK p q x j k) wr ∧ Below w.heap.size w wr) (fun i _ => q.length - (intOf i).toNat)
      case atStart => exact ⟨0, Nat.zero_le _, rfl, hP, hBr⟩
      case round =>
        obtain ⟨k, hk, rfl, ⟨L, hL, hpe, b⟩, hBs⟩ := hrel
        clear hP hBr
        by_cases hlk : k < q.length
        · have hm : j + k < N := by omega
          have HS := Lib.hid (fun x => mulK_step p q x j k hlk)
          have HL := Lib.hid hL
          have HPE := Lib.hid hpe
          obtain ⟨l, hl⟩ : ∃ l, l = L.getD (j + k) 0 := ⟨_, rfl⟩
          have HLl := Lib.hid hl.symm
          have HLG := Lib.hid (show L[j + k]? = some l by rw [hl, List.getD_eq_getElem?_getD, List.getElem?_eq_getElem (by rw [hL]; exact hm)]; rfl)
          have hb := blk_cellE b HLG.out
          obtain ⟨g1, o1, c1, hv, -, -, -, q4, q5⟩ := exts_cells HH.out (by omega)
          cases hv
          obtain ⟨y, hy, hyd⟩ := get_of (l := p) (k := j) hlt
          obtain ⟨d1, d2⟩ := q5 j y hy
          obtain ⟨g2, o2, c2, hv, -, -, -, r4, r5⟩ := exts_cells HH'.out (by omega)
          cases hv
          obtain ⟨t, ht, htd⟩ := get_of (l := q) (k := k) hlk
          obtain ⟨d3, d4⟩ := r5 k t ht
          have q6 := Nat.lt_of_lt_of_le q4 hBs.size
          have r6 := Nat.lt_of_lt_of_le r4 hBs.size
          have f1 := gw_cell b.lt hb.1
          have f2 := gw_cell b.lt hb.2
          have f3 := gw_cell q6 ((hBs.cell (p := ⟨g1, o1 + j * 2, none⟩) q4).trans d1)
          have f4 := gw_cell q6 ((hBs.cell (p := ⟨g1, o1 + j * 2 + 1, none⟩) q4).trans d2)
          have f5 := gw_cell r6 ((hBs.cell (p := ⟨g2, o2 + k * 2, none⟩) r4).trans d3)
          have f6 := gw_cell r6 ((hBs.cell (p := ⟨g2, o2 + k * 2 + 1, none⟩) r4).trans d4)
          have HYD := Lib.hid (show p.getD j 0 * q.getD k 0 = y * t by rw [hyd, htd])
          obtain ⟨m, hme⟩ : ∃ m, m = j + k := ⟨_, rfl⟩
          have hsum : IntKind.i64.wrap ((j : Int) + (k : Int)) = (m : Int) := by rw [IntWalk.i64_in _ (by omega)]; omega
          have hsum2 : (j : Int) + (k : Int) = (m : Int) := by omega
          have HME := Lib.hid hme
          rw [← hme] at f1 f2 hm
          clear q5 r5 hb d1 d2 d3 d4 hl hy hyd ht htd hme hL hpe
          go_wp2_with fail
          refine wp_region_rg 21 [(18, Spec.val (.agg #[.int .u64 (fv (y * t).a), .int .u64 (fv (y * t).b)])), (19, Spec.val (.agg #[.int .u64 (fv (l + y * t).a), .int .u64 (fv (l + y * t).b)]))] (by kernel_rfl) (by kernel_rfl) (by kernel_rfl) trivial ?_
          refine rg_det rfl rfl rfl (fun K hK => ?_)
          go_big_quiet_op
          refine hK _ ?_; clear hK K
          refine rg_det rfl rfl rfl (fun K hK => ?_)
          go_big_quiet_op
          refine hK _ ?_; clear hK K
          refine rg_det rfl rfl rfl (fun K hK => ?_)
          go_big_quiet_op
          refine hK _ ?_; clear hK K
          refine rg_det rfl rfl rfl (fun K hK => ?_)
          go_big_quiet_op
          refine hK _ ?_; clear hK K
          refine rg_det rfl rfl rfl (fun K hK => ?_)
          go_big_quiet_op
          refine hK _ ?_; clear hK K
          refine rg_det rfl rfl rfl (fun K hK => ?_)
          go_big_quiet_op
          refine hK _ ?_; clear hK K
          refine rg_det rfl rfl rfl (fun K hK => ?_)
          go_big_quiet_op
          refine hK _ ?_; clear hK K
          refine rg_det rfl rfl rfl (fun K hK => ?_)
          go_big_quiet_op
          refine hK _ ?_; clear hK K
          refine rg_det rfl rfl rfl (fun K hK => ?_)
          go_big_quiet_op
          refine hK _ ?_; clear hK K
          refine rg_det rfl rfl rfl (fun K hK => ?_)
          go_big_quiet_op
          refine hK _ ?_; clear hK K
          refine rg_det rfl rfl rfl (fun K hK => ?_)
          go_big_quiet_op
          refine hK _ ?_; clear hK K
          refine rg_det rfl rfl rfl (fun K hK => ?_)
          go_big_quiet_op
          refine hK _ ?_; clear hK K
          refine rg_det rfl rfl rfl (fun K hK => ?_)
          go_big_quiet_op
          refine hK _ ?_; clear hK K
          refine rg_det rfl rfl rfl (fun K hK => ?_)
          go_big_quiet_op
          refine hK _ ?_; clear hK K
          refine rg_det rfl rfl rfl (fun K hK => ?_)
          go_big_quiet_op
          refine hK _ ?_; clear hK K
          refine rg_det rfl rfl rfl (fun K hK => ?_)
          go_big_quiet_op
          refine hK _ ?_; clear hK K
          refine rg_det rfl rfl rfl (fun K hK => ?_)
          go_big_quiet_op
          refine hK _ ?_; clear hK K
          refine rg_det rfl rfl rfl (fun K hK => ?_)
          go_big_quiet_op
          refine hK _ ?_; clear hK K
          refine rg_val rfl rfl (fun W1 hW1 hF => step_callv en_attestor_attestorref02_Mul (xMul y t W1) rfl rfl) ?_
          intro a' ha
          simp only [Act.put, List.setIfInBounds_toArray, List.set_cons_succ, List.set_cons_zero] at ha
          subst ha
          refine rg_val rfl rfl (fun W1 hW1 hF => step_callv en_attestor_attestorref02_Add (xAdd l (y * t) W1) rfl rfl) ?_
          intro a' ha
          simp only [Act.put, List.setIfInBounds_toArray, List.set_cons_succ, List.set_cons_zero] at ha
          subst ha
          refine rg_det rfl rfl rfl (fun K hK => ?_)
          go_big_quiet_op
          refine hK _ ?_; clear hK K
          refine rg_nil (fun w' hw' hF => ?_)
          obtain ⟨z, rfl⟩ := hw'
          simp only [List.drop_succ_cons, List.drop_zero]
          have bz := b.keep z.h
          have s1 := (blk_cellE bz HLG.out).1
          have s2 := (blk_cellE bz HLG.out).2
          rw [← HME.out] at s1 s2
          have e1 := bz.frozen
          have hBz := hBs.trans (z.h.mono hBs.size)
          have P8 := PolB.put bz HL.out HPE.out (k := m) hm l (y * t) (by rw [HME.out]; exact HLl.out)
          have P9 := Lib.hid (P8.of (f' := fun x => mulK p q x j (k + 1)) fun x => by
            show mulK p q x j k + xp x m * (y * t) = mulK p q x j (k + 1)
            rw [← HYD.out, HME.out]
            exact (HS.out x).symm)
          have hBq := Lib.hid (below_setE (i := m * 2) (j := m * 2 + 1) (c := .int .u64 (fv (l + y * t).a)) (d := .int .u64 (fv (l + y * t).b)) hBz (Nat.le_refl _))
          clear hF f1 f2 f3 f4 f5 f6 P8
          go_wp2_with fail
          exact ⟨⟨k + 1, by omega, by go_num, P9.out, hBq.out⟩, by simp [intOf]; omega⟩
        · obtain rfl : k = q.length := by omega
          have HR := Lib.hid (fun x => mulK_row p q x j hlt)
          have HP := Lib.hid (show PolB w.heap.size N (fun x => mulK p q x (j + 1) 0) _ from ⟨L, hL, fun x => by rw [hpe]; exact (HR.out x).symm, b⟩)
          clear hL hpe b
          go_wp2_with fail
          exact ⟨⟨j + 1, by omega, by go_num, HP.out, hBs⟩, by simp [intOf]; omega⟩
    · obtain rfl : j = p.length := by omega
      obtain ⟨L, hL, hpe, b⟩ := hP
      have hX := exts_blk (lo := w.heap.size) (hi := wr.heap.size) b hL (by omega) (Nat.le_refl _) b.lt
      have HX := Lib.hid hX
      have HPE := Lib.hid (show ∀ x, pev L x = pev p x * pev q x from fun x => by rw [hpe]; exact mulK_all p q x)
      have HL := Lib.hid hL
      clear hX hpe hL b
      go_wp2_with fail
      refine (pTrim L (by rw [HL.out]; omega) _ _ _ wr HX.out).mono ?_
      rintro e w2 ⟨v2, rfl, ⟨cs, c1, c2, c3⟩, hb⟩
      rw [HL.out] at c1
      obtain ⟨A2, cap2', rfl⟩ := Rd.len c3
      go_wp2_with fail
      go_ret
      exact ⟨_, rfl, ⟨cs, c1, fun x => by rw [c2, HPE.out], Rd.wide c3 hBr.size (Nat.le_refl _)⟩, hBr.trans (hb.mono hBr.size)⟩
end Go.Proofs.Ytilelegcniefcaa
