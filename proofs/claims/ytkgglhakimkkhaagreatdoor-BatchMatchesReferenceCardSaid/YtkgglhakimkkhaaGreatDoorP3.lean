/-
  Trim, Add and Mul of the reference of package poly, by contract: what the lists that they return are worth as polynomials.
  Add and Mul of the reference of package poly, by contract.
  Eval, Interpolate and At of the reference of package poly, by contract.
  Same, Made and Exactly of the reference's polynomials, by contract.
-/
import Derived.Test.YtkgglhakimkkhaaGreatDoorTk
import Derived.Test.YtkgglhakimkkhaaGreatDoorPa
namespace Go.Proofs.YtkgglhakimkkhaaGreatDoor
open Go.RowKit

def PolA (n : Nat) (f : E → E) (lo hi : Nat) (v : Value) (w : World) : Prop := ∃ cs : List E, cs.length ≤ n ∧ (∀ x, pev cs x = f x) ∧ ExtS lo hi w v cs
theorem pol_stable (n : Nat) (f : E → E) : Stable (PolA n f) := fun _ _ _ _ _ ⟨cs, h1, h2, h3⟩ hb => ⟨cs, h1, h2, h3.below hb (Nat.le_refl _)⟩
set_option maxRecDepth 100000 in
set_option maxHeartbeats 1000000 in
theorem pTrim (xs : List E) (hn : xs.length ≤ 100000) (v : Value) (lo hi : Nat) (w : World) (h : ExtS lo hi w v xs) :
    Calls Tryz.prog 144 #[v] w (RetR (PolA xs.length (pev xs)) w) := by
  obtain ⟨A, cap, rfl⟩ := Rd.len h
  obtain ⟨i0, hi0, iz0, iz1, iz2⟩ := info_parts ext_info
  have HH := Lib.hid h
  clear h
  go_enter Tryz.func144, Tryz.ntmps144
  go_wp2_with fail
  go_loopw [3] (fun i wr => ∃ n : Nat, n ≤ xs.length ∧ i = .int .i64 n ∧ (∀ x, pev (xs.take n) x = pev xs x) ∧ Below w.heap.size w wr) (fun i _ => (intOf i).toNat)
  case atStart => exact ⟨xs.length, Nat.le_refl _, rfl, fun x => by rw [List.take_length], Below.refl _ _⟩
  case round =>
    obtain ⟨n, hnl, rfl, hpe, hB⟩ := hrel
    have HP := Lib.hid hpe
    clear hpe
    by_cases h0 : 0 < n
    · obtain ⟨k, rfl⟩ : ∃ k, n = k + 1 := ⟨n - 1, by omega⟩
      obtain ⟨g, off, cap', hv, q1, q2, q3, q4, q5⟩ := exts_cells HH.out (by omega)
      cases hv
      obtain ⟨a, ha, had⟩ := get_of (l := xs) (k := k) (by omega)
      obtain ⟨d1, d2⟩ := q5 k a ha
      have f1 := (hB.cell (p := ⟨g, off + k * 2, none⟩) q4).trans d1
      have f2 := (hB.cell (p := ⟨g, off + k * 2 + 1, none⟩) q4).trans d2
      have q6 : g < wr.heap.size := Nat.lt_of_lt_of_le q4 hB.size
      have hk1 : ((k + 1 : Nat) : Int) - 1 = (k : Int) := by omega
      clear q5 d1 d2 ha
      by_cases hz : a = 0
      · have HZ := Lib.hid (show ∀ W1, Calls Tryz.prog 140 #[ev a] W1 (Ret (.bool true) W1) from fun W1 => by
          have := xIsZero a W1
          rwa [decide_eq_true hz] at this)
        have HP2 := Lib.hid (show ∀ x, pev (xs.take k) x = pev xs x from fun x => by rw [← HP.out x, pev_cut x xs k (by omega) (by rw [had, hz])])
        clear had hz
        go_wp2_with fail
        refine (HZ.out _).mono ?_
        rintro e w2 ⟨rfl, hb⟩
        go_wp2_with fail
        exact ⟨⟨k, by omega, by go_num, HP2.out, hB.trans (hb.mono hB.size)⟩, by simp [intOf]⟩
      · have HZ := Lib.hid (show ∀ W1, Calls Tryz.prog 140 #[ev a] W1 (Ret (.bool false) W1) from fun W1 => by
          have := xIsZero a W1
          rwa [decide_eq_false hz] at this)
        clear had hz
        go_wp2_with fail
        refine (HZ.out _).mono ?_
        rintro e w2 ⟨rfl, hb⟩
        have hB2 := hB.trans (hb.mono hB.size)
        have hX := Rd.keep HH.out hB2
        have hT := exts_take (k := k + 1) hX hnl
        have HT := Lib.hid hT
        clear hX hT f1 f2
        go_wp2_with (at_builtin; refine stop_in ?_)
        refine stop_out ?_
        refine stk1 (M := fun W => wpList _ _ _ _ _ W) fun W9 hB9 hz9 b9 => ?_
        have hs9 : W9.heap.size = w2.heap.size + 1 := hz9.out
        have hl9 : (xs.take (k + 1)).length ≤ 100000 := by rw [List.length_take]; omega
        refine wpList_appB rfl _ _ rfl Tryz.underlying22 hi0 iz0 iz1 iz2 rfl (by decide) (cl := (xs.take (k + 1)).flatMap ec) (base := w2.heap.size) (cs := []) (k := 0) (fun u hu => by obtain ⟨x, _, hx⟩ := List.mem_flatMap.1 hu; exact ec_one x u hx) rfl rfl (Rd.keep HT.out hB9) ⟨rfl, .inr ⟨w2.heap.size, 0, #[], rfl, Nat.le_refl _, b9, Nat.le_refl _, Nat.zero_le _, rfl, rfl⟩⟩ (by unfold maxLen; omega) (by omega) (by omega) ?_
        intro v10 w10 hownw10 hgroww10 hBw10
        rw [Nat.zero_add, List.nil_append] at hownw10
        have hX := exts_of_own hownw10 rfl (by omega) (Nat.le_refl w10.heap.size)
        have HX := Lib.hid hX
        have hBf := hB2.trans ((hB9.trans hBw10).mono hB2.size)
        have hl2 : (xs.take (k + 1)).length ≤ xs.length := by rw [List.length_take]; omega
        have HL2 := Lib.hid hl2
        clear hX hownw10 b9 hl2 hl9
        go_wp2_with fail
        go_ret
        exact ⟨_, rfl, ⟨xs.take (k + 1), HL2.out, HP.out, Rd.wide HX.out hB2.size (Nat.le_refl _)⟩, hBf⟩
    · obtain rfl : n = 0 := by omega
      rw [show ((0 : Nat) : Int) = 0 from rfl]
      go_wp2_with (at_builtin; refine stop_in ?_)
      refine stop_out ?_
      refine stk1 (M := fun W => wpList _ _ _ _ _ W) fun W9 hB9 hz9 b9 => ?_
      have hs9 : W9.heap.size = wr.heap.size + 1 := hz9.out
      refine wpList_appB rfl _ _ rfl Tryz.underlying22 hi0 iz0 iz1 iz2 rfl (by decide) (cl := ([] : List E).flatMap ec) (base := wr.heap.size) (cs := []) (k := 0) (fun u hu => by obtain ⟨x, _, hx⟩ := List.mem_flatMap.1 hu; exact ec_one x u hx) rfl rfl (rd_nil 0 0 2 W9 A cap) ⟨rfl, .inr ⟨wr.heap.size, 0, #[], rfl, Nat.le_refl _, b9, Nat.le_refl _, Nat.zero_le _, rfl, rfl⟩⟩ (by unfold maxLen; omega) (by omega) (by omega) ?_
      intro v10 w10 hownw10 hgroww10 hBw10
      rw [Nat.zero_add, List.nil_append] at hownw10
      have hX := exts_of_own (xs := ([] : List E)) hownw10 rfl (by omega) (Nat.le_refl w10.heap.size)
      have HX := Lib.hid hX
      have hBf := hB.trans ((hB9.trans hBw10).mono hB.size)
      clear hX hownw10 b9
      go_wp2_with fail
      go_ret
      exact ⟨_, rfl, ⟨[], Nat.zero_le _, HP.out, Rd.wide HX.out hB.size (Nat.le_refl _)⟩, hBf⟩
end Go.Proofs.YtkgglhakimkkhaaGreatDoor
namespace Go.Proofs.YtkgglhakimkkhaaGreatDoor
open Go.RowKit

def PolB (g N : Nat) (f : E → E) (w : World) : Prop := ∃ L : List E, L.length = N ∧ (∀ x, pev L x = f x) ∧ Blk w g 26 (L.flatMap ec).toArray
theorem exts_blk {W : World} {g : Nat} {t : TypeId} {L : List E} {lo hi n : Nat} (h : Blk W g t (L.flatMap ec).toArray) (hn : L.length = n) (hb : n ≤ 1000000) (hlo : lo ≤ g) (hhi : g < hi) : ExtS lo hi W (.slice (some ⟨g, 0, none⟩) n n) L := by
  subst hn
  exact rd_blk h (flat_length ec_len L) hb hlo hhi
theorem PolB.put {g N k : Nat} {f : E → E} {w : World} {L : List E} (b : Blk w g 26 (L.flatMap ec).toArray) (hL : L.length = N) (hp : ∀ x, pev L x = f x) (hk : k < N) (l d : E) (hl : L.getD k 0 = l) :
    PolB g N (fun x => f x + xp x k * d) ((w.setCell ⟨g, k * 2, none⟩ (.int .u64 (fv (l + d).a))).setCell ⟨g, k * 2 + 1, none⟩ (.int .u64 (fv (l + d).b))) := by
  subst hl
  exact ⟨L.set k (L.getD k 0 + d), by rw [List.length_set, hL], fun x => by rw [pev_set x d L k (by omega), hp], blk_setE b k _ (by omega)⟩
theorem gen2 {M P Q : World → Prop} {W : World} (h1 : P W) (h2 : Q W) (h : ∀ X, P X → Q X → M X) : M W := h W h1 h2
theorem PolB.of {g N : Nat} {f f' : E → E} {w : World} (h : PolB g N f w) (e : ∀ x, f x = f' x) : PolB g N f' w := by
  obtain ⟨L, h1, h2, h3⟩ := h
  exact ⟨L, h1, fun x => by rw [h2, e], h3⟩
theorem addK_in (p q : List E) (x : E) (j : Nat) (hp : j < p.length) (hq : j < q.length) : addK p q x j + xp x j * p.getD j 0 + xp x j * q.getD j 0 = addK p q x (j + 1) := by
  unfold addK
  rw [pev_take x p j hp, pev_take x q j hq]
  ac_rfl
theorem addK_l (p q : List E) (x : E) (j : Nat) (hp : j < p.length) (hq : q.length ≤ j) : addK p q x j + xp x j * p.getD j 0 = addK p q x (j + 1) := by
  unfold addK
  rw [pev_take x p j hp, take_past q j hq]
  ac_rfl
theorem addK_r (p q : List E) (x : E) (j : Nat) (hp : p.length ≤ j) (hq : j < q.length) : addK p q x j + xp x j * q.getD j 0 = addK p q x (j + 1) := by
  unfold addK
  rw [take_past p j hp, pev_take x q j hq]
  ac_rfl
set_option maxRecDepth 100000 in
set_option maxHeartbeats 2000000 in
theorem pAdd (p q : List E) (N : Nat) (hN : N = max p.length q.length) (hn : N ≤ 10000) (v u : Value) (lo hi lo2 hi2 : Nat) (w : World) (h : ExtS lo hi w v p) (h' : ExtS lo2 hi2 w u q) :
    Calls Tryz.prog 134 #[v, u] w (RetR (PolA N (fun x => pev p x + pev q x)) w) := by
  obtain ⟨A, cap, rfl⟩ := Rd.len h
  obtain ⟨A', cap2, rfl⟩ := Rd.len h'
  have HMK := Lib.hid (mk_ext N (by omega))
  have HH := Lib.hid h
  have HH' := Lib.hid h'
  have hp : p.length ≤ N := by omega
  have hq : q.length ≤ N := by omega
  have HMX := Lib.hid (show (if p.length < q.length then (q.length : Int) else (p.length : Int)) = (N : Int) by split <;> omega)
  have HMI := Lib.hid (show (if (p.length : Int) < (q.length : Int) then (q.length : Int) else (p.length : Int)) = (N : Int) by split <;> omega)
  have HMM := Lib.hid (show max (p.length : Int) (q.length : Int) = (N : Int) by omega)
  have hpq : N ≤ p.length ∨ N ≤ q.length := by omega
  clear h h' hN
  go_enter Tryz.func134, Tryz.ntmps134
  go_wp2_with (simp only [HMX.out, HMI.out, HMM.out, HMK.out])
  refine wp_stk1 fun W hB hz b => ?_
  have hW := hz.out
  clear hz HMK
  have hP0 : PolB w.heap.size N (fun x => addK p q x 0) W := ⟨List.replicate N 0, by simp, fun x => by rw [pev_zeros]; show (0 : E) = addK p q x 0; unfold addK; rw [List.take_zero, List.take_zero, pev_nil, E.add_zero], b⟩
  clear b
  go_loopw [6] (fun i wr => ∃ j : Nat, j ≤ N ∧ i = .int .i64 j ∧ PolB w.heap.size N (fun x => addK p q x j) wr ∧ Below w.heap.size w wr) (fun i _ => N - (intOf i).toNat)
  case atStart => exact ⟨0, Nat.zero_le _, rfl, hP0, hB⟩
  case round =>
    obtain ⟨j, hj, rfl, ⟨L, hL, hpe, b⟩, hBr⟩ := hrel
    clear hP0 hB
    by_cases hlt : j < N
    · have HPE := Lib.hid hpe
      have HL := Lib.hid hL
      clear hpe hL
      by_cases hjp : j < p.length
      · by_cases hjq : j < q.length
        · have HF := Lib.hid (fun x => addK_in p q x j hjp hjq)
          have hb3 := blk_cellE b (show L[j]? = some (L.getD j 0) by rw [List.getD_eq_getElem?_getD, List.getElem?_eq_getElem (by rw [HL.out]; exact hlt)]; rfl)
          obtain ⟨g3, o3, c3, hv, -, -, -, q4, q5⟩ := exts_cells HH.out (by omega)
          cases hv
          obtain ⟨y6, hy, hyd⟩ := get_of (l := p) (k := j) (by omega)
          obtain ⟨d1, d2⟩ := q5 j y6 hy
          have q6 := Nat.lt_of_lt_of_le q4 hBr.size
          have f1 := gw_cell b.lt hb3.1
          have f2 := gw_cell b.lt hb3.2
          have f3 := gw_cell q6 ((hBr.cell (p := ⟨g3, o3 + j * 2, none⟩) q4).trans d1)
          have f4 := gw_cell q6 ((hBr.cell (p := ⟨g3, o3 + j * 2 + 1, none⟩) q4).trans d2)
          obtain ⟨l6, hl⟩ : ∃ l, l = L.getD j 0 := ⟨_, rfl⟩
          rw [← hl] at f1 f2
          have HL6 := Lib.hid hl.symm
          have HY6 := Lib.hid hyd
          clear q5 hb3 d1 d2 hl hy hyd
          go_wp2_with fail
          refine wp_region_rg 12 [(10, Spec.val (.agg #[.int .u64 (fv (l6 + y6).a), .int .u64 (fv (l6 + y6).b)]))] (by kernel_rfl) (by kernel_rfl) (by kernel_rfl) trivial ?_
          iterate 10 (refine rg_det rfl rfl rfl (fun K hK => ?_); go_big_quiet_op; refine hK _ ?_; clear hK K)
          refine rg_val rfl rfl (fun W1 hW1 hF => step_callv en_attestor_attestorref02_Add (xAdd l6 y6 W1) rfl rfl) ?_
          intro a' ha
          simp only [Act.put, List.setIfInBounds_toArray, List.set_cons_succ, List.set_cons_zero] at ha
          subst ha
          refine rg_det rfl rfl rfl (fun K hK => ?_)
          go_big_quiet_op
          refine hK _ ?_; clear hK K
          refine rg_nil (fun w' hw' hF => ?_)
          obtain ⟨z6, rfl⟩ := hw'
          simp only [List.drop_succ_cons, List.drop_zero]
          have bz6 := b.keep z6.h
          have s1 := (blk_cellE bz6 (show L[j]? = some l6 by rw [← HL6.out, List.getD_eq_getElem?_getD, List.getElem?_eq_getElem (by rw [HL.out]; exact hlt)]; rfl)).1
          have s2 := (blk_cellE bz6 (show L[j]? = some l6 by rw [← HL6.out, List.getD_eq_getElem?_getD, List.getElem?_eq_getElem (by rw [HL.out]; exact hlt)]; rfl)).2
          have e1 := bz6.frozen
          have hB6 := hBr.trans (z6.h.mono hBr.size)
          have P6 := Lib.hid (PolB.put bz6 HL.out HPE.out hlt l6 y6 HL6.out)
          clear hF f1 f2 f3 f4
          go_upto_region 7 with (fail)
          refine gen2 (M := fun W => Code.wp _ _ _ _ W) P6.out (below_setE hB6 (Nat.le_refl _)) fun X6 hPX6 hBX6 => ?_
          clear s1 s2 e1 bz6 hB6 P6 hBr
          obtain ⟨L2, hL2, hpe2, b2⟩ := hPX6
          have HPE2 := Lib.hid hpe2
          have HLL := Lib.hid hL2
          clear hpe2 hL2 HPE HL b
          have hb4 := blk_cellE b2 (show L2[j]? = some (L2.getD j 0) by rw [List.getD_eq_getElem?_getD, List.getElem?_eq_getElem (by rw [HLL.out]; exact hlt)]; rfl)
          obtain ⟨g4, o4, c4, hv, -, -, -, q4, q5⟩ := exts_cells HH'.out (by omega)
          cases hv
          obtain ⟨y8, hy, hyd⟩ := get_of (l := q) (k := j) (by omega)
          obtain ⟨d1, d2⟩ := q5 j y8 hy
          have q6 := Nat.lt_of_lt_of_le q4 hBX6.size
          have f1 := gw_cell b2.lt hb4.1
          have f2 := gw_cell b2.lt hb4.2
          have f3 := gw_cell q6 ((hBX6.cell (p := ⟨g4, o4 + j * 2, none⟩) q4).trans d1)
          have f4 := gw_cell q6 ((hBX6.cell (p := ⟨g4, o4 + j * 2 + 1, none⟩) q4).trans d2)
          obtain ⟨l8, hl⟩ : ∃ l, l = L2.getD j 0 := ⟨_, rfl⟩
          rw [← hl] at f1 f2
          have HL8 := Lib.hid hl.symm
          have HY8 := Lib.hid hyd
          clear q5 hb4 d1 d2 hl hy hyd
          go_wp2_with fail
          refine wp_region_rg 12 [(10, Spec.val (.agg #[.int .u64 (fv (l8 + y8).a), .int .u64 (fv (l8 + y8).b)]))] (by kernel_rfl) (by kernel_rfl) (by kernel_rfl) trivial ?_
          iterate 10 (refine rg_det rfl rfl rfl (fun K hK => ?_); go_big_quiet_op; refine hK _ ?_; clear hK K)
          refine rg_val rfl rfl (fun W1 hW1 hF => step_callv en_attestor_attestorref02_Add (xAdd l8 y8 W1) rfl rfl) ?_
          intro a' ha
          simp only [Act.put, List.setIfInBounds_toArray, List.set_cons_succ, List.set_cons_zero] at ha
          subst ha
          refine rg_det rfl rfl rfl (fun K hK => ?_)
          go_big_quiet_op
          refine hK _ ?_; clear hK K
          refine rg_nil (fun w' hw' hF => ?_)
          obtain ⟨z8, rfl⟩ := hw'
          simp only [List.drop_succ_cons, List.drop_zero]
          have bz8 := b2.keep z8.h
          have s1 := (blk_cellE bz8 (show L2[j]? = some l8 by rw [← HL8.out, List.getD_eq_getElem?_getD, List.getElem?_eq_getElem (by rw [HLL.out]; exact hlt)]; rfl)).1
          have s2 := (blk_cellE bz8 (show L2[j]? = some l8 by rw [← HL8.out, List.getD_eq_getElem?_getD, List.getElem?_eq_getElem (by rw [HLL.out]; exact hlt)]; rfl)).2
          have e1 := bz8.frozen
          have hB8 := hBX6.trans (z8.h.mono hBX6.size)
          have P8 := Lib.hid (PolB.put bz8 HLL.out HPE2.out hlt l8 y8 HL8.out)
          clear hF f1 f2 f3 f4
          go_upto_region 4 with (fail)
          refine gen2 (M := fun W => Code.wp _ _ _ _ W) P8.out (below_setE hB8 (Nat.le_refl _)) fun X8 hPX8 hBX8 => ?_
          clear s1 s2 e1 bz8 hB8 P8 hBX6
          have HPF := Lib.hid (hPX8.of (f' := fun x => addK p q x (j + 1)) fun x => by
            show addK p q x j + xp x j * y6 + xp x j * y8 = addK p q x (j + 1)
            rw [← HY6.out, ← HY8.out]
            exact HF.out x)
          clear hPX8 HPE2 b2
          go_wp2_with fail
          exact ⟨⟨j + 1, by omega, by go_num, HPF.out, hBX8⟩, by simp [intOf]; omega⟩
        · have HF := Lib.hid (fun x => addK_l p q x j hjp (by omega))
          have hb5 := blk_cellE b (show L[j]? = some (L.getD j 0) by rw [List.getD_eq_getElem?_getD, List.getElem?_eq_getElem (by rw [HL.out]; exact hlt)]; rfl)
          obtain ⟨g5, o5, c5, hv, -, -, -, q4, q5⟩ := exts_cells HH.out (by omega)
          cases hv
          obtain ⟨y6, hy, hyd⟩ := get_of (l := p) (k := j) (by omega)
          obtain ⟨d1, d2⟩ := q5 j y6 hy
          have q6 := Nat.lt_of_lt_of_le q4 hBr.size
          have f1 := gw_cell b.lt hb5.1
          have f2 := gw_cell b.lt hb5.2
          have f3 := gw_cell q6 ((hBr.cell (p := ⟨g5, o5 + j * 2, none⟩) q4).trans d1)
          have f4 := gw_cell q6 ((hBr.cell (p := ⟨g5, o5 + j * 2 + 1, none⟩) q4).trans d2)
          obtain ⟨l6, hl⟩ : ∃ l, l = L.getD j 0 := ⟨_, rfl⟩
          rw [← hl] at f1 f2
          have HL6 := Lib.hid hl.symm
          have HY6 := Lib.hid hyd
          clear q5 hb5 d1 d2 hl hy hyd
          go_wp2_with fail
          refine wp_region_rg 12 [(10, Spec.val (.agg #[.int .u64 (fv (l6 + y6).a), .int .u64 (fv (l6 + y6).b)]))] (by kernel_rfl) (by kernel_rfl) (by kernel_rfl) trivial ?_
          iterate 10 (refine rg_det rfl rfl rfl (fun K hK => ?_); go_big_quiet_op; refine hK _ ?_; clear hK K)
          refine rg_val rfl rfl (fun W1 hW1 hF => step_callv en_attestor_attestorref02_Add (xAdd l6 y6 W1) rfl rfl) ?_
          intro a' ha
          simp only [Act.put, List.setIfInBounds_toArray, List.set_cons_succ, List.set_cons_zero] at ha
          subst ha
          refine rg_det rfl rfl rfl (fun K hK => ?_)
          go_big_quiet_op
          refine hK _ ?_; clear hK K
          refine rg_nil (fun w' hw' hF => ?_)
          obtain ⟨z6, rfl⟩ := hw'
          simp only [List.drop_succ_cons, List.drop_zero]
          have bz6 := b.keep z6.h
          have s1 := (blk_cellE bz6 (show L[j]? = some l6 by rw [← HL6.out, List.getD_eq_getElem?_getD, List.getElem?_eq_getElem (by rw [HL.out]; exact hlt)]; rfl)).1
          have s2 := (blk_cellE bz6 (show L[j]? = some l6 by rw [← HL6.out, List.getD_eq_getElem?_getD, List.getElem?_eq_getElem (by rw [HL.out]; exact hlt)]; rfl)).2
          have e1 := bz6.frozen
          have hB6 := hBr.trans (z6.h.mono hBr.size)
          have P6 := Lib.hid (PolB.put bz6 HL.out HPE.out hlt l6 y6 HL6.out)
          clear hF f1 f2 f3 f4
          go_upto_region 7 with (fail)
          refine gen2 (M := fun W => Code.wp _ _ _ _ W) P6.out (below_setE hB6 (Nat.le_refl _)) fun X6 hPX6 hBX6 => ?_
          clear s1 s2 e1 bz6 hB6 P6 hBr
          have HPF := Lib.hid (hPX6.of (f' := fun x => addK p q x (j + 1)) fun x => by
            show addK p q x j + xp x j * y6 = addK p q x (j + 1)
            rw [← HY6.out]
            exact HF.out x)
          clear hPX6 HPE b
          go_wp2_with fail
          exact ⟨⟨j + 1, by omega, by go_num, HPF.out, hBX6⟩, by simp [intOf]; omega⟩
      · have hjq : j < q.length := by omega
        have HF := Lib.hid (fun x => addK_r p q x j (by omega) hjq)
        have hb6 := blk_cellE b (show L[j]? = some (L.getD j 0) by rw [List.getD_eq_getElem?_getD, List.getElem?_eq_getElem (by rw [HL.out]; exact hlt)]; rfl)
        obtain ⟨g6, o6, c6, hv, -, -, -, q4, q5⟩ := exts_cells HH'.out (by omega)
        cases hv
        obtain ⟨y8, hy, hyd⟩ := get_of (l := q) (k := j) (by omega)
        obtain ⟨d1, d2⟩ := q5 j y8 hy
        have q6 := Nat.lt_of_lt_of_le q4 hBr.size
        have f1 := gw_cell b.lt hb6.1
        have f2 := gw_cell b.lt hb6.2
        have f3 := gw_cell q6 ((hBr.cell (p := ⟨g6, o6 + j * 2, none⟩) q4).trans d1)
        have f4 := gw_cell q6 ((hBr.cell (p := ⟨g6, o6 + j * 2 + 1, none⟩) q4).trans d2)
        obtain ⟨l8, hl⟩ : ∃ l, l = L.getD j 0 := ⟨_, rfl⟩
        rw [← hl] at f1 f2
        have HL8 := Lib.hid hl.symm
        have HY8 := Lib.hid hyd
        clear q5 hb6 d1 d2 hl hy hyd
        go_wp2_with fail
        refine wp_region_rg 12 [(10, Spec.val (.agg #[.int .u64 (fv (l8 + y8).a), .int .u64 (fv (l8 + y8).b)]))] (by kernel_rfl) (by kernel_rfl) (by kernel_rfl) trivial ?_
        iterate 10 (refine rg_det rfl rfl rfl (fun K hK => ?_); go_big_quiet_op; refine hK _ ?_; clear hK K)
        refine rg_val rfl rfl (fun W1 hW1 hF => step_callv en_attestor_attestorref02_Add (xAdd l8 y8 W1) rfl rfl) ?_
        intro a' ha
        simp only [Act.put, List.setIfInBounds_toArray, List.set_cons_succ, List.set_cons_zero] at ha
        subst ha
        refine rg_det rfl rfl rfl (fun K hK => ?_)
        go_big_quiet_op
        refine hK _ ?_; clear hK K
        refine rg_nil (fun w' hw' hF => ?_)
        obtain ⟨z8, rfl⟩ := hw'
        simp only [List.drop_succ_cons, List.drop_zero]
        have bz8 := b.keep z8.h
        have s1 := (blk_cellE bz8 (show L[j]? = some l8 by rw [← HL8.out, List.getD_eq_getElem?_getD, List.getElem?_eq_getElem (by rw [HL.out]; exact hlt)]; rfl)).1
        have s2 := (blk_cellE bz8 (show L[j]? = some l8 by rw [← HL8.out, List.getD_eq_getElem?_getD, List.getElem?_eq_getElem (by rw [HL.out]; exact hlt)]; rfl)).2
        have e1 := bz8.frozen
        have hB8 := hBr.trans (z8.h.mono hBr.size)
        have P8 := Lib.hid (PolB.put bz8 HL.out HPE.out hlt l8 y8 HL8.out)
        clear hF f1 f2 f3 f4
        go_upto_region 4 with (fail)
        refine gen2 (M := fun W => Code.wp _ _ _ _ W) P8.out (below_setE hB8 (Nat.le_refl _)) fun X8 hPX8 hBX8 => ?_
        clear s1 s2 e1 bz8 hB8 P8 hBr
        have HPF := Lib.hid (hPX8.of (f' := fun x => addK p q x (j + 1)) fun x => by
          show addK p q x j + xp x j * y8 = addK p q x (j + 1)
          rw [← HY8.out]
          exact HF.out x)
        clear hPX8 HPE b
        go_wp2_with fail
        exact ⟨⟨j + 1, by omega, by go_num, HPF.out, hBX8⟩, by simp [intOf]; omega⟩
    · obtain rfl : j = N := by omega
      have hX := exts_blk (lo := w.heap.size) (hi := wr.heap.size) b hL (by omega) (Nat.le_refl _) b.lt
      have HX := Lib.hid hX
      have HPE := Lib.hid (show ∀ x, pev L x = pev p x + pev q x from fun x => by rw [hpe]; unfold addK; rw [List.take_of_length_le hp, List.take_of_length_le hq])
      have HL := Lib.hid hL
      clear hX hpe hL b
      go_wp2_with fail
      refine (pTrim L (by rw [HL.out]; omega) _ _ _ wr HX.out).mono ?_
      rintro e w2 ⟨v2, rfl, ⟨cs, c1, c2, c3⟩, hb⟩
      rw [HL.out] at c1
      obtain ⟨A2, cap2', rfl⟩ := Rd.len c3
      go_wp2_with fail
      go_ret
      exact ⟨_, rfl, ⟨cs, c1, fun x => by rw [c2, HPE.out], Rd.wide c3 hBr.size (Nat.le_refl _)⟩, hBr.trans (hb.mono hBr.size)⟩
set_option maxRecDepth 100000 in
set_option maxHeartbeats 2000000 in
theorem pMul (p q : List E) (N : Nat) (hN : N = p.length + q.length) (hn : N ≤ 10000) (v u : Value) (lo hi lo2 hi2 : Nat) (w : World) (h : ExtS lo hi w v p) (h' : ExtS lo2 hi2 w u q) :
    Calls Tryz.prog 133 #[v, u] w (RetR (PolA N (fun x => pev p x * pev q x)) w) := by
  obtain ⟨A, cap, rfl⟩ := Rd.len h
  obtain ⟨A', cap2, rfl⟩ := Rd.len h'
  have HMK := Lib.hid (mk_ext N (by omega))
  have HH := Lib.hid h
  have HH' := Lib.hid h'
  have hp : p.length ≤ N := by omega
  have hq : q.length ≤ N := by omega
  have HMX := Lib.hid (show (p.length : Int) + (q.length : Int) = (N : Int) by omega)
  have HNN := Lib.hid hN
  have hpq : p.length + q.length ≤ N := by omega
  clear h h' hN
  go_enter Tryz.func133, Tryz.ntmps133
  go_wp2_with (simp only [HMX.out, HMK.out])
  refine wp_stk1 fun W hB hz b => ?_
  have hW := hz.out
  clear hz HMK
  have hP0 : PolB w.heap.size N (fun x => mulK p q x 0 0) W := ⟨List.replicate N 0, by simp, fun x => by rw [pev_zeros]; show (0 : E) = mulK p q x 0 0; rw [mulK_zero], b⟩
  clear b
  go_loopw [6] (fun i wr => ∃ j : Nat, j ≤ p.length ∧ i = .int .i64 j ∧ PolB w.heap.size N (fun x => mulK p q x j 0) wr ∧ Below w.heap.size w wr) (fun i _ => p.length - (intOf i).toNat)
  case atStart => exact ⟨0, Nat.zero_le _, rfl, hP0, hB⟩
  case round =>
    obtain ⟨j, hj, rfl, hP, hBr⟩ := hrel
    clear hP0 hB
    by_cases hlt : j < p.length
    · go_wp2_with fail
      go_loopw [7] (fun i wr => ∃ k : Nat, k ≤ q.length ∧ i = .int .i64 k ∧ PolB w.heap.size N (fun x => mulK p q x j k) wr ∧ Below w.heap.size w wr) (fun i _ => q.length - (intOf i).toNat)
      case atStart => exact ⟨0, Nat.zero_le _, rfl, hP, hBr⟩
      case round =>
        obtain ⟨k, hk, rfl, ⟨L, hL, hpe, b⟩, hBs⟩ := hrel
        clear hP hBr
        by_cases hlk : k < q.length
        · have hm : j + k < N := by omega
          have HS := Lib.hid (fun x => mulK_step p q x j k hlk)
          have HL := Lib.hid hL
          have HPE := Lib.hid hpe
          obtain ⟨l, hl⟩ : ∃ l, l = L.getD (j + k) 0 := ⟨_, rfl⟩
          have HLl := Lib.hid hl.symm
          have HLG := Lib.hid (show L[j + k]? = some l by rw [hl, List.getD_eq_getElem?_getD, List.getElem?_eq_getElem (by rw [hL]; exact hm)]; rfl)
          have hb := blk_cellE b HLG.out
          obtain ⟨g1, o1, c1, hv, -, -, -, q4, q5⟩ := exts_cells HH.out (by omega)
          cases hv
          obtain ⟨y, hy, hyd⟩ := get_of (l := p) (k := j) hlt
          obtain ⟨d1, d2⟩ := q5 j y hy
          obtain ⟨g2, o2, c2, hv, -, -, -, r4, r5⟩ := exts_cells HH'.out (by omega)
          cases hv
          obtain ⟨t, ht, htd⟩ := get_of (l := q) (k := k) hlk
          obtain ⟨d3, d4⟩ := r5 k t ht
          have q6 := Nat.lt_of_lt_of_le q4 hBs.size
          have r6 := Nat.lt_of_lt_of_le r4 hBs.size
          have f1 := gw_cell b.lt hb.1
          have f2 := gw_cell b.lt hb.2
          have f3 := gw_cell q6 ((hBs.cell (p := ⟨g1, o1 + j * 2, none⟩) q4).trans d1)
          have f4 := gw_cell q6 ((hBs.cell (p := ⟨g1, o1 + j * 2 + 1, none⟩) q4).trans d2)
          have f5 := gw_cell r6 ((hBs.cell (p := ⟨g2, o2 + k * 2, none⟩) r4).trans d3)
          have f6 := gw_cell r6 ((hBs.cell (p := ⟨g2, o2 + k * 2 + 1, none⟩) r4).trans d4)
          have HYD := Lib.hid (show p.getD j 0 * q.getD k 0 = y * t by rw [hyd, htd])
          obtain ⟨m, hme⟩ : ∃ m, m = j + k := ⟨_, rfl⟩
          have hsum : IntKind.i64.wrap ((j : Int) + (k : Int)) = (m : Int) := by rw [IntWalk.i64_in _ (by omega)]; omega
          have hsum2 : (j : Int) + (k : Int) = (m : Int) := by omega
          have HME := Lib.hid hme
          rw [← hme] at f1 f2 hm
          clear q5 r5 hb d1 d2 d3 d4 hl hy hyd ht htd hme hL hpe
          go_wp2_with fail
          refine wp_region_rg 21 [(18, Spec.val (.agg #[.int .u64 (fv (y * t).a), .int .u64 (fv (y * t).b)])), (19, Spec.val (.agg #[.int .u64 (fv (l + y * t).a), .int .u64 (fv (l + y * t).b)]))] (by kernel_rfl) (by kernel_rfl) (by kernel_rfl) trivial ?_
          iterate 18 (refine rg_det rfl rfl rfl (fun K hK => ?_); go_big_quiet_op; refine hK _ ?_; clear hK K)
          refine rg_val rfl rfl (fun W1 hW1 hF => step_callv en_attestor_attestorref02_Mul (xMul y t W1) rfl rfl) ?_
          intro a' ha
          simp only [Act.put, List.setIfInBounds_toArray, List.set_cons_succ, List.set_cons_zero] at ha
          subst ha
          refine rg_val rfl rfl (fun W1 hW1 hF => step_callv en_attestor_attestorref02_Add (xAdd l (y * t) W1) rfl rfl) ?_
          intro a' ha
          simp only [Act.put, List.setIfInBounds_toArray, List.set_cons_succ, List.set_cons_zero] at ha
          subst ha
          refine rg_det rfl rfl rfl (fun K hK => ?_)
          go_big_quiet_op
          refine hK _ ?_; clear hK K
          refine rg_nil (fun w' hw' hF => ?_)
          obtain ⟨z, rfl⟩ := hw'
          simp only [List.drop_succ_cons, List.drop_zero]
          have bz := b.keep z.h
          have s1 := (blk_cellE bz HLG.out).1
          have s2 := (blk_cellE bz HLG.out).2
          rw [← HME.out] at s1 s2
          have e1 := bz.frozen
          have hBz := hBs.trans (z.h.mono hBs.size)
          have P8 := PolB.put bz HL.out HPE.out (k := m) hm l (y * t) (by rw [HME.out]; exact HLl.out)
          have P9 := Lib.hid (P8.of (f' := fun x => mulK p q x j (k + 1)) fun x => by
            show mulK p q x j k + xp x m * (y * t) = mulK p q x j (k + 1)
            rw [← HYD.out, HME.out]
            exact (HS.out x).symm)
          have hBq := Lib.hid (below_setE (i := m * 2) (j := m * 2 + 1) (c := .int .u64 (fv (l + y * t).a)) (d := .int .u64 (fv (l + y * t).b)) hBz (Nat.le_refl _))
          clear hF f1 f2 f3 f4 f5 f6 P8
          go_wp2_with fail
          exact ⟨⟨k + 1, by omega, by go_num, P9.out, hBq.out⟩, by simp [intOf]; omega⟩
        · obtain rfl : k = q.length := by omega
          have HR := Lib.hid (fun x => mulK_row p q x j hlt)
          have HP := Lib.hid (show PolB w.heap.size N (fun x => mulK p q x (j + 1) 0) _ from ⟨L, hL, fun x => by rw [hpe]; exact (HR.out x).symm, b⟩)
          clear hL hpe b
          go_wp2_with fail
          exact ⟨⟨j + 1, by omega, by go_num, HP.out, hBs⟩, by simp [intOf]; omega⟩
    · obtain rfl : j = p.length := by omega
      obtain ⟨L, hL, hpe, b⟩ := hP
      have hX := exts_blk (lo := w.heap.size) (hi := wr.heap.size) b hL (by omega) (Nat.le_refl _) b.lt
      have HX := Lib.hid hX
      have HPE := Lib.hid (show ∀ x, pev L x = pev p x * pev q x from fun x => by rw [hpe]; exact mulK_all p q x)
      have HL := Lib.hid hL
      clear hX hpe hL b
      go_wp2_with fail
      refine (pTrim L (by rw [HL.out]; omega) _ _ _ wr HX.out).mono ?_
      rintro e w2 ⟨v2, rfl, ⟨cs, c1, c2, c3⟩, hb⟩
      rw [HL.out] at c1
      obtain ⟨A2, cap2', rfl⟩ := Rd.len c3
      go_wp2_with fail
      go_ret
      exact ⟨_, rfl, ⟨cs, c1, fun x => by rw [c2, HPE.out], Rd.wide c3 hBr.size (Nat.le_refl _)⟩, hBr.trans (hb.mono hBr.size)⟩
end Go.Proofs.YtkgglhakimkkhaaGreatDoor
namespace Go.Proofs.YtkgglhakimkkhaaGreatDoor
open Go.RowKit

set_option maxRecDepth 100000 in
set_option maxHeartbeats 2000000 in
theorem pEval (p : List E) (x : E) (hn : p.length ≤ 100000) (v : Value) (lo hi : Nat) (w : World) (h : ExtS lo hi w v p) :
    Calls Tryz.prog 111 #[v, ev x] w (Ret (ev (pev p x)) w) := by
  obtain ⟨A, cap, rfl⟩ := Rd.len h
  have HH := Lib.hid h
  clear h
  unfold ev
  go_enter Tryz.func111, Tryz.ntmps111
  go_wp2_with fail
  refine wp_stk3 fun W hB hz b1 b2 b3 => ?_
  clear hz
  have hp0 : pev (p.drop p.length) x = 0 := by rw [List.drop_length, pev_nil]
  have B3 : Blk W (w.heap.size + 2) 26 #[.int .u64 (fv (pev (p.drop p.length) x).a), .int .u64 (fv (pev (p.drop p.length) x).b)] := by rw [hp0]; exact b3
  clear b3 hp0
  go_loopw [6] (fun i wr => ∃ j : Nat, j ≤ p.length ∧ i = .int .i64 ((j : Int) - 1) ∧ Blk wr (w.heap.size + 2) 26 #[.int .u64 (fv (pev (p.drop j) x).a), .int .u64 (fv (pev (p.drop j) x).b)] ∧ Blk wr w.heap.size 26 #[.int .u64 (fv x.a), .int .u64 (fv x.b)] ∧ Blk wr (w.heap.size + 1) 26 #[.int .u64 0, .int .u64 0] ∧ Below w.heap.size w wr) (fun i _ => (intOf i + 1).toNat)
  case atStart => exact ⟨p.length, Nat.le_refl _, rfl, B3, b1, b2, hB⟩
  case round =>
    obtain ⟨j, hj, rfl, bv, bx, br, hBr⟩ := hrel
    clear B3 b1 b2 hB
    by_cases h0 : 0 < j
    · obtain ⟨k, rfl⟩ : ∃ k, j = k + 1 := ⟨j - 1, by omega⟩
      rw [show ((k + 1 : Nat) : Int) - 1 = (k : Int) by omega]
      obtain ⟨g, off, cap', hv, q1, q2, q3, q4, q5⟩ := exts_cells HH.out (by omega)
      cases hv
      obtain ⟨a, ha, had⟩ := get_of (l := p) (k := k) (by omega)
      obtain ⟨d1, d2⟩ := q5 k a ha
      have q6 : g < wr.heap.size := Nat.lt_of_lt_of_le q4 hBr.size
      have f1 := gw_cell q6 ((hBr.cell (p := ⟨g, off + k * 2, none⟩) q4).trans d1)
      have f2 := gw_cell q6 ((hBr.cell (p := ⟨g, off + k * 2 + 1, none⟩) q4).trans d2)
      have f3 := gw_blk bv
      have f4 := gw_blk bx
      have hE : pev (p.drop k) x = pev (p.drop (k + 1)) x * x + a := by rw [pev_drop x p k (by omega), had]; ac_rfl
      have HE := Lib.hid hE
      clear q5 d1 d2 ha had hE
      generalize pev (p.drop (k + 1)) x = m at *
      go_wp2_with fail
      refine wp_region_rg 8 [(2, Spec.val (.agg #[.int .u64 (fv (m * x).a), .int .u64 (fv (m * x).b)])), (7, Spec.val (.agg #[.int .u64 (fv (m * x + a).a), .int .u64 (fv (m * x + a).b)]))] (by kernel_rfl) (by kernel_rfl) (by kernel_rfl) trivial ?_
      iterate 2 (refine rg_det rfl rfl rfl (fun K hK => ?_); go_big_quiet_op; refine hK _ ?_; clear hK K)
      refine rg_val rfl rfl (fun W1 hW1 hF => step_callv en_attestor_attestorref02_Mul (xMul m x W1) rfl rfl) ?_
      intro a' ha
      simp only [Act.put, List.setIfInBounds_toArray, List.set_cons_succ, List.set_cons_zero] at ha
      subst ha
      iterate 4 (refine rg_det rfl rfl rfl (fun K hK => ?_); go_big_quiet_op; refine hK _ ?_; clear hK K)
      refine rg_val rfl rfl (fun W1 hW1 hF => step_callv en_attestor_attestorref02_Add (xAdd (m * x) a W1) rfl rfl) ?_
      intro a' ha
      simp only [Act.put, List.setIfInBounds_toArray, List.set_cons_succ, List.set_cons_zero] at ha
      subst ha
      refine rg_nil (fun w' hw' hF => ?_)
      obtain ⟨z, rfl⟩ := hw'
      simp only [List.drop_succ_cons, List.drop_zero]
      have bz := bv.keep z.h
      have e1 := bz.cell
      have e2 := bz.frozen
      have hBz := hBr.trans (z.h.mono hBr.size)
      have bxz := bx.keep z.h
      have brz := br.keep z.h
      have HZ := Lib.hid (show Blk ((z.w.setCell ⟨w.heap.size + 2, 0, none⟩ (.int .u64 (fv (m * x + a).a))).setCell ⟨w.heap.size + 2, 1, none⟩ (.int .u64 (fv (m * x + a).b))) (w.heap.size + 2) 26 #[.int .u64 (fv (pev (p.drop k) x).a), .int .u64 (fv (pev (p.drop k) x).b)] by rw [HE.out]; exact blk_set2 bz)
      clear hF f1 f2 f3 f4 HE
      go_wp2_with fail
      exact ⟨⟨k, by omega, by go_num, HZ.out, blk_far2 bxz (by omega), blk_far2 brz (by omega), below_set2 hBz (by omega)⟩, by simp [intOf]⟩
    · obtain rfl : j = 0 := by omega
      rw [show ((0 : Nat) : Int) - 1 = -1 by omega]
      rw [List.drop_zero] at bv
      have e1 := bv.cell
      have e3 := br.cell
      have e4 := br.frozen
      generalize pev p x = y at *
      go_wp2_with fail
      refine bodyPost_ret (v := .agg #[.int .u64 (fv (y).a), .int .u64 (fv (y).b)]) (by simp [results, Tryz.results111, go_sem, e3]) rfl ⟨rfl, ?_⟩
      exact below_set2 hBr (by omega)
theorem ev_cells (x : E) : (ev x).cells = (ec x).toArray := rfl
theorem step_litE {o : Oper} {a : Act} {w : World} {len : Nat} {parts : List (Nat × Operand)} (xs : List E) (hlen : xs.length = len) (hpos : 0 < len) (hsmall : len ≤ 1000000)
    (ho : o.op = .buildSlice 22 len parts.toArray) (hv : (parts.map fun x => (x.1, a.eval x.2)) = ((xs.map ev).zipIdx 0).map fun x => (x.2, x.1)) :
    stepAt Tryz.prog o a w (fun v w' => Lit 26 len (xs.flatMap ec).toArray w.heap.size w'.heap.size v w' ∧ Below w.heap.size w w') := by
  obtain ⟨i0, hi0, hz0, hz1, hz2⟩ := info_parts ext_info
  refine step_lit Tryz.underlying22 hi0 hz0 (by rw [hz1]; omega) (by rw [hz1]; omega) ho ?_
  have hm : (parts.toArray.map fun (i, x) => (i, a.eval x)).toList = ((xs.map ev).zipIdx 0).map fun x => (x.2, x.1) := by rw [← hv]; simp
  rw [hm, hz1]
  obtain ⟨r, h1', h2, h3⟩ := Great.fill_dense (s := 2) (by decide) (xs.map ev) 0 ((Array.range (len * 2)).map ((Value.agg #[.int .u64 0, .int .u64 0]).cells[· % (Value.agg #[.int .u64 0, .int .u64 0]).cells.size]!)) (fun u hu => by obtain ⟨x, _, rfl⟩ := List.mem_map.1 hu; rfl) (by simp; omega)
  rw [h1']
  refine congrArg some ?_
  apply Array.ext_getElem?
  intro k
  rw [h3 k]
  by_cases hk : k < len * 2
  · rw [if_pos (by simp; omega)]
    obtain ⟨x, hx⟩ : ∃ x, xs[k / 2]? = some x := ⟨xs[k / 2]'(by omega), List.getElem?_eq_getElem (by omega)⟩
    obtain ⟨u, hu⟩ : ∃ u, (ec x)[k % 2]? = some u := ⟨(ec x)[k % 2]'(by rw [ec_len]; omega), List.getElem?_eq_getElem (by rw [ec_len]; omega)⟩
    have hg := flat_get ec_len xs (k / 2) (k % 2) x u hx hu
    rw [show k / 2 * 2 + k % 2 = k by omega] at hg
    rw [List.getElem?_toArray, hg, Nat.sub_zero, List.getElem?_map, hx]
    show (ev x).cells[k % 2]? = some u
    rw [ev_cells, List.getElem?_toArray, hu]
  · rw [if_neg (by simp; omega), Array.getElem?_eq_none (by simp; omega), Array.getElem?_eq_none (by simp [flat_length ec_len]; omega)]
theorem refK_same (x : E) (i k : Nat) (v : E) (h : k = i) : refK x i v (k + 1) = refK x i v k := if_pos h
theorem refK_step (x : E) (i k : Nat) (v : E) (h : k ≠ i) : refK x i v (k + 1) = refK x i v k * (intE (-(k : Int)) * einv (intE ((i : Int) - k)) + x * einv (intE ((i : Int) - k))) := if_neg h
theorem pev_two (a b x : E) : pev [a, b] x = a + x * b := by rw [pev_cons, pev_cons, pev_nil, E.mul_zero, E.add_zero]
set_option maxRecDepth 100000 in
set_option maxHeartbeats 4000000 in
theorem pInterp (v : List E) (hn : v.length ≤ 1000) (vv : Value) (lo hi : Nat) (w : World) (h : ExtS lo hi w vv v) :
    Calls Tryz.prog 112 #[vv] w (RetR (PolA (2 * v.length + 1) (fun x => atE v x)) w) := by
  obtain ⟨A, cap, rfl⟩ := Rd.len h
  have HH := Lib.hid h
  clear h
  go_enter Tryz.func112, Tryz.ntmps112
  go_wp2_with fail
  refine wp_stk1 fun W hB hz b => ?_
  clear hz b
  go_loopw [3, 4] (fun o i wr => ∃ j : Nat, j ≤ v.length ∧ i = .int .i64 j ∧ (∃ cs : List E, cs.length ≤ 2 * v.length + 1 ∧ (∀ x, pev cs x = refAtK v x j) ∧ ExtS w.heap.size wr.heap.size wr o cs) ∧ Below w.heap.size w wr) (fun _ i _ => v.length - (intOf i).toNat)
  case atStart => exact ⟨0, Nat.zero_le _, rfl, ⟨[], Nat.zero_le _, fun x => rfl, rd_nil _ _ _ _ _ _⟩, hB⟩
  case round =>
    obtain ⟨j, hj, rfl, ⟨os, o1, o2, o3⟩, hBr⟩ := hrel
    clear hB
    obtain ⟨Ao, capo, rfl⟩ := Rd.len o3
    have HO3 := Lib.hid o3
    have HO2 := Lib.hid o2
    clear o2 o3
    by_cases hlt : j < v.length
    · obtain ⟨g, off, cap', hv, q1, q2, q3, q4, q5⟩ := exts_cells HH.out (by omega)
      cases hv
      obtain ⟨a, ha, had⟩ := get_of hlt
      obtain ⟨d1, d2⟩ := q5 j a ha
      have q6 := Nat.lt_of_lt_of_le q4 hBr.size
      have f1 := (hBr.cell (p := ⟨g, off + j * 2, none⟩) q4).trans d1
      have f2 := (hBr.cell (p := ⟨g, off + j * 2 + 1, none⟩) q4).trans d2
      have HAD := Lib.hid had
      clear q5 d1 d2 ha had
      obtain ⟨wo, hwo⟩ : ∃ wo, wo = wr := ⟨_, rfl⟩
      subst hwo
      go_upto_region 6 with (fail)
      refine wp_stk1 fun W6 hB6 hz6 b6 => ?_
      have hs6 : W6.heap.size = wo.heap.size + 1 := hz6.out
      have hX6 := exts_blk (L := [a]) (lo := w.heap.size) (hi := W6.heap.size) b6 rfl (by simp) hBr.size b6.lt
      have HX6 := Lib.hid hX6
      clear hz6 f1 f2 b6 hX6
      go_wp2_with fail
      go_loopw [5, 6] (fun o i wr => ∃ k : Nat, k ≤ v.length ∧ i = .int .i64 k ∧ (∃ cs : List E, cs.length ≤ 2 * k + 1 ∧ (∀ x, pev cs x = refK x j a k) ∧ ExtS w.heap.size wr.heap.size wr o cs) ∧ Below wo.heap.size wo wr) (fun _ i _ => v.length - (intOf i).toNat)
      case atStart => exact ⟨0, Nat.zero_le _, rfl, ⟨[a], by simp, fun x => by rw [pev_cons, pev_nil, E.mul_zero, E.add_zero]; rfl, HX6.out⟩, hB6⟩
      case round =>
        obtain ⟨k, hk, rfl, ⟨cs, o4, o5, o6⟩, hBs⟩ := hrel
        clear hB6
        obtain ⟨Ac, capc, rfl⟩ := Rd.len o6
        have HO6 := Lib.hid o6
        have HO5 := Lib.hid o5
        clear o5 o6
        by_cases hlk : k < v.length
        · by_cases hjk : k = j
          · have hb : ((k : Int) != (j : Int)) = false := by simp; omega
            have HP := Lib.hid (show ∀ x, pev cs x = refK x j a (k + 1) from fun x => by rw [HO5.out, refK_same x j k a hjk])
            go_wp2_with fail
            exact ⟨⟨k + 1, by omega, by go_num, ⟨cs, by omega, HP.out, HO6.out⟩, hBs⟩, by simp [intOf]; omega⟩
          · have hb : ((k : Int) != (j : Int)) = true := by simp; omega
            have HP := Lib.hid (fun x => refK_step x j k a hjk)
            have HI := Lib.hid (xInv (intE ((j : Int) - k)) (intE_ne _ (by omega) (by omega) (by omega)))
            have HF1 := Lib.hid (xFromInt ((j : Int) - k) (by omega) (by omega))
            have HF2 := Lib.hid (xFromInt (-(k : Int)) (by omega) (by omega))
            obtain ⟨y, hy⟩ : ∃ y, y = einv (intE ((j : Int) - k)) := ⟨_, rfl⟩
            obtain ⟨x1, hx1⟩ : ∃ y, y = intE ((j : Int) - k) := ⟨_, rfl⟩
            obtain ⟨x2, hx2⟩ : ∃ y, y = intE (-(k : Int)) := ⟨_, rfl⟩
            rw [show eb (fz ((j : Int) - k)) = x1 from hx1.symm] at HF1
            rw [show eb (fz (-(k : Int))) = x2 from hx2.symm] at HF2
            rw [← hy, ← hx1] at HI
            rw [← hy, ← hx2] at HP
            clear hy hx1 hx2 hjk
            go_wp2_with fail
            refine (HF1.out _).mono ?_
            rintro e w7 ⟨rfl, hb7⟩
            go_wp2_with fail
            refine (HI.out _).mono ?_
            rintro e w8 ⟨rfl, hb8⟩
            unfold ev
            go_upto_region 11 with (fail)
            refine wp_stk1 fun W9 hB9 hz9 b9 => ?_
            have h79 := hb7.trans ((hb8.trans (hB9.mono hb8.size)).mono hb7.size)
            have hO9 := Lib.hid (Rd.keep HO6.out h79)
            have hB9o := hBs.trans (h79.mono hBs.size)
            have c1 := gw_blk b9
            clear hz9 hb7 hb8 hB9 HI HF1 hb
            refine wp_region_rg 9 [(3, Spec.val (.agg #[.int .u64 (fv (x2).a), .int .u64 (fv (x2).b)])), (5, Spec.val (.agg #[.int .u64 (fv (x2 * y).a), .int .u64 (fv (x2 * y).b)])), (7, Spec.rel (Lit 26 2 ([x2 * y, y].flatMap ec).toArray) (LitF 2)), (8, Spec.rel (PolA (cs.length + 2) (fun x => pev cs x * pev [x2 * y, y] x)) AnyV)] (by kernel_rfl) (by kernel_rfl) (by kernel_rfl) ⟨fit_lit, fit_of (pol_stable _ _), trivial⟩ ?_
            iterate 3 (refine rg_det rfl rfl rfl (fun K hK => ?_); go_big_quiet_op; refine hK _ ?_; clear hK K)
            refine rg_val rfl rfl (fun W1 hW1 hF => step_callv en_attestor_attestorref02_FromInt (HF2.out W1) rfl rfl) ?_
            intro a' ha
            simp only [Act.put, List.setIfInBounds_toArray, List.set_cons_succ, List.set_cons_zero] at ha
            subst ha
            refine rg_det rfl rfl rfl (fun K hK => ?_)
            go_big_quiet_op
            refine hK _ ?_; clear hK K
            refine rg_val rfl rfl (fun W1 hW1 hF => step_callv en_attestor_attestorref02_Mul (xMul x2 y W1) rfl rfl) ?_
            intro a' ha
            simp only [Act.put, List.setIfInBounds_toArray, List.set_cons_succ, List.set_cons_zero] at ha
            subst ha
            refine rg_det rfl rfl rfl (fun K hK => ?_)
            go_big_quiet_op
            refine hK _ ?_; clear hK K
            refine rg_rel rfl rfl (fun W1 hW1 hF => step_litE [x2 * y, y] rfl (by decide) (by decide) rfl rfl) ?_
            intro n7 m7 v7 hn7 hm7 hd7 hf7 a' ha
            simp only [Act.put, List.setIfInBounds_toArray, List.set_cons_succ, List.set_cons_zero] at ha
            subst ha
            obtain rfl := hf7
            refine rg_rel rfl rfl (fun W1 hW1 hF => step_callr en_attestor_attestorref03_Mul (pMul cs [x2 * y, y] (cs.length + 2) rfl (by omega) _ _ _ _ _ _ W1 (Rd.keep hO9.out (grw_below hW1)) (exts_blk (lo := n7) (hi := m7) (pick_last hF (by kernel_rfl)).2.2.2 rfl (by simp) (Nat.le_refl _) (pick_last hF (by kernel_rfl)).2.2.1)) rfl rfl) ?_
            intro n8 m8 v8 hn8 hm8 hd8 hf8 a' ha
            simp only [Act.put, List.setIfInBounds_toArray, List.set_cons_succ, List.set_cons_zero] at ha
            subst ha
            refine rg_nil (fun w' hw' hF => ?_)
            obtain ⟨z, rfl⟩ := hw'
            simp only [List.drop_succ_cons, List.drop_zero]
            obtain ⟨hm8b, ds, p1, p2, p3⟩ := end_last hF
            have hBz := hB9o.trans (z.h.mono hB9o.size)
            have hwz := hBr.size
            have h9s := hB9o.size
            have PX := Lib.hid (show ∀ x, pev ds x = refK x j a (k + 1) from fun x => by rw [p2, HP.out, ← HO5.out x]; show pev cs x * pev [x2 * y, y] x = _; rw [pev_two])
            have P3 := Lib.hid (Rd.wide (lo' := w.heap.size) (hi' := z.w.heap.size) p3 (by omega) hm8b)
            have hdl : ds.length ≤ 2 * (k + 1) + 1 := by omega
            obtain ⟨Ad, cd, rfl⟩ := Rd.len p3
            clear hF p2 p3 c1 hd7 hd8 b9 p1
            go_wp2_with fail
            exact ⟨⟨k + 1, by omega, by go_num, ⟨ds, hdl, PX.out, P3.out⟩, hBz⟩, by simp [intOf]; omega⟩
        · obtain rfl : k = v.length := by omega
          obtain ⟨N, hN⟩ : ∃ N, N = max os.length cs.length := ⟨_, rfl⟩
          have HA := Lib.hid (pAdd os cs N hN (by omega) _ _ _ _ _ _ _ (Rd.keep HO3.out hBs) HO6.out)
          have hNl : N ≤ 2 * v.length + 1 := by omega
          have hBw := hBr.trans (hBs.mono hBr.size)
          have HS := Lib.hid (fun x => refAtK_succ v x j)
          clear hN
          go_wp2_with fail
          refine HA.out.mono ?_
          rintro e w9 ⟨v9, rfl, ⟨ds, p1, p2, p3⟩, hb9⟩
          obtain ⟨A9, c9, rfl⟩ := Rd.len p3
          have PX := Lib.hid (show ∀ x, pev ds x = refAtK v x (j + 1) from fun x => by rw [p2, HS.out]; show pev os x + pev cs x = _; rw [HO2.out, HO5.out, HAD.out])
          have P3 := Lib.hid (Rd.wide (lo' := w.heap.size) (hi' := w9.heap.size) p3 hBw.size (Nat.le_refl _))
          have hdl : ds.length ≤ 2 * v.length + 1 := by omega
          have hB9 := hBw.trans (hb9.mono hBw.size)
          clear p1 p2 p3 HA
          go_wp2_with fail
          exact ⟨⟨j + 1, by omega, by go_num, ⟨ds, hdl, PX.out, P3.out⟩, hB9⟩, by simp [intOf]; omega⟩
    · obtain rfl : j = v.length := by omega
      go_wp2_with fail
      go_ret
      exact ⟨_, rfl, ⟨os, o1, fun x => by rw [HO2.out, refAt_eq], HO3.out⟩, hBr⟩
set_option maxRecDepth 100000 in
set_option maxHeartbeats 1000000 in
theorem pAt (v : List E) (x : E) (hn : v.length ≤ 1000) (vv : Value) (lo hi : Nat) (w : World) (h : ExtS lo hi w vv v) :
    Calls Tryz.prog 82 #[vv, ev x] w (Ret (ev (atE v x)) w) := by
  obtain ⟨A, cap, rfl⟩ := Rd.len h
  have HH := Lib.hid h
  clear h
  unfold ev
  go_enter Tryz.func82, Tryz.ntmps82
  go_wp2_with fail
  refine wp_stk2 fun W hB hz b1 b2 => ?_
  have c1 := gw_blk b1
  refine wp_region_rg 4 [(1, Spec.rel (PolA (2 * v.length + 1) (fun x => atE v x)) AnyV), (3, Spec.val (.agg #[.int .u64 (fv (atE v x).a), .int .u64 (fv (atE v x).b)]))] (by kernel_rfl) (by kernel_rfl) (by kernel_rfl) ⟨fit_of (pol_stable _ _), trivial⟩ ?_
  refine rg_det rfl rfl rfl (fun K hK => ?_)
  go_big_quiet_op
  refine hK _ ?_; clear hK K
  refine rg_rel rfl rfl (fun W1 hW1 hF => step_callr en_attestor_attestorref03_Interpolate (pInterp v hn _ lo hi W1 (Rd.keep HH.out (hB.trans ((grw_below hW1).mono hB.size)))) rfl rfl) ?_
  intro n1 m1 v1 hn1 hm1 hd1 hf1 a' ha
  simp only [Act.put, List.setIfInBounds_toArray, List.set_cons_succ, List.set_cons_zero] at ha
  subst ha
  refine rg_det rfl rfl rfl (fun K hK => ?_)
  go_big_quiet_op
  refine hK _ ?_; clear hK K
  refine rg_val rfl rfl (fun W1 hW1 hF => (by obtain ⟨_, cs, q1, q2, q3⟩ := pick_last hF (by kernel_rfl); have := pEval cs x (by omega) _ _ _ W1 q3; rw [q2] at this; exact step_callv en_attestor_attestorref03_Eval this rfl rfl)) ?_
  intro a' ha
  simp only [Act.put, List.setIfInBounds_toArray, List.set_cons_succ, List.set_cons_zero] at ha
  subst ha
  refine rg_nil (fun w' hw' hF => ?_)
  obtain ⟨z, rfl⟩ := hw'
  simp only [List.drop_succ_cons, List.drop_zero]
  have e1 := (b2.gw z).cell
  have e2 := (b2.gw z).frozen
  go_wp2
  refine bodyPost_ret (v := .agg #[.int .u64 (fv (atE v x).a), .int .u64 (fv (atE v x).b)]) (by simp [results, Tryz.results82, go_sem, e1]) rfl ⟨rfl, ?_⟩
  exact ((hB.trans (z.h.mono hB.size)).setCell (by show w.heap.size ≤ w.heap.size + 1; omega) _).setCell (by show w.heap.size ≤ w.heap.size + 1; omega) _
end Go.Proofs.YtkgglhakimkkhaaGreatDoor
namespace Go.Proofs.YtkgglhakimkkhaaGreatDoor
open Go.RowKit

set_option maxRecDepth 100000 in
set_option maxHeartbeats 1000000 in
theorem xSame3 (xs : List E) (v1 v2 : Value) (lo1 hi1 lo2 hi2 : Nat) (w : World) (h1 : ExtS lo1 hi1 w v1 xs) (h2 : ExtS lo2 hi2 w v2 xs) :
    Calls Tryz.prog 10 #[v1, v2] w (Ret (.bool true) w) := by
  obtain ⟨A1, cap1, rfl⟩ := h1.len
  obtain ⟨A2, cap2, rfl⟩ := h2.len
  have hlen := h1.2.1
  have hnn : (((xs.length : Int) != (xs.length : Int))) = false := by simp
  go_enter Tryz.func10, Tryz.ntmps10
  go_wp2
  go_loopw [5] (fun i wr => ∃ k : Nat, k ≤ xs.length ∧ i = .int .i64 k ∧ Below w.heap.size w wr) (fun i _ => xs.length - (intOf i).toNat)
  case atStart => exact ⟨0, Nat.zero_le _, rfl, Below.refl _ _⟩
  case round =>
    obtain ⟨k, hk, rfl, hB⟩ := hrel
    by_cases hlt : k < xs.length
    · obtain ⟨g, off, cap', hv, q1, q2, q3, q4, q5⟩ := exts_cells h1 (by omega)
      cases hv
      obtain ⟨g', off', cap'', hv, r1, r2, r3, r4, r5⟩ := exts_cells h2 (by omega)
      cases hv
      obtain ⟨x, hx⟩ : ∃ x, xs[k]? = some x := ⟨xs[k], List.getElem?_eq_getElem hlt⟩
      obtain ⟨d1, d2⟩ := q5 k x hx
      obtain ⟨d3, d4⟩ := r5 k x hx
      have c1 := gw_cell (W := wr) (Nat.lt_of_lt_of_le q4 hB.size) ((hB.cell (p := ⟨g, off + k * 2, none⟩) q4).trans d1)
      have c2 := gw_cell (W := wr) (Nat.lt_of_lt_of_le q4 hB.size) ((hB.cell (p := ⟨g, off + k * 2 + 1, none⟩) q4).trans d2)
      have c3 := gw_cell (W := wr) (Nat.lt_of_lt_of_le r4 hB.size) ((hB.cell (p := ⟨g', off' + k * 2, none⟩) r4).trans d3)
      have c4 := gw_cell (W := wr) (Nat.lt_of_lt_of_le r4 hB.size) ((hB.cell (p := ⟨g', off' + k * 2 + 1, none⟩) r4).trans d4)
      clear q5 r5 d1 d2 d3 d4 hx h1 h2
      go_wp2
      refine wp_region_rg 9 [] (by kernel_rfl) (by kernel_rfl) (by kernel_rfl) trivial ?_
      iterate 9 (refine rg_det rfl rfl rfl (fun K hK => ?_); go_big_quiet_op; refine hK _ ?_; clear hK K)
      refine rg_nil (fun w' hw' hF => ?_)
      obtain ⟨z, rfl⟩ := hw'
      simp only [List.drop_succ_cons, List.drop_zero]
      go_wp2
      exact ⟨⟨k + 1, by omega, by go_num, hB.trans (z.h.mono hB.size)⟩, by simp [intOf]; omega⟩
    · go_wp2
      go_ret
      exact ⟨rfl, hB⟩

def mdK (l : List Raw) (k : Nat) : List E := (List.range k).map (madeAt l)
theorem mdK_succ (l : List Raw) (k : Nat) : mdK l (k + 1) = mdK l k ++ [madeAt l k] := by simp [mdK, List.range_succ]
set_option maxRecDepth 100000 in
set_option maxHeartbeats 1000000 in
theorem xMade3O (l : List Raw) (n : Nat) (hn : n ≤ 1000000) (v : Value) (lo hi : Nat) (w : World) (hl : RawS lo hi w v l) :
    Calls Tryz.prog 79 #[v, .int .i64 n] w (RetR (fun lo _ v w => w.ownsRow lo 26 2 v (min l.length n) ((mdK l (min l.length n)).flatMap ec)) w) := by
  obtain ⟨A, cap, rfl⟩ := hl.1.len
  have hlen := hl.1.2.1
  obtain ⟨i0, hi0, hz0, hz1, hz2⟩ := info_parts ext_info
  go_enter Tryz.func79, Tryz.ntmps79
  go_wp2
  go_loopw [5, 6] (fun v i wr => ∃ k : Nat, k ≤ l.length ∧ k ≤ n ∧ i = .int .i64 k ∧ wr.ownsRow w.heap.size 26 2 v k ((mdK l k).flatMap ec) ∧ Below w.heap.size w wr) (fun _ i _ => n - (intOf i).toNat)
  case atStart => exact ⟨0, Nat.zero_le _, Nat.zero_le _, rfl, ⟨by simp [mdK], .inr ⟨w.heap.size, 0, #[], rfl, Nat.le_refl _, World.alloc_heap_new w _, Nat.le_refl _, Nat.zero_le _, rfl, by simp [mdK]⟩⟩, (Below.refl _ _).alloc (Nat.le_refl _) _⟩
  case round =>
    obtain ⟨k, hk1, hk2, rfl, hown, hB⟩ := hrel
    by_cases hkl : k < l.length
    · by_cases hlt : k < n
      · obtain ⟨g, off, cap', hv, q1, q2, q3, q4, q5⟩ := raws_cells hl (by omega)
        cases hv
        obtain ⟨p, hp⟩ : ∃ p, l[k]? = some p := ⟨l[k], List.getElem?_eq_getElem hkl⟩
        obtain ⟨d1, d2⟩ := q5 k p hp
        obtain ⟨⟨p1, p2⟩, p3, p4⟩ := hl.2 p (List.mem_of_getElem? hp)
        have d3 := (hB.cell (p := ⟨g, off + k * 2, none⟩) q4).trans d1
        have d4 := (hB.cell (p := ⟨g, off + k * 2 + 1, none⟩) q4).trans d2
        have q6 : g < wr.heap.size := Nat.lt_of_lt_of_le q4 hB.size
        have HP := Lib.hid hp
        clear q5 d1 d2 hl hp
        go_wp2_with fail
        refine (xMade p.1 p.2 p1 p2 p3 p4 _).mono ?_
        rintro e w2 ⟨he, hb⟩
        unfold ev at he
        subst he
        go_wp2_with (at_builtin; refine wpList_app1 rfl _ _ rfl Tryz.underlying22 hi0 hz0 hz1 hz2 rfl (by decide) (cl := ec (em p.1 p.2)) rfl (ec_one _) rfl rfl (own_below hown (Nat.le_refl _) ?hX) ?hsrc ?h63 ?hby ?hbase ?_)
        case hX => exact hb.alloc hb.size _
        case hsrc => exact Blk.new_at _ _ _ (by simp)
        case h63 => unfold maxLen; omega
        case hby => omega
        case hbase => have := hB.size; have := hb.size; simp; omega
        intro v1 w3 hown3 hgrow hB3
        have hm : madeAt l k = em p.1 p.2 := by unfold madeAt; rw [HP.out]
        have hf : (mdK l (k + 1)).flatMap ec = (mdK l k).flatMap ec ++ ec (em p.1 p.2) := by rw [mdK_succ, List.flatMap_append, hm]; simp
        have HF := Lib.hid hf
        clear hm hf
        go_wp2
        exact ⟨⟨k + 1, by omega, by omega, by go_num, by rw [HF.out]; exact hown3, (hB.trans ((hb.alloc hb.size _).mono hB.size)).trans hB3⟩, by simp [intOf]; omega⟩
      · obtain rfl : k = n := by omega
        have hmn : min l.length k = k := by omega
        go_wp2
        go_ret
        exact ⟨_, rfl, by rw [hmn]; exact hown, hB⟩
    · obtain rfl : k = l.length := by omega
      have hmn : min l.length n = l.length := by omega
      go_wp2
      go_ret
      exact ⟨_, rfl, by rw [hmn]; exact hown, hB⟩
theorem mdK_made (l : List Raw) (n : Nat) : ∀ j, (mdK l (min l.length n)) ++ List.replicate j 0 = (List.range (min l.length n + j)).map (fun i => if i < min l.length n then madeAt l i else 0)
  | 0 => by
    rw [List.replicate_zero, List.append_nil, Nat.add_zero]
    exact List.map_congr_left fun i hi => (if_pos (List.mem_range.1 hi)).symm
  | j + 1 => by
    rw [List.replicate_succ', ← List.append_assoc, mdK_made l n j, ← Nat.add_assoc, List.range_succ, List.map_append]
    congr 1
    show [0] = [if min l.length n + j < min l.length n then madeAt l (min l.length n + j) else 0]
    rw [if_neg (by omega)]
def lenV : Value → Nat
  | .slice _ n _ => n
  | _ => 0
theorem own_len {w : World} {base n size : Nat} {e : TypeId} {v : Value} {xs : List Value} (h : w.ownsRow base e size v n xs) : ∃ A c, v = .slice A n c := by
  rcases h.2 with ⟨rfl, rfl⟩ | ⟨g, cap, cur, rfl, _⟩
  · exact ⟨_, _, rfl⟩
  · exact ⟨_, _, rfl⟩
theorem mdK_all (l : List Raw) (n : Nat) : (mdK l (min l.length n)) ++ List.replicate (n - min l.length n) 0 = madeAll l n := by
  rw [mdK_made, show min l.length n + (n - min l.length n) = n by omega]
  unfold madeAll
  apply List.map_congr_left
  intro i hi
  have := List.mem_range.1 hi
  by_cases h : i < min l.length n
  · rw [if_pos h]
  · rw [if_neg h]
    unfold madeAt
    rw [List.getElem?_eq_none (by omega)]
set_option maxRecDepth 100000 in
set_option maxHeartbeats 1000000 in
theorem xExactO (l : List Raw) (n : Nat) (hn : n ≤ 1000000) (v : Value) (lo hi : Nat) (w : World) (hl : RawS lo hi w v l) :
    Calls Tryz.prog 49 #[v, .int .i64 n] w (RetR (fun lo _ v w => w.ownsRow lo 26 2 v n ((madeAll l n).flatMap ec)) w) := by
  obtain ⟨i0, hi0, hz0, hz1, hz2⟩ := info_parts ext_info
  have HM := Lib.hid (xMade3O l n hn v lo hi w hl)
  go_enter Tryz.func49, Tryz.ntmps49
  go_wp2_with fail
  refine HM.out.mono ?_
  rintro e w1 ⟨v1, rfl, ho, hb⟩
  obtain ⟨m, hm⟩ : ∃ m, m = min l.length n := ⟨_, rfl⟩
  have hmn : m ≤ n := by omega
  rw [← hm] at ho
  have HA := Lib.hid (mdK_all l n)
  rw [← hm] at HA
  clear hm
  go_wp2
  go_loopw [5] (fun v wr => ∃ k : Nat, m ≤ k ∧ k ≤ n ∧ wr.ownsRow w.heap.size 26 2 v k ((mdK l m ++ List.replicate (k - m) 0).flatMap ec) ∧ Below w.heap.size w wr) (fun v _ => n - lenV v)
  case atStart => exact ⟨m, Nat.le_refl _, hmn, by rw [Nat.sub_self, List.replicate_zero, List.append_nil]; exact ho, hb⟩
  case round =>
    obtain ⟨k, hk1, hk2, hown, hB⟩ := hrel
    obtain ⟨A, c, rfl⟩ := own_len hown
    obtain ⟨row, hrow⟩ : ∃ row, row = (mdK l m ++ List.replicate (k - m) 0).flatMap ec := ⟨_, rfl⟩
    rw [← hrow] at hown
    by_cases hlt : k < n
    · have hf : (mdK l m ++ List.replicate (k + 1 - m) 0).flatMap ec = row ++ ec 0 := by
        rw [hrow, show k + 1 - m = (k - m) + 1 by omega, List.replicate_succ', ← List.append_assoc, List.flatMap_append]; simp
      have HF := Lib.hid hf
      clear hf hrow
      go_wp2_with (at_builtin; refine wpList_app1 rfl _ _ rfl Tryz.underlying22 hi0 hz0 hz1 hz2 rfl (by decide) (cl := ec 0) rfl (ec_one _) rfl rfl (own_below hown (Nat.le_refl _) ?hX) ?hsrc ?h63 ?hby ?hbase ?_)
      case hX => exact (Below.refl _ _).alloc (by simp) _
      case hsrc => exact Blk.new_at _ _ _ (by simp)
      case h63 => unfold maxLen; omega
      case hby => omega
      case hbase => have := hB.size; simp; omega
      intro v1 w3 hown3 hgrow hB3
      obtain ⟨A', c', hv⟩ := own_len hown3
      subst hv
      go_wp2
      exact ⟨⟨k + 1, by omega, by omega, by rw [HF.out]; exact hown3, (hB.trans (((Below.refl _ _).alloc (by simp) _).mono hB.size)).trans hB3⟩, by simp [lenV]; omega⟩
    · obtain rfl : k = n := by omega
      go_wp2
      go_ret
      exact ⟨_, rfl, by rw [← HA.out, ← hrow]; exact hown, hB⟩
end Go.Proofs.YtkgglhakimkkhaaGreatDoor
