/-
  lagrange and last of the reference of chapter 32, by contract.
-/
import Derived.Test.YtnddfeidggcplaaGreatRw32
import Derived.Test.YtnddfeidggcplaaGreatIp
import Derived.Test.YtnddfeidggcplaaGreatSw32
import Derived.Test.YtnddfeidggcplaaGreatEr32
namespace Go.Proofs.YtnddfeidggcplaaGreat
open Go.RowKit

def uni0 (k : Nat) : List E := 1 :: 0 :: List.replicate k 0
def uni1 (k : Nat) : List E := 0 :: 1 :: List.replicate k 0
theorem bas_lin (k : Nat) : basE k = linR (uni1 k) (0 - 1) (uni0 k) := by
  apply List.ext_getElem?
  intro i
  have hl : (uni0 k).length = k + 2 := by simp [uni0]
  unfold linR
  rw [hl]
  by_cases hi : i < k + 2
  · simp only [List.getElem?_map, List.getElem?_range hi, Option.map_some]
    match i, hi with
    | 0, _ =>
      show some (intE (-1)) = some ((0 : E) + (0 - 1) * 1)
      rw [neg_int, E.mul_one]
      decide +kernel
    | 1, _ =>
      show some (intE 1) = some ((1 : E) + (0 - 1) * 0)
      rw [one_int, E.mul_zero, E.add_zero]
    | i + 2, hi =>
      have h1 : i < k := by omega
      simp [basE, uni0, uni1, List.getD, h1, E.mul_zero, E.add_zero]
  · rw [List.getElem?_eq_none (by simp [basE]; omega), List.getElem?_eq_none (by simp; omega)]
theorem cons_lin (c : E) (xs : List E) : c :: 0 :: xs = linR (0 :: 0 :: xs) c (uni0 xs.length) := by
  apply List.ext_getElem?
  intro i
  have hl : (uni0 xs.length).length = xs.length + 2 := by simp [uni0]
  unfold linR
  rw [hl]
  by_cases hi : i < xs.length + 2
  · simp only [List.getElem?_map, List.getElem?_range hi, Option.map_some]
    match i, hi with
    | 0, _ =>
      show some c = some ((0 : E) + c * 1)
      rw [E.mul_one, E.zero_add]
    | 1, _ =>
      show some 0 = some ((0 : E) + c * 0)
      rw [E.mul_zero, E.add_zero]
    | i + 2, hi =>
      have h1 : i < xs.length := by omega
      simp [uni0, List.getD, h1, E.mul_zero, E.add_zero]
  · rw [List.getElem?_eq_none (by simp; omega), List.getElem?_eq_none (by simp; omega)]
theorem lag_slope (k : Nat) (r : E) : atE (uni1 k) r - atE (uni0 k) r = atE (basE k) r := by
  rw [bas_lin, atE_lin _ _ _ _ (by simp [uni0, uni1]), sub_mul_neg, E.mul_comm]
theorem lag_miss (c r fin : E) (xs : List E) : fin - atE (0 :: 0 :: xs) r - atE (uni0 xs.length) r * c = fin - atE (c :: 0 :: xs) r := by
  rw [cons_lin c xs, atE_lin _ _ _ _ (by simp [uni0]), E.mul_comm]
  generalize c * atE (uni0 xs.length) r = y
  generalize atE (0 :: 0 :: xs) r = z
  apply E.ext_ <;> simp only [add_a, add_b, sub_a, sub_b] <;> grind
theorem uni_set0 (k : Nat) : (List.replicate (k + 1 + 1) (0 : E)).set 0 1 = uni0 k := by simp [uni0, List.replicate_succ]
theorem uni_set1 (k : Nat) : (List.replicate (k + 1 + 1) (0 : E)).set 1 1 = uni1 k := by simp [uni1, List.replicate_succ]
theorem en_attestor_attestorref32_lagrange : ∀ args w, (callFunc 113 args).run Tryz.prog w = .ok (.enter 113 args) w := enters_of Tryz.func113 (by kernel_rfl) rfl
set_option maxRecDepth 100000 in
set_option maxHeartbeats 4000000 in
theorem rLag (d j : Nat) (hj : j ≤ d) (hd : d ≤ 900) (x : E) (w : World) :
    Calls Tryz.prog 113 #[.int .i64 (d : Int), .int .i64 (j : Int), ev x] w (Ret (ev (atE ((List.replicate (d + 1) 0).set j 1) x)) w) := by
  unfold ev
  go_enter Tryz.func113, Tryz.ntmps113
  go_upto_region 1 with (fail)
  refine wp_stk2 fun W hB hz b5 b6 => ?_
  have hWs : w.heap.size + 1 + 1 ≤ W.heap.size := Nat.le_of_eq hz.out.symm
  have mk := mk_ext (d + 1) (by omega) W
  rw [show ((d + 1 : Nat) : Int) = (d : Int) + 1 from rfl] at mk
  go_upto_region 2 with (fail)
  refine wp_stk1 fun X hX hzX bB => ?_
  have hXs := hX.size
  replace b5 := b5.keep hX
  replace b6 := b6.keep hX
  have hBX := hB.trans (hX.mono hB.size)
  clear mk hzX hX hB hz
  go_wp2_with fail
  refine (xOne X).mono ?_
  rintro e w2 ⟨he, hb2⟩
  unfold ev at he
  subst he
  replace b5 := b5.keep hb2
  replace b6 := b6.keep hb2
  replace bB := bB.keep hb2
  have h2 := hBX.trans (hb2.mono hBX.size)
  obtain ⟨s1, s2⟩ := blk_cellE bB (k := j) (x := 0) (by rw [List.getElem?_replicate, if_pos (by omega)])
  have e1 := bB.frozen
  have hjd : (j : Int) < (d : Int) + 1 := by omega
  have hj' : j < d + 1 := by omega
  clear hb2 hBX
  go_upto_region 3 with (fail)
  refine setE1 (M := fun W => Code.wp _ _ _ _ W) bB j _ _ 1 rfl rfl (by simp; omega) fun Y pY bY => ?_
  replace b5 := pY.blk b5 (by omega)
  replace b6 := pY.blk b6 (by omega)
  have hY := below_put h2 pY (by omega)
  have hl : ((List.replicate (d + 1) (0 : E)).set j 1).length = d + 1 := by simp
  have HA := Lib.hid (pAt ((List.replicate (d + 1) (0 : E)).set j 1) x (by rw [hl]; omega) (.slice (some ⟨W.heap.size, 0, none⟩) (d + 1) (d + 1)) 0 Y.heap.size Y (exts_blk bY hl (by omega) (Nat.zero_le _) bY.lt))
  clear s1 s2 e1 bB bY hl pY h2
  generalize atE ((List.replicate (d + 1) (0 : E)).set j 1) x = y at *
  have e5 := b5.cell
  unfold ev at HA
  go_wp2_with fail
  refine (HA.out).mono ?_
  rintro e w3 ⟨rfl, hb3⟩
  replace b6 := b6.keep hb3
  have e6 := b6.frozen
  have e7 := b6.cell
  have h3 := hY.trans (hb3.mono hY.size)
  clear e5
  go_wp2_with fail
  refine bodyPost_ret (v := .agg #[.int .u64 (fv (y).a), .int .u64 (fv (y).b)]) (by simp [results, Tryz.results113, go_sem, e7]) rfl ⟨rfl, below_set2 h3 (by omega)⟩
theorem en_attestor_attestorref32_last : ∀ args w, (callFunc 71 args).run Tryz.prog w = .ok (.enter 71 args) w := enters_of Tryz.func71 (by kernel_rfl) rfl
theorem flat_setN (r : List E) (v : E) (k : Nat) (h : k < r.length) : ((r.flatMap ec).set (k * 2) (.int .u64 (fv v.a))).set (k * 2 + 1) (.int .u64 (fv v.b)) = (r.set k v).flatMap ec := set_flat v r k h
theorem set22 {M : World → Prop} {w : World} {N g h : Nat} {t u : TypeId} {c1 c2 d1 d2 v1 v2 x1 x2 : Value} (b2 : Blk w g t #[c1, c2]) (b3 : Blk w h u #[d1, d2]) (hne : g ≠ h) (hg : N ≤ g) (hh : N ≤ h)
    (H : ∀ X, Below N w X → Blk X g t #[v1, v2] → Blk X h u #[x1, x2] → X.heap.size = w.heap.size → M X) :
    M ((((w.setCell ⟨g, 0, none⟩ v1).setCell ⟨g, 1, none⟩ v2).setCell ⟨h, 0, none⟩ x1).setCell ⟨h, 1, none⟩ x2) := by
  have p1 := (Put.set w g 0 v1).trans (Put.set _ g 1 v2)
  have p2 := (Put.set ((w.setCell ⟨g, 0, none⟩ v1).setCell ⟨g, 1, none⟩ v2) h 0 x1).trans (Put.set _ h 1 x2)
  exact H _ (below_put (below_put (Below.refl _ _) p1 hg) p2 hh) (p2.blk ((b2.set_ 0 v1).set_ 1 v2) hne) (((p1.blk b3 (Ne.symm hne)).set_ 0 x1).set_ 1 x2) (p2.size.trans p1.size)
attribute [local irreducible] wpRg
set_option maxRecDepth 100000 in
set_option maxHeartbeats 8000000 in
theorem rLast (c r fin : E) (xs : List E) (D : Nat) (hD : D = xs.length + 1) (hk : xs.length ≤ 800) (AC AX : Option Addr) (nC cC cX : Nat) (lo hi : Nat) (w : World) (h : ExtS lo hi w (.slice AX xs.length cX) xs) :
    Calls Tryz.prog 71 #[ev c, ev r, .agg #[.slice AC nC cC, .int .i64 (D : Int), .slice AX xs.length cX, .int .u64 (fv fin.a), .int .u64 (fv fin.b)]] w fun e w' => Below w.heap.size w w' ∧
      ((clsE c r fin xs = none ∧ e = .returned nilV) ∨ ∃ row A cap, clsE c r fin xs = some row ∧ row.length = xs.length + 2 ∧ e = .returned (.slice A (xs.length + 2) cap) ∧ ExtS w.heap.size w'.heap.size w' (.slice A (xs.length + 2) cap) row) := by
  obtain ⟨i1, hi1, jz0, jz1, jz2⟩ := info_parts ext_info
  obtain ⟨k, hkl⟩ : ∃ k, k = xs.length := ⟨_, rfl⟩
  have hE := h
  unfold ExtS at hE
  rw [← hkl] at hE
  have HE := Lib.hid hE
  have HK := Lib.hid hkl
  have HL0 := Lib.hid (show ∀ W, Calls Tryz.prog 113 #[.int .i64 (D : Int), .int .i64 0, ev r] W (Ret (ev (atE (uni0 k) r)) W) from fun W => by
    have := rLag D 0 (Nat.zero_le _) (by omega) r W
    rw [show D + 1 = k + 1 + 1 by omega, uni_set0] at this
    exact this)
  have HL1 := Lib.hid (show ∀ W, Calls Tryz.prog 113 #[.int .i64 (D : Int), .int .i64 1, ev r] W (Ret (ev (atE (uni1 k) r)) W) from fun W => by
    have := rLag D 1 (by omega) (by omega) r W
    rw [show D + 1 = k + 1 + 1 by omega, uni_set1] at this
    exact this)
  have HS := Lib.hid (show atE (uni1 k) r - atE (uni0 k) r = atE (basE k) r from lag_slope k r)
  have HM := Lib.hid (show fin - atE (0 :: 0 :: xs) r - atE (uni0 k) r * c = fin - atE (c :: 0 :: xs) r by rw [hkl]; exact lag_miss c r fin xs)
  have HC := Lib.hid (show clsE c r fin xs = if atE (basE k) r = 0 then none else some ((c - (fin - atE (c :: 0 :: xs) r) * einv (atE (basE k) r)) :: ((fin - atE (c :: 0 :: xs) r) * einv (atE (basE k) r)) :: xs) by rw [hkl]; rfl)
  rw [← hkl] at hk ⊢
  generalize atE (uni0 k) r = low at *
  generalize atE (uni1 k) r = high at *
  generalize atE (basE k) r = sl at *
  clear h hE hkl hD
  unfold ev
  go_enter Tryz.func71, Tryz.ntmps71
  go_upto_region 1 with (fail)
  refine wp_stk3 fun W hB hz b3 b4 b5 => ?_
  have hWs : w.heap.size + 1 + 1 + 1 ≤ W.heap.size := Nat.le_of_eq hz.out.symm
  have al : Below W.heap.size W (W.alloc (.cells #[.int .u64 0, .int .u64 0, .int .u64 0, .int .u64 0] 30)) := (Below.refl _ _).alloc (Nat.le_refl _) _
  have e5 := (b5.keep al).cell
  have hB4 := hB.trans (al.mono hB.size)
  clear hz
  go_wp2_with (at_builtin; refine wpList_appB rfl _ _ rfl Tryz.underlying22 hi1 jz0 jz1 jz2 rfl (by decide) (cl := xs.flatMap ec) (m := k) (base := W.heap.size) (lo := lo) (hi2 := hi) (cs := [.int .u64 0, .int .u64 0, .int .u64 0, .int .u64 0]) (k := 2) (fun u hu => by obtain ⟨x, _, hx⟩ := List.mem_flatMap.1 hu; exact ec_one x u hx) rfl rfl ?hr ?hown ?h1 ?h2 ?h3 ?_)
  case hr => exact Rd.keep HE.out hB4
  case hown => exact ⟨rfl, .inr ⟨W.heap.size, 2, _, rfl, Nat.le_refl _, World.alloc_heap_new W _, Nat.le_refl _, by decide, rfl, rfl⟩⟩
  case h1 => unfold maxLen; omega
  case h2 => omega
  case h3 => simp
  intro v7 w2 hown hgrow hBw2
  have hW2 := al.trans hBw2
  have hw2s := hW2.size
  have hB2 := hB.trans (hW2.mono hB.size)
  replace hown : w2.ownsRow W.heap.size 30 2 v7 (k + 2) ((0 :: 0 :: xs).flatMap ec) := by rw [Nat.add_comm k 2]; exact hown
  obtain ⟨g7, c7, rfl, lg7, p7⟩ := RowU.of_own hown (by omega)
  replace b3 := b3.keep hW2
  replace b4 := b4.keep hW2
  replace b5 := b5.keep hW2
  have l7 := p7.lt
  have y4 := gw_blk b4
  have y5 := gw_blk b5
  clear al e5 hB4 hown hgrow hBw2 hW2 hB
  go_wp2_with fail
  refine wp_region_rg 10 [(3, Spec.val (.agg #[.int .u64 (fv (low).a), .int .u64 (fv (low).b)])), (7, Spec.val (.agg #[.int .u64 (fv (high).a), .int .u64 (fv (high).b)])), (8, Spec.rel (New 30 #[.int .u64 0, .int .u64 0]) (NewF)), (9, Spec.rel (New 30 #[.int .u64 0, .int .u64 0]) (NewF))] (by kernel_rfl) (by kernel_rfl) (by kernel_rfl) ⟨fit_new, fit_new, trivial⟩ ?_
  refine rg_det rfl rfl rfl (fun K hK => ?_)
  go_big_quiet_op
  refine hK _ ?_; clear hK K
  refine rg_det rfl rfl rfl (fun K hK => ?_)
  go_big_quiet_op
  refine hK _ ?_; clear hK K
  refine rg_det rfl rfl rfl (fun K hK => ?_)
  go_big_quiet_op
  refine hK _ ?_; clear hK K
  refine rg_val rfl rfl (fun W1 hW1 hF => step_callv en_attestor_attestorref32_lagrange (HL0.out W1) rfl rfl) ?_
  intro a' ha
  simp only [Act.put, List.setIfInBounds_toArray, List.set_cons_succ, List.set_cons_zero] at ha
  subst ha
  refine rg_det rfl rfl rfl (fun K hK => ?_)
  go_big_quiet_op
  refine hK _ ?_; clear hK K
  refine rg_det rfl rfl rfl (fun K hK => ?_)
  go_big_quiet_op
  refine hK _ ?_; clear hK K
  refine rg_det rfl rfl rfl (fun K hK => ?_)
  go_big_quiet_op
  refine hK _ ?_; clear hK K
  refine rg_val rfl rfl (fun W1 hW1 hF => step_callv en_attestor_attestorref32_lagrange (HL1.out W1) rfl rfl) ?_
  intro a' ha
  simp only [Act.put, List.setIfInBounds_toArray, List.set_cons_succ, List.set_cons_zero] at ha
  subst ha
  refine rg_rel rfl rfl (fun W1 hW1 hF => step_new hi1 jz0 rfl) ?_
  intro n8 m8 v8 hn8 hm8 hd8 hf8 a' ha
  simp only [Act.put, List.setIfInBounds_toArray, List.set_cons_succ, List.set_cons_zero] at ha
  subst ha
  obtain rfl := hf8
  refine rg_rel rfl rfl (fun W1 hW1 hF => step_new hi1 jz0 rfl) ?_
  intro n9 m9 v9 hn9 hm9 hd9 hf9 a' ha
  simp only [Act.put, List.setIfInBounds_toArray, List.set_cons_succ, List.set_cons_zero] at ha
  subst ha
  obtain rfl := hf9
  refine rg_nil (fun w' hw' hF => ?_)
  obtain ⟨z, rfl⟩ := hw'
  simp only [List.drop_succ_cons, List.drop_zero]
  obtain ⟨-, -, q9, f9⟩ := end_last hF
  obtain ⟨-, -, q8, f8⟩ := end_last (end_init hF)
  have d98 := hd9 (n8, m8) (by simp)
  simp only at d98
  have hzs := z.h.size
  have e1 := f8.cell
  have e2 := f8.frozen
  have e3 := f9.cell
  have e4 := f9.frozen
  have hne98 : n9 ≠ n8 := by omega
  have hne89 : n8 ≠ n9 := by omega
  clear hF y4 y5 hd8 hd9 HL0 HL1
  go_upto_region 3 with (fail)
  refine set22 (M := fun W => Code.wp _ _ _ _ W) f8 f9 hne89 hn8 hn9 fun X3 hX3 b8 b9 hs3 => ?_
  have hX3s := Nat.le_of_eq hs3.symm
  have hz3 := z.h.trans hX3
  have hB3 := hB2.trans (hz3.mono hB2.size)
  replace b3 := b3.keep hz3
  replace b4 := b4.keep hz3
  replace b5 := b5.keep hz3
  replace p7 := p7.keep hz3
  have lb8 := b8.lt
  have lb9 := b9.lt
  clear e1 e2 e3 e4 f8 f9 hX3 hs3 hz3
  have e8 := b8.cell
  have e9 := b9.cell
  go_wp2_with fail
  refine (xSub high low X3).mono ?_
  rintro e X4 ⟨rfl, h4⟩
  rw [HS.out]
  replace b3 := b3.keep h4
  replace b4 := b4.keep h4
  replace b5 := b5.keep h4
  replace b8 := b8.keep h4
  replace p7 := p7.keep h4
  have hB4 := hB3.trans (h4.mono hB3.size)
  have h4s := h4.size
  clear e8 e9 b9 h4
  go_wp2_with fail
  by_cases h0 : sl = 0
  · have HN := Lib.hid (HC.out.trans (if_pos h0))
    subst h0
    refine (xInv0 X4).mono ?_
    rintro e X5 ⟨rfl, h5⟩
    unfold ev
    clear HC
    have hB5 := hB4.trans (h5.mono hB4.size)
    go_wp2_with fail
    refine bodyPost_ret (v := nilV) (by simp [nilV, results, Tryz.results71, go_sem]) rfl ⟨hB5.alloc hB5.size _, .inl ⟨HN.out, rfl⟩⟩
  · have HN := Lib.hid (HC.out.trans (if_neg h0))
    refine (xInv sl h0 X4).mono ?_
    rintro e X5 ⟨rfl, h5⟩
    generalize einv sl = is at *
    unfold ev
    clear HC h0
    replace b3 := b3.keep h5
    replace b4 := b4.keep h5
    replace b5 := b5.keep h5
    replace b8 := b8.keep h5
    replace p7 := p7.keep h5
    have hB5 := hB4.trans (h5.mono hB4.size)
    have h5s := h5.size
    clear h5
    go_upto_region 6 with (fail)
    refine wp_stk1 fun X6 h6 hz6 b10 => ?_
    replace b3 := b3.keep h6
    replace b4 := b4.keep h6
    replace b5 := b5.keep h6
    replace b8 := b8.keep h6
    replace p7 := p7.keep h6
    have hB6 := hB5.trans (h6.mono hB5.size)
    have h6s := h6.size
    have l10a := b10.lt
    have y3 := gw_blk b3
    have y4 := gw_blk b4
    have y5 := gw_blk b5
    have y8 := gw_blk b8
    have HA := Lib.hid (show ∀ W1, Below X6.heap.size X6 W1 → Calls Tryz.prog 64 #[.slice (some ⟨g7, 0, none⟩) (k + 2) c7, ev r] W1 (Ret (ev (atE (0 :: 0 :: xs) r)) W1) from fun W1 hW => by
      have hl : (0 :: 0 :: xs : List E).length = k + 2 := by simp only [List.length_cons]; rw [HK.out]
      refine pAt (0 :: 0 :: xs) r (by rw [hl]; omega) _ 0 W1.heap.size W1 ?_
      unfold ExtS
      rw [hl]
      exact (p7.keep hW).rd (by omega) (Nat.zero_le _) (p7.keep hW).lt)
    have HM2 := Lib.hid (HM.out)
    generalize atE (0 :: 0 :: xs) r = a0 at *
    clear hz6 h6
    obtain ⟨ms, hms⟩ : ∃ ms, ms = fin - atE (c :: 0 :: xs) r := ⟨_, rfl⟩
    rw [← hms] at HM HN
    clear hms HM2
    go_wp2_with fail
    refine wp_region_rg 11 [(4, Spec.val (.agg #[.int .u64 (fv (a0).a), .int .u64 (fv (a0).b)])), (5, Spec.val (.agg #[.int .u64 (fv ((fin - a0)).a), .int .u64 (fv ((fin - a0)).b)])), (8, Spec.val (.agg #[.int .u64 (fv ((low * c)).a), .int .u64 (fv ((low * c)).b)])), (9, Spec.val (.agg #[.int .u64 (fv ((fin - a0 - low * c)).a), .int .u64 (fv ((fin - a0 - low * c)).b)])), (10, Spec.rel (New 30 #[.int .u64 0, .int .u64 0]) (NewF))] (by kernel_rfl) (by kernel_rfl) (by kernel_rfl) ⟨fit_new, trivial⟩ ?_
    refine rg_det rfl rfl rfl (fun K hK => ?_)
    go_big_quiet_op
    refine hK _ ?_; clear hK K
    refine rg_det rfl rfl rfl (fun K hK => ?_)
    go_big_quiet_op
    refine hK _ ?_; clear hK K
    refine rg_det rfl rfl rfl (fun K hK => ?_)
    go_big_quiet_op
    refine hK _ ?_; clear hK K
    refine rg_det rfl rfl rfl (fun K hK => ?_)
    go_big_quiet_op
    refine hK _ ?_; clear hK K
    refine rg_val rfl rfl (fun W1 hW1 hF => step_callv en_attestor_attestorref03_At (HA.out W1 (grw_below hW1)) rfl rfl) ?_
    intro a' ha
    simp only [Act.put, List.setIfInBounds_toArray, List.set_cons_succ, List.set_cons_zero] at ha
    subst ha
    refine rg_val rfl rfl (fun W1 hW1 hF => step_callv en_attestor_attestorref02_Sub (xSub fin a0 W1) rfl rfl) ?_
    intro a' ha
    simp only [Act.put, List.setIfInBounds_toArray, List.set_cons_succ, List.set_cons_zero] at ha
    subst ha
    refine rg_det rfl rfl rfl (fun K hK => ?_)
    go_big_quiet_op
    refine hK _ ?_; clear hK K
    refine rg_det rfl rfl rfl (fun K hK => ?_)
    go_big_quiet_op
    refine hK _ ?_; clear hK K
    refine rg_val rfl rfl (fun W1 hW1 hF => step_callv en_attestor_attestorref02_Mul (xMul low c W1) rfl rfl) ?_
    intro a' ha
    simp only [Act.put, List.setIfInBounds_toArray, List.set_cons_succ, List.set_cons_zero] at ha
    subst ha
    refine rg_val rfl rfl (fun W1 hW1 hF => step_callv en_attestor_attestorref02_Sub (xSub (fin - a0) (low * c) W1) rfl rfl) ?_
    intro a' ha
    simp only [Act.put, List.setIfInBounds_toArray, List.set_cons_succ, List.set_cons_zero] at ha
    subst ha
    refine rg_rel rfl rfl (fun W1 hW1 hF => step_new hi1 jz0 rfl) ?_
    intro nb10 mb10 vb10 hnb10 hmb10 hdb10 hfb10 a' ha
    simp only [Act.put, List.setIfInBounds_toArray, List.set_cons_succ, List.set_cons_zero] at ha
    subst ha
    obtain rfl := hfb10
    refine rg_nil (fun w' hw' hF => ?_)
    obtain ⟨z6, rfl⟩ := hw'
    simp only [List.drop_succ_cons, List.drop_zero]
    obtain ⟨hmb, -, hlb, b12⟩ := end_last hF
    rw [HM.out]
    have hz6 := z6.h
    have hz6s := hz6.size
    replace b3 := b3.keep hz6
    replace b10 := b10.keep hz6
    replace p7 := p7.keep hz6
    have hB7 := hB6.trans (hz6.mono hB6.size)
    have e1 := b12.cell
    have e2 := b12.frozen
    clear hF y3 y4 y5 y8 hdb10 b4 b5 b8 HA HM
    go_upto_region 7 with (fail)
    refine set2 (M := fun W => Code.wp _ _ _ _ W) b12 fun X7 h7 b12' => ?_
    replace b12' : Blk X7 nb10 30 #[.int .u64 (fv ms.a), .int .u64 (fv ms.b)] := b12'
    have l10 := b10.lt
    have l3 := b3.lt
    have lp7 := p7.lt
    replace b3 := h7.blk b3 (by omega)
    replace b10 := h7.blk b10 (by omega)
    replace p7 := p7.other h7 (by omega)
    have hB8 := below_put hB7 h7 (by omega)
    clear e1 e2 b12 h7
    have e10 := b10.cell
    have e12 := b12'.cell
    go_wp2_with fail
    refine (xMul ms is X7).mono ?_
    rintro e X8 ⟨he, h8⟩
    unfold ev at he
    subst he
    generalize ms * is = y at *
    replace b3 := b3.keep h8
    replace p7 := p7.keep h8
    have hB9 := hB8.trans (h8.mono hB8.size)
    clear e10 e12 b10 b12' h8
    have e1 := p7.frozen
    have e2 := p7.cell (j := 2) (u := .int .u64 (fv (0 : E).a)) (by simp [ec])
    have e3 := p7.cell (j := 3) (u := .int .u64 (fv (0 : E).b)) (by simp [ec])
    go_upto_region 8 with (fail)
    have hp := (Put.set X8 g7 2 (.int .u64 (fv y.a))).trans (Put.set _ g7 3 (.int .u64 (fv y.b)))
    have q7 : RowU ((X8.setCell ⟨g7, 2, none⟩ (.int .u64 (fv y.a))).setCell ⟨g7, 3, none⟩ (.int .u64 (fv y.b))) g7 30 2 c7 (k + 2) (((0 :: 0 :: xs : List E).set 1 y).flatMap ec) := by
      have := (p7.set (1 * 2) (.int .u64 (fv y.a))).set (1 * 2 + 1) (.int .u64 (fv y.b))
      rwa [flat_setN _ _ _ (by simp)] at this
    replace q7 : RowU ((X8.setCell ⟨g7, 2, none⟩ (.int .u64 (fv y.a))).setCell ⟨g7, 3, none⟩ (.int .u64 (fv y.b))) g7 30 2 c7 (k + 2) ((0 :: y :: xs : List E).flatMap ec) := q7
    generalize ((X8.setCell ⟨g7, 2, none⟩ (.int .u64 (fv y.a))).setCell ⟨g7, 3, none⟩ (.int .u64 (fv y.b))) = X9 at *
    have lg7 : w.heap.size + 1 + 1 + 1 ≤ g7 := by omega
    replace b3 := hp.blk b3 (by omega)
    have hB10 := below_put hB9 hp (by omega)
    clear e1 e2 e3 p7 hp
    have y3 := gw_blk b3
    have y1 := gw_cell q7.lt (q7.cell (j := 2) (u := .int .u64 (fv y.a)) (by simp [ec]))
    have y2 := gw_cell q7.lt (q7.cell (j := 3) (u := .int .u64 (fv y.b)) (by simp [ec]))
    go_wp2_with fail
    refine wp_region_rg 7 [(5, Spec.val (.agg #[.int .u64 (fv ((c - y)).a), .int .u64 (fv ((c - y)).b)]))] (by kernel_rfl) (by kernel_rfl) (by kernel_rfl) trivial ?_
    refine rg_det rfl rfl rfl (fun K hK => ?_)
    go_big_quiet_op
    refine hK _ ?_; clear hK K
    refine rg_det rfl rfl rfl (fun K hK => ?_)
    go_big_quiet_op
    refine hK _ ?_; clear hK K
    refine rg_det rfl rfl rfl (fun K hK => ?_)
    go_big_quiet_op
    refine hK _ ?_; clear hK K
    refine rg_det rfl rfl rfl (fun K hK => ?_)
    go_big_quiet_op
    refine hK _ ?_; clear hK K
    refine rg_det rfl rfl rfl (fun K hK => ?_)
    go_big_quiet_op
    refine hK _ ?_; clear hK K
    refine rg_val rfl rfl (fun W1 hW1 hF => step_callv en_attestor_attestorref02_Sub (xSub c y W1) rfl rfl) ?_
    intro a' ha
    simp only [Act.put, List.setIfInBounds_toArray, List.set_cons_succ, List.set_cons_zero] at ha
    subst ha
    refine rg_det rfl rfl rfl (fun K hK => ?_)
    go_big_quiet_op
    refine hK _ ?_; clear hK K
    refine rg_nil (fun w' hw' hF => ?_)
    obtain ⟨z8, rfl⟩ := hw'
    simp only [List.drop_succ_cons, List.drop_zero]
    have hz8 := z8.h
    replace q7 := q7.keep hz8
    have hB11 := hB10.trans (hz8.mono hB10.size)
    have e1 := q7.frozen
    have e2 := q7.cell (j := 0) (u := .int .u64 (fv (0 : E).a)) (by simp [ec])
    have e3 := q7.cell (j := 1) (u := .int .u64 (fv (0 : E).b)) (by simp [ec])
    clear hF y1 y2 y3 b3
    go_upto_region 9 with (fail)
    have hp := (Put.set z8.w g7 0 (.int .u64 (fv (c - y).a))).trans (Put.set _ g7 1 (.int .u64 (fv (c - y).b)))
    have r7 : RowU ((z8.w.setCell ⟨g7, 0, none⟩ (.int .u64 (fv (c - y).a))).setCell ⟨g7, 1, none⟩ (.int .u64 (fv (c - y).b))) g7 30 2 c7 (k + 2) (((0 :: y :: xs : List E).set 0 (c - y)).flatMap ec) := by
      have := (q7.set (0 * 2) (.int .u64 (fv (c - y).a))).set (0 * 2 + 1) (.int .u64 (fv (c - y).b))
      rwa [flat_setN _ _ _ (by simp)] at this
    replace r7 : RowU ((z8.w.setCell ⟨g7, 0, none⟩ (.int .u64 (fv (c - y).a))).setCell ⟨g7, 1, none⟩ (.int .u64 (fv (c - y).b))) g7 30 2 c7 (k + 2) (((c - y) :: y :: xs : List E).flatMap ec) := r7
    generalize ((z8.w.setCell ⟨g7, 0, none⟩ (.int .u64 (fv (c - y).a))).setCell ⟨g7, 1, none⟩ (.int .u64 (fv (c - y).b))) = X10 at *
    have hB12 := below_put hB11 hp (by have := lg7; omega)
    have hl : ((c - y) :: y :: xs : List E).length = k + 2 := by simp only [List.length_cons]; rw [HK.out]
    clear e1 e2 e3 q7 hp
    go_wp2_with fail
    refine bodyPost_ret (v := .slice (some ⟨g7, 0, none⟩) (k + 2) c7) (by simp [results, Tryz.results71, go_sem]) rfl ⟨hB12, .inr ⟨_, _, _, HN.out, hl, rfl, ?_⟩⟩
    unfold ExtS
    rw [hl]
    exact r7.rd (by omega) (by omega) r7.lt
end Go.Proofs.YtnddfeidggcplaaGreat
