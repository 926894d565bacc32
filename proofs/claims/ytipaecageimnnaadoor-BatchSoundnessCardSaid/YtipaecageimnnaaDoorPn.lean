/-
  Integers as elements, and the weights of the nodes, in packages field, ext and poly, by contract.
-/
import Derived.Test.YtipaecageimnnaaDoorFi
namespace Go.Proofs.YtipaecageimnnaaDoor
open Go.RowKit

/-- A list given by a function of the index. -/
def rngL (n : Nat) (f : Nat → E) : List E := (List.range n).map f
theorem rngL_length (n : Nat) (f : Nat → E) : (rngL n f).length = n := by simp [rngL]
theorem rngL_get (n : Nat) (f : Nat → E) (k : Nat) (h : k < n) : (rngL n f)[k]? = some (f k) := by simp [rngL, h]
theorem rngL_congr (n : Nat) (f g : Nat → E) (h : ∀ j, j < n → f j = g j) : rngL n f = rngL n g := by
  unfold rngL
  exact List.map_congr_left fun j hj => h j (List.mem_range.1 hj)
theorem rngL_set (n : Nat) (f : Nat → E) (k : Nat) (v : E) : (rngL n f).set k v = rngL n (fun j => if j = k then v else f j) := by
  apply List.ext_getElem?
  intro j
  by_cases hj : j < n
  · rw [List.getElem?_set, rngL_get n (fun j => if j = k then v else f j) j hj]
    by_cases hjk : k = j
    · subst hjk; simp [rngL_length, hj]
    · rw [if_neg hjk, rngL_get n f j hj, if_neg (fun e => hjk e.symm)]
  · rw [List.getElem?_eq_none (by rw [List.length_set, rngL_length]; omega), List.getElem?_eq_none (by rw [rngL_length]; omega)]
theorem rngL_zero (n : Nat) : List.replicate n (0 : E) = rngL n (fun _ => 0) := by
  apply List.ext_getElem?
  intro j
  by_cases hj : j < n
  · rw [rngL_get n _ j hj]; simp [hj]
  · rw [List.getElem?_eq_none (by simpa using hj), List.getElem?_eq_none (by rw [rngL_length]; omega)]
set_option maxRecDepth 100000 in
set_option maxHeartbeats 400000 in
theorem fFromInt (x : Int) (h1 : -9223372036854775808 ≤ x) (h2 : x ≤ 9223372036854775807) (w : World) : Calls Tryd.prog 74 #[.int .i64 x] w (Ret (.int .u64 (fv (fz x))) w) := by
  by_cases h : x < 0
  · have e1 : fv (fz (-x)) = -x := by rw [fv_fz]; omega
    have e2 : 0 - fz (-x) = fz x := by apply fv_inj; rw [fv_sub, fv_fz, fv_fz, fv_zero]; omega
    have c1 := fun w => fRed (-x) (by omega) (by omega) w
    have c2 := fun w => fNeg (fz (-x)) w
    rw [show (-x) % 18446744069414584321 = -x by omega] at c1
    rw [e1, e2] at c2
    have C1 := Lib.hid c1
    have C2 := Lib.hid c2
    have hw1 : IntKind.u64.wrap x = x + 18446744073709551616 := by rw [IntKind.wrap_u64]; omega
    have hw2 : IntKind.u64.wrap (-(x + 18446744073709551616)) = -x := by rw [IntKind.wrap_u64]; omega
    clear c1 c2 e1 e2
    go_enter Tryd.func74, Tryd.ntmps74
    go_wp2_with fail
    refine (C1.out _).mono ?_
    rintro e w' ⟨rfl, rfl⟩
    go_wp2_with fail
    refine (C2.out _).mono ?_
    rintro e w' ⟨rfl, rfl⟩
    go_wp2_with fail
    go_ret
    exact ⟨rfl, Below.refl _ _⟩
  · have e1 : fv (fz x) = x := by rw [fv_fz]; omega
    rw [e1]
    have hw1 : IntKind.u64.wrap x = x := by rw [IntKind.wrap_u64]; omega
    clear e1
    go_enter Tryd.func74, Tryd.ntmps74
    go_wp2_with fail
    go_ret
    exact ⟨rfl, Below.refl _ _⟩
set_option maxRecDepth 100000 in
set_option maxHeartbeats 400000 in
theorem eFromBase (c : Fp) (w : World) : Calls Tryd.prog 73 #[.int .u64 (fv c)] w (Ret (ev (eb c)) w) := by
  unfold ev eb
  go_enter Tryd.func73, Tryd.ntmps73
  go_wp2
  refine bodyPost_ret (v := .agg #[.int .u64 (fv c), .int .u64 (fv 0)]) (by simp [results, Tryd.results73, go_sem, fv0]) rfl ⟨rfl, ?_⟩
  exact (Below.refl _ _).alloc (Nat.le_refl _) _
set_option maxRecDepth 100000 in
set_option maxHeartbeats 400000 in
theorem eFromInt (x : Int) (h1 : -9223372036854775808 ≤ x) (h2 : x ≤ 9223372036854775807) (w : World) : Calls Tryd.prog 50 #[.int .i64 x] w (Ret (ev (intE x)) w) := by
  unfold ev
  go_enter Tryd.func50, Tryd.ntmps50
  go_wp2_with fail
  refine calls_stk1 fun W hB hz b1 => ?_
  refine (fFromInt x h1 h2 W).mono ?_
  rintro e w2 ⟨rfl, hb⟩
  go_wp2_with fail
  refine (eFromBase (fz x) w2).mono ?_
  rintro e w3 ⟨he, hb3⟩
  unfold ev at he
  subst he
  have b3 := (b1.keep hb).keep hb3
  have e1 := b3.cell
  have e2 := b3.frozen
  go_wp2_with fail
  refine bodyPost_ret (v := .agg #[.int .u64 (fv (intE x).a), .int .u64 (fv (intE x).b)]) (by simp [results, Tryd.results50, go_sem, e1]; exact ⟨rfl, rfl⟩) rfl ⟨rfl, ?_⟩
  have hB2 := hB.trans (hb.mono hB.size)
  exact below_set2 (hB2.trans (hb3.mono hB2.size)) (Nat.le_refl _)
set_option maxRecDepth 100000 in
set_option maxHeartbeats 400000 in
theorem gNode (x : Int) (h1 : -9223372036854775808 ≤ x) (h2 : x ≤ 9223372036854775807) (w : World) : Calls Tryd.prog 96 #[.int .i64 x] w (Ret (ev (intE x)) w) := by
  unfold ev
  go_enter Tryd.func96, Tryd.ntmps96
  go_wp2_with fail
  refine calls_stk1 fun W hB hz b1 => ?_
  refine (eFromInt x h1 h2 W).mono ?_
  rintro e w2 ⟨he, hb⟩
  unfold ev at he
  subst he
  have b2 := b1.keep hb
  have e1 := b2.cell
  have e2 := b2.frozen
  generalize intE x = y at *
  go_wp2_with fail
  refine bodyPost_ret (v := .agg #[.int .u64 (fv (y).a), .int .u64 (fv (y).b)]) (by simp [results, Tryd.results96, go_sem, e1]) rfl ⟨rfl, ?_⟩
  exact below_set2 (hB.trans (hb.mono hB.size)) (Nat.le_refl _)
theorem eInvA (x : E) (w : World) : Calls Tryd.prog 103 #[ev x] w (fun e w' => ∃ c : Int, e = .returned (.tuple #[ev (einv x), .int .i64 c]) ∧ Below w.heap.size w w') := by
  by_cases h : x = 0
  · subst h
    refine (eInv0 w).mono ?_
    rintro e w' ⟨rfl, hb⟩
    exact ⟨3, by rw [einv_zero], hb⟩
  · refine (eInv x h w).mono ?_
    rintro e w' ⟨rfl, hb⟩
    exact ⟨0, rfl, hb⟩
theorem difK_zero (i : Nat) : difK i 0 = 1 := rfl
theorem difK_same (i k : Nat) (h : k = i) : difK i (k + 1) = difK i k := by rw [difK, if_pos h]
theorem difK_next (i k : Nat) (h : k ≠ i) : difK i (k + 1) = difK i k * intE ((i : Int) - k) := by rw [difK, if_neg h]
theorem intE_one : intE 1 = 1 := rfl
def wgtL (n j : Nat) : Nat → E := fun k => if k < j then wgtE n k else 0
theorem wgtL_zero (n : Nat) : rngL n (wgtL n 0) = List.replicate n 0 := by
  rw [rngL_zero]; exact rngL_congr _ _ _ fun j _ => by unfold wgtL; rw [if_neg (by omega)]
theorem wgtL_set (n j : Nat) : (rngL n (wgtL n j)).set j (wgtE n j) = rngL n (wgtL n (j + 1)) := by
  rw [rngL_set]
  refine rngL_congr _ _ _ fun k _ => ?_
  unfold wgtL
  by_cases h1 : k = j
  · subst h1; rw [if_pos rfl, if_pos (by omega)]
  · rw [if_neg h1]
    by_cases h2 : k < j
    · rw [if_pos h2, if_pos (by omega)]
    · rw [if_neg h2, if_neg (by omega)]
theorem wgtL_all (n : Nat) : rngL n (wgtL n n) = rngL n (wgtE n) := rngL_congr _ _ _ fun j hj => by unfold wgtL; rw [if_pos hj]
set_option maxRecDepth 100000 in
set_option maxHeartbeats 2000000 in
theorem gWeightsP (n : Nat) (hn : n ≤ 1000) (w : World) : Calls Tryd.prog 97 #[.int .i64 (n : Int)] w (RetR (ExtA (rngL n (wgtE n))) w) := by
  have hmk := mk_ext n (by omega)
  have HMK := Lib.hid hmk
  clear hmk
  go_enter Tryd.func97, Tryd.ntmps97
  go_wp2_with (simp only [HMK.out])
  refine wp_stk1 fun W hB hz b1 => ?_
  have hW := hz.out
  clear hz HMK
  rw [← wgtL_zero] at b1
  go_loopw [10] (fun i wr => ∃ j : Nat, j ≤ n ∧ i = .int .i64 j ∧ Blk wr w.heap.size 26 ((rngL n (wgtL n j)).flatMap ec).toArray ∧ Below w.heap.size w wr) (fun i _ => n - (intOf i).toNat)
  case atStart => exact ⟨0, Nat.zero_le _, rfl, b1, hB⟩
  case round =>
    obtain ⟨j, hj, rfl, bw, hBr⟩ := hrel
    clear b1 hB
    have hgl := bw.lt
    by_cases hlt : j < n
    · obtain ⟨wo, hwo⟩ : ∃ wo, wo = wr := ⟨_, rfl⟩
      subst hwo
      go_wp2_with fail
      refine (gNode 1 (by omega) (by omega) wo).mono ?_
      rintro e w2 ⟨he, hb2⟩
      rw [intE_one] at he
      unfold ev at he
      subst he
      go_wp2_with fail
      refine wp_stk1 fun X hBX hzX bp => ?_
      have hX := hzX.out
      have hs2 := hb2.size
      have hb2X := hb2.trans (hBX.mono hs2)
      have bwX := bw.keep hb2X
      clear hzX hBX hb2
      obtain ⟨Bp, hBp⟩ : ∃ B, B = w2.heap.size := ⟨_, rfl⟩
      rw [← hBp] at bp hX hs2 ⊢
      clear hBp
      go_loopw [15] (fun k wr => ∃ i : Nat, i ≤ n ∧ k = .int .i64 i ∧ Blk wr Bp 26 #[.int .u64 (fv (difK j i).a), .int .u64 (fv (difK j i).b)] ∧ Below Bp X wr) (fun k _ => n - (intOf k).toNat)
      case atStart => exact ⟨0, Nat.zero_le _, rfl, bp, Below.refl _ _⟩
      case round =>
        obtain ⟨i, hi, rfl, bv, hBv⟩ := hrel
        clear bp
        have hvl := bv.lt
        by_cases hil : i < n
        · by_cases hij : i = j
          · subst hij
            rw [← difK_same i i rfl] at bv
            go_wp2_with fail
            exact ⟨⟨i + 1, by omega, by go_num, bv, hBv⟩, by simp [intOf]; omega⟩
          · have HD := Lib.hid (difK_next j i hij)
            have hne : ((i : Int) == (j : Int)) = false := by simp; omega
            have f1 := gw_blk bv
            generalize difK j i = m at *
            go_wp2_with fail
            refine wp_region_rg 6 [(4, Spec.val (.agg #[.int .u64 (fv (intE ((j : Int) - i)).a), .int .u64 (fv (intE ((j : Int) - i)).b)])), (5, Spec.val (.agg #[.int .u64 (fv (m * intE ((j : Int) - i)).a), .int .u64 (fv (m * intE ((j : Int) - i)).b)]))] (by kernel_rfl) (by kernel_rfl) (by kernel_rfl) trivial ?_
            refine rg_det rfl rfl rfl (fun K hK => ?_)
            go_big_quiet_op
            refine hK _ ?_; clear hK K
            refine rg_det rfl rfl rfl (fun K hK => ?_)
            go_big_quiet_op
            refine hK _ ?_; clear hK K
            refine rg_det rfl rfl rfl (fun K hK => ?_)
            go_big_quiet_op
            refine hK _ ?_; clear hK K
            refine rg_det rfl rfl rfl (fun K hK => ?_)
            go_big_quiet_op
            refine hK _ ?_; clear hK K
            refine rg_val rfl rfl (fun W1 hW1 hF => step_callv en_attestor_poly_node (gNode ((j : Int) - i) (by omega) (by omega) W1) rfl rfl) ?_
            intro a' ha
            simp only [Act.put, List.setIfInBounds_toArray, List.set_cons_succ, List.set_cons_zero] at ha
            subst ha
            refine rg_val rfl rfl (fun W1 hW1 hF => step_callv en_attestor_ext_Mul (eMul m (intE ((j : Int) - i)) W1) rfl rfl) ?_
            intro a' ha
            simp only [Act.put, List.setIfInBounds_toArray, List.set_cons_succ, List.set_cons_zero] at ha
            subst ha
            refine rg_nil (fun w' hw' hF => ?_)
            obtain ⟨z, rfl⟩ := hw'
            simp only [List.drop_succ_cons, List.drop_zero]
            have bz := bv.gw z
            have e1 := bz.frozen
            have e2 := bz.cell
            clear hF f1
            rw [← HD.out]
            generalize hq : difK j (i + 1) = q at *
            have HQ := Lib.hid hq
            clear hq
            go_wp2_with fail
            refine ⟨⟨i + 1, by omega, by go_num, ?_, below_set2 (hBv.trans (z.h.mono (by omega))) (Nat.le_refl _)⟩, by simp [intOf]; omega⟩
            rw [HQ.out]
            exact blk_set2 bz
        · obtain rfl : i = n := by omega
          have e1 := bv.cell
          have bw2 := bwX.below hBv (by omega)
          go_wp2_with fail
          refine (eInvA (difK j i) _).mono ?_
          rintro e w5 ⟨c, he, hb5⟩
          rw [show einv (difK j i) = wgtE i j from rfl] at he
          unfold ev at he
          subst he
          have bw3 := bw2.keep hb5
          have hB5 := (hBr.trans (hb2X.mono hBr.size)).trans ((hBv.mono (by omega)).trans (hb5.mono (by have := hBv.size; omega)))
          have e2 := bw3.frozen
          obtain ⟨s1, s2⟩ := blk_cellE bw3 (rngL_get i (wgtL i j) j hlt)
          have HS := Lib.hid (wgtL_set i j)
          have hll : j < (rngL i (wgtL i j)).length := by rw [rngL_length]; exact hlt
          have HLL := Lib.hid hll
          clear e1 hll bw2 bwX bv
          generalize wgtE i j = y at *
          go_wp2_with fail
          refine ⟨⟨j + 1, by omega, by go_num, ?_, below_setE hB5 (Nat.le_refl _)⟩, by simp [intOf]; omega⟩
          rw [← HS.out]
          exact blk_setE bw3 j y HLL.out
    · obtain rfl : j = n := by omega
      rw [wgtL_all] at bw
      go_wp2_with fail
      go_ret
      exact ⟨_, rfl, exts_of_blk bw (rngL_length _ _) (by omega) (Nat.le_refl _) hgl, hBr⟩
end Go.Proofs.YtipaecageimnnaaDoor
