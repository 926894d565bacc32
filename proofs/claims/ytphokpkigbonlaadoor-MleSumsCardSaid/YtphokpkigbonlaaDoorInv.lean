/-
  The inverses: of a field element by Euclid's algorithm, and of an element of the extension, by contract.
-/
import Derived.Test.YtphokpkigbonlaaDoorSl
import Derived.Test.YtphokpkigbonlaaDoorRgL
import Derived.WalkMore
import Derived.Test.YtphokpkigbonlaaDoorPrm
namespace Go.Proofs.YtphokpkigbonlaaDoor
open Go.RowKit

theorem mul_bdW (x y : Int) (hx : 0 ≤ x) (hx' : x < 18446744073709551616) (hy : 0 ≤ y) (hy' : y < 18446744069414584321) : 0 ≤ x * y ∧ x * y < 340282366920938463463374607431768211456 := by
  refine ⟨Int.mul_nonneg hx hy, ?_⟩
  have h1 : x * y ≤ 18446744073709551615 * y := Int.mul_le_mul_of_nonneg_right (by omega) hy
  omega
theorem fMulW (q : Nat) (hq : q < 18446744073709551616) (b : Fp) (w : World) :
    Calls Tryd.prog 85 #[.int .u64 q, .int .u64 (fv b)] w fun e w' => e = .returned (.int .u64 (fv (fn q * b))) ∧ w = w' := by
  have e : fv (fn q * b) = ((q : Int) * fv b) % 18446744069414584321 := by rw [fv_mul, fv_fn, Int.mul_emod, Int.emod_emod_of_dvd _ (Int.dvd_refl _), ← Int.mul_emod]
  rw [e]
  have h := mul_bdW (q : Int) (fv b) (by omega) (by omega) (fv_lo b) (fv_hi b)
  exact fMul_m _ _ _ (Lib.hid rfl) h.1 h.2 (by omega) (by omega) (fv_lo b) (fv_hi b) w
set_option maxHeartbeats 400000 in
theorem fNeg (a : Fp) (w : World) : Calls Tryd.prog 87 #[.int .u64 (fv a)] w fun e w' => e = .returned (.int .u64 (fv (0 - a))) ∧ w = w' := by
  have c1 := fun w => fSub 0 a w
  rw [fv_zero] at c1
  have C1 := Lib.hid c1
  clear c1
  go_enter Tryd.func87, Tryd.ntmps87
  go_wp2_with fail
  refine (C1.out _).mono ?_
  rintro e w' ⟨rfl, rfl⟩
  go_wp2_with fail
  go_ret
  exact ⟨rfl, rfl⟩
set_option maxHeartbeats 1000000 in
theorem fInv (a : Fp) (h : a ≠ 0) (w : World) :
    Calls Tryd.prog 68 #[.int .u64 (fv a)] w (Ret (.tuple #[.int .u64 (fv (finv a)), .int .i64 0]) w) := by
  have h0 : (fv a == 0) = false := by rw [beq_eq_false_iff_ne]; exact fun e => h (fv_inj (e.trans fv_zero.symm))
  have hp : 0 < a.val := Nat.pos_of_ne_zero fun e => h (Fin.ext e)
  have hpp : a.val < PP := a.isLt
  have hg := Lib.hid (pp_gcd a h)
  have hv : fv a = (a.val : Int) := rfl
  have h0' : (((a.val : Nat) : Int) == 0) = false := h0
  go_enter Tryd.func68, Tryd.ntmps68
  go_wp2
  go_step3
  go_wp2
  go_step3
  go_wp2
  go_loopw [4, 5, 6, 7] (fun vr vn vs vt wr => ∃ (r n : Nat) (s t : Fp), vr = .int .u64 r ∧ vn = .int .u64 n ∧ vs = .int .u64 (fv s) ∧ vt = .int .u64 (fv t) ∧ 0 < n ∧ n < r ∧ r ≤ 18446744069414584321 ∧ Nat.gcd r n = 1 ∧ fn r = s * a ∧ fn n = t * a ∧ Below w.heap.size w wr) (fun _ vn _ _ _ => (intOf vn).toNat)
  case atStart =>
    refine ⟨18446744069414584321, a.val, 0, 1, rfl, by rw [hv], rfl, rfl, hp, hpp, Nat.le_refl _, hg.out, ?_, ?_, Below.refl _ _⟩
    · rw [fn_PP]; grind
    · rw [fn_val]; grind
  case round =>
    obtain ⟨r, n, s, t, rfl, rfl, rfl, rfl, hn, hnr, hr, hgc, hs, ht, hB⟩ := hrel
    have hm := euclid_step hs ht
    have hgc2 := gcd_step r n hgc
    obtain ⟨q, hq⟩ : ∃ q, q = r / n := ⟨_, rfl⟩
    obtain ⟨m, hme⟩ : ∃ m, m = r % n := ⟨_, rfl⟩
    rw [← hq, ← hme] at hm
    rw [← hme] at hgc2
    have hqr : q ≤ r := by rw [hq]; exact Nat.div_le_self _ _
    have hmn : m < n := by rw [hme]; exact Nat.mod_lt _ hn
    have d1 : (r : Int) / (n : Int) = (q : Int) := by rw [hq]; rfl
    have d2 : Int.tdiv (r : Int) (n : Int) = (q : Int) := by rw [hq]; rfl
    have d3 : (r : Int) % (n : Int) = (m : Int) := by rw [hme]; rfl
    have d4 : Int.tmod (r : Int) (n : Int) = (m : Int) := by rw [hme]; rfl
    have hn0 : n ≠ 0 := by omega
    have HM := Lib.hid hm
    have HG := Lib.hid hgc2
    have HT := Lib.hid ht
    clear hq hme hm hgc2 hgc hs ht hg hv h0
    go_wp2
    refine wp_region_late 4 [1,2,3] [] (by kernel_rfl) (by kernel_rfl) (by kernel_rfl) (by kernel_rfl) (by intro _ _ d _ _ h; cases d <;> exact h) trivial ?_
    refine rg_det rfl rfl rfl (fun K hK => ?_)
    go_big_quiet_op
    refine hK _ ?_; clear hK K
    refine rg_det rfl rfl rfl (fun K hK => ?_)
    go_big_quiet_op
    refine hK _ ?_; clear hK K
    refine rg_det rfl rfl rfl (fun K hK => ?_)
    go_big_quiet_op
    refine hK _ ?_; clear hK K
    refine rg_det rfl rfl rfl (fun K hK => ?_)
    go_big_quiet_op
    refine hK _ ?_; clear hK K
    refine rg_nil (fun w' hw' hF => ?_)
    obtain ⟨z, rfl⟩ := hw'
    simp only [List.drop_succ_cons, List.drop_zero]
    refine wpListC_assignU (.int .u64 n) rfl _ rfl ⟨z, rfl⟩ rfl ?_
    intro a' ha
    simp only [Act.put, List.setIfInBounds_toArray, List.set_cons_succ, List.set_cons_zero] at ha
    subst ha
    refine wpListC_assignU (.int .u64 m) rfl _ rfl ⟨z, rfl⟩ rfl ?_
    intro a' ha
    simp only [Act.put, List.setIfInBounds_toArray, List.set_cons_succ, List.set_cons_zero] at ha
    subst ha
    refine wpListC_nil ?_
    have hB2 := hB.trans (z.h.mono hB.size)
    clear d1 d2 d3 d4 hF hB
    go_wp2_with fail
    refine (fMulW q (by omega) t _).mono ?_
    rintro e w' ⟨rfl, rfl⟩
    go_wp2_with fail
    refine (fSub s (fn q * t) _).mono ?_
    rintro e w' ⟨rfl, rfl⟩
    by_cases hm0 : m = 0
    · go_wp2
      rw [Exit.noGoto_ret]
      go_ret2
      subst hm0
      have h1 : n = 1 := by have := HG.out; rwa [Nat.gcd_zero_right] at this
      subst h1
      have h2 : t * a = 1 := by rw [← HT.out, fn_one]
      rw [finv_unique a t h2]
      exact ⟨rfl, hB2⟩
    · go_wp2
      exact ⟨⟨n, m, t, s - fn q * t, rfl, rfl, rfl, rfl, by omega, hmn, by omega, HG.out, HT.out, HM.out, hB2⟩, by simp [intOf]; omega⟩
set_option maxHeartbeats 400000 in
theorem fInv0 (w : World) : Calls Tryd.prog 68 #[.int .u64 0] w fun e w' => e = .returned (.tuple #[.int .u64 0, .int .i64 3]) ∧ w = w' := by
  go_enter Tryd.func68, Tryd.ntmps68
  go_wp2
  go_step3
  go_wp2
  rw [Exit.noGoto_ret]
  go_ret2
  exact ⟨rfl, rfl⟩
theorem nrm_def (x : E) : nrm x = x.a * x.a - 7 * (x.b * x.b) := rfl
set_option maxHeartbeats 400000 in
theorem eNorm (x : E) (w : World) : Calls Tryd.prog 69 #[ev x] w (Ret (.int .u64 (fv (nrm x))) w) := by
  rw [nrm_def]
  unfold ev
  have c7 : ∀ W1, Calls Tryd.prog 85 #[.int .u64 7, .int .u64 (fv (x.b * x.b))] W1 (Ret (.int .u64 (fv (7 * (x.b * x.b)))) W1) := fun W1 => by rw [seven]; exact ret_of_same (fMul 7 (x.b * x.b) W1)
  have C7 := Lib.hid c7
  clear c7
  go_enter Tryd.func69, Tryd.ntmps69
  go_wp2
  refine wp_stk1 fun W hB hz b1 => ?_
  have c1 := gw_blk b1
  refine wp_region_rg 12 [(4, Spec.val (.int .u64 (fv (x.a * x.a)))), (9, Spec.val (.int .u64 (fv (x.b * x.b)))), (10, Spec.val (.int .u64 (fv (7 * (x.b * x.b))))), (11, Spec.val (.int .u64 (fv (x.a * x.a - 7 * (x.b * x.b)))))] (by kernel_rfl) (by kernel_rfl) (by kernel_rfl) trivial ?_
  refine rg_det rfl rfl rfl (fun K hK => ?_)
  go_big_quiet_op
  refine hK _ ?_; clear hK K
  refine rg_det rfl rfl rfl (fun K hK => ?_)
  go_big_quiet_op
  refine hK _ ?_; clear hK K
  refine rg_det rfl rfl rfl (fun K hK => ?_)
  go_big_quiet_op
  refine hK _ ?_; clear hK K
  refine rg_det rfl rfl rfl (fun K hK => ?_)
  go_big_quiet_op
  refine hK _ ?_; clear hK K
  refine rg_val rfl rfl (fun W1 hW1 hF => step_callv en_attestor_field_Mul (ret_of_same (fMul x.a x.a W1)) rfl rfl) ?_
  intro a' ha
  simp only [Act.put, List.setIfInBounds_toArray, List.set_cons_succ, List.set_cons_zero] at ha
  subst ha
  refine rg_det rfl rfl rfl (fun K hK => ?_)
  go_big_quiet_op
  refine hK _ ?_; clear hK K
  refine rg_det rfl rfl rfl (fun K hK => ?_)
  go_big_quiet_op
  refine hK _ ?_; clear hK K
  refine rg_det rfl rfl rfl (fun K hK => ?_)
  go_big_quiet_op
  refine hK _ ?_; clear hK K
  refine rg_det rfl rfl rfl (fun K hK => ?_)
  go_big_quiet_op
  refine hK _ ?_; clear hK K
  refine rg_val rfl rfl (fun W1 hW1 hF => step_callv en_attestor_field_Mul (ret_of_same (fMul x.b x.b W1)) rfl rfl) ?_
  intro a' ha
  simp only [Act.put, List.setIfInBounds_toArray, List.set_cons_succ, List.set_cons_zero] at ha
  subst ha
  refine rg_val rfl rfl (fun W1 hW1 hF => step_callv en_attestor_field_Mul (C7.out W1) rfl rfl) ?_
  intro a' ha
  simp only [Act.put, List.setIfInBounds_toArray, List.set_cons_succ, List.set_cons_zero] at ha
  subst ha
  refine rg_val rfl rfl (fun W1 hW1 hF => step_callv en_attestor_field_Sub (ret_of_same (fSub (x.a * x.a) (7 * (x.b * x.b)) W1)) rfl rfl) ?_
  intro a' ha
  simp only [Act.put, List.setIfInBounds_toArray, List.set_cons_succ, List.set_cons_zero] at ha
  subst ha
  refine rg_nil (fun w' hw' hF => ?_)
  obtain ⟨z, rfl⟩ := hw'
  simp only [List.drop_succ_cons, List.drop_zero]
  clear hF c1
  go_wp2_with fail
  go_ret
  exact ⟨rfl, hB.trans (z.h.mono hB.size)⟩
theorem cnj_a (x : E) : (cnj x).a = x.a := rfl
theorem cnj_b (x : E) : (cnj x).b = 0 - x.b := rfl
set_option maxHeartbeats 400000 in
theorem eConj (x : E) (w : World) : Calls Tryd.prog 71 #[ev x] w (Ret (ev (cnj x)) w) := by
  unfold ev
  rw [cnj_a, cnj_b]
  go_enter Tryd.func71, Tryd.ntmps71
  go_wp2
  refine wp_stk2 fun W hB hz b1 b2 => ?_
  have c1 := gw_blk b1
  refine wp_region_rg 6 [(4, Spec.val (.int .u64 (fv (0 - x.b))))] (by kernel_rfl) (by kernel_rfl) (by kernel_rfl) trivial ?_
  refine rg_det rfl rfl rfl (fun K hK => ?_)
  go_big_quiet_op
  refine hK _ ?_; clear hK K
  refine rg_det rfl rfl rfl (fun K hK => ?_)
  go_big_quiet_op
  refine hK _ ?_; clear hK K
  refine rg_det rfl rfl rfl (fun K hK => ?_)
  go_big_quiet_op
  refine hK _ ?_; clear hK K
  refine rg_det rfl rfl rfl (fun K hK => ?_)
  go_big_quiet_op
  refine hK _ ?_; clear hK K
  refine rg_val rfl rfl (fun W1 hW1 hF => step_callv en_attestor_field_Neg (ret_of_same (fNeg x.b W1)) rfl rfl) ?_
  intro a' ha
  simp only [Act.put, List.setIfInBounds_toArray, List.set_cons_succ, List.set_cons_zero] at ha
  subst ha
  refine rg_det rfl rfl rfl (fun K hK => ?_)
  go_big_quiet_op
  refine hK _ ?_; clear hK K
  refine rg_nil (fun w' hw' hF => ?_)
  obtain ⟨z, rfl⟩ := hw'
  simp only [List.drop_succ_cons, List.drop_zero]
  have e1 := (b2.gw z).cell
  have e2 := (b2.gw z).frozen
  go_wp2
  refine bodyPost_ret (v := .agg #[.int .u64 (fv x.a), .int .u64 (fv (0 - x.b))]) (by simp [results, Tryd.results71, go_sem, e1]) rfl ⟨rfl, ?_⟩
  exact ((hB.trans (z.h.mono hB.size)).setCell (by show w.heap.size ≤ w.heap.size + 1; omega) _).setCell (by show w.heap.size ≤ w.heap.size + 1; omega) _
set_option maxHeartbeats 1000000 in
theorem eInv (x : E) (hx : x ≠ 0) (w : World) : Calls Tryd.prog 42 #[ev x] w (Ret (.tuple #[ev (einv x), .int .i64 0]) w) := by
  have hn := nrm_ne x hx
  have HC := Lib.hid (show cnj x * eb (finv (nrm x)) = einv x from rfl)
  unfold ev
  go_enter Tryd.func42, Tryd.ntmps42
  go_wp2_with fail
  refine calls_stk2 fun W hB hz b1 b2 => ?_
  refine (eNorm x _).mono ?_
  rintro e w2 ⟨rfl, hb⟩
  have b12 := b1.keep hb
  have b22 := b2.keep hb
  go_wp2_with fail
  refine (fInv (nrm x) hn _).mono ?_
  rintro e w2' ⟨rfl, hbi⟩
  replace b12 := b12.keep hbi
  replace b22 := b22.keep hbi
  replace hb := hb.trans (hbi.mono hb.size)
  have e1 := b12.cell
  go_wp2_with fail
  refine (eConj x _).mono ?_
  rintro e w3 ⟨he, hb3⟩
  unfold ev at he
  subst he
  go_wp2_with fail
  refine (eMulBase (cnj x) (finv (nrm x)) _).mono ?_
  rintro e w4 ⟨he, hb4⟩
  rw [HC.out] at he
  unfold ev at he
  subst he
  have hb5 := hb3.trans (hb4.mono hb3.size)
  have b24 := b22.keep hb5
  have e2 := b24.cell
  have e3 := b24.frozen
  clear e1
  go_wp2
  refine bodyPost_ret (v := .tuple #[.agg #[.int .u64 (fv (einv x).a), .int .u64 (fv (einv x).b)], .int .i64 0]) (by simp [results, Tryd.results42, go_sem, e2]) rfl ⟨rfl, ?_⟩
  have hB5 := (hB.trans (hb.mono hB.size))
  exact below_set2 (hB5.trans (hb5.mono hB5.size)) (by omega)
set_option maxHeartbeats 1000000 in
theorem eInv0 (w : World) : Calls Tryd.prog 42 #[ev 0] w (Ret (.tuple #[ev 0, .int .i64 3]) w) := by
  have hn0 : fv (nrm 0) = 0 := by decide +kernel
  unfold ev
  go_enter Tryd.func42, Tryd.ntmps42
  go_wp2_with fail
  refine calls_stk2 fun W hB hz b1 b2 => ?_
  refine (eNorm 0 _).mono ?_
  rintro e w2 ⟨rfl, hb⟩
  have b22 := b2.keep hb
  rw [hn0]
  go_wp2_with fail
  refine (fInv0 _).mono ?_
  rintro e w3 ⟨rfl, rfl⟩
  have e2 := b22.cell
  have e3 := b22.frozen
  go_wp2
  refine bodyPost_ret (v := .tuple #[.agg #[.int .u64 (fv 0), .int .u64 (fv 0)], .int .i64 3]) (by simp [results, Tryd.results42, go_sem, e2, fv0]) rfl ⟨rfl, ?_⟩
  have hB5 := (hB.trans (hb.mono hB.size))
  exact below_set2 hB5 (by omega)
end Go.Proofs.YtphokpkigbonlaaDoor
