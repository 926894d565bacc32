/-
  The inverse of the reference of packages field and ext, by contract.
-/
import Derived.Test.YtnddfeidggcplaaGreatFi
namespace Go.Proofs.YtnddfeidggcplaaGreat
open Go.RowKit

theorem i63_half (m : Nat) (h : m < 18446744073709551616) : ((m : Int) / 2 = ((m / 2 : Nat) : Int)) ∧ ((m : Int).tdiv 2 = ((m / 2 : Nat) : Int)) ∧ ((m : Int).tmod 2 = ((m % 2 : Nat) : Int)) ∧ ((m : Int) % 2 = ((m % 2 : Nat) : Int)) := ⟨rfl, rfl, rfl, rfl⟩
set_option maxRecDepth 100000 in
set_option maxHeartbeats 1000000 in
theorem rPow (a : Fp) (n : Nat) (hn : n < 18446744073709551616) (w : World) : Calls Tryz.prog 121 #[.int .u64 (fv a), .int .u64 n] w (Ret (.int .u64 (fv (rpow a n))) w) := by
  go_enter Tryz.func121, Tryz.ntmps121
  go_wp2
  go_loop [0, 1, 5] (fun x y z => ∃ (b : Fp) (m : Nat) (o : Fp), x = .int .u64 (fv b) ∧ y = .int .u64 (m : Int) ∧ z = .int .u64 (fv o) ∧ m ≤ n ∧ o * rpow b m = rpow a n) (fun _ y _ => (intOf y).toNat)
  case atStart => exact ⟨a, n, 1, rfl, rfl, rfl, Nat.le_refl _, by rw [Fin.one_mul]⟩
  case round =>
    obtain ⟨b, m, o, rfl, rfl, rfl, hm, hinv⟩ := hrel
    have HI := Lib.hid hinv
    clear hinv
    by_cases h0 : 0 < m
    · obtain ⟨q, hq⟩ : ∃ q, q = m / 2 := ⟨_, rfl⟩
      have d1 : (m : Int) / 2 = (q : Int) := by omega
      have d2 : (m : Int).tdiv 2 = (q : Int) := by rw [Int.tdiv_eq_ediv_of_nonneg (by omega)]; omega
      have hqm : q < m := by omega
      by_cases hp : m % 2 = 1
      · have e1 : ((m : Int) % 2 == 1) = true := by simp; omega
        have hinv : (o * b) * rpow (b * b) q = rpow a n := by
          rw [← HI.out, show m = 2 * q + 1 by omega, rpow_odd, Fin.mul_assoc, Fin.mul_comm b]
        have HI2 := Lib.hid hinv
        have e2 : (m : Int) % 2 = 1 := by omega
        clear hinv hq hp
        go_wp2_with fail
        refine (rMul o b _).mono ?_
        rintro e w' ⟨rfl, rfl⟩
        go_wp2_with fail
        refine (rMul b b _).mono ?_
        rintro e w' ⟨rfl, rfl⟩
        go_wp2_with fail
        go_round
        case rel => exact ⟨b * b, q, o * b, rfl, by first | rfl | rw [d1] | rw [d2], rfl, by omega, HI2.out⟩
        case measure => simp [intOf, d1, d2]; omega
      · have e1 : ((m : Int) % 2 == 1) = false := by simp; omega
        have hinv : o * rpow (b * b) q = rpow a n := by
          rw [← HI.out, show m = 2 * q by omega, rpow_two]
        have HI2 := Lib.hid hinv
        have e2 : (m : Int) % 2 = 0 := by omega
        clear hinv hq hp
        go_wp2_with fail
        refine (rMul b b _).mono ?_
        rintro e w' ⟨rfl, rfl⟩
        go_wp2_with fail
        go_round
        case rel => exact ⟨b * b, q, o, rfl, by first | rfl | rw [d1] | rw [d2], rfl, by omega, HI2.out⟩
        case measure => simp [intOf, d1, d2]; omega
    · obtain rfl : m = 0 := by omega
      obtain rfl : o = rpow a n := by have := HI.out; rwa [rpow_zero, Fin.mul_one] at this
      clear HI
      rw [show ((0 : Nat) : Int) = 0 from rfl]
      go_wp2_with fail
      go_ret
      exact ⟨rfl, Below.refl _ _⟩
set_option maxRecDepth 100000 in
set_option maxHeartbeats 1000000 in
theorem rInv (a : Fp) (h : a ≠ 0) (w : World) : Calls Tryz.prog 90 #[.int .u64 (fv a)] w (Ret (.tuple #[.int .u64 (fv (finv a)), .int .i64 0]) w) := by
  have h1 := fv_pos_of_ne a h
  have h2 : (fv a == 0) = false := by simp; omega
  have C : ∀ w, Calls Tryz.prog 121 #[.int .u64 (fv a), .int .u64 18446744069414584319] w (Ret (.int .u64 (fv (finv a))) w) := fun w => rPow a 18446744069414584319 (by decide) w
  have HC := Lib.hid C
  clear C h1
  generalize finv a = y at *
  go_enter Tryz.func90, Tryz.ntmps90
  go_wp2_with fail
  refine (HC.out _).mono ?_
  rintro e w' ⟨rfl, hb⟩
  go_wp2_with fail
  go_ret2
  exact ⟨rfl, hb⟩
set_option maxRecDepth 100000 in
set_option maxHeartbeats 400000 in
theorem xIsZero (x : E) (w : World) : Calls Tryz.prog 88 #[ev x] w (Ret (.bool (decide (x = 0))) w) := by
  have hx : decide (x = 0) = (fv x.a == 0 && fv x.b == 0) := by
    rw [Bool.eq_iff_iff]
    simp only [decide_eq_true_eq, Bool.and_eq_true, beq_iff_eq]
    constructor
    · rintro rfl; exact ⟨rfl, rfl⟩
    · rintro ⟨h1, h2⟩; exact E.ext_ (fv_inj (h1.trans fv0.symm)) (fv_inj (h2.trans fv0.symm))
  rw [hx]
  unfold ev
  go_enter Tryz.func88, Tryz.ntmps88
  clear hx
  go_wp2
  all_goals
    go_ret
    refine ⟨?_, (Below.refl _ _).alloc (Nat.le_refl _) _⟩
    simp [*]
theorem cnj_b' (x : E) : (cnj x).b = -x.b := by
  show 0 - x.b = -x.b
  grind
set_option maxRecDepth 100000 in
set_option maxHeartbeats 400000 in
theorem xConj (x : E) (w : World) : Calls Tryz.prog 89 #[ev x] w (Ret (ev (cnj x)) w) := by
  unfold ev
  rw [show (cnj x).a = x.a from rfl, cnj_b']
  go_enter Tryz.func89, Tryz.ntmps89
  go_wp2
  refine wp_stk2 fun W hB hz b1 b2 => ?_
  have c1 := gw_blk b1
  refine wp_region_rg 6 [(4, Spec.val (.int .u64 (fv (-x.b))))] (by kernel_rfl) (by kernel_rfl) (by kernel_rfl) trivial ?_
  refine rg_det rfl rfl rfl (fun K hK => ?_)
  go_big_quiet_op
  refine hK _ ?_; clear hK K
  refine rg_det rfl rfl rfl (fun K hK => ?_)
  go_big_quiet_op
  refine hK _ ?_; clear hK K
  refine rg_det rfl rfl rfl (fun K hK => ?_)
  go_big_quiet_op
  refine hK _ ?_; clear hK K
  refine rg_det rfl rfl rfl (fun K hK => ?_)
  go_big_quiet_op
  refine hK _ ?_; clear hK K
  refine rg_val rfl rfl (fun W1 hW1 hF => step_callv en_attestor_attestorref01_Neg (ret_of_same (rNeg x.b W1)) rfl rfl) ?_
  intro a' ha
  simp only [Act.put, List.setIfInBounds_toArray, List.set_cons_succ, List.set_cons_zero] at ha
  subst ha
  refine rg_det rfl rfl rfl (fun K hK => ?_)
  go_big_quiet_op
  refine hK _ ?_; clear hK K
  refine rg_nil (fun w' hw' hF => ?_)
  obtain ⟨z, rfl⟩ := hw'
  simp only [List.drop_succ_cons, List.drop_zero]
  have e1 := (b2.gw z).cell
  have e2 := (b2.gw z).frozen
  go_wp2
  refine bodyPost_ret (v := .agg #[.int .u64 (fv x.a), .int .u64 (fv (-x.b))]) (by simp [results, Tryz.results89, go_sem, e1]) rfl ⟨rfl, ?_⟩
  exact ((hB.trans (z.h.mono hB.size)).setCell (by show w.heap.size ≤ w.heap.size + 1; omega) _).setCell (by show w.heap.size ≤ w.heap.size + 1; omega) _
theorem field_a (a b : Int) (w : World) : (Instr.field 30 (.agg #[.int .u64 a, .int .u64 b]) 0).run Tryz.prog w = .ok (.int .u64 a) w := by kernel_rfl
theorem cnj_prod (x : E) : (x * cnj x).a = nrm x := by
  rw [mul_a]
  show x.a * x.a + 7 * (x.b * (0 - x.b)) = x.a * x.a - 7 * (x.b * x.b)
  grind
set_option maxRecDepth 100000 in
set_option maxHeartbeats 1000000 in
theorem xInv (x : E) (hx : x ≠ 0) (w : World) : Calls Tryz.prog 49 #[ev x] w (Ret (.tuple #[ev (einv x), .int .i64 0]) w) := by
  have hn := nrm_ne x hx
  have HZ := Lib.hid (show ∀ W1, Calls Tryz.prog 88 #[ev x] W1 (Ret (.bool false) W1) from fun W1 => by
    have := xIsZero x W1
    rwa [decide_eq_false hx] at this)
  have HC := Lib.hid (show cnj x * eb (finv (nrm x)) = einv x from rfl)
  have HP := Lib.hid (show ∀ W1, Calls Tryz.prog 90 #[.int .u64 (fv (x * cnj x).a)] W1 (Ret (.tuple #[.int .u64 (fv (finv (nrm x))), .int .i64 0]) W1) from fun W1 => by
    rw [cnj_prod]; exact rInv _ hn W1)
  unfold ev
  go_enter Tryz.func49, Tryz.ntmps49
  go_wp2_with fail
  refine calls_stk2 fun W hB hz b1 b2 => ?_
  refine (HZ.out _).mono ?_
  rintro e w2 ⟨rfl, hb⟩
  replace b1 := b1.keep hb
  replace b2 := b2.keep hb
  replace hB := hB.trans (hb.mono hB.size)
  have e1 := b1.cell
  go_wp2_with fail
  refine (xConj x _).mono ?_
  rintro e w3 ⟨he, hb3⟩
  unfold ev at he
  subst he
  have b13 := b1.keep hb3
  have b23 := b2.keep hb3
  have hB3 := hB.trans (hb3.mono hB.size)
  clear e1 b1 b2 hB hb hb3
  go_upto_region 4 with (fail)
  refine wp_stk1 fun W4 hB4 hz4 b4 => ?_
  have hs4 := b13.lt
  have hs5 := b23.lt
  replace b13 := b13.keep hB4
  replace b23 := b23.keep hB4
  have e1 := b13.cell
  have e2 := b4.cell
  have hB5 := hB3.trans (hB4.mono hB3.size)
  clear hz4
  go_wp2_with fail
  refine (xMul x (cnj x) _).mono ?_
  rintro e w5 ⟨he, hb5⟩
  unfold ev at he
  subst he
  have HFa := Lib.hid (field_a (fv (x * cnj x).a) (fv (x * cnj x).b))
  go_wp2_with (simp only [HFa.out])
  refine (HP.out _).mono ?_
  rintro e w6 ⟨rfl, hb6⟩
  have h56 := hb5.trans (hb6.mono hb5.size)
  replace b23 := b23.keep h56
  replace b4 := b4.keep h56
  replace hB5 := hB5.trans (h56.mono hB5.size)
  replace e2 := b4.cell
  clear e1
  go_wp2_with fail
  refine (xMulBase (cnj x) (finv (nrm x)) _).mono ?_
  rintro e w7 ⟨he, hb7⟩
  rw [HC.out] at he
  unfold ev at he
  subst he
  replace b23 := b23.keep hb7
  replace hB5 := hB5.trans (hb7.mono hB5.size)
  have e3 := b23.cell
  have e4 := b23.frozen
  clear e2
  go_wp2
  refine bodyPost_ret (v := .tuple #[.agg #[.int .u64 (fv (einv x).a), .int .u64 (fv (einv x).b)], .int .i64 0]) (by simp [results, Tryz.results49, go_sem, e3]) rfl ⟨rfl, ?_⟩
  exact below_set2 hB5 (by omega)
end Go.Proofs.YtnddfeidggcplaaGreat
