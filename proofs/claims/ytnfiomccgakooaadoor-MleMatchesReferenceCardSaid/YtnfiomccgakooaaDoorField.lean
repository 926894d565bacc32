/-
  The functions of package field and of its reference that only compute, each by its contract: what they return for field elements.
-/
import Derived.Test.YtnfiomccgakooaaDoorShelf
import Derived.Test.YtnfiomccgakooaaDoorFld
import Derived.WalkKit
import Derived.WalkSpells
import Derived.WalkLawsBesides
import Derived.Laws.BitsAllLaws
import Derived.Lib.Hide
namespace Go.Proofs.YtnfiomccgakooaaDoor
open Go.RowKit

theorem ret_i {k : IntKind} {a b : Int} (h : a = b) : Ending.returned (.int k a) = .returned (.int k b) := by rw [h]
theorem and_mask (x : Int) (h0 : 0 ≤ x) (h1 : x < 18446744073709551616) : bits .and .u64 x 4294967295 = x % 4294967296 := by
  rw [u64_and x 4294967295 h0 h1 (by omega) (by omega)]
  rw [show (4294967295 : Int).toNat = 2 ^ 32 - 1 from rfl, Nat.and_two_pow_sub_one_eq_mod]
  omega

set_option maxRecDepth 100000 in
set_option maxHeartbeats 400000 in
theorem fRed_lo (x : Int) (h0 : 0 ≤ x) (h1 : x < 18446744069414584321) (w : World) :
    Calls Tryd.prog 77 #[.int .u64 x] w fun e w' => e = .returned (.int .u64 x) ∧ w = w' := by
  go_enter Tryd.func77, Tryd.ntmps77
  go_wp2
  go_ret
  exact ⟨rfl, rfl⟩
set_option maxRecDepth 100000 in
set_option maxHeartbeats 400000 in
theorem fRed_hi (x : Int) (h0 : 18446744069414584321 ≤ x) (h1 : x < 18446744073709551616) (w : World) :
    Calls Tryd.prog 77 #[.int .u64 x] w fun e w' => e = .returned (.int .u64 (x - 18446744069414584321)) ∧ w = w' := by
  go_enter Tryd.func77, Tryd.ntmps77
  go_wp2
  go_ret
  exact ⟨rfl, rfl⟩
theorem fRed (x : Int) (h0 : 0 ≤ x) (h1 : x < 18446744073709551616) (w : World) :
    Calls Tryd.prog 77 #[.int .u64 x] w fun e w' => e = .returned (.int .u64 (x % 18446744069414584321)) ∧ w = w' := by
  by_cases h : x < 18446744069414584321
  · refine (fRed_lo x h0 h w).mono ?_
    rintro e w' ⟨rfl, rfl⟩
    exact ⟨by rw [show x % 18446744069414584321 = x by omega], rfl⟩
  · refine (fRed_hi x (by omega) h1 w).mono ?_
    rintro e w' ⟨rfl, rfl⟩
    exact ⟨by rw [show x % 18446744069414584321 = x - 18446744069414584321 by omega], rfl⟩
set_option maxRecDepth 100000 in
set_option maxHeartbeats 400000 in
theorem fAdd_i (x y : Int) (hx : 0 ≤ x) (hx' : x < 18446744069414584321) (hy : 0 ≤ y) (hy' : y < 18446744069414584321) (w : World) :
    Calls Tryd.prog 67 #[.int .u64 x, .int .u64 y] w fun e w' => e = .returned (.int .u64 ((x + y) % 18446744069414584321)) ∧ w = w' := by
  go_enter Tryd.func67, Tryd.ntmps67
  go_wp2_with (simp only [add64_0 x y hx hy])
  all_goals
    go_ret
    refine ⟨ret_i ?_, rfl⟩
    try simp only [IntKind.wrap_u64]
    omega
set_option maxRecDepth 100000 in
set_option maxHeartbeats 400000 in
theorem fSub_i (x y : Int) (hx : 0 ≤ x) (hx' : x < 18446744069414584321) (hy : 0 ≤ y) (hy' : y < 18446744069414584321) (w : World) :
    Calls Tryd.prog 66 #[.int .u64 x, .int .u64 y] w fun e w' => e = .returned (.int .u64 ((x - y) % 18446744069414584321)) ∧ w = w' := by
  have hy2 : y < 18446744073709551616 := by omega
  by_cases h : x < y
  · have hs := sub64_0 x y hx hy hy2
    rw [if_pos h] at hs
    go_enter Tryd.func66, Tryd.ntmps66
    go_wp2_with (simp only [hs])
    go_ret
    refine ⟨ret_i ?_, rfl⟩
    try simp only [IntKind.wrap_u64]
    omega
  · have hs := sub64_0 x y hx hy hy2
    rw [if_neg h] at hs
    go_enter Tryd.func66, Tryd.ntmps66
    go_wp2_with (simp only [hs])
    go_ret
    refine ⟨ret_i ?_, rfl⟩
    try simp only [IntKind.wrap_u64]
    omega
theorem mul_bd (x y : Int) (hx : 0 ≤ x) (hx' : x < 18446744069414584321) (hy : 0 ≤ y) (hy' : y < 18446744069414584321) : 0 ≤ x * y ∧ x * y < 340282366920938463463374607431768211456 := by
  refine ⟨Int.mul_nonneg hx hy, ?_⟩
  have h1 : x * y ≤ 18446744069414584320 * y := Int.mul_le_mul_of_nonneg_right (by omega) hy
  omega
set_option maxRecDepth 100000 in
set_option maxHeartbeats 400000 in
theorem fMul_m (x y m : Int) (hm : Hid (m = x * y)) (m0 : 0 ≤ m) (m1 : m < 340282366920938463463374607431768211456) (hx : 0 ≤ x) (hx' : x < 18446744073709551616) (hy : 0 ≤ y) (hy' : y < 18446744069414584321) (w : World) :
    Calls Tryd.prog 72 #[.int .u64 x, .int .u64 y] w fun e w' => e = .returned (.int .u64 (m % 18446744069414584321)) ∧ w = w' := by
  have c1 : ∀ w, Calls Tryd.prog 76 #[.int .u64 x, .int .u64 y] w fun e w' => e = .returned (.tuple #[.int .u64 (m / 18446744073709551616), .int .u64 (m % 18446744073709551616)]) ∧ w = w' := fun w => by
    rw [hm.out]
    exact mul64_i x y hx hx' hy (by omega) w
  have C1 := Lib.hid c1
  clear c1
  have a1 : 0 ≤ m / 18446744073709551616 := by omega
  have a2 : m / 18446744073709551616 < 18446744073709551616 := by omega
  have a3 : 0 ≤ m % 18446744073709551616 := by omega
  have a4 : m % 18446744073709551616 < 18446744073709551616 := by omega
  have a5 : 0 ≤ m % 18446744073709551616 % 18446744069414584321 := by omega
  have a6 : m % 18446744073709551616 % 18446744069414584321 < 18446744069414584321 := by omega
  have a7 : 0 ≤ m / 18446744073709551616 / 4294967296 := by omega
  have a8 : m / 18446744073709551616 / 4294967296 < 18446744069414584321 := by omega
  have b1 : 0 ≤ m / 18446744073709551616 % 4294967296 * 4294967295 := by omega
  have b2 : m / 18446744073709551616 % 4294967296 * 4294967295 < 18446744073709551616 := by omega
  have b3 : 0 ≤ (m % 18446744073709551616 - m / 18446744073709551616 / 4294967296) % 18446744069414584321 := by omega
  have b4 : (m % 18446744073709551616 - m / 18446744073709551616 / 4294967296) % 18446744069414584321 < 18446744069414584321 := by omega
  have b5 : 0 ≤ m / 18446744073709551616 % 4294967296 * 4294967295 % 18446744069414584321 := by omega
  have b6 : m / 18446744073709551616 % 4294967296 * 4294967295 % 18446744069414584321 < 18446744069414584321 := by omega
  have am := and_mask (m / 18446744073709551616) a1 a2
  have fin := Lib.hid (mul_law m m0 m1)
  go_enter Tryd.func72, Tryd.ntmps72
  go_wp2_with fail
  refine (C1.out _).mono ?_
  rintro e w' ⟨rfl, rfl⟩
  go_wp2_with fail
  refine (fRed _ a3 a4 _).mono ?_
  rintro e w' ⟨rfl, rfl⟩
  go_wp2_with fail
  refine (fSub_i _ _ a5 a6 a7 a8 _).mono ?_
  rintro e w' ⟨rfl, rfl⟩
  go_wp2_with fail
  refine (fRed _ b1 b2 _).mono ?_
  rintro e w' ⟨rfl, rfl⟩
  go_wp2_with fail
  refine (fAdd_i _ _ b3 b4 b5 b6 _).mono ?_
  rintro e w' ⟨rfl, rfl⟩
  go_wp2_with fail
  go_ret
  refine ⟨ret_i ?_, rfl⟩
  clear C1 fin am
  omega
theorem fAdd (a b : Fp) (w : World) :
    Calls Tryd.prog 67 #[.int .u64 (fv a), .int .u64 (fv b)] w fun e w' => e = .returned (.int .u64 (fv (a + b))) ∧ w = w' := by
  rw [fv_add]; exact fAdd_i _ _ (fv_lo a) (fv_hi a) (fv_lo b) (fv_hi b) w
theorem fSub (a b : Fp) (w : World) :
    Calls Tryd.prog 66 #[.int .u64 (fv a), .int .u64 (fv b)] w fun e w' => e = .returned (.int .u64 (fv (a - b))) ∧ w = w' := by
  rw [fv_sub]; exact fSub_i _ _ (fv_lo a) (fv_hi a) (fv_lo b) (fv_hi b) w
theorem fMul (a b : Fp) (w : World) :
    Calls Tryd.prog 72 #[.int .u64 (fv a), .int .u64 (fv b)] w fun e w' => e = .returned (.int .u64 (fv (a * b))) ∧ w = w' := by
  rw [fv_mul]
  have h := mul_bd (fv a) (fv b) (fv_lo a) (fv_hi a) (fv_lo b) (fv_hi b)
  exact fMul_m _ _ _ (Lib.hid rfl) h.1 h.2 (fv_lo a) (by have := fv_hi a; omega) (fv_lo b) (fv_hi b) w

/-! ### The reference -/
set_option maxRecDepth 100000 in
set_option maxHeartbeats 400000 in
theorem rRed (x : Int) (h0 : 0 ≤ x) (h1 : x < 18446744073709551616) (w : World) :
    Calls Tryd.prog 35 #[.int .u64 x] w fun e w' => e = .returned (.int .u64 (x % 18446744069414584321)) ∧ w = w' := by
  go_enter Tryd.func35, Tryd.ntmps35
  go_wp2
  go_ret
  exact ⟨ret_i (by first | omega | (simp only [IntKind.wrap_u64]; omega)), rfl⟩
set_option maxRecDepth 100000 in
set_option maxHeartbeats 400000 in
theorem rAdd_i (x y : Int) (hx : 0 ≤ x) (hx' : x < 18446744069414584321) (hy : 0 ≤ y) (hy' : y < 18446744069414584321) (w : World) :
    Calls Tryd.prog 60 #[.int .u64 x, .int .u64 y] w fun e w' => e = .returned (.int .u64 ((x + y) % 18446744069414584321)) ∧ w = w' := by
  go_enter Tryd.func60, Tryd.ntmps60
  go_wp2
  all_goals
    go_ret
    exact ⟨ret_i (by first | omega | (simp only [IntKind.wrap_u64]; omega)), rfl⟩
theorem rAdd (a b : Fp) (w : World) :
    Calls Tryd.prog 60 #[.int .u64 (fv a), .int .u64 (fv b)] w fun e w' => e = .returned (.int .u64 (fv (a + b))) ∧ w = w' := by
  rw [fv_add]; exact rAdd_i _ _ (fv_lo a) (fv_hi a) (fv_lo b) (fv_hi b) w
set_option maxRecDepth 100000 in
set_option maxHeartbeats 400000 in
theorem rNeg_i (x : Int) (hx : 0 ≤ x) (hx' : x < 18446744069414584321) (w : World) :
    Calls Tryd.prog 71 #[.int .u64 x] w fun e w' => e = .returned (.int .u64 ((-x) % 18446744069414584321)) ∧ w = w' := by
  by_cases h : x = 0
  · subst h
    go_enter Tryd.func71, Tryd.ntmps71
    go_wp2
    go_ret
    exact ⟨ret_i (by first | omega | (simp only [IntKind.wrap_u64]; omega)), rfl⟩
  · have h' : (x == 0) = false := beq_eq_false_iff_ne.2 h
    go_enter Tryd.func71, Tryd.ntmps71
    go_wp2
    go_ret
    exact ⟨ret_i (by first | omega | (simp only [IntKind.wrap_u64]; omega)), rfl⟩
theorem rNeg (a : Fp) (w : World) :
    Calls Tryd.prog 71 #[.int .u64 (fv a)] w fun e w' => e = .returned (.int .u64 (fv (-a))) ∧ w = w' := by
  rw [fv_neg]; exact rNeg_i _ (fv_lo a) (fv_hi a) w
set_option maxRecDepth 100000 in
set_option maxHeartbeats 400000 in
theorem rFromInt (x : Int) (hx : -9223372036854775808 ≤ x) (hx' : x ≤ 9223372036854775807) (w : World) :
    Calls Tryd.prog 53 #[.int .i64 x] w fun e w' => e = .returned (.int .u64 (fv (fz x))) ∧ w = w' := by
  rw [fv_fz]
  go_enter Tryd.func53, Tryd.ntmps53
  go_wp2
  all_goals
    go_ret
    exact ⟨ret_i (by first | omega | (simp only [IntKind.wrap_u64]; omega)), rfl⟩
set_option maxRecDepth 100000 in
set_option maxHeartbeats 400000 in
theorem rShift_i (x : Int) (hx : 0 ≤ x) (hx' : x < 18446744069414584321) (w : World) :
    Calls Tryd.prog 70 #[.int .u64 x] w fun e w' => e = .returned (.int .u64 ((x * 4294967296) % 18446744069414584321)) ∧ w = w' := by
  have b0 : 0 ≤ x % 4294967296 * 4294967296 := by omega
  have b1 : x % 4294967296 * 4294967296 < 18446744073709551616 := by omega
  have b2 : 0 ≤ x / 4294967296 * 4294967295 := by omega
  have b3 : x / 4294967296 * 4294967295 < 18446744073709551616 := by omega
  have b4 : 0 ≤ x % 4294967296 * 4294967296 % 18446744069414584321 := by omega
  have b5 : x % 4294967296 * 4294967296 % 18446744069414584321 < 18446744069414584321 := by omega
  have b6 : 0 ≤ x / 4294967296 * 4294967295 % 18446744069414584321 := by omega
  have b7 : x / 4294967296 * 4294967295 % 18446744069414584321 < 18446744069414584321 := by omega
  go_enter Tryd.func70, Tryd.ntmps70
  go_wp2_with fail
  refine (rRed _ b0 b1 _).mono ?_
  rintro e w' ⟨rfl, rfl⟩
  go_wp2_with fail
  refine (rRed _ b2 b3 _).mono ?_
  rintro e w' ⟨rfl, rfl⟩
  go_wp2_with fail
  refine (rAdd_i _ _ b4 b5 b6 b7 _).mono ?_
  rintro e w' ⟨rfl, rfl⟩
  go_wp2_with fail
  go_ret
  exact ⟨ret_i (by first | omega | (simp only [IntKind.wrap_u64]; omega)), rfl⟩
theorem half_bd (u y : Int) (hu : 0 ≤ u) (hu' : u ≤ 4294967295) (hy : 0 ≤ y) (hy' : y ≤ 4294967295) : 0 ≤ u * y ∧ u * y < 18446744073709551616 := by
  refine ⟨Int.mul_nonneg hu hy, ?_⟩
  have h1 : u * y ≤ 4294967295 * y := Int.mul_le_mul_of_nonneg_right hu' hy
  omega
set_option maxRecDepth 100000 in
set_option maxHeartbeats 400000 in
theorem rHalf_m (x y s t : Int) (hs : Hid (x % 4294967296 * y = s)) (ht : Hid (x / 4294967296 * y = t)) (s0 : 0 ≤ s) (s1 : s < 18446744073709551616) (t0 : 0 ≤ t) (t1 : t < 18446744073709551616) (hx : 0 ≤ x) (hx' : x < 18446744069414584321) (_hy : 0 ≤ y) (_hy' : y ≤ 4294967295) (w : World) :
    Calls Tryd.prog 69 #[.int .u64 x, .int .u64 y] w fun e w' => e = .returned (.int .u64 ((s + 4294967296 * t) % 18446744069414584321)) ∧ w = w' := by
  have u1 : IntKind.u64.wrap (x % 4294967296 * y) = s := by rw [hs.out]; exact IntWalk.u64_in _ (by omega)
  have u2 : IntKind.u64.wrap (x / 4294967296 * y) = t := by rw [ht.out]; exact IntWalk.u64_in _ (by omega)
  have b4 : 0 ≤ s % 18446744069414584321 := by omega
  have b5 : s % 18446744069414584321 < 18446744069414584321 := by omega
  have b6 : 0 ≤ t % 18446744069414584321 := by omega
  have b7 : t % 18446744069414584321 < 18446744069414584321 := by omega
  have b8 : 0 ≤ t % 18446744069414584321 * 4294967296 % 18446744069414584321 := by omega
  have b9 : t % 18446744069414584321 * 4294967296 % 18446744069414584321 < 18446744069414584321 := by omega
  go_enter Tryd.func69, Tryd.ntmps69
  go_wp2_with fail
  refine (rRed s s0 s1 _).mono ?_
  rintro e w' ⟨rfl, rfl⟩
  go_wp2_with fail
  refine (rRed t t0 t1 _).mono ?_
  rintro e w' ⟨rfl, rfl⟩
  go_wp2_with fail
  refine (rShift_i _ b6 b7 _).mono ?_
  rintro e w' ⟨rfl, rfl⟩
  go_wp2_with fail
  refine (rAdd_i _ _ b4 b5 b8 b9 _).mono ?_
  rintro e w' ⟨rfl, rfl⟩
  go_wp2_with fail
  go_ret
  refine ⟨ret_i ?_, rfl⟩
  clear u1 u2 hs ht
  omega
theorem rHalf_i (x y : Int) (hx : 0 ≤ x) (hx' : x < 18446744069414584321) (hy : 0 ≤ y) (hy' : y ≤ 4294967295) (w : World) :
    Calls Tryd.prog 69 #[.int .u64 x, .int .u64 y] w fun e w' => e = .returned (.int .u64 ((x * y) % 18446744069414584321)) ∧ w = w' := by
  have h1 := half_bd (x % 4294967296) y (by omega) (by omega) hy hy'
  have h2 := half_bd (x / 4294967296) y (by omega) (by omega) hy hy'
  have e : x * y = x % 4294967296 * y + 4294967296 * (x / 4294967296 * y) := by
    have : x = x % 4294967296 + 4294967296 * (x / 4294967296) := by omega
    calc x * y = (x % 4294967296 + 4294967296 * (x / 4294967296)) * y := by rw [← this]
      _ = _ := by rw [Int.add_mul, Int.mul_assoc]
  rw [e]
  exact rHalf_m x y _ _ (Lib.hid rfl) (Lib.hid rfl) h1.1 h1.2 h2.1 h2.2 hx hx' hy hy' w
theorem mulr_law (s t : Int) : (s % 18446744069414584321 + t % 18446744069414584321 * 4294967296 % 18446744069414584321) % 18446744069414584321 = (s + 4294967296 * t) % 18446744069414584321 := by omega
set_option maxRecDepth 100000 in
set_option maxHeartbeats 400000 in
theorem rMul_m (x y s t : Int) (hs : Hid (x * (y % 4294967296) = s)) (ht : Hid (x * (y / 4294967296) = t)) (hx : 0 ≤ x) (hx' : x < 18446744069414584321) (hy : 0 ≤ y) (hy' : y < 18446744069414584321) (w : World) :
    Calls Tryd.prog 61 #[.int .u64 x, .int .u64 y] w fun e w' => e = .returned (.int .u64 ((s + 4294967296 * t) % 18446744069414584321)) ∧ w = w' := by
  have c1 := rHalf_i x (y % 4294967296) hx hx' (by omega) (by omega)
  have c2 := rHalf_i x (y / 4294967296) hx hx' (by omega) (by omega)
  rw [hs.out] at c1
  rw [ht.out] at c2
  have C1 := Lib.hid c1
  have C2 := Lib.hid c2
  clear c1 c2
  have b4 : 0 ≤ s % 18446744069414584321 := by omega
  have b5 : s % 18446744069414584321 < 18446744069414584321 := by omega
  have b6 : 0 ≤ t % 18446744069414584321 := by omega
  have b7 : t % 18446744069414584321 < 18446744069414584321 := by omega
  have b8 : 0 ≤ t % 18446744069414584321 * 4294967296 % 18446744069414584321 := by omega
  have b9 : t % 18446744069414584321 * 4294967296 % 18446744069414584321 < 18446744069414584321 := by omega
  go_enter Tryd.func61, Tryd.ntmps61
  go_wp2_with fail
  refine (C1.out _).mono ?_
  rintro e w' ⟨rfl, rfl⟩
  go_wp2_with fail
  refine (C2.out _).mono ?_
  rintro e w' ⟨rfl, rfl⟩
  go_wp2_with fail
  refine (rShift_i _ b6 b7 _).mono ?_
  rintro e w' ⟨rfl, rfl⟩
  go_wp2_with fail
  refine (rAdd_i _ _ b4 b5 b8 b9 _).mono ?_
  rintro e w' ⟨rfl, rfl⟩
  go_wp2_with fail
  go_ret
  refine ⟨ret_i ?_, rfl⟩
  clear C1 C2 hs ht
  omega
theorem rMul (a b : Fp) (w : World) :
    Calls Tryd.prog 61 #[.int .u64 (fv a), .int .u64 (fv b)] w fun e w' => e = .returned (.int .u64 (fv (a * b))) ∧ w = w' := by
  rw [fv_mul]
  have e : fv a * fv b = fv a * (fv b % 4294967296) + 4294967296 * (fv a * (fv b / 4294967296)) := by
    have : fv b = fv b % 4294967296 + 4294967296 * (fv b / 4294967296) := by omega
    calc fv a * fv b = fv a * (fv b % 4294967296 + 4294967296 * (fv b / 4294967296)) := by rw [← this]
      _ = _ := by rw [Int.mul_add, Int.mul_left_comm]
  rw [e]
  exact rMul_m _ _ _ _ (Lib.hid rfl) (Lib.hid rfl) (fv_lo a) (fv_hi a) (fv_lo b) (fv_hi b) w
end Go.Proofs.YtnfiomccgakooaaDoor
