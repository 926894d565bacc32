/-
  The library contracts of math/bits.Mul64, Add64 and Sub64 laid at this seat's translation, in plain words (the text that the shelf's lay-plain tool wrote, with the numbers named).
  Plain mathematics, no program: the prime field as Fin of the prime, its elements as integers, and the quadratic extension as pairs.
  The functions of package field and of its reference that only compute, each by its contract: what they return for field elements.
  Plain mathematics, no program: the ring of the extension field, weights of vertices, multilinear extensions.
-/
import Derived.Shelf.Bits.Mul64
import Derived.Shelf.Spec.BitsCarry
import Derived.Test.YtnddfeidggcplaaGreatProg
import Derived.WalkKit
import Derived.WalkSpells
import Derived.WalkLawsBesides
import Derived.Laws.BitsAllLaws
import Derived.Lib.Hide
namespace Go.Proofs.YtnddfeidggcplaaGreat
open Go.Shelf
def lays264_ren : Go.Shelf.Ren := ⟨fun | 264 => 135 | n => n, fun | 53 => 28 | 46 => 99 | n => n, fun | n => n⟩
theorem lays264 : Go.Proofs.Lays.n264 Tryz.prog lays264_ren := {
  mixed := by kernel_rfl
  f264 := Tryz.func135.trans (congrArg some (by kernel_rfl))
  t46 := Tryz.underlying99
  a46 := Tryz.isAgg99
  z46 := Tryz.sizeOf99
  v46 := Tryz.zeroValue99
  t53 := Tryz.underlying28
  a53 := Tryz.isAgg28
  z53 := Tryz.sizeOf28
  v53 := Tryz.zeroValue28 }
open Go.RowKit Go.Lib in
theorem bits_Mul64 (x y : Nat) (hx : x < 18446744073709551616) (hy : y < 18446744073709551616) (w : World) :
    Calls Tryz.prog 135 #[.int .u64 x, .int .u64 y] w fun e w' => e = .returned (.tuple #[.int .u64 ((x * y / 18446744073709551616 : Nat) : Int), .int .u64 ((x * y % 18446744073709551616 : Nat) : Int)]) ∧ w' = w := Any.bits_Mul64 lays264 x y hx hy w
def lays25_ren : Go.Shelf.Ren := ⟨fun | 25 => 116 | n => n, fun | 22 => 28 | n => n, fun | n => n⟩
theorem lays25 : Go.Proofs.Lays7.n25 Tryz.prog lays25_ren := {
  mixed := by kernel_rfl
  f25 := Tryz.func116.trans (congrArg some (by kernel_rfl))
  t22 := Tryz.underlying28
  a22 := Tryz.isAgg28
  z22 := Tryz.sizeOf28
  v22 := Tryz.zeroValue28
  i22 := by kernel_rfl }
def lays26_ren : Go.Shelf.Ren := ⟨fun | 26 => 119 | n => n, fun | 22 => 28 | n => n, fun | n => n⟩
theorem lays26 : Go.Proofs.Lays7.n26 Tryz.prog lays26_ren := {
  mixed := by kernel_rfl
  f26 := Tryz.func119.trans (congrArg some (by kernel_rfl))
  t22 := Tryz.underlying28
  a22 := Tryz.isAgg28
  z22 := Tryz.sizeOf28
  v22 := Tryz.zeroValue28
  i22 := by kernel_rfl }
theorem add64_0 (x y : Int) (hx : 0 ≤ x) (hy : 0 ≤ y) (w : World) : (callFunc 116 #[.int .u64 x, .int .u64 y, .int .u64 0]).run Tryz.prog w =
    .ok (.value (.tuple #[.int .u64 ((x + y) % 18446744073709551616), .int .u64 ((x + y) / 18446744073709551616)])) w := by
  obtain ⟨x, rfl⟩ := Int.eq_ofNat_of_zero_le hx
  obtain ⟨y, rfl⟩ := Int.eq_ofNat_of_zero_le hy
  refine (Any7.bits_Add64 lays25 x y 0 (by omega) w).trans ?_
  congr 5 <;> omega
theorem sub64_0 (x y : Int) (hx : 0 ≤ x) (hy : 0 ≤ y) (hy' : y < 18446744073709551616) (w : World) : (callFunc 119 #[.int .u64 x, .int .u64 y, .int .u64 0]).run Tryz.prog w =
    .ok (.value (.tuple #[.int .u64 ((x - y) % 18446744073709551616), .int .u64 (if x < y then 1 else 0)])) w := by
  obtain ⟨x, rfl⟩ := Int.eq_ofNat_of_zero_le hx
  obtain ⟨y, rfl⟩ := Int.eq_ofNat_of_zero_le hy
  have e1 : (((x + 18446744073709551616 - y - 0) % 18446744073709551616 : Nat) : Int) = ((x : Int) - y) % 18446744073709551616 := by omega
  have e2 : ((if x < y + 0 then 1 else 0 : Nat) : Int) = if (x : Int) < y then 1 else 0 := by split <;> split <;> omega
  rw [← e1, ← e2]
  exact Any7.bits_Sub64 lays26 x y 0 (by omega) w
theorem mul64_i (x y : Int) (hx : 0 ≤ x) (hx' : x < 18446744073709551616) (hy : 0 ≤ y) (hy' : y < 18446744073709551616) (w : World) :
    Calls Tryz.prog 135 #[.int .u64 x, .int .u64 y] w fun e w' => e = .returned (.tuple #[.int .u64 (x * y / 18446744073709551616), .int .u64 (x * y % 18446744073709551616)]) ∧ w = w' := by
  obtain ⟨x, rfl⟩ := Int.eq_ofNat_of_zero_le hx
  obtain ⟨y, rfl⟩ := Int.eq_ofNat_of_zero_le hy
  refine (bits_Mul64 x y (by omega) (by omega) w).mono ?_
  rintro e w' ⟨rfl, rfl⟩
  exact ⟨by simp, rfl⟩
end Go.Proofs.YtnddfeidggcplaaGreat
namespace Go.Proofs.YtnddfeidggcplaaGreat
def PP : Nat := 18446744069414584321
instance : NeZero PP := ⟨by decide⟩
abbrev Fp := Fin PP
def fv (a : Fp) : Int := (a.val : Int)
def QQ : Int := 18446744069414584321
theorem fv_lo (a : Fp) : 0 ≤ fv a := Int.natCast_nonneg _
theorem fv_hi (a : Fp) : fv a < 18446744069414584321 := by
  have h := a.isLt
  unfold fv; unfold PP at h; omega
theorem fv_inj {a b : Fp} (h : fv a = fv b) : a = b := by
  unfold fv at h; exact Fin.ext (by omega)
theorem fv_add (a b : Fp) : fv (a + b) = (fv a + fv b) % 18446744069414584321 := by
  unfold fv; rw [Fin.val_add]; unfold PP; omega
theorem fv_mul (a b : Fp) : fv (a * b) = (fv a * fv b) % 18446744069414584321 := by
  unfold fv; rw [Fin.val_mul]; unfold PP; simp
theorem fv_sub (a b : Fp) : fv (a - b) = (fv a - fv b) % 18446744069414584321 := by
  have h := b.isLt
  unfold fv; rw [Fin.sub_def]; simp only []; unfold PP at *; omega
theorem fv_neg (a : Fp) : fv (-a) = (- fv a) % 18446744069414584321 := by
  have h := a.isLt
  unfold fv; rw [Fin.neg_def]; simp only []; unfold PP at *; omega
theorem fv_zero : fv 0 = 0 := rfl
theorem fv_one : fv 1 = 1 := rfl
def fz (z : Int) : Fp := Fin.ofNat PP (z % 18446744069414584321).toNat
theorem fv_fz (z : Int) : fv (fz z) = z % 18446744069414584321 := by
  unfold fv fz; rw [Fin.val_ofNat]; unfold PP; omega

structure E where
  a : Fp
  b : Fp
deriving DecidableEq
theorem E.ext_ {x y : E} (h : x.a = y.a) (h' : x.b = y.b) : x = y := by cases x; cases y; simp_all
instance : Add E := ⟨fun x y => ⟨x.a + y.a, x.b + y.b⟩⟩
instance : Sub E := ⟨fun x y => ⟨x.a - y.a, x.b - y.b⟩⟩
instance : Neg E := ⟨fun x => ⟨-x.a, -x.b⟩⟩
instance : Mul E := ⟨fun x y => ⟨x.a * y.a + 7 * (x.b * y.b), x.a * y.b + x.b * y.a⟩⟩
instance : Zero E := ⟨⟨0, 0⟩⟩
instance : One E := ⟨⟨1, 0⟩⟩
theorem add_a (x y : E) : (x + y).a = x.a + y.a := rfl
theorem add_b (x y : E) : (x + y).b = x.b + y.b := rfl
theorem sub_a (x y : E) : (x - y).a = x.a - y.a := rfl
theorem sub_b (x y : E) : (x - y).b = x.b - y.b := rfl
theorem mul_a (x y : E) : (x * y).a = x.a * y.a + 7 * (x.b * y.b) := rfl
theorem mul_b (x y : E) : (x * y).b = x.a * y.b + x.b * y.a := rfl
theorem one_a : (1 : E).a = 1 := rfl
theorem one_b : (1 : E).b = 0 := rfl
theorem zero_a : (0 : E).a = 0 := rfl
theorem zero_b : (0 : E).b = 0 := rfl
theorem E.mul_assoc (x y z : E) : x * y * z = x * (y * z) := by
  apply E.ext_ <;> simp only [mul_a, mul_b] <;> grind
theorem E.mul_comm (x y : E) : x * y = y * x := by
  apply E.ext_ <;> simp only [mul_a, mul_b] <;> grind

/-- the two steps of Mul: 2^64 = 2^32 - 1 and 2^96 = -1 -/
theorem mul_law (m : Int) (_h0 : 0 ≤ m) (_h1 : m < 340282366920938463463374607431768211456) :
    (((m % 18446744073709551616) % 18446744069414584321 - m / 18446744073709551616 / 4294967296) % 18446744069414584321 +
      (m / 18446744073709551616 % 4294967296 * 4294967295) % 18446744069414584321) % 18446744069414584321 = m % 18446744069414584321 := by omega
theorem fv_pos_of_ne (a : Fp) (h : a ≠ 0) : 0 < fv a := by
  have h0 := fv_lo a
  have : fv a ≠ 0 := fun e => h (fv_inj (e.trans fv_zero.symm))
  omega
end Go.Proofs.YtnddfeidggcplaaGreat
namespace Go.Proofs.YtnddfeidggcplaaGreat
open Go.RowKit

theorem ret_i {k : IntKind} {a b : Int} (h : a = b) : Ending.returned (.int k a) = .returned (.int k b) := by rw [h]
theorem and_mask (x : Int) (h0 : 0 ≤ x) (h1 : x < 18446744073709551616) : bits .and .u64 x 4294967295 = x % 4294967296 := by
  rw [u64_and x 4294967295 h0 h1 (by omega) (by omega)]
  rw [show (4294967295 : Int).toNat = 2 ^ 32 - 1 from rfl, Nat.and_two_pow_sub_one_eq_mod]
  omega

set_option maxRecDepth 100000 in
set_option maxHeartbeats 400000 in
theorem fRed_lo (x : Int) (h0 : 0 ≤ x) (h1 : x < 18446744069414584321) (w : World) :
    Calls Tryz.prog 136 #[.int .u64 x] w fun e w' => e = .returned (.int .u64 x) ∧ w = w' := by
  go_enter Tryz.func136, Tryz.ntmps136
  go_wp2
  go_ret
  exact ⟨rfl, rfl⟩
set_option maxRecDepth 100000 in
set_option maxHeartbeats 400000 in
theorem fRed_hi (x : Int) (h0 : 18446744069414584321 ≤ x) (h1 : x < 18446744073709551616) (w : World) :
    Calls Tryz.prog 136 #[.int .u64 x] w fun e w' => e = .returned (.int .u64 (x - 18446744069414584321)) ∧ w = w' := by
  go_enter Tryz.func136, Tryz.ntmps136
  go_wp2
  go_ret
  exact ⟨rfl, rfl⟩
theorem fRed (x : Int) (h0 : 0 ≤ x) (h1 : x < 18446744073709551616) (w : World) :
    Calls Tryz.prog 136 #[.int .u64 x] w fun e w' => e = .returned (.int .u64 (x % 18446744069414584321)) ∧ w = w' := by
  by_cases h : x < 18446744069414584321
  · refine (fRed_lo x h0 h w).mono ?_
    rintro e w' ⟨rfl, rfl⟩
    exact ⟨by rw [show x % 18446744069414584321 = x by omega], rfl⟩
  · refine (fRed_hi x (by omega) h1 w).mono ?_
    rintro e w' ⟨rfl, rfl⟩
    exact ⟨by rw [show x % 18446744069414584321 = x - 18446744069414584321 by omega], rfl⟩
set_option maxRecDepth 100000 in
set_option maxHeartbeats 400000 in
theorem fAdd_i (x y : Int) (hx : 0 ≤ x) (hx' : x < 18446744069414584321) (hy : 0 ≤ y) (hy' : y < 18446744069414584321) (w : World) :
    Calls Tryz.prog 76 #[.int .u64 x, .int .u64 y] w fun e w' => e = .returned (.int .u64 ((x + y) % 18446744069414584321)) ∧ w = w' := by
  go_enter Tryz.func76, Tryz.ntmps76
  go_wp2_with (simp only [add64_0 x y hx hy])
  all_goals
    go_ret
    refine ⟨ret_i ?_, rfl⟩
    try simp only [IntKind.wrap_u64]
    omega
set_option maxRecDepth 100000 in
set_option maxHeartbeats 400000 in
theorem fSub_i (x y : Int) (hx : 0 ≤ x) (hx' : x < 18446744069414584321) (hy : 0 ≤ y) (hy' : y < 18446744069414584321) (w : World) :
    Calls Tryz.prog 84 #[.int .u64 x, .int .u64 y] w fun e w' => e = .returned (.int .u64 ((x - y) % 18446744069414584321)) ∧ w = w' := by
  have hy2 : y < 18446744073709551616 := by omega
  by_cases h : x < y
  · have hs := sub64_0 x y hx hy hy2
    rw [if_pos h] at hs
    go_enter Tryz.func84, Tryz.ntmps84
    go_wp2_with (simp only [hs])
    go_ret
    refine ⟨ret_i ?_, rfl⟩
    try simp only [IntKind.wrap_u64]
    omega
  · have hs := sub64_0 x y hx hy hy2
    rw [if_neg h] at hs
    go_enter Tryz.func84, Tryz.ntmps84
    go_wp2_with (simp only [hs])
    go_ret
    refine ⟨ret_i ?_, rfl⟩
    try simp only [IntKind.wrap_u64]
    omega
theorem mul_bd (x y : Int) (hx : 0 ≤ x) (hx' : x < 18446744069414584321) (hy : 0 ≤ y) (hy' : y < 18446744069414584321) : 0 ≤ x * y ∧ x * y < 340282366920938463463374607431768211456 := by
  refine ⟨Int.mul_nonneg hx hy, ?_⟩
  have h1 : x * y ≤ 18446744069414584320 * y := Int.mul_le_mul_of_nonneg_right (by omega) hy
  omega
set_option maxRecDepth 100000 in
set_option maxHeartbeats 400000 in
theorem fMul_m (x y m : Int) (hm : Hid (m = x * y)) (m0 : 0 ≤ m) (m1 : m < 340282366920938463463374607431768211456) (hx : 0 ≤ x) (hx' : x < 18446744073709551616) (hy : 0 ≤ y) (hy' : y < 18446744069414584321) (w : World) :
    Calls Tryz.prog 117 #[.int .u64 x, .int .u64 y] w fun e w' => e = .returned (.int .u64 (m % 18446744069414584321)) ∧ w = w' := by
  have c1 : ∀ w, Calls Tryz.prog 135 #[.int .u64 x, .int .u64 y] w fun e w' => e = .returned (.tuple #[.int .u64 (m / 18446744073709551616), .int .u64 (m % 18446744073709551616)]) ∧ w = w' := fun w => by
    rw [hm.out]
    exact mul64_i x y hx hx' hy (by omega) w
  have C1 := Lib.hid c1
  clear c1
  have a1 : 0 ≤ m / 18446744073709551616 := by omega
  have a2 : m / 18446744073709551616 < 18446744073709551616 := by omega
  have a3 : 0 ≤ m % 18446744073709551616 := by omega
  have a4 : m % 18446744073709551616 < 18446744073709551616 := by omega
  have a5 : 0 ≤ m % 18446744073709551616 % 18446744069414584321 := by omega
  have a6 : m % 18446744073709551616 % 18446744069414584321 < 18446744069414584321 := by omega
  have a7 : 0 ≤ m / 18446744073709551616 / 4294967296 := by omega
  have a8 : m / 18446744073709551616 / 4294967296 < 18446744069414584321 := by omega
  have b1 : 0 ≤ m / 18446744073709551616 % 4294967296 * 4294967295 := by omega
  have b2 : m / 18446744073709551616 % 4294967296 * 4294967295 < 18446744073709551616 := by omega
  have b3 : 0 ≤ (m % 18446744073709551616 - m / 18446744073709551616 / 4294967296) % 18446744069414584321 := by omega
  have b4 : (m % 18446744073709551616 - m / 18446744073709551616 / 4294967296) % 18446744069414584321 < 18446744069414584321 := by omega
  have b5 : 0 ≤ m / 18446744073709551616 % 4294967296 * 4294967295 % 18446744069414584321 := by omega
  have b6 : m / 18446744073709551616 % 4294967296 * 4294967295 % 18446744069414584321 < 18446744069414584321 := by omega
  have am := and_mask (m / 18446744073709551616) a1 a2
  have fin := Lib.hid (mul_law m m0 m1)
  go_enter Tryz.func117, Tryz.ntmps117
  go_wp2_with fail
  refine (C1.out _).mono ?_
  rintro e w' ⟨rfl, rfl⟩
  go_wp2_with fail
  refine (fRed _ a3 a4 _).mono ?_
  rintro e w' ⟨rfl, rfl⟩
  go_wp2_with fail
  refine (fSub_i _ _ a5 a6 a7 a8 _).mono ?_
  rintro e w' ⟨rfl, rfl⟩
  go_wp2_with fail
  refine (fRed _ b1 b2 _).mono ?_
  rintro e w' ⟨rfl, rfl⟩
  go_wp2_with fail
  refine (fAdd_i _ _ b3 b4 b5 b6 _).mono ?_
  rintro e w' ⟨rfl, rfl⟩
  go_wp2_with fail
  go_ret
  refine ⟨ret_i ?_, rfl⟩
  clear C1 fin am
  omega
theorem fAdd (a b : Fp) (w : World) :
    Calls Tryz.prog 76 #[.int .u64 (fv a), .int .u64 (fv b)] w fun e w' => e = .returned (.int .u64 (fv (a + b))) ∧ w = w' := by
  rw [fv_add]; exact fAdd_i _ _ (fv_lo a) (fv_hi a) (fv_lo b) (fv_hi b) w
theorem fSub (a b : Fp) (w : World) :
    Calls Tryz.prog 84 #[.int .u64 (fv a), .int .u64 (fv b)] w fun e w' => e = .returned (.int .u64 (fv (a - b))) ∧ w = w' := by
  rw [fv_sub]; exact fSub_i _ _ (fv_lo a) (fv_hi a) (fv_lo b) (fv_hi b) w
theorem fMul (a b : Fp) (w : World) :
    Calls Tryz.prog 117 #[.int .u64 (fv a), .int .u64 (fv b)] w fun e w' => e = .returned (.int .u64 (fv (a * b))) ∧ w = w' := by
  rw [fv_mul]
  have h := mul_bd (fv a) (fv b) (fv_lo a) (fv_hi a) (fv_lo b) (fv_hi b)
  exact fMul_m _ _ _ (Lib.hid rfl) h.1 h.2 (fv_lo a) (by have := fv_hi a; omega) (fv_lo b) (fv_hi b) w

/-! ### The reference -/
set_option maxRecDepth 100000 in
set_option maxHeartbeats 400000 in
theorem rRed (x : Int) (h0 : 0 ≤ x) (h1 : x < 18446744073709551616) (w : World) :
    Calls Tryz.prog 72 #[.int .u64 x] w fun e w' => e = .returned (.int .u64 (x % 18446744069414584321)) ∧ w = w' := by
  go_enter Tryz.func72, Tryz.ntmps72
  go_wp2
  go_ret
  exact ⟨ret_i (by first | omega | (simp only [IntKind.wrap_u64]; omega)), rfl⟩
set_option maxRecDepth 100000 in
set_option maxHeartbeats 400000 in
theorem rAdd_i (x y : Int) (hx : 0 ≤ x) (hx' : x < 18446744069414584321) (hy : 0 ≤ y) (hy' : y < 18446744069414584321) (w : World) :
    Calls Tryz.prog 98 #[.int .u64 x, .int .u64 y] w fun e w' => e = .returned (.int .u64 ((x + y) % 18446744069414584321)) ∧ w = w' := by
  go_enter Tryz.func98, Tryz.ntmps98
  go_wp2
  all_goals
    go_ret
    exact ⟨ret_i (by first | omega | (simp only [IntKind.wrap_u64]; omega)), rfl⟩
theorem rAdd (a b : Fp) (w : World) :
    Calls Tryz.prog 98 #[.int .u64 (fv a), .int .u64 (fv b)] w fun e w' => e = .returned (.int .u64 (fv (a + b))) ∧ w = w' := by
  rw [fv_add]; exact rAdd_i _ _ (fv_lo a) (fv_hi a) (fv_lo b) (fv_hi b) w
set_option maxRecDepth 100000 in
set_option maxHeartbeats 400000 in
theorem rNeg_i (x : Int) (hx : 0 ≤ x) (hx' : x < 18446744069414584321) (w : World) :
    Calls Tryz.prog 120 #[.int .u64 x] w fun e w' => e = .returned (.int .u64 ((-x) % 18446744069414584321)) ∧ w = w' := by
  by_cases h : x = 0
  · subst h
    go_enter Tryz.func120, Tryz.ntmps120
    go_wp2
    go_ret
    exact ⟨ret_i (by first | omega | (simp only [IntKind.wrap_u64]; omega)), rfl⟩
  · have h' : (x == 0) = false := beq_eq_false_iff_ne.2 h
    go_enter Tryz.func120, Tryz.ntmps120
    go_wp2
    go_ret
    exact ⟨ret_i (by first | omega | (simp only [IntKind.wrap_u64]; omega)), rfl⟩
theorem rNeg (a : Fp) (w : World) :
    Calls Tryz.prog 120 #[.int .u64 (fv a)] w fun e w' => e = .returned (.int .u64 (fv (-a))) ∧ w = w' := by
  rw [fv_neg]; exact rNeg_i _ (fv_lo a) (fv_hi a) w
set_option maxRecDepth 100000 in
set_option maxHeartbeats 400000 in
theorem rFromInt (x : Int) (hx : -9223372036854775808 ≤ x) (hx' : x ≤ 9223372036854775807) (w : World) :
    Calls Tryz.prog 80 #[.int .i64 x] w fun e w' => e = .returned (.int .u64 (fv (fz x))) ∧ w = w' := by
  rw [fv_fz]
  go_enter Tryz.func80, Tryz.ntmps80
  go_wp2
  all_goals
    go_ret
    exact ⟨ret_i (by first | omega | (simp only [IntKind.wrap_u64]; omega)), rfl⟩
set_option maxRecDepth 100000 in
set_option maxHeartbeats 400000 in
theorem rShift_i (x : Int) (hx : 0 ≤ x) (hx' : x < 18446744069414584321) (w : World) :
    Calls Tryz.prog 130 #[.int .u64 x] w fun e w' => e = .returned (.int .u64 ((x * 4294967296) % 18446744069414584321)) ∧ w = w' := by
  have b0 : 0 ≤ x % 4294967296 * 4294967296 := by omega
  have b1 : x % 4294967296 * 4294967296 < 18446744073709551616 := by omega
  have b2 : 0 ≤ x / 4294967296 * 4294967295 := by omega
  have b3 : x / 4294967296 * 4294967295 < 18446744073709551616 := by omega
  have b4 : 0 ≤ x % 4294967296 * 4294967296 % 18446744069414584321 := by omega
  have b5 : x % 4294967296 * 4294967296 % 18446744069414584321 < 18446744069414584321 := by omega
  have b6 : 0 ≤ x / 4294967296 * 4294967295 % 18446744069414584321 := by omega
  have b7 : x / 4294967296 * 4294967295 % 18446744069414584321 < 18446744069414584321 := by omega
  go_enter Tryz.func130, Tryz.ntmps130
  go_wp2_with fail
  refine (rRed _ b0 b1 _).mono ?_
  rintro e w' ⟨rfl, rfl⟩
  go_wp2_with fail
  refine (rRed _ b2 b3 _).mono ?_
  rintro e w' ⟨rfl, rfl⟩
  go_wp2_with fail
  refine (rAdd_i _ _ b4 b5 b6 b7 _).mono ?_
  rintro e w' ⟨rfl, rfl⟩
  go_wp2_with fail
  go_ret
  exact ⟨ret_i (by first | omega | (simp only [IntKind.wrap_u64]; omega)), rfl⟩
theorem half_bd (u y : Int) (hu : 0 ≤ u) (hu' : u ≤ 4294967295) (hy : 0 ≤ y) (hy' : y ≤ 4294967295) : 0 ≤ u * y ∧ u * y < 18446744073709551616 := by
  refine ⟨Int.mul_nonneg hu hy, ?_⟩
  have h1 : u * y ≤ 4294967295 * y := Int.mul_le_mul_of_nonneg_right hu' hy
  omega
set_option maxRecDepth 100000 in
set_option maxHeartbeats 400000 in
theorem rHalf_m (x y s t : Int) (hs : Hid (x % 4294967296 * y = s)) (ht : Hid (x / 4294967296 * y = t)) (s0 : 0 ≤ s) (s1 : s < 18446744073709551616) (t0 : 0 ≤ t) (t1 : t < 18446744073709551616) (hx : 0 ≤ x) (hx' : x < 18446744069414584321) (_hy : 0 ≤ y) (_hy' : y ≤ 4294967295) (w : World) :
    Calls Tryz.prog 129 #[.int .u64 x, .int .u64 y] w fun e w' => e = .returned (.int .u64 ((s + 4294967296 * t) % 18446744069414584321)) ∧ w = w' := by
  have u1 : IntKind.u64.wrap (x % 4294967296 * y) = s := by rw [hs.out]; exact IntWalk.u64_in _ (by omega)
  have u2 : IntKind.u64.wrap (x / 4294967296 * y) = t := by rw [ht.out]; exact IntWalk.u64_in _ (by omega)
  have b4 : 0 ≤ s % 18446744069414584321 := by omega
  have b5 : s % 18446744069414584321 < 18446744069414584321 := by omega
  have b6 : 0 ≤ t % 18446744069414584321 := by omega
  have b7 : t % 18446744069414584321 < 18446744069414584321 := by omega
  have b8 : 0 ≤ t % 18446744069414584321 * 4294967296 % 18446744069414584321 := by omega
  have b9 : t % 18446744069414584321 * 4294967296 % 18446744069414584321 < 18446744069414584321 := by omega
  go_enter Tryz.func129, Tryz.ntmps129
  go_wp2_with fail
  refine (rRed s s0 s1 _).mono ?_
  rintro e w' ⟨rfl, rfl⟩
  go_wp2_with fail
  refine (rRed t t0 t1 _).mono ?_
  rintro e w' ⟨rfl, rfl⟩
  go_wp2_with fail
  refine (rShift_i _ b6 b7 _).mono ?_
  rintro e w' ⟨rfl, rfl⟩
  go_wp2_with fail
  refine (rAdd_i _ _ b4 b5 b8 b9 _).mono ?_
  rintro e w' ⟨rfl, rfl⟩
  go_wp2_with fail
  go_ret
  refine ⟨ret_i ?_, rfl⟩
  clear u1 u2 hs ht
  omega
theorem rHalf_i (x y : Int) (hx : 0 ≤ x) (hx' : x < 18446744069414584321) (hy : 0 ≤ y) (hy' : y ≤ 4294967295) (w : World) :
    Calls Tryz.prog 129 #[.int .u64 x, .int .u64 y] w fun e w' => e = .returned (.int .u64 ((x * y) % 18446744069414584321)) ∧ w = w' := by
  have h1 := half_bd (x % 4294967296) y (by omega) (by omega) hy hy'
  have h2 := half_bd (x / 4294967296) y (by omega) (by omega) hy hy'
  have e : x * y = x % 4294967296 * y + 4294967296 * (x / 4294967296 * y) := by
    have : x = x % 4294967296 + 4294967296 * (x / 4294967296) := by omega
    calc x * y = (x % 4294967296 + 4294967296 * (x / 4294967296)) * y := by rw [← this]
      _ = _ := by rw [Int.add_mul, Int.mul_assoc]
  rw [e]
  exact rHalf_m x y _ _ (Lib.hid rfl) (Lib.hid rfl) h1.1 h1.2 h2.1 h2.2 hx hx' hy hy' w
theorem mulr_law (s t : Int) : (s % 18446744069414584321 + t % 18446744069414584321 * 4294967296 % 18446744069414584321) % 18446744069414584321 = (s + 4294967296 * t) % 18446744069414584321 := by omega
set_option maxRecDepth 100000 in
set_option maxHeartbeats 400000 in
theorem rMul_m (x y s t : Int) (hs : Hid (x * (y % 4294967296) = s)) (ht : Hid (x * (y / 4294967296) = t)) (hx : 0 ≤ x) (hx' : x < 18446744069414584321) (hy : 0 ≤ y) (hy' : y < 18446744069414584321) (w : World) :
    Calls Tryz.prog 99 #[.int .u64 x, .int .u64 y] w fun e w' => e = .returned (.int .u64 ((s + 4294967296 * t) % 18446744069414584321)) ∧ w = w' := by
  have c1 := rHalf_i x (y % 4294967296) hx hx' (by omega) (by omega)
  have c2 := rHalf_i x (y / 4294967296) hx hx' (by omega) (by omega)
  rw [hs.out] at c1
  rw [ht.out] at c2
  have C1 := Lib.hid c1
  have C2 := Lib.hid c2
  clear c1 c2
  have b4 : 0 ≤ s % 18446744069414584321 := by omega
  have b5 : s % 18446744069414584321 < 18446744069414584321 := by omega
  have b6 : 0 ≤ t % 18446744069414584321 := by omega
  have b7 : t % 18446744069414584321 < 18446744069414584321 := by omega
  have b8 : 0 ≤ t % 18446744069414584321 * 4294967296 % 18446744069414584321 := by omega
  have b9 : t % 18446744069414584321 * 4294967296 % 18446744069414584321 < 18446744069414584321 := by omega
  go_enter Tryz.func99, Tryz.ntmps99
  go_wp2_with fail
  refine (C1.out _).mono ?_
  rintro e w' ⟨rfl, rfl⟩
  go_wp2_with fail
  refine (C2.out _).mono ?_
  rintro e w' ⟨rfl, rfl⟩
  go_wp2_with fail
  refine (rShift_i _ b6 b7 _).mono ?_
  rintro e w' ⟨rfl, rfl⟩
  go_wp2_with fail
  refine (rAdd_i _ _ b4 b5 b8 b9 _).mono ?_
  rintro e w' ⟨rfl, rfl⟩
  go_wp2_with fail
  go_ret
  refine ⟨ret_i ?_, rfl⟩
  clear C1 C2 hs ht
  omega
theorem rMul (a b : Fp) (w : World) :
    Calls Tryz.prog 99 #[.int .u64 (fv a), .int .u64 (fv b)] w fun e w' => e = .returned (.int .u64 (fv (a * b))) ∧ w = w' := by
  rw [fv_mul]
  have e : fv a * fv b = fv a * (fv b % 4294967296) + 4294967296 * (fv a * (fv b / 4294967296)) := by
    have : fv b = fv b % 4294967296 + 4294967296 * (fv b / 4294967296) := by omega
    calc fv a * fv b = fv a * (fv b % 4294967296 + 4294967296 * (fv b / 4294967296)) := by rw [← this]
      _ = _ := by rw [Int.mul_add, Int.mul_left_comm]
  rw [e]
  exact rMul_m _ _ _ _ (Lib.hid rfl) (Lib.hid rfl) (fv_lo a) (fv_hi a) (fv_lo b) (fv_hi b) w
end Go.Proofs.YtnddfeidggcplaaGreat
namespace Go.Proofs.YtnddfeidggcplaaGreat

theorem f_mul_zero (a : Fp) : a * 0 = 0 := fv_inj (by rw [fv_mul, fv_zero]; simp)
theorem f_zero_mul (a : Fp) : 0 * a = 0 := fv_inj (by rw [fv_mul, fv_zero]; simp)
theorem f_zero_add_zero : (0 : Fp) + 0 = 0 := rfl
theorem E.add_comm (x y : E) : x + y = y + x := by apply E.ext_ <;> simp only [add_a, add_b] <;> grind
theorem E.add_assoc (x y z : E) : x + y + z = x + (y + z) := by apply E.ext_ <;> simp only [add_a, add_b] <;> grind
theorem E.add_zero (x : E) : x + 0 = x := by apply E.ext_ <;> simp only [add_a, add_b, zero_a, zero_b] <;> grind
theorem E.zero_add (x : E) : 0 + x = x := by apply E.ext_ <;> simp only [add_a, add_b, zero_a, zero_b] <;> grind
theorem E.mul_one (x : E) : x * 1 = x := by apply E.ext_ <;> simp only [mul_a, mul_b, one_a, one_b] <;> grind
theorem E.one_mul (x : E) : 1 * x = x := by apply E.ext_ <;> simp only [mul_a, mul_b, one_a, one_b] <;> grind
theorem E.mul_zero (x : E) : x * 0 = 0 := by apply E.ext_ <;> simp only [mul_a, mul_b, zero_a, zero_b, f_mul_zero, f_zero_add_zero]
theorem E.zero_mul (x : E) : 0 * x = 0 := by apply E.ext_ <;> simp only [mul_a, mul_b, zero_a, zero_b, f_mul_zero, f_zero_mul, f_zero_add_zero]
theorem E.mul_add (x y z : E) : x * (y + z) = x * y + x * z := by apply E.ext_ <;> simp only [mul_a, mul_b, add_a, add_b] <;> grind
theorem E.add_mul (x y z : E) : (x + y) * z = x * z + y * z := by apply E.ext_ <;> simp only [mul_a, mul_b, add_a, add_b] <;> grind
theorem E.sub_self (x : E) : x - x = 0 := by apply E.ext_ <;> simp only [sub_a, sub_b, zero_a, zero_b] <;> grind
theorem E.sub_zero (x : E) : x - 0 = x := by apply E.ext_ <;> simp only [sub_a, sub_b, zero_a, zero_b] <;> grind
theorem E.sub_add_cancel (x y : E) : x - y + y = x := by apply E.ext_ <;> simp only [sub_a, sub_b, add_a, add_b] <;> grind
theorem E.mul_sub (x y z : E) : x * (y - z) = x * y - x * z := by apply E.ext_ <;> simp only [mul_a, mul_b, sub_a, sub_b] <;> grind
instance : Std.Associative (α := E) (· + ·) := ⟨E.add_assoc⟩
instance : Std.Commutative (α := E) (· + ·) := ⟨E.add_comm⟩
instance : Std.Associative (α := E) (· * ·) := ⟨E.mul_assoc⟩
instance : Std.Commutative (α := E) (· * ·) := ⟨E.mul_comm⟩

/-- An element of the base field, embedded. -/
def eb (a : Fp) : E := ⟨a, 0⟩
theorem mul_eb (x : E) (c : Fp) : x * eb c = ⟨x.a * c, x.b * c⟩ := by
  apply E.ext_ <;> simp only [mul_a, mul_b, eb] <;> grind
theorem eb_zero : eb 0 = 0 := rfl
theorem eb_add (a b : Fp) : eb (a + b) = eb a + eb b := by apply E.ext_ <;> simp only [add_a, add_b, eb, f_zero_add_zero]

/-- x y + (1 - x) (1 - y) -/
def fac (x y : E) : E := x * y + (1 - x) * (1 - y)
/-- The product of the first k factors. -/
def pfac (p q : List E) : Nat → E
  | 0 => 1
  | k + 1 => pfac p q k * fac (p.getD k 0) (q.getD k 0)
/-- Bit k of an index, as an element; the factor that it gives at a coordinate. -/
def bitE (i k : Nat) : E := if i / 2 ^ k % 2 = 1 then 1 else 0
def sel (i k : Nat) (x : E) : E := if i / 2 ^ k % 2 = 1 then x else 1 - x
def vertex (i n : Nat) : List E := (List.range n).map (bitE i)
theorem vertex_succ (i n : Nat) : vertex i (n + 1) = vertex i n ++ [bitE i n] := by simp [vertex, List.range_succ]
theorem vertex_length (i n : Nat) : (vertex i n).length = n := by simp [vertex]
theorem vertex_get (i n k : Nat) (h : k < n) : (vertex i n).getD k 0 = bitE i k := by simp [vertex, List.getD, h]
theorem fac_bit (i k : Nat) (x : E) : fac (bitE i k) x = sel i k x := by
  unfold fac bitE sel
  split
  · apply E.ext_ <;> simp only [mul_a, mul_b, add_a, add_b, sub_a, sub_b, one_a, one_b] <;> grind
  · apply E.ext_ <;> simp only [mul_a, mul_b, add_a, add_b, sub_a, sub_b, one_a, one_b, zero_a, zero_b] <;> grind
/-- The weight of index i at the first k coordinates. -/
def wt (p : List E) (i : Nat) : Nat → E
  | 0 => 1
  | k + 1 => wt p i k * sel i k (p.getD k 0)
/-- Eq of the vertex of an index and a point. -/
def eqi (i : Nat) (p : List E) : E := wt p i p.length
theorem pfac_vertex (i n : Nat) (p : List E) : ∀ k, k ≤ n → pfac (vertex i n) p k = wt p i k
  | 0, _ => rfl
  | k + 1, h => by rw [pfac, wt, pfac_vertex i n p k (by omega), vertex_get i n k (by omega), fac_bit]
theorem bit_mod {i j k m : Nat} (h : i % 2 ^ k = j % 2 ^ k) (hm : m < k) : i / 2 ^ m % 2 = j / 2 ^ m % 2 := by
  have e : 2 ^ k = 2 ^ m * (2 * 2 ^ (k - m - 1)) := by
    rw [← Nat.pow_succ', ← Nat.pow_add]
    congr 1
    omega
  have key : ∀ x, x / 2 ^ m % 2 = x % 2 ^ k / 2 ^ m % 2 := fun x => by
    rw [e, Nat.mod_mul_right_div_self, Nat.mod_mul_right_mod]
  rw [key i, key j, h]
theorem wt_mod (p : List E) {i j : Nat} : ∀ {k}, i % 2 ^ k = j % 2 ^ k → wt p i k = wt p j k
  | 0, _ => rfl
  | k + 1, h => by
    have hk : i % 2 ^ k = j % 2 ^ k := by
      have h1 := congrArg (· % 2 ^ k) h
      simp only [Nat.pow_succ, Nat.mod_mul_right_mod] at h1
      exact h1
    rw [wt, wt, wt_mod p hk]
    unfold sel
    rw [bit_mod h (Nat.lt_succ_self k)]
end Go.Proofs.YtnddfeidggcplaaGreat
