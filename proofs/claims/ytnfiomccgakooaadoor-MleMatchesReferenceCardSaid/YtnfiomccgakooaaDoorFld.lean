/-
  Plain mathematics, no program: the prime field as Fin of the prime, its elements as integers, and the quadratic extension as pairs.
-/
namespace Go.Proofs.YtnfiomccgakooaaDoor
def PP : Nat := 18446744069414584321
instance : NeZero PP := ⟨by decide⟩
abbrev Fp := Fin PP
def fv (a : Fp) : Int := (a.val : Int)
def QQ : Int := 18446744069414584321
theorem fv_lo (a : Fp) : 0 ≤ fv a := Int.natCast_nonneg _
theorem fv_hi (a : Fp) : fv a < 18446744069414584321 := by
  have h := a.isLt
  unfold fv; unfold PP at h; omega
theorem fv_inj {a b : Fp} (h : fv a = fv b) : a = b := by
  unfold fv at h; exact Fin.ext (by omega)
theorem fv_add (a b : Fp) : fv (a + b) = (fv a + fv b) % 18446744069414584321 := by
  unfold fv; rw [Fin.val_add]; unfold PP; omega
theorem fv_mul (a b : Fp) : fv (a * b) = (fv a * fv b) % 18446744069414584321 := by
  unfold fv; rw [Fin.val_mul]; unfold PP; simp
theorem fv_sub (a b : Fp) : fv (a - b) = (fv a - fv b) % 18446744069414584321 := by
  have h := b.isLt
  unfold fv; rw [Fin.sub_def]; simp only []; unfold PP at *; omega
theorem fv_neg (a : Fp) : fv (-a) = (- fv a) % 18446744069414584321 := by
  have h := a.isLt
  unfold fv; rw [Fin.neg_def]; simp only []; unfold PP at *; omega
theorem fv_zero : fv 0 = 0 := rfl
theorem fv_one : fv 1 = 1 := rfl
def fz (z : Int) : Fp := Fin.ofNat PP (z % 18446744069414584321).toNat
theorem fv_fz (z : Int) : fv (fz z) = z % 18446744069414584321 := by
  unfold fv fz; rw [Fin.val_ofNat]; unfold PP; omega

structure E where
  a : Fp
  b : Fp
deriving DecidableEq
theorem E.ext_ {x y : E} (h : x.a = y.a) (h' : x.b = y.b) : x = y := by cases x; cases y; simp_all
instance : Add E := ⟨fun x y => ⟨x.a + y.a, x.b + y.b⟩⟩
instance : Sub E := ⟨fun x y => ⟨x.a - y.a, x.b - y.b⟩⟩
instance : Neg E := ⟨fun x => ⟨-x.a, -x.b⟩⟩
instance : Mul E := ⟨fun x y => ⟨x.a * y.a + 7 * (x.b * y.b), x.a * y.b + x.b * y.a⟩⟩
instance : Zero E := ⟨⟨0, 0⟩⟩
instance : One E := ⟨⟨1, 0⟩⟩
theorem add_a (x y : E) : (x + y).a = x.a + y.a := rfl
theorem add_b (x y : E) : (x + y).b = x.b + y.b := rfl
theorem sub_a (x y : E) : (x - y).a = x.a - y.a := rfl
theorem sub_b (x y : E) : (x - y).b = x.b - y.b := rfl
theorem mul_a (x y : E) : (x * y).a = x.a * y.a + 7 * (x.b * y.b) := rfl
theorem mul_b (x y : E) : (x * y).b = x.a * y.b + x.b * y.a := rfl
theorem one_a : (1 : E).a = 1 := rfl
theorem one_b : (1 : E).b = 0 := rfl
theorem zero_a : (0 : E).a = 0 := rfl
theorem zero_b : (0 : E).b = 0 := rfl
theorem E.mul_assoc (x y z : E) : x * y * z = x * (y * z) := by
  apply E.ext_ <;> simp only [mul_a, mul_b] <;> grind
theorem E.mul_comm (x y : E) : x * y = y * x := by
  apply E.ext_ <;> simp only [mul_a, mul_b] <;> grind

/-- the two steps of Mul: 2^64 = 2^32 - 1 and 2^96 = -1 -/
theorem mul_law (m : Int) (_h0 : 0 ≤ m) (_h1 : m < 340282366920938463463374607431768211456) :
    (((m % 18446744073709551616) % 18446744069414584321 - m / 18446744073709551616 / 4294967296) % 18446744069414584321 +
      (m / 18446744073709551616 % 4294967296 * 4294967295) % 18446744069414584321) % 18446744069414584321 = m % 18446744069414584321 := by omega
theorem fv_pos_of_ne (a : Fp) (h : a ≠ 0) : 0 < fv a := by
  have h0 := fv_lo a
  have : fv a ≠ 0 := fun e => h (fv_inj (e.trans fv_zero.symm))
  omega
end Go.Proofs.YtnfiomccgakooaaDoor
