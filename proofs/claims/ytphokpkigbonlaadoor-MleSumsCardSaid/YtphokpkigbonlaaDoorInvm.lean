/-
  Plain mathematics, no program: the steps of Euclid's algorithm in the prime field.
-/
import Derived.Test.YtphokpkigbonlaaDoorMath
namespace Go.Proofs.YtphokpkigbonlaaDoor
/-- A natural number as an element of the prime field. -/
def fn (k : Nat) : Fp := Fin.ofNat PP k
theorem fv_fn (k : Nat) : fv (fn k) = (k : Int) % 18446744069414584321 := by
  unfold fv fn; rw [Fin.val_ofNat]; unfold PP; omega
theorem fn_val (a : Fp) : fn a.val = a := by
  apply Fin.ext; unfold fn; rw [Fin.val_ofNat]; exact Nat.mod_eq_of_lt a.isLt
theorem fn_add (a b : Nat) : fn (a + b) = fn a + fn b := by
  apply fv_inj; rw [fv_add, fv_fn, fv_fn, fv_fn]; omega
theorem fn_mul (a b : Nat) : fn (a * b) = fn a * fn b := by
  apply fv_inj; rw [fv_mul, fv_fn, fv_fn, fv_fn, Int.natCast_mul, Int.mul_emod]
theorem fn_zero : fn 0 = 0 := rfl
theorem fn_one : fn 1 = 1 := rfl
theorem fn_PP : fn 18446744069414584321 = 0 := by apply fv_inj; rw [fv_fn]; rfl
theorem euclid_step {a s t : Fp} {r n : Nat} (h1 : fn r = s * a) (h2 : fn n = t * a) : fn (r % n) = (s - fn (r / n) * t) * a := by
  have h : fn (n * (r / n) + r % n) = fn n * fn (r / n) + fn (r % n) := by rw [fn_add, fn_mul]
  rw [Nat.div_add_mod, h1, h2] at h
  grind
theorem gcd_step (r n : Nat) (h : Nat.gcd r n = 1) : Nat.gcd n (r % n) = 1 := by
  rw [Nat.gcd_comm, ← Nat.gcd_rec, Nat.gcd_comm]; exact h
/-- The norm of an element, and what its inverse is. -/
def nrm (x : E) : Fp := x.a * x.a - 7 * (x.b * x.b)
def cnj (x : E) : E := ⟨x.a, 0 - x.b⟩
theorem inv_law (x : E) (c : Fp) (h : c * nrm x = 1) : (cnj x * eb c) * x = 1 := by
  unfold nrm at h
  rw [mul_eb]
  unfold cnj
  apply E.ext_ <;> simp only [mul_a, mul_b, one_a, one_b] <;> grind
end Go.Proofs.YtphokpkigbonlaaDoor
