/-
  Plain mathematics, no program: the ring of the extension field, weights of vertices, multilinear extensions.
-/
import Derived.Test.YtnfiomccgakooaaDoorFld
namespace Go.Proofs.YtnfiomccgakooaaDoor

theorem f_mul_zero (a : Fp) : a * 0 = 0 := fv_inj (by rw [fv_mul, fv_zero]; simp)
theorem f_zero_mul (a : Fp) : 0 * a = 0 := fv_inj (by rw [fv_mul, fv_zero]; simp)
theorem f_zero_add_zero : (0 : Fp) + 0 = 0 := rfl
theorem E.add_comm (x y : E) : x + y = y + x := by apply E.ext_ <;> simp only [add_a, add_b] <;> grind
theorem E.add_assoc (x y z : E) : x + y + z = x + (y + z) := by apply E.ext_ <;> simp only [add_a, add_b] <;> grind
theorem E.add_zero (x : E) : x + 0 = x := by apply E.ext_ <;> simp only [add_a, add_b, zero_a, zero_b] <;> grind
theorem E.zero_add (x : E) : 0 + x = x := by apply E.ext_ <;> simp only [add_a, add_b, zero_a, zero_b] <;> grind
theorem E.mul_one (x : E) : x * 1 = x := by apply E.ext_ <;> simp only [mul_a, mul_b, one_a, one_b] <;> grind
theorem E.one_mul (x : E) : 1 * x = x := by apply E.ext_ <;> simp only [mul_a, mul_b, one_a, one_b] <;> grind
theorem E.mul_zero (x : E) : x * 0 = 0 := by apply E.ext_ <;> simp only [mul_a, mul_b, zero_a, zero_b, f_mul_zero, f_zero_add_zero]
theorem E.zero_mul (x : E) : 0 * x = 0 := by apply E.ext_ <;> simp only [mul_a, mul_b, zero_a, zero_b, f_mul_zero, f_zero_mul, f_zero_add_zero]
theorem E.mul_add (x y z : E) : x * (y + z) = x * y + x * z := by apply E.ext_ <;> simp only [mul_a, mul_b, add_a, add_b] <;> grind
theorem E.add_mul (x y z : E) : (x + y) * z = x * z + y * z := by apply E.ext_ <;> simp only [mul_a, mul_b, add_a, add_b] <;> grind
theorem E.sub_self (x : E) : x - x = 0 := by apply E.ext_ <;> simp only [sub_a, sub_b, zero_a, zero_b] <;> grind
theorem E.sub_zero (x : E) : x - 0 = x := by apply E.ext_ <;> simp only [sub_a, sub_b, zero_a, zero_b] <;> grind
theorem E.sub_add_cancel (x y : E) : x - y + y = x := by apply E.ext_ <;> simp only [sub_a, sub_b, add_a, add_b] <;> grind
theorem E.mul_sub (x y z : E) : x * (y - z) = x * y - x * z := by apply E.ext_ <;> simp only [mul_a, mul_b, sub_a, sub_b] <;> grind
instance : Std.Associative (α := E) (· + ·) := ⟨E.add_assoc⟩
instance : Std.Commutative (α := E) (· + ·) := ⟨E.add_comm⟩
instance : Std.Associative (α := E) (· * ·) := ⟨E.mul_assoc⟩
instance : Std.Commutative (α := E) (· * ·) := ⟨E.mul_comm⟩

/-- An element of the base field, embedded. -/
def eb (a : Fp) : E := ⟨a, 0⟩
theorem mul_eb (x : E) (c : Fp) : x * eb c = ⟨x.a * c, x.b * c⟩ := by
  apply E.ext_ <;> simp only [mul_a, mul_b, eb] <;> grind
theorem eb_zero : eb 0 = 0 := rfl
theorem eb_add (a b : Fp) : eb (a + b) = eb a + eb b := by apply E.ext_ <;> simp only [add_a, add_b, eb, f_zero_add_zero]

/-- x y + (1 - x) (1 - y) -/
def fac (x y : E) : E := x * y + (1 - x) * (1 - y)
/-- The product of the first k factors. -/
def pfac (p q : List E) : Nat → E
  | 0 => 1
  | k + 1 => pfac p q k * fac (p.getD k 0) (q.getD k 0)
/-- Bit k of an index, as an element; the factor that it gives at a coordinate. -/
def bitE (i k : Nat) : E := if i / 2 ^ k % 2 = 1 then 1 else 0
def sel (i k : Nat) (x : E) : E := if i / 2 ^ k % 2 = 1 then x else 1 - x
def vertex (i n : Nat) : List E := (List.range n).map (bitE i)
theorem vertex_succ (i n : Nat) : vertex i (n + 1) = vertex i n ++ [bitE i n] := by simp [vertex, List.range_succ]
theorem vertex_length (i n : Nat) : (vertex i n).length = n := by simp [vertex]
theorem vertex_get (i n k : Nat) (h : k < n) : (vertex i n).getD k 0 = bitE i k := by simp [vertex, List.getD, h]
theorem fac_bit (i k : Nat) (x : E) : fac (bitE i k) x = sel i k x := by
  unfold fac bitE sel
  split
  · apply E.ext_ <;> simp only [mul_a, mul_b, add_a, add_b, sub_a, sub_b, one_a, one_b] <;> grind
  · apply E.ext_ <;> simp only [mul_a, mul_b, add_a, add_b, sub_a, sub_b, one_a, one_b, zero_a, zero_b] <;> grind
/-- The weight of index i at the first k coordinates. -/
def wt (p : List E) (i : Nat) : Nat → E
  | 0 => 1
  | k + 1 => wt p i k * sel i k (p.getD k 0)
/-- Eq of the vertex of an index and a point. -/
def eqi (i : Nat) (p : List E) : E := wt p i p.length
theorem pfac_vertex (i n : Nat) (p : List E) : ∀ k, k ≤ n → pfac (vertex i n) p k = wt p i k
  | 0, _ => rfl
  | k + 1, h => by rw [pfac, wt, pfac_vertex i n p k (by omega), vertex_get i n k (by omega), fac_bit]
theorem bit_mod {i j k m : Nat} (h : i % 2 ^ k = j % 2 ^ k) (hm : m < k) : i / 2 ^ m % 2 = j / 2 ^ m % 2 := by
  have e : 2 ^ k = 2 ^ m * (2 * 2 ^ (k - m - 1)) := by
    rw [← Nat.pow_succ', ← Nat.pow_add]
    congr 1
    omega
  have key : ∀ x, x / 2 ^ m % 2 = x % 2 ^ k / 2 ^ m % 2 := fun x => by
    rw [e, Nat.mod_mul_right_div_self, Nat.mod_mul_right_mod]
  rw [key i, key j, h]
theorem wt_mod (p : List E) {i j : Nat} : ∀ {k}, i % 2 ^ k = j % 2 ^ k → wt p i k = wt p j k
  | 0, _ => rfl
  | k + 1, h => by
    have hk : i % 2 ^ k = j % 2 ^ k := by
      have h1 := congrArg (· % 2 ^ k) h
      simp only [Nat.pow_succ, Nat.mod_mul_right_mod] at h1
      exact h1
    rw [wt, wt, wt_mod p hk]
    unfold sel
    rw [bit_mod h (Nat.lt_succ_self k)]
end Go.Proofs.YtnfiomccgakooaaDoor
