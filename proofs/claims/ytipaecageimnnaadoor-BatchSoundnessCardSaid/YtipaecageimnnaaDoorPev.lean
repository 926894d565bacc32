/-
  Plain mathematics, no program: lists of coefficients, read as polynomials, under the steps by which the reference adds and multiplies them.
-/
import Derived.Test.YtipaecageimnnaaDoorInv
namespace Go.Proofs.YtipaecageimnnaaDoor

def xp (x : E) : Nat → E
  | 0 => 1
  | k + 1 => x * xp x k
theorem xp_add (x : E) (i : Nat) : ∀ k, xp x (i + k) = xp x i * xp x k
  | 0 => by rw [Nat.add_zero, xp, E.mul_one]
  | k + 1 => by
    rw [← Nat.add_assoc, xp, xp_add x i k, xp]
    ac_rfl
theorem pev_nil (x : E) : pev [] x = 0 := rfl
theorem pev_cons (c : E) (cs : List E) (x : E) : pev (c :: cs) x = c + x * pev cs x := rfl
theorem pev_zeros (x : E) : ∀ n, pev (List.replicate n 0) x = 0
  | 0 => rfl
  | n + 1 => by rw [List.replicate_succ, pev_cons, pev_zeros x n, E.mul_zero, E.add_zero]
theorem pev_take (x : E) : ∀ (l : List E) (k : Nat), k < l.length → pev (l.take (k + 1)) x = pev (l.take k) x + xp x k * l.getD k 0
  | [], k, h => absurd h (Nat.not_lt_zero _)
  | c :: l, 0, _ => by
    show c + x * pev (l.take 0) x = 0 + 1 * c
    rw [List.take_zero, pev_nil, E.mul_zero, E.one_mul, E.add_zero, E.zero_add]
  | c :: l, k + 1, h => by
    rw [List.take_succ_cons, pev_cons, pev_take x l k (by simpa using h), List.take_succ_cons, pev_cons, List.getD_cons_succ, xp, E.mul_add]
    ac_rfl
theorem pev_set (x d : E) : ∀ (l : List E) (k : Nat), k < l.length → pev (l.set k (l.getD k 0 + d)) x = pev l x + xp x k * d
  | [], k, h => absurd h (Nat.not_lt_zero _)
  | c :: l, 0, _ => by
    show c + d + x * pev l x = c + x * pev l x + 1 * d
    rw [E.one_mul]
    ac_rfl
  | c :: l, k + 1, h => by
    rw [List.set_cons_succ, List.getD_cons_succ, pev_cons, pev_set x d l k (by simpa using h), pev_cons, xp, E.mul_add]
    ac_rfl
theorem pev_drop (x : E) (l : List E) (k : Nat) (h : k < l.length) : pev (l.drop k) x = l.getD k 0 + x * pev (l.drop (k + 1)) x := by
  rw [List.drop_eq_getElem_cons h, pev_cons]
  simp [List.getD, h]
theorem pev_cut (x : E) (l : List E) (k : Nat) (h : k < l.length) (h0 : l.getD k 0 = 0) : pev (l.take (k + 1)) x = pev (l.take k) x := by
  rw [pev_take x l k h, h0, E.mul_zero, E.add_zero]
/-- Both lists, the first k entries. -/
def addK (p q : List E) (x : E) (k : Nat) : E := pev (p.take k) x + pev (q.take k) x
theorem take_past (p : List E) (k : Nat) (h : p.length ≤ k) : p.take (k + 1) = p.take k := by rw [List.take_of_length_le (by omega), List.take_of_length_le h]
/-- The rows below i whole, and k entries of row i. -/
def mulK (p q : List E) (x : E) (i k : Nat) : E := pev (p.take i) x * pev q x + xp x i * (p.getD i 0 * pev (q.take k) x)
theorem mulK_zero (p q : List E) (x : E) : mulK p q x 0 0 = 0 := by
  unfold mulK
  rw [List.take_zero, List.take_zero, pev_nil, E.zero_mul, E.mul_zero, E.mul_zero, E.add_zero]
theorem mulK_step (p q : List E) (x : E) (i k : Nat) (hk : k < q.length) : mulK p q x i (k + 1) = mulK p q x i k + xp x (i + k) * (p.getD i 0 * q.getD k 0) := by
  unfold mulK
  rw [pev_take x q k hk, xp_add, E.mul_add, E.mul_add]
  ac_rfl
theorem mulK_row (p q : List E) (x : E) (i : Nat) (hi : i < p.length) : mulK p q x (i + 1) 0 = mulK p q x i q.length := by
  unfold mulK
  rw [List.take_of_length_le (Nat.le_refl q.length), pev_take x p i hi, List.take_zero, pev_nil, E.mul_zero, E.mul_zero, E.add_zero, E.add_mul]
  ac_rfl
theorem mulK_all (p q : List E) (x : E) : mulK p q x p.length 0 = pev p x * pev q x := by
  unfold mulK
  rw [List.take_of_length_le (Nat.le_refl p.length), List.take_zero, pev_nil, E.mul_zero, E.mul_zero, E.add_zero]
theorem refAtK_succ (v : List E) (x : E) (j : Nat) : refAtK v x (j + 1) = refAtK v x j + refK x j (v.getD j 0) v.length := esum_range _ j
theorem intE_ne (z : Int) (h : z ≠ 0) (h1 : -1000000 ≤ z) (h2 : z ≤ 1000000) : intE z ≠ 0 := fun e => by
  have e1 : fv (fz z) = fv 0 := congrArg (fun y : E => fv y.a) e
  rw [fv_fz, fv_zero] at e1
  omega
end Go.Proofs.YtipaecageimnnaaDoor
