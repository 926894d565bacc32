/-
  Laws of the multilinear extension: sums, vertices, joined points, affine coordinates.
-/
import Derived.Test.YtnfiomccgakooaaDoorMl
namespace Go.Proofs.YtnfiomccgakooaaDoor

section
variable {α : Type}
theorem esum_add (f g : α → E) : ∀ l : List α, esum (l.map fun x => f x + g x) = esum (l.map f) + esum (l.map g)
  | [] => by simp only [List.map_nil, esum, E.add_zero]
  | x :: l => by
    simp only [List.map_cons, esum]
    rw [esum_add f g l]
    generalize esum (l.map f) = a
    generalize esum (l.map g) = b
    apply E.ext_ <;> simp only [add_a, add_b] <;> grind
theorem esum_mul (c : E) (f : α → E) : ∀ l : List α, esum (l.map fun x => c * f x) = c * esum (l.map f)
  | [] => by simp only [List.map_nil, esum, E.mul_zero]
  | x :: l => by
    simp only [List.map_cons, esum]
    rw [esum_mul c f l, E.mul_add]
theorem esum_map_zero (f : α → E) : ∀ (l : List α), (∀ t ∈ l, f t = 0) → esum (l.map f) = 0
  | [], _ => rfl
  | t :: l, h => by
    show f t + esum (l.map f) = 0
    rw [h t (List.mem_cons_self ..), esum_map_zero f l (fun t ht => h t (List.mem_cons_of_mem _ ht)), E.add_zero]
/-- A sum in which one index alone counts. -/
theorem esum_single (f : Nat → E) (j : Nat) : ∀ n, esum ((List.range n).map fun i => if j = i then f i else 0) = if j < n then f j else 0
  | 0 => rfl
  | n + 1 => by
    rw [List.range_succ, List.map_append, esum_append, esum_single f j n]
    show _ + ((if j = n then f n else 0) + 0) = _
    rw [E.add_zero]
    rcases Nat.lt_trichotomy j n with h | h | h
    · rw [if_pos h, if_neg (by omega), if_pos (by omega), E.add_zero]
    · subst h; rw [if_neg (by omega), if_pos rfl, if_pos (by omega), E.zero_add]
    · rw [if_neg (by omega), if_neg (by omega), if_neg (by omega), E.add_zero]
end
/-- The index' bits: those of the first coordinates, and those of the rest. -/
theorem eqi_append (q : List E) : ∀ (p : List E) (a b : Nat), a < 2 ^ p.length → eqi (a + b * 2 ^ p.length) (p ++ q) = eqi a p * eqi b q
  | [], a, b, h => by
    have : a = 0 := by simpa using h
    subst this
    show eqi (0 + b * 2 ^ 0) q = 1 * _
    rw [E.one_mul, Nat.zero_add, Nat.pow_zero, Nat.mul_one]
  | r :: p, a, b, h => by
    rw [List.length_cons, Nat.pow_succ] at h
    rw [List.length_cons, List.cons_append, eqi_cons, eqi_cons a, Nat.pow_succ, ← Nat.mul_assoc]
    rw [show (a + b * 2 ^ p.length * 2) / 2 = a / 2 + b * 2 ^ p.length by omega, eqi_append q p (a / 2) b (by omega), E.mul_assoc]
    congr 1
    unfold sel
    rw [Nat.pow_zero, Nat.div_one, Nat.div_one, show (a + b * 2 ^ p.length * 2) % 2 = a % 2 by omega]
theorem bitE_succ (a k : Nat) : bitE a (k + 1) = bitE (a / 2) k := by
  unfold bitE
  rw [Nat.pow_succ', ← Nat.div_div_eq_div_mul]
theorem vertex_cons (a n : Nat) : vertex a (n + 1) = bitE a 0 :: vertex (a / 2) n := by
  unfold vertex
  rw [List.range_succ_eq_map, List.map_cons, List.map_map]
  congr 1
  apply List.map_congr_left
  intro k _
  exact bitE_succ a k
/-- At vertices the weights choose one index. -/
theorem eqi_vertex : ∀ (n i a : Nat), i < 2 ^ n → a < 2 ^ n → eqi i (vertex a n) = if i = a then 1 else 0
  | 0, i, a, hi, ha => by
    have : i = a := by rw [Nat.pow_zero] at hi; rw [Nat.pow_zero] at ha; omega
    rw [if_pos this]; rfl
  | n + 1, i, a, hi, ha => by
    rw [Nat.pow_succ] at hi ha
    rw [vertex_cons, eqi_cons, eqi_vertex n (i / 2) (a / 2) (by omega) (by omega)]
    have e : sel i 0 (bitE a 0) = if i % 2 = a % 2 then 1 else 0 := by
      unfold sel bitE
      simp only [Nat.pow_zero, Nat.div_one]
      rcases Nat.mod_two_eq_zero_or_one i with h1 | h1 <;> rcases Nat.mod_two_eq_zero_or_one a with h2 | h2 <;> simp [h1, h2]
      · exact E.sub_zero 1
      · exact E.sub_self 1
    rw [e]
    by_cases h : i = a
    · subst h; simp only [if_true, E.mul_one]
    · rw [if_neg h]
      by_cases h2 : i % 2 = a % 2
      · rw [if_neg (show ¬ i / 2 = a / 2 by omega), E.mul_zero]
      · rw [if_neg h2, E.zero_mul]
/-- The value as the sum over the indices. -/
theorem mev_sum (t p : List E) (h : t.length = 2 ^ p.length) : mev t p = esum ((List.range (2 ^ p.length)).map fun i => t.getD i 0 * eqi i p) := by
  rw [← dotE_all t p h, ← h]; rfl
theorem mev_vertex (t : List E) (a n : Nat) (h : t.length = 2 ^ n) (ha : a < 2 ^ n) : mev t (vertex a n) = t.getD a 0 := by
  rw [mev_sum t _ (by rw [vertex_length]; exact h), vertex_length]
  have e : (List.range (2 ^ n)).map (fun i => t.getD i 0 * eqi i (vertex a n)) = (List.range (2 ^ n)).map fun i => if a = i then t.getD i 0 else 0 := by
    apply List.map_congr_left
    intro i hi
    rw [eqi_vertex n i a (List.mem_range.1 hi) ha]
    by_cases h : i = a
    · rw [if_pos h, if_pos h.symm, E.mul_one]
    · rw [if_neg h, if_neg (fun e => h e.symm), E.mul_zero]
  rw [e, esum_single, if_pos ha]
/-- Linear in the table. -/
theorem mev_linear (k : E) (t s u p : List E) (ht : t.length = 2 ^ p.length) (hs : s.length = 2 ^ p.length) (hu : u.length = 2 ^ p.length) (h : ∀ i, i < 2 ^ p.length → u.getD i 0 = t.getD i 0 + k * s.getD i 0) : mev u p = mev t p + k * mev s p := by
  rw [mev_sum t p ht, mev_sum s p hs, mev_sum u p hu, ← esum_mul, ← esum_add]
  congr 1
  apply List.map_congr_left
  intro i hi
  rw [h i (List.mem_range.1 hi)]
  apply E.ext_ <;> simp only [mul_a, mul_b, add_a, add_b] <;> grind
/-- Affine along each coordinate. -/
theorem eqi_affine (x : E) : ∀ (p : List E) (i c : Nat), eqi i (p.set c x) = eqi i (p.set c 0) + (if c < p.length then x else 0) * (eqi i (p.set c 1) - eqi i (p.set c 0))
  | [], i, c => by
    show (1 : E) = 1 + 0 * _
    rw [E.zero_mul, E.add_zero]
  | r :: p, i, 0 => by
    rw [List.set_cons_zero, List.set_cons_zero, List.set_cons_zero, eqi_cons, eqi_cons, eqi_cons, if_pos (by simp)]
    generalize eqi (i / 2) p = m
    unfold sel
    split <;> (apply E.ext_ <;> simp only [mul_a, mul_b, add_a, add_b, sub_a, sub_b, one_a, one_b, zero_a, zero_b] <;> grind)
  | r :: p, i, c + 1 => by
    rw [List.set_cons_succ, List.set_cons_succ, List.set_cons_succ, eqi_cons, eqi_cons, eqi_cons, eqi_affine x p (i / 2) c]
    simp only [List.length_cons, Nat.add_lt_add_iff_right]
    generalize eqi (i / 2) (p.set c 0) = a
    generalize eqi (i / 2) (p.set c 1) = b
    generalize (if c < p.length then x else 0) = y
    generalize sel i 0 r = m
    apply E.ext_ <;> simp only [mul_a, mul_b, add_a, add_b, sub_a, sub_b] <;> grind
theorem mev_affine (t p : List E) (c : Nat) (x : E) (hc : c < p.length) (h : t.length = 2 ^ p.length) : mev t (p.set c x) = mev t (p.set c 0) + x * (mev t (p.set c 1) - mev t (p.set c 0)) := by
  have e : ∀ y, mev t (p.set c y) = esum ((List.range (2 ^ p.length)).map fun i => t.getD i 0 * eqi i (p.set c y)) := fun y => by
    rw [mev_sum t _ (by rw [List.length_set]; exact h), List.length_set]
  rw [e x, e 0, e 1]
  have e2 : (List.range (2 ^ p.length)).map (fun i => t.getD i 0 * eqi i (p.set c x)) = (List.range (2 ^ p.length)).map fun i => (1 - x) * (t.getD i 0 * eqi i (p.set c 0)) + x * (t.getD i 0 * eqi i (p.set c 1)) := by
    apply List.map_congr_left
    intro i _
    rw [eqi_affine x p i c, if_pos hc]
    generalize eqi i (p.set c 0) = a
    generalize eqi i (p.set c 1) = b
    generalize t.getD i 0 = d
    apply E.ext_ <;> simp only [mul_a, mul_b, add_a, add_b, sub_a, sub_b, one_a, one_b] <;> grind
  rw [e2, esum_add, esum_mul, esum_mul]
  generalize esum _ = a
  generalize esum _ = b
  apply E.ext_ <;> simp only [mul_a, mul_b, add_a, add_b, sub_a, sub_b, one_a, one_b] <;> grind
end Go.Proofs.YtnfiomccgakooaaDoor
