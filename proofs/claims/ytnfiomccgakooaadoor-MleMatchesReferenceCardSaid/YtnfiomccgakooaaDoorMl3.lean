/-
  Laws of the multilinear extension: weights, equality, streaming, sums of a table.
-/
import Derived.Test.YtnfiomccgakooaaDoorMl2
namespace Go.Proofs.YtnfiomccgakooaaDoor

theorem E.sub_self_add (x y : E) : y + (x - y) = x := by apply E.ext_ <;> simp only [sub_a, sub_b, add_a, add_b] <;> grind
theorem esum_congr {α : Type} (f g : α → E) (l : List α) (h : ∀ x ∈ l, f x = g x) : esum (l.map f) = esum (l.map g) := by rw [List.map_congr_left h]
theorem esum_pairs (f : Nat → E) : ∀ n, esum ((List.range (2 * n)).map f) = esum ((List.range n).map fun i => f (2 * i) + f (2 * i + 1))
  | 0 => rfl
  | n + 1 => by
    rw [show 2 * (n + 1) = 2 * n + 1 + 1 by omega, List.range_succ, List.range_succ, List.range_succ, List.map_append, List.map_append, List.map_append, esum_append, esum_append, esum_append, esum_pairs f n, E.add_assoc]
    congr 1
    show f (2 * n) + 0 + (f (2 * n + 1) + 0) = f (2 * n) + f (2 * n + 1) + 0
    rw [E.add_zero, E.add_zero, E.add_zero]
/-- The weights add up to one. -/
theorem eqi_sum : ∀ p : List E, esum ((List.range (2 ^ p.length)).map fun i => eqi i p) = 1
  | [] => by
    show (1 : E) + 0 = 1
    rw [E.add_zero]
  | r :: p => by
    rw [List.length_cons, Nat.pow_succ', esum_pairs]
    have e : (List.range (2 ^ p.length)).map (fun i => eqi (2 * i) (r :: p) + eqi (2 * i + 1) (r :: p)) = (List.range (2 ^ p.length)).map fun i => eqi i p := by
      apply List.map_congr_left
      intro i _
      rw [eqi_cons, eqi_cons, sel_even, sel_odd, show 2 * i / 2 = i by omega, show (2 * i + 1) / 2 = i by omega]
      generalize eqi i p = m
      apply E.ext_ <;> simp only [mul_a, mul_b, add_a, add_b, sub_a, sub_b, one_a, one_b] <;> grind
    rw [e, eqi_sum p]
theorem fac_comm (x y : E) : fac x y = fac y x := by
  unfold fac
  rw [E.mul_comm x y, E.mul_comm (1 - x)]
theorem pfac_comm (p q : List E) : ∀ k, pfac p q k = pfac q p k
  | 0 => rfl
  | k + 1 => by rw [pfac, pfac, pfac_comm p q k, fac_comm]
theorem pfac_cons (x y : E) (p q : List E) : ∀ k, pfac (x :: p) (y :: q) (k + 1) = fac x y * pfac p q k
  | 0 => by
    show 1 * fac x y = fac x y * 1
    rw [E.mul_one, E.one_mul]
  | k + 1 => by
    rw [pfac, pfac_cons x y p q k, pfac, List.getD_cons_succ, List.getD_cons_succ, E.mul_assoc]
/-- Eq is the sum of the products of the weights. -/
theorem pfac_sum : ∀ p q : List E, q.length = p.length → pfac p q p.length = esum ((List.range (2 ^ p.length)).map fun i => eqi i p * eqi i q)
  | [], [], _ => by
    show (1 : E) = 1 * 1 + 0
    rw [E.add_zero, E.mul_one]
  | x :: p, y :: q, h => by
    have h' : q.length = p.length := by simpa using h
    rw [List.length_cons, pfac_cons, pfac_sum p q h', Nat.pow_succ', esum_pairs, ← esum_mul]
    congr 1
    apply List.map_congr_left
    intro i _
    rw [eqi_cons, eqi_cons, eqi_cons, eqi_cons, sel_even, sel_odd, sel_even, sel_odd, show 2 * i / 2 = i by omega, show (2 * i + 1) / 2 = i by omega]
    generalize eqi i p = a
    generalize eqi i q = b
    unfold fac
    apply E.ext_ <;> simp only [mul_a, mul_b, add_a, add_b, sub_a, sub_b, one_a, one_b] <;> grind
  | [], _ :: _, h => by simp at h
  | _ :: _, [], h => by simp at h
def tabEq (p : List E) : List E := (List.range (2 ^ p.length)).map fun i => eqi i p
theorem tabEq_len (p : List E) : (tabEq p).length = 2 ^ p.length := by simp [tabEq]
theorem tabEq_get (p : List E) (i : Nat) (h : i < 2 ^ p.length) : (tabEq p).getD i 0 = eqi i p := by simp [tabEq, List.getD, h]
theorem pfac_mev (p q : List E) (h : q.length = p.length) : pfac p q p.length = mev (tabEq p) q := by
  rw [pfac_sum p q h, mev_sum _ _ (by rw [tabEq_len, h]), h]
  congr 1
  apply List.map_congr_left
  intro i hi
  rw [tabEq_get p i (List.mem_range.1 hi)]
theorem pfac_vertices (a b n : Nat) (ha : a < 2 ^ n) (hb : b < 2 ^ n) : pfac (vertex a n) (vertex b n) n = if a = b then 1 else 0 := by
  rw [pfac_vertex a n _ n (Nat.le_refl _)]
  have := eqi_vertex n a b ha hb
  unfold eqi at this
  rwa [vertex_length] at this
theorem pfac_eqi (a : Nat) (q : List E) : pfac (vertex a q.length) q q.length = eqi a q := pfac_vertex a _ q _ (Nat.le_refl _)
/-- The inner product with the weights. -/
theorem mev_weights (t p : List E) (h : t.length = 2 ^ p.length) : esum ((List.range (2 ^ p.length)).map fun i => eqi i p * t.getD i 0) = mev t p := by
  rw [mev_sum t p h]
  congr 1
  apply List.map_congr_left
  intro i _
  exact E.mul_comm _ _
/-- One element changed. -/
theorem mev_add (t p : List E) (a : Nat) (d : E) (h : t.length = 2 ^ p.length) (ha : a < 2 ^ p.length) : mev (t.set a (t.getD a 0 + d)) p = mev t p + d * eqi a p := by
  rw [mev_sum t p h, mev_sum _ p (by rw [List.length_set]; exact h)]
  have e : (List.range (2 ^ p.length)).map (fun i => (t.set a (t.getD a 0 + d)).getD i 0 * eqi i p) = (List.range (2 ^ p.length)).map fun i => t.getD i 0 * eqi i p + (if a = i then d * eqi i p else 0) := by
    apply List.map_congr_left
    intro i hi
    have hi' : i < t.length := by rw [h]; exact List.mem_range.1 hi
    by_cases hai : a = i
    · subst hai
      rw [if_pos rfl]
      simp only [List.getD_eq_getElem?_getD, List.getElem?_set_self hi', Option.getD_some]
      exact E.add_mul _ _ _
    · rw [if_neg hai, E.add_zero]
      simp only [List.getD_eq_getElem?_getD, List.getElem?_set_ne hai]
  rw [e, esum_add, esum_single (fun i => d * eqi i p), if_pos ha]
theorem mev_zero (n : Nat) (p : List E) (h : n = 2 ^ p.length) : mev (List.replicate n 0) p = 0 := by
  rw [mev_sum _ p (by simp [h])]
  apply esum_map_zero
  intro i hi
  have : i < n := by rw [h]; exact List.mem_range.1 hi
  simp only [List.getD_eq_getElem?_getD, List.getElem?_replicate, this, if_true, Option.getD_some]
  exact E.zero_mul _
/-- Binding the first variables. -/
theorem mev_bind (t : List E) (r : E) (p : List E) : mev (bindL t r) p = mev t (r :: p) := rfl
theorem mev_nil (x : E) : mev [x] [] = x := rfl
/-- Powers in the extension field. -/
def epow (x : E) : Nat → E
  | 0 => 1
  | n + 1 => epow x n * x
theorem eqi_half (c : E) (hc : c + c = 1) : ∀ (n i : Nat), eqi i (List.replicate n c) = epow c n
  | 0, _ => rfl
  | n + 1, i => by
    have h1 : 1 - c = c := by
      rw [← hc]
      apply E.ext_ <;> simp only [sub_a, sub_b, add_a, add_b] <;> grind
    rw [List.replicate_succ, eqi_cons, eqi_half c hc n, epow, E.mul_comm]
    unfold sel
    split <;> simp only [h1]
theorem epow_half (c : E) (hc : c + c = 1) : ∀ n : Nat, eb (fz ((2 ^ n : Nat) : Int)) * epow c n = 1
  | 0 => by
    show eb (fz 1) * 1 = 1
    rw [E.mul_one]
    rfl
  | n + 1 => by
    have ih := epow_half c hc n
    have e : eb (fz ((2 ^ (n + 1) : Nat) : Int)) = eb (fz ((2 ^ n : Nat) : Int)) + eb (fz ((2 ^ n : Nat) : Int)) := by
      rw [← eb_add]
      congr 1
      apply fv_inj
      rw [fv_add, fv_fz, fv_fz, Nat.pow_succ]
      omega
    rw [e, epow]
    generalize eb (fz ((2 ^ n : Nat) : Int)) = x at *
    generalize epow c n = y at *
    rw [E.add_mul, ← E.mul_assoc, ih, E.one_mul, hc]
theorem mev_half (t : List E) (n : Nat) (c : E) (hc : c + c = 1) (h : t.length = 2 ^ n) : eb (fz ((2 ^ n : Nat) : Int)) * mev t (List.replicate n c) = esum ((List.range (2 ^ n)).map fun i => t.getD i 0) := by
  have hl : (List.replicate n c).length = n := List.length_replicate
  rw [mev_sum t _ (by rw [hl]; exact h), hl]
  have e : (List.range (2 ^ n)).map (fun i => t.getD i 0 * eqi i (List.replicate n c)) = (List.range (2 ^ n)).map fun i => epow c n * t.getD i 0 := by
    apply List.map_congr_left
    intro i _
    rw [eqi_half c hc, E.mul_comm]
  rw [e, esum_mul, ← E.mul_assoc, epow_half c hc, E.one_mul]
/-! ### Finite differences -/
def dif (f : Nat → E) (j : Nat) : E := f (j + 1) - f j
def difs : Nat → (Nat → E) → Nat → E
  | 0, f => f
  | n + 1, f => difs n (dif f)
theorem difs_succ (n : Nat) (f : Nat → E) (j : Nat) : difs (n + 1) f j = difs n f (j + 1) - difs n f j := by
  induction n generalizing f with
  | zero => rfl
  | succ n ih => exact ih (dif f)
/-- f is a polynomial of degree at most d: its difference of order d + 1 vanishes. -/
def Deg : Nat → (Nat → E) → Prop
  | 0, f => ∀ j, f (j + 1) = f j
  | d + 1, f => Deg d (dif f)
theorem deg_vanish : ∀ (d : Nat) (f : Nat → E), Deg d f → ∀ j, difs (d + 1) f j = 0
  | 0, f, h, j => by
    show f (j + 1) - f j = 0
    rw [h j, E.sub_self]
  | d + 1, f, h, j => deg_vanish d (dif f) h j
theorem deg_congr : ∀ (d : Nat) (f g : Nat → E), (∀ j, f j = g j) → Deg d f → Deg d g
  | 0, f, g, h, hf => fun j => by rw [← h, ← h]; exact hf j
  | d + 1, f, g, h, hf => deg_congr d (dif f) (dif g) (fun j => by unfold dif; rw [h, h]) hf
theorem deg_shift : ∀ (d : Nat) (f : Nat → E), Deg d f → Deg d (fun j => f (j + 1))
  | 0, _, h => fun j => h (j + 1)
  | d + 1, f, h => deg_shift d (dif f) h
theorem deg_add : ∀ (d : Nat) (f g : Nat → E), Deg d f → Deg d g → Deg d (fun j => f j + g j)
  | 0, f, g, hf, hg => fun j => by simp only; rw [hf j, hg j]
  | d + 1, f, g, hf, hg => deg_congr d _ _ (fun j => by
      unfold dif
      apply E.ext_ <;> simp only [sub_a, sub_b, add_a, add_b] <;> grind) (deg_add d (dif f) (dif g) hf hg)
theorem deg_smul (c : E) : ∀ (d : Nat) (f : Nat → E), Deg d f → Deg d (fun j => c * f j)
  | 0, f, hf => fun j => by simp only; rw [hf j]
  | d + 1, f, hf => deg_congr d _ _ (fun j => by unfold dif; exact E.mul_sub _ _ _) (deg_smul c d (dif f) hf)
theorem deg_const (c : E) : Deg 0 (fun _ => c) := fun _ => rfl
theorem deg_zero : ∀ (d : Nat), Deg d (fun _ => 0)
  | 0 => fun _ => rfl
  | d + 1 => deg_congr d _ _ (fun j => by unfold dif; exact (E.sub_self 0).symm) (deg_zero d)
theorem deg_up : ∀ (d : Nat) (f : Nat → E), Deg d f → Deg (d + 1) f
  | 0, f, hf => deg_congr 0 _ _ (fun j => by unfold dif; rw [hf j, E.sub_self]) (deg_const 0)
  | d + 1, f, hf => deg_up d (dif f) hf
/-- A product with an affine function. -/
theorem deg_affine (a b : E) (u : Nat → E) (hu : ∀ j, u (j + 1) = u j + b) : ∀ (d : Nat) (f : Nat → E), Deg d f → Deg (d + 1) (fun j => u j * f j)
  | 0, f, hf => deg_congr 0 _ _ (fun j => by
      unfold dif
      simp only
      rw [hu j, hf j]
      have : f j = f 0 := by
        induction j with
        | zero => rfl
        | succ j ih => rw [hf j, ih]
      rw [this]
      generalize f 0 = c
      generalize u j = x
      show b * c = _
      apply E.ext_ <;> simp only [sub_a, sub_b, add_a, add_b, mul_a, mul_b] <;> grind) (deg_const (b * f 0))
  | d + 1, f, hf => by
    refine deg_congr (d + 1) (fun j => u j * dif f j + b * f (j + 1)) _ (fun j => ?_) (deg_add (d + 1) _ _ (deg_affine a b u hu d (dif f) hf) (deg_smul b (d + 1) _ (deg_shift (d + 1) f hf)))
    unfold dif
    simp only
    rw [hu j]
    generalize u j = x
    generalize f (j + 1) = y
    generalize f j = z
    apply E.ext_ <;> simp only [sub_a, sub_b, add_a, add_b, mul_a, mul_b] <;> grind
theorem deg_esum {α : Type} (d : Nat) (f : α → Nat → E) : ∀ l : List α, (∀ x ∈ l, Deg d (f x)) → Deg d (fun j => esum (l.map fun x => f x j))
  | [], _ => deg_zero d
  | x :: l, h => deg_add d (f x) _ (h x (List.mem_cons_self ..)) (deg_esum d f l fun y hy => h y (List.mem_cons_of_mem _ hy))
theorem deg_sel (i k : Nat) (_c e : E) (u : Nat → E) (hu : ∀ j, u (j + 1) = u j + e) : ∃ b, ∀ j, sel i k (u (j + 1)) = sel i k (u j) + b := by
  unfold sel
  split
  · exact ⟨e, hu⟩
  · refine ⟨0 - e, fun j => ?_⟩
    rw [hu j]
    generalize u j = x
    apply E.ext_ <;> simp only [sub_a, sub_b, add_a, add_b, zero_a, zero_b, one_a, one_b] <;> grind
/-- The weights along points that move evenly. -/
theorem deg_eqi : ∀ (n i : Nat) (us : List (Nat → E)), us.length = n → (∀ u ∈ us, ∃ e, ∀ j, u (j + 1) = u j + e) → Deg n (fun j => eqi i (us.map fun u => u j))
  | 0, i, [], _, _ => deg_const 1
  | n + 1, i, u :: us, h, hu => by
    obtain ⟨e, he⟩ := hu u (List.mem_cons_self ..)
    obtain ⟨b, hb⟩ := deg_sel i 0 0 e u he
    refine deg_congr (n + 1) _ _ (fun j => ?_) (deg_affine 0 b (fun j => sel i 0 (u j)) hb n _ (deg_eqi n (i / 2) us (by simpa using h) fun v hv => hu v (List.mem_cons_of_mem _ hv)))
    simp only [List.map_cons]
    rw [eqi_cons]
  | n + 1, i, [], h, _ => by simp at h
  | 0, i, _ :: _, h, _ => by simp at h
theorem deg_mev (t : List E) (us : List (Nat → E)) (h : t.length = 2 ^ us.length) (hu : ∀ u ∈ us, ∃ e, ∀ j, u (j + 1) = u j + e) : Deg us.length (fun j => mev t (us.map fun u => u j)) := by
  refine deg_congr _ _ _ (fun j => (mev_sum t _ (by rw [List.length_map]; exact h)).symm) ?_
  simp only [List.length_map]
  exact deg_esum us.length (fun i j => t.getD i 0 * eqi i (us.map fun u => u j)) _ fun i _ => deg_smul _ _ _ (deg_eqi us.length i us rfl hu)
end Go.Proofs.YtnfiomccgakooaaDoor
