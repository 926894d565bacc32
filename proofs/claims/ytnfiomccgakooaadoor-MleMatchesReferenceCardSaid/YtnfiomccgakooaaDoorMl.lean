/-
  Multilinear extensions: what the functions of chapter 05 compute, and its laws.
-/
import Derived.Test.YtnfiomccgakooaaDoorCo
namespace Go.Proofs.YtnfiomccgakooaaDoor

theorem sel_succ (i k : Nat) (x : E) : sel i (k + 1) x = sel (i / 2) k x := by
  unfold sel
  rw [Nat.pow_succ', ← Nat.div_div_eq_div_mul]
theorem wt_cons (r : E) (p : List E) (i : Nat) : ∀ k, wt (r :: p) i (k + 1) = sel i 0 r * wt p (i / 2) k
  | 0 => by
    show 1 * sel i 0 r = sel i 0 r * 1
    rw [E.mul_one, E.one_mul]
  | k + 1 => by
    rw [wt, wt_cons r p i k, wt, E.mul_assoc, sel_succ]
    rfl
theorem eqi_nil (i : Nat) : eqi i [] = 1 := rfl
theorem eqi_cons (i : Nat) (r : E) (p : List E) : eqi i (r :: p) = sel i 0 r * eqi (i / 2) p := wt_cons r p i p.length
theorem sel_even (i : Nat) (r : E) : sel (2 * i) 0 r = 1 - r := by unfold sel; rw [if_neg (by simp)]
theorem sel_odd (i : Nat) (r : E) : sel (2 * i + 1) 0 r = r := by unfold sel; rw [if_pos (by simp)]
/-- Variable 0 fixed. -/
def bindL : List E → E → List E
  | x :: y :: t, r => (x + r * (y - x)) :: bindL t r
  | _, _ => []
def evalL : List E → List E → List E
  | t, [] => t
  | t, r :: p => evalL (bindL t r) p
theorem bindL_length (r : E) : ∀ (n : Nat) (t : List E), t.length = 2 * n → (bindL t r).length = n
  | 0, [], _ => rfl
  | n + 1, x :: y :: t, h => by
    show (bindL t r).length + 1 = n + 1
    rw [bindL_length r n t (by simp only [List.length_cons] at h; omega)]
  | 0, _ :: _, h => by simp at h
  | n + 1, [], h => by simp at h
  | n + 1, [_], h => by simp at h; omega
theorem bindL_get (r : E) : ∀ (i : Nat) (t : List E) (x y : E), t[2 * i]? = some x → t[2 * i + 1]? = some y → (bindL t r)[i]? = some (x + r * (y - x))
  | 0, a :: b :: t, x, y, hx, hy => by
    simp at hx hy; subst hx; subst hy; rfl
  | i + 1, a :: b :: t, x, y, hx, hy => by
    show (bindL t r)[i]? = _
    refine bindL_get r i t x y ?_ ?_
    · rw [show 2 * (i + 1) = 2 * i + 1 + 1 by omega] at hx; simpa using hx
    · rw [show 2 * (i + 1) + 1 = 2 * i + 1 + 1 + 1 by omega] at hy; simpa using hy
  | 0, [], x, y, hx, _ => by simp at hx
  | 0, [_], x, y, _, hy => by simp at hy
  | i + 1, [], x, y, hx, _ => by simp at hx
  | i + 1, [_], x, y, hx, _ => by rw [show 2 * (i + 1) = 2 * i + 1 + 1 by omega] at hx; simp at hx
theorem evalL_length : ∀ (p t : List E), t.length = 2 ^ p.length → (evalL t p).length = 1
  | [], t, h => by simpa [evalL] using h
  | r :: p, t, h => by
    rw [evalL]
    refine evalL_length p _ (bindL_length r _ t ?_)
    rw [h, List.length_cons, Nat.pow_succ']
/-- The value of the multilinear extension. -/
def mev (t p : List E) : E := (evalL t p).headD 0
theorem evalL_mev {p t : List E} (h : t.length = 2 ^ p.length) : evalL t p = [mev t p] := by
  have := evalL_length p t h
  unfold mev
  match evalL t p, this with
  | [x], _ => rfl
/-- The weighted sum of the elements of a table, the weights those of the indices from s on. -/
def dotF (p : List E) : Nat → List E → E
  | _, [] => 0
  | s, x :: t => x * eqi s p + dotF p (s + 1) t
theorem dot_bind (r : E) (p : List E) : ∀ (n : Nat) (t : List E) (s : Nat), t.length = 2 * n → dotF (r :: p) (2 * s) t = dotF p s (bindL t r)
  | 0, [], _, _ => rfl
  | n + 1, x :: y :: t, s, h => by
    rw [dotF, dotF, bindL, dotF, show 2 * s + 1 + 1 = 2 * (s + 1) by omega, dot_bind r p n t (s + 1) (by simp only [List.length_cons] at h; omega), eqi_cons, eqi_cons, sel_even, sel_odd, show 2 * s / 2 = s by omega, show (2 * s + 1) / 2 = s by omega]
    generalize dotF p (s + 1) (bindL t r) = d
    generalize eqi s p = m
    apply E.ext_ <;> simp only [mul_a, mul_b, add_a, add_b, sub_a, sub_b, one_a, one_b] <;> grind
  | 0, _ :: _, _, h => by simp at h
  | n + 1, [], _, h => by simp at h
  | n + 1, [_], _, h => by simp at h; omega
theorem mev_dot : ∀ (p t : List E), t.length = 2 ^ p.length → mev t p = dotF p 0 t
  | [], t, h => by
    match t, h with
    | [x], _ =>
      show x = x * 1 + 0
      rw [E.mul_one, E.add_zero]
  | r :: p, t, h => by
    have h2 : t.length = 2 * 2 ^ p.length := by rw [h, List.length_cons, Nat.pow_succ']
    show mev (bindL t r) p = _
    rw [mev_dot p _ (bindL_length r _ t h2), ← dot_bind r p _ t 0 h2]
/-- The weighted sum, as the reference adds it. -/
def dotE (t p : List E) (j : Nat) : E := esum ((List.range j).map fun i => t.getD i 0 * eqi i p)
theorem dotE_zero (t p : List E) : dotE t p 0 = 0 := rfl
theorem dotE_succ (t p : List E) (j : Nat) : dotE t p (j + 1) = dotE t p j + t.getD j 0 * eqi j p := by
  unfold dotE
  rw [List.range_succ, List.map_append, esum_append]
  simp [esum, E.add_zero]
theorem dotF_esum (p : List E) : ∀ (t : List E) (s : Nat), dotF p s t = esum ((List.range t.length).map fun i => t.getD i 0 * eqi (s + i) p)
  | [], _ => rfl
  | x :: t, s => by
    rw [dotF, dotF_esum p t (s + 1), List.length_cons, List.range_succ_eq_map, List.map_cons, List.map_map]
    show _ = x * eqi (s + 0) p + esum _
    rw [Nat.add_zero]
    congr 2
    apply List.map_congr_left
    intro i _
    simp only [Function.comp, List.getD_cons_succ]
    rw [show s + (i + 1) = s + 1 + i by omega]
theorem dotE_all (t p : List E) (h : t.length = 2 ^ p.length) : dotE t p t.length = mev t p := by
  rw [mev_dot p t h, dotF_esum]
  unfold dotE
  congr 1
  apply List.map_congr_left
  intro i _
  rw [Nat.zero_add]
end Go.Proofs.YtnfiomccgakooaaDoor
