/-
  The layer theorem, in plain mathematics: the weighted sum of the values of the gates is the sum over all pairs of indices.
-/
import Derived.Test.YtbmgngoeiadmmaaDoorTb
import Derived.Test.YtbmgngoeiadmmaaDoorMl3
import Derived.Test.YtbmgngoeiadmmaaDoorEq2
namespace Go.Proofs.YtbmgngoeiadmmaaDoor

/-- The value of a gate, as the statement reckons it. -/
def gateV (g : Gt) (x y : E) : E := x * y * eb g.c + x * eb g.a + (y * eb g.b + eb g.d)
theorem gateV_poly (g : Gt) (x y : E) : gateV g x y = poly (eb g.c) (eb g.a) (eb g.b) (eb g.d) x y := by
  unfold gateV poly
  apply E.ext_ <;> simp only [mul_a, mul_b, add_a, add_b] <;> grind
/-- The polynomial at a pair of indices. -/
def pairV (k : Nat) (ts : List (Gt × E)) (v : List E) (i j : Nat) : E := poly (tcell k ts (i + j * 2 ^ k) 0) (tcell k ts (i + j * 2 ^ k) 1) (tcell k ts (i + j * 2 ^ k) 2) (tcell k ts (i + j * 2 ^ k) 3) (v.getD i 0) (v.getD j 0)
def rowV (k : Nat) (ts : List (Gt × E)) (v : List E) (i n : Nat) : E := esum ((List.range n).map fun j => pairV k ts v i j)
def allV (k : Nat) (ts : List (Gt × E)) (v : List E) (n : Nat) : E := esum ((List.range n).map fun i => rowV k ts v i (2 ^ k))
def gateS (ts : List (Gt × E)) (v : List E) (j : Nat) : E := esum ((ts.take j).map fun t => t.2 * gateV t.1 (v.getD t.1.L 0) (v.getD t.1.R 0))
theorem esum_snoc (f : Nat → E) (n : Nat) : esum ((List.range (n + 1)).map f) = esum ((List.range n).map f) + f n := by
  rw [List.range_succ, List.map_append, esum_append]
  simp [esum, E.add_zero]
theorem rowV_succ (k : Nat) (ts : List (Gt × E)) (v : List E) (i n : Nat) : rowV k ts v i (n + 1) = rowV k ts v i n + pairV k ts v i n := esum_snoc _ n
theorem allV_succ (k : Nat) (ts : List (Gt × E)) (v : List E) (n : Nat) : allV k ts v (n + 1) = allV k ts v n + rowV k ts v n (2 ^ k) := esum_snoc _ n
theorem gateS_succ (ts : List (Gt × E)) (v : List E) (j : Nat) (t : Gt × E) (h : ts[j]? = some t) : gateS ts v (j + 1) = gateS ts v j + t.2 * gateV t.1 (v.getD t.1.L 0) (v.getD t.1.R 0) := by
  unfold gateS
  rw [List.take_add_one, h, List.map_append, esum_append]
  simp [esum, E.add_zero]
theorem tcell_cons (k : Nat) (t : Gt × E) (ts : List (Gt × E)) (i part : Nat) : tcell k (t :: ts) i part = (if t.1.L + t.1.R * 2 ^ k = i then t.2 * eb (gk t.1 part) else 0) + tcell k ts i part := rfl
theorem pairV_cons (k : Nat) (t : Gt × E) (ts : List (Gt × E)) (v : List E) (i j : Nat) : pairV k (t :: ts) v i j = (if t.1.L + t.1.R * 2 ^ k = i + j * 2 ^ k then t.2 * gateV t.1 (v.getD i 0) (v.getD j 0) else 0) + pairV k ts v i j := by
  unfold pairV
  rw [tcell_cons, tcell_cons, tcell_cons, tcell_cons]
  generalize tcell k ts (i + j * 2 ^ k) 0 = a0
  generalize tcell k ts (i + j * 2 ^ k) 1 = a1
  generalize tcell k ts (i + j * 2 ^ k) 2 = a2
  generalize tcell k ts (i + j * 2 ^ k) 3 = a3
  generalize v.getD i 0 = x
  generalize v.getD j 0 = y
  rw [gateV_poly]
  split
  · show poly (t.2 * eb t.1.c + a0) (t.2 * eb t.1.a + a1) (t.2 * eb t.1.b + a2) (t.2 * eb t.1.d + a3) x y = _
    generalize eb t.1.c = b0
    generalize eb t.1.a = b1
    generalize eb t.1.b = b2
    generalize eb t.1.d = b3
    unfold poly
    apply E.ext_ <;> simp only [mul_a, mul_b, add_a, add_b] <;> grind
  · rw [E.zero_add, E.zero_add, E.zero_add, E.zero_add, E.zero_add]
theorem pairV_nil (k : Nat) (v : List E) (i j : Nat) : pairV k [] v i j = 0 := by
  unfold pairV
  have e : ∀ i p, tcell k [] i p = 0 := fun _ _ => rfl
  rw [e, e, e, e]
  unfold poly
  simp only [E.zero_mul, E.add_zero]
theorem index_pair {a b i j N : Nat} (ha : a < N) (hi : i < N) : a + b * N = i + j * N ↔ a = i ∧ b = j := by
  constructor
  · intro h
    have h1 : (a + b * N) % N = a := by rw [Nat.add_mul_mod_self_right, Nat.mod_eq_of_lt ha]
    have h2 : (i + j * N) % N = i := by rw [Nat.add_mul_mod_self_right, Nat.mod_eq_of_lt hi]
    have h3 : a = i := by rw [← h1, h, h2]
    subst h3
    refine ⟨rfl, ?_⟩
    have h4 : b * N = j * N := by omega
    exact Nat.eq_of_mul_eq_mul_right (by omega) h4
  · rintro ⟨rfl, rfl⟩; rfl
theorem layers (k : Nat) (v : List E) : ∀ ts : List (Gt × E), (∀ t ∈ ts, t.1.L < 2 ^ k ∧ t.1.R < 2 ^ k) → allV k ts v (2 ^ k) = gateS ts v ts.length
  | [], _ => by
    unfold allV rowV gateS
    apply esum_map_zero
    intro i _
    exact esum_map_zero _ _ fun j _ => pairV_nil k v i j
  | t :: ts, h => by
    have ih := layers k v ts fun t ht => h t (List.mem_cons_of_mem _ ht)
    obtain ⟨hL, hR⟩ := h t (List.mem_cons_self ..)
    have e1 : ∀ i, rowV k (t :: ts) v i (2 ^ k) = esum ((List.range (2 ^ k)).map fun j => if t.1.L + t.1.R * 2 ^ k = i + j * 2 ^ k then t.2 * gateV t.1 (v.getD i 0) (v.getD j 0) else 0) + rowV k ts v i (2 ^ k) := fun i => by
      unfold rowV
      rw [← esum_add]
      exact esum_congr _ _ _ fun j _ => pairV_cons k t ts v i j
    have e2 : ∀ i ∈ List.range (2 ^ k), esum ((List.range (2 ^ k)).map fun j => if t.1.L + t.1.R * 2 ^ k = i + j * 2 ^ k then t.2 * gateV t.1 (v.getD i 0) (v.getD j 0) else 0) = if t.1.L = i then t.2 * gateV t.1 (v.getD i 0) (v.getD t.1.R 0) else 0 := fun i hi => by
      have hi' := List.mem_range.1 hi
      by_cases hLi : t.1.L = i
      · rw [if_pos hLi]
        rw [esum_congr _ (fun j => if t.1.R = j then t.2 * gateV t.1 (v.getD i 0) (v.getD j 0) else 0) _ fun j _ => ?_]
        · rw [esum_single (fun j => t.2 * gateV t.1 (v.getD i 0) (v.getD j 0)), if_pos hR]
        · have := index_pair (b := t.1.R) (j := j) hL hi'
          by_cases hRj : t.1.R = j
          · rw [if_pos hRj, if_pos (this.2 ⟨hLi, hRj⟩)]
          · rw [if_neg hRj, if_neg fun h => hRj (this.1 h).2]
      · rw [if_neg hLi]
        refine esum_map_zero _ _ fun j _ => ?_
        have := index_pair (b := t.1.R) (j := j) hL hi'
        rw [if_neg fun h => hLi (this.1 h).1]
    unfold allV at ih ⊢
    rw [esum_congr _ (fun i => (if t.1.L = i then t.2 * gateV t.1 (v.getD i 0) (v.getD t.1.R 0) else 0) + rowV k ts v i (2 ^ k)) _ fun i hi => by rw [e1, e2 i hi]]
    rw [esum_add, ih, esum_single (fun i => t.2 * gateV t.1 (v.getD i 0) (v.getD t.1.R 0)), if_pos hL]
    unfold gateS
    rw [List.take_of_length_le (Nat.le_refl _), List.take_of_length_le (Nat.le_refl _)]
    rfl
end Go.Proofs.YtbmgngoeiadmmaaDoor
