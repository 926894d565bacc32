/-
  The sum of a mask over the vertices, in mathematics.
-/
import Derived.Test.YtnddfeidggcplaaGreatZ32
namespace Go.Proofs.YtnddfeidggcplaaGreat

def nodP (n j : Nat) (x : E) : E := befE x j * aftK x n (n - (j + 1))
theorem nod_tab : ∀ n, n < 5 → ∀ i, i < n → ∀ j, j < n → nodP n j (nodeE i) = if i = j then difK i n else 0 := by decide +kernel
theorem dif_tab : ∀ n, n < 5 → ∀ i, i < n → difK i n ≠ 0 := by decide +kernel
theorem at_node (v : List E) (i : Nat) (hi : i < v.length) (h4 : v.length ≤ 4) : atE v (nodeE i) = v.getD i 0 := by
  have e : atE v (nodeE i) = esum ((List.range v.length).map fun j => if i = j then v.getD j 0 else 0) := by
    unfold atE atK
    refine esum_congr _ _ _ fun j hj => ?_
    have hj' := List.mem_range.1 hj
    have h := nod_tab v.length (by omega) i hi j hj'
    unfold nodP at h
    rw [h]
    by_cases hij : i = j
    · subst hij
      rw [if_pos rfl, if_pos rfl, E.mul_assoc]
      unfold wgtE
      rw [einv_mul _ (dif_tab _ (by omega) i hi), E.mul_one]
    · rw [if_neg hij, if_neg hij, E.mul_zero]
  rw [e, esum_single, if_pos hi]
theorem at_zero (v : List E) (h2 : 2 ≤ v.length) (h4 : v.length ≤ 4) : atE v 0 = v.getD 0 0 := by
  have := at_node v 0 (by omega) h4
  rwa [nodeE_zero] at this
theorem at_one (v : List E) (h2 : 2 ≤ v.length) (h4 : v.length ≤ 4) : atE v 1 = v.getD 1 0 := by
  have := at_node v 1 (by omega) h4
  rwa [nodeE_one] at this
theorem sum_const (c : E) : ∀ n, esum ((List.range (2 ^ n)).map fun _ => c) = c * xp e2 n := by
  intro n
  induction n generalizing c with
  | zero => show c + 0 = c * 1; rw [E.add_zero, E.mul_one]
  | succ n ih =>
    rw [Nat.pow_succ', esum_pairs, ih (c + c)]
    show (c + c) * xp e2 n = c * (e2 * xp e2 n)
    rw [← e2_mul, E.mul_assoc, ← E.mul_assoc e2, E.mul_comm e2 c, E.mul_assoc]
theorem bit_even (i : Nat) : bitE (2 * i) 0 = 0 := by unfold bitE; rw [if_neg (by simp)]
theorem bit_odd (i : Nat) : bitE (2 * i + 1) 0 = 1 := by unfold bitE; rw [if_pos (by simp)]
theorem bit_even_succ (i k : Nat) : bitE (2 * i) (k + 1) = bitE i k := by rw [bitE_succ, show 2 * i / 2 = i by omega]
theorem bit_odd_succ (i k : Nat) : bitE (2 * i + 1) (k + 1) = bitE i k := by rw [bitE_succ, show (2 * i + 1) / 2 = i by omega]
theorem sum_bits (f : E → E) : ∀ n k, k < n → esum ((List.range (2 ^ n)).map fun i => f (bitE i k)) = (f 0 + f 1) * xp e2 (n - 1)
  | 0, k, h => absurd h (Nat.not_lt_zero k)
  | n + 1, 0, _ => by
    rw [Nat.pow_succ', esum_pairs]
    simp only [bit_even, bit_odd]
    rw [sum_const, Nat.add_sub_cancel]
  | n + 1, k + 1, h => by
    rw [Nat.pow_succ', esum_pairs]
    simp only [bit_even_succ, bit_odd_succ]
    rw [esum_add, sum_bits f n k (by omega), Nat.add_sub_cancel, ← e2_mul]
    obtain ⟨m, rfl⟩ : ∃ m, n = m + 1 := ⟨n - 1, by omega⟩
    rw [Nat.add_sub_cancel]
    show e2 * ((f 0 + f 1) * xp e2 m) = (f 0 + f 1) * (e2 * xp e2 m)
    rw [← E.mul_assoc, E.mul_comm e2, E.mul_assoc]
/-- The sums of the ends of the polynomials from j on. -/
def tailK (m : List (List E)) (j k : Nat) : E := esum ((List.range k).map fun t => endsE (m.getD (j + t) []))
theorem tailK_succ (m : List (List E)) (j k : Nat) : tailK m j (k + 1) = tailK m j k + endsE (m.getD (j + k) []) := esum_range _ k
def restE (m : List (List E)) (fx : List E) : E := esum ((List.range (2 ^ (m.length - fx.length))).map fun i => evM m (fx ++ vertex i (m.length - fx.length)))
theorem rest_step (m : List (List E)) (fx : List E) (hf : fx.length ≤ m.length) (hm : ∀ i, i < m.length → 2 ≤ (m.getD i []).length ∧ (m.getD i []).length ≤ 4) : ∀ k, k ≤ m.length - fx.length →
    esum ((List.range (2 ^ (m.length - fx.length))).map fun i => evK m (fx ++ vertex i (m.length - fx.length)) (fx.length + k)) = evK m fx fx.length * xp e2 (m.length - fx.length) + tailK m fx.length k * xp e2 (m.length - fx.length - 1)
  | 0, _ => by
    have e : ∀ i, evK m (fx ++ vertex i (m.length - fx.length)) (fx.length + 0) = evK m fx fx.length := fun i => by
      unfold evK
      refine congrArg esum (List.map_congr_left fun t ht => ?_)
      have := List.mem_range.1 ht
      rw [show (fx ++ vertex i (m.length - fx.length)).getD t 0 = fx.getD t 0 by
        rw [List.getD_eq_getElem?_getD, List.getD_eq_getElem?_getD, List.getElem?_append_left (by omega)]]
    rw [esum_congr _ _ _ fun i _ => e i, sum_const, show tailK m fx.length 0 = 0 from rfl, E.zero_mul, E.add_zero]
  | k + 1, h => by
    have e : ∀ i, evK m (fx ++ vertex i (m.length - fx.length)) (fx.length + (k + 1)) = evK m (fx ++ vertex i (m.length - fx.length)) (fx.length + k) + atE (m.getD (fx.length + k) []) (bitE i k) := fun i => by
      rw [← Nat.add_assoc, evK_succ, show (fx ++ vertex i (m.length - fx.length)).getD (fx.length + k) 0 = bitE i k by
        rw [List.getD_eq_getElem?_getD, List.getElem?_append_right (by omega), Nat.add_sub_cancel_left, ← List.getD_eq_getElem?_getD, vertex_get _ _ _ (by omega)]]
    rw [esum_congr _ _ _ fun i _ => e i, esum_add, rest_step m fx hf hm k (by omega), sum_bits (fun b => atE (m.getD (fx.length + k) []) b) _ k (by omega)]
    obtain ⟨h2, h4⟩ := hm (fx.length + k) (by omega)
    rw [at_zero _ h2 h4, at_one _ h2 h4, tailK_succ, E.add_mul (tailK m fx.length k), ← E.add_assoc]
    rfl
theorem rest_all (m : List (List E)) (fx : List E) (hf : fx.length ≤ m.length) (hm : ∀ i, i < m.length → 2 ≤ (m.getD i []).length ∧ (m.getD i []).length ≤ 4) :
    restE m fx = evK m fx fx.length * xp e2 (m.length - fx.length) + tailK m fx.length (m.length - fx.length) * xp e2 (m.length - fx.length - 1) := by
  rw [← rest_step m fx hf hm _ (Nat.le_refl _), show fx.length + (m.length - fx.length) = m.length by omega]
  rfl
theorem rest_tot (m : List (List E)) (hm : ∀ i, i < m.length → 2 ≤ (m.getD i []).length ∧ (m.getD i []).length ≤ 4) : restE m [] = totM m := by
  rw [rest_all m [] (Nat.zero_le _) hm]
  unfold totM
  rw [show evK m [] ([] : List E).length = 0 from rfl, E.zero_mul, E.zero_add, List.length_nil, Nat.sub_zero]
  have e : tailK m 0 m.length = endK m m.length := by
    unfold tailK endK
    simp only [Nat.zero_add]
  rw [e]
  by_cases h : m.length = 0
  · rw [h, show endK m 0 = 0 from rfl, E.zero_mul, E.zero_mul]
  · rw [show ((m.length : Int) - 1) = ((m.length - 1 : Nat) : Int) by omega, pwZ_nat]
/-! ### A mask and a multiple of another one -/
def linM (m : List (List E)) (f : E) (k : List (List E)) (n : Nat) : List (List E) := (List.range n).map fun i => linR (m.getD i []) f (k.getD i [])
theorem linM_length (m : List (List E)) (f : E) (k : List (List E)) (n : Nat) : (linM m f k n).length = n := by simp [linM]
theorem linM_succ (m : List (List E)) (f : E) (k : List (List E)) (n : Nat) : linM m f k (n + 1) = linM m f k n ++ [linR (m.getD n []) f (k.getD n [])] := by simp [linM, List.range_succ]
theorem linM_get (m : List (List E)) (f : E) (k : List (List E)) (n i : Nat) (h : i < n) : (linM m f k n).getD i [] = linR (m.getD i []) f (k.getD i []) := by simp [linM, List.getD, h]
theorem add_lin (a b c d f : E) : a + f * b + (c + f * d) = (a + c) + f * (b + d) := by
  rw [E.mul_add]
  generalize f * b = x
  generalize f * d = y
  apply E.ext_ <;> simp only [add_a, add_b] <;> grind
theorem lin_ends (g : List E) (f : E) (h : List E) (h2 : 2 ≤ h.length) : endsE (linR g f h) = endsE g + f * endsE h := by
  unfold endsE
  rw [linR_getD _ _ _ _ (by omega), linR_getD _ _ _ _ (by omega), add_lin]
section
variable {m k : List (List E)} {f : E} {n D : Nat} {co : List E} (hD : 1 ≤ D) (hm : ∀ i, i < n → (m.getD i []).length = D + 1) (hk : ∀ i, i < n → (k.getD i []).length = D + 1)
include hm hk
theorem lin_ev : ∀ j, j ≤ n → evK (linM m f k n) co j = evK m co j + f * evK k co j
  | 0, _ => by
    have z : ∀ M : List (List E), evK M co 0 = 0 := fun M => rfl
    rw [z, z, z, E.mul_zero, E.add_zero]
  | j + 1, h => by rw [evK_succ, evK_succ, evK_succ, linM_get _ _ _ _ _ (by omega), atE_lin _ _ _ _ (by rw [hm j (by omega), hk j (by omega)]), lin_ev j (by omega), add_lin]
omit hm in
include hD in
theorem lin_end : ∀ j, j ≤ n → endK (linM m f k n) j = endK m j + f * endK k j
  | 0, _ => by
    have z : ∀ M : List (List E), endK M 0 = 0 := fun M => rfl
    rw [z, z, z, E.mul_zero, E.add_zero]
  | j + 1, h => by rw [endK_succ, endK_succ, endK_succ, linM_get _ _ _ _ _ (by omega), lin_ends _ _ _ (by rw [hk j (by omega)]; omega), lin_end j (by omega), add_lin]
omit hm in
include hD in
theorem lin_tot (hml : m.length = n) (hkl : k.length = n) : totM (linM m f k n) = totM m + f * totM k := by
  unfold totM
  rw [linM_length, hml, hkl, lin_end hD hk n (Nat.le_refl _), E.add_mul, E.mul_assoc]
theorem lin_evM (hml : m.length = n) (hkl : k.length = n) : evM (linM m f k n) co = evM m co + f * evM k co := by
  unfold evM
  rw [linM_length, hml, hkl, lin_ev hm hk n (Nat.le_refl _)]
end
end Go.Proofs.YtnddfeidggcplaaGreat
