/-
  The coefficients are the values of the tables' extensions, in plain mathematics.
-/
import Derived.Test.YtbmgngoeiadmmaaDoorMl2
import Derived.Test.YtbmgngoeiadmmaaDoorLym
namespace Go.Proofs.YtbmgngoeiadmmaaDoor
open Go.RowKit

theorem tabT_len (k : Nat) (ts : List (Gt × E)) (part : Nat) : (tabT k ts part).length = 2 ^ (2 * k) := by simp [tabT]
theorem tabT_getD (k : Nat) (ts : List (Gt × E)) (part i : Nat) (h : i < 2 ^ (2 * k)) : (tabT k ts part).getD i 0 = tcell k ts i part := by
  have : (tabT k ts part)[i]? = some (tcell k ts i part) := by unfold tabT; rw [List.getElem?_map, List.getElem?_range h]; rfl
  simp [List.getD, this]
theorem pair_lt {i j k : Nat} (hi : i < 2 ^ k) (hj : j < 2 ^ k) : i + j * 2 ^ k < 2 ^ (2 * k) := by
  rw [show 2 * k = k + k by omega, Nat.pow_add]
  have : j * 2 ^ k + 2 ^ k ≤ 2 ^ k * 2 ^ k := by
    rw [← Nat.succ_mul]; exact Nat.mul_le_mul_right _ hj
  omega
theorem sum_cells (k part : Nat) (r : List E) : ∀ ts : List (Gt × E), (∀ t ∈ ts, t.1.L < 2 ^ k ∧ t.1.R < 2 ^ k) → esum ((List.range (2 ^ (2 * k))).map fun i => tcell k ts i part * eqi i r) = esum (ts.map fun t => t.2 * eb (gk t.1 part) * eqi (t.1.L + t.1.R * 2 ^ k) r)
  | [], _ => esum_map_zero _ _ fun i _ => by show (0 : E) * _ = 0; rw [E.zero_mul]
  | t :: ts, h => by
    have ih := sum_cells k part r ts fun u hu => h u (List.mem_cons_of_mem _ hu)
    obtain ⟨h1, h2⟩ := h t (List.mem_cons_self ..)
    have e : (fun i => tcell k (t :: ts) i part * eqi i r) = fun i => (if t.1.L + t.1.R * 2 ^ k = i then t.2 * eb (gk t.1 part) * eqi i r else 0) + tcell k ts i part * eqi i r := by
      funext i
      rw [tcell_cons, E.add_mul]
      congr 1
      split
      · rfl
      · rw [E.zero_mul]
    rw [e, esum_add, ih, esum_single (fun i => t.2 * eb (gk t.1 part) * eqi i r), if_pos (pair_lt h1 h2)]
    rfl
theorem mev_tab (k part : Nat) (gs : List Gt) (us p q : List E) (hp : p.length = k) (hq : q.length = k) (h : ∀ t ∈ gs.zip us, t.1.L < 2 ^ k ∧ t.1.R < 2 ^ k) : mev (tabT k (gs.zip us) part) (p ++ q) = coef p q gs us part := by
  have hl : (p ++ q).length = 2 * k := by rw [List.length_append, hp, hq]; omega
  rw [mev_sum _ _ (by rw [tabT_len, hl]), hl]
  have e : (List.range (2 ^ (2 * k))).map (fun i => (tabT k (gs.zip us) part).getD i 0 * eqi i (p ++ q)) = (List.range (2 ^ (2 * k))).map fun i => tcell k (gs.zip us) i part * eqi i (p ++ q) :=
    List.map_congr_left fun i hi => by rw [tabT_getD _ _ _ _ (List.mem_range.1 hi)]
  rw [e, sum_cells k part _ _ h]
  unfold coef
  congr 1
  refine List.map_congr_left fun t ht => ?_
  obtain ⟨h1, h2⟩ := h t ht
  have := eqi_append q p t.1.L t.1.R (by rw [hp]; exact h1)
  rw [hp] at this
  rw [this]
  unfold wgt
  rw [E.mul_assoc, E.mul_assoc, E.mul_comm (eb _)]
theorem coef_vertex (k part a b : Nat) (gs : List Gt) (us : List E) (ha : a < 2 ^ k) (hb : b < 2 ^ k) (h : ∀ t ∈ gs.zip us, t.1.L < 2 ^ k ∧ t.1.R < 2 ^ k) : coef (vertex a k) (vertex b k) gs us part = tcell k (gs.zip us) (a + b * 2 ^ k) part := by
  unfold coef tcell
  congr 1
  refine List.map_congr_left fun t ht => ?_
  obtain ⟨h1, h2⟩ := h t ht
  unfold wgt
  rw [eqi_vertex k t.1.L a h1 ha, eqi_vertex k t.1.R b h2 hb]
  by_cases c : t.1.L = a ∧ t.1.R = b
  · rw [if_pos c.1, if_pos c.2, if_pos ((index_pair h1 ha).2 c), E.mul_one, E.mul_one]
  · rw [if_neg (fun e => c ((index_pair h1 ha).1 e))]
    by_cases c1 : t.1.L = a
    · rw [if_pos c1, if_neg (fun e => c ⟨c1, e⟩), E.one_mul, E.mul_zero, E.zero_mul]
    · rw [if_neg c1, E.zero_mul, E.mul_zero, E.zero_mul]
end Go.Proofs.YtbmgngoeiadmmaaDoor
