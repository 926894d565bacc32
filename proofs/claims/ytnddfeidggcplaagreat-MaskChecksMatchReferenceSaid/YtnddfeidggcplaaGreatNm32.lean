/-
  MaskNormalized in mathematics: a constant moved from one polynomial of a mask to another one; the mask that Explain finds.
-/
import Derived.Test.YtnddfeidggcplaaGreatMv32
namespace Go.Proofs.YtnddfeidggcplaaGreat

def dl (a b : Nat) (c : E) (i : Nat) : E := (if i = a then c else 0) - (if i = b then c else 0)
theorem mvV_dl (a b i : Nat) (c v : E) : mvV a b i c v = v + dl a b c i := by
  unfold mvV dl
  by_cases h1 : i = a <;> by_cases h2 : i = b
  · rw [if_pos h2, if_pos h1, if_pos h1, if_pos h2]; apply E.ext_ <;> simp only [add_a, add_b, sub_a, sub_b] <;> grind
  · rw [if_neg h2, if_pos h1, if_pos h1, if_neg h2]; apply E.ext_ <;> simp only [add_a, add_b, sub_a, sub_b, zero_a, zero_b] <;> grind
  · rw [if_pos h2, if_neg h1, if_neg h1, if_pos h2]; apply E.ext_ <;> simp only [add_a, add_b, sub_a, sub_b, zero_a, zero_b] <;> grind
  · rw [if_neg h2, if_neg h1, if_neg h1, if_neg h2]; apply E.ext_ <;> simp only [add_a, add_b, sub_a, sub_b, zero_a, zero_b] <;> grind
section
variable {m : List (List E)} {co : List E} {a b : Nat} {c : E}
theorem mvR_dl (i : Nat) (g : List E) : mvR a b i c g = g.map (· + dl a b c i) := by
  unfold mvR
  exact List.map_congr_left fun v _ => mvV_dl a b i c v
theorem mvK_get (n i : Nat) (hi : i < n) : (mvK m a b c n).getD i [] = (m.getD i []).map (· + dl a b c i) := by
  rw [← mvR_dl]
  simp [mvK, List.getD, hi]
def dK (a b : Nat) (c : E) (k : Nat) : E := esum ((List.range k).map (dl a b c))
def eK (a b : Nat) (c : E) (n k : Nat) : E := esum ((List.range k).map fun j => dl a b c (n - 1 - j))
theorem dK_succ (k : Nat) : dK a b c (k + 1) = dK a b c k + dl a b c k := esum_range _ k
theorem eK_succ (n k : Nat) : eK a b c n (k + 1) = eK a b c n k + dl a b c (n - 1 - k) := esum_range _ k
theorem dK_val : ∀ k, dK a b c k = (if a < k then c else 0) - (if b < k then c else 0)
  | 0 => by rw [if_neg (Nat.not_lt_zero _), if_neg (Nat.not_lt_zero _), E.sub_zero]; rfl
  | k + 1 => by
    rw [dK_succ, dK_val k]
    unfold dl
    have key : ∀ x : Nat, ((if x < k + 1 then c else 0) : E) = (if x < k then c else 0) + (if k = x then c else 0) := by
      intro x
      by_cases h1 : x < k
      · rw [if_pos h1, if_pos (by omega), if_neg (by omega), E.add_zero]
      · rw [if_neg h1, E.zero_add]
        by_cases h2 : k = x
        · rw [if_pos h2, if_pos (by omega)]
        · rw [if_neg h2, if_neg (by omega)]
    rw [key a, key b]
    generalize (if a < k then c else 0) = x
    generalize (if b < k then c else 0) = y
    generalize (if k = a then c else 0) = z
    generalize (if k = b then c else 0) = u
    apply E.ext_ <;> simp only [add_a, add_b, sub_a, sub_b] <;> grind
theorem dK_all (n : Nat) (ha : a < n) (hb : b < n) : dK a b c n = 0 := by rw [dK_val, if_pos ha, if_pos hb, E.sub_self]
theorem dK_split (n : Nat) : ∀ k, k ≤ n → dK a b c (n - k) + eK a b c n k = dK a b c n
  | 0, _ => E.add_zero _
  | k + 1, h => by
    rw [eK_succ, ← dK_split n k (by omega), show n - k = n - (k + 1) + 1 by omega, dK_succ, show n - 1 - k = n - (k + 1) by omega, E.add_comm (eK a b c n k), ← E.add_assoc]
theorem evK_mv (n : Nat) (hm : ∀ i, i < n → 2 ≤ (m.getD i []).length ∧ (m.getD i []).length ≤ 4) : ∀ k, k ≤ n → evK (mvK m a b c n) co k = evK m co k + dK a b c k
  | 0, _ => by
    have z : ∀ M : List (List E), evK M co 0 = 0 := fun M => rfl
    rw [z, z, show dK a b c 0 = 0 from rfl, E.add_zero]
  | k + 1, h => by
    rw [evK_succ, evK_mv n hm k (by omega), mvK_get n k (by omega), atE_shift _ _ _ (hm k (by omega)).1 (hm k (by omega)).2, evK_succ, dK_succ]
    generalize evK m co k = x
    generalize dK a b c k = y
    generalize atE (m.getD k []) (co.getD k 0) = z
    generalize dl a b c k = u
    apply E.ext_ <;> simp only [add_a, add_b] <;> grind
theorem bsK_mv (n : Nat) (hn : m.length = n) (hm : ∀ i, i < n → 2 ≤ (m.getD i []).length ∧ (m.getD i []).length ≤ 4) : ∀ k, k ≤ n → bsK (mvK m a b c n) k = bsK m k + (eK a b c n k + eK a b c n k)
  | 0, _ => by
    have z : ∀ M : List (List E), bsK M 0 = 0 := fun M => rfl
    rw [z, z, show eK a b c n 0 = 0 from rfl, E.add_zero, E.add_zero]
  | k + 1, h => by
    rw [bsK_succ, bsK_mv n hn hm k (by omega), mvK_length, mvK_get n _ (by omega), ends_shift _ _ (hm _ (by omega)).1, bsK_succ, hn, eK_succ]
    generalize bsK m k = x
    generalize eK a b c n k = y
    generalize endsE (m.getD (n - 1 - k) []) = z
    generalize dl a b c (n - 1 - k) = u
    apply E.ext_ <;> simp only [add_a, add_b] <;> grind
theorem mskE_mv (n : Nat) (hn : m.length = n) (hm : ∀ i, i < n → 2 ≤ (m.getD i []).length ∧ (m.getD i []).length ≤ 4) (ha : a < n) (hb : b < n) (i : Nat) (hi : i < n) (v : E) : mskE (mvK m a b c n) co i (v + dl a b c i) = mskE m co i v := by
  unfold mskE
  rw [mvK_length, hn, evK_mv n hm i (by omega), bsK_mv n hn hm _ (by omega), pwZ_one]
  refine cmul ?_
  have h1 := dK_split (a := a) (b := b) (c := c) n (n - 1 - i) (by omega)
  rw [dK_all n ha hb, show n - (n - 1 - i) = i + 1 by omega, dK_succ] at h1
  rw [E.add_mul, E.add_mul, hlf_add]
  generalize eK a b c n (n - 1 - i) = x at *
  generalize dK a b c i = y at *
  generalize dl a b c i = z at *
  generalize bsK m (n - 1 - i) * hlf = u
  generalize evK m co i = t
  have : t + y + (u + x) + (v + z) = t + u + v + (y + z + x) := by apply E.ext_ <;> simp only [add_a, add_b] <;> grind
  rw [this, h1, E.add_zero]
/-- Rounds do not change when a constant is moved. -/
theorem prvM_mv (plain : List (List E)) (rho : E) (n : Nat) (hn : m.length = n) (hm : ∀ i, i < n → 2 ≤ (m.getD i []).length ∧ (m.getD i []).length ≤ 4) (ha : 0 < n → a < n) (hb : 0 < n → b < n) : prvM plain (mvK m a b c n) rho co = prvM plain m rho co := by
  unfold prvM
  rw [mvK_length, hn]
  refine List.map_congr_left fun i hi => ?_
  have hi' := List.mem_range.1 hi
  have : mrow (mvK m a b c n) co i = mrow m co i := by
    unfold mrow
    rw [mvK_get n i hi', List.map_map]
    exact List.map_congr_left fun v _ => mskE_mv n hn hm (ha (by omega)) (hb (by omega)) i hi' v
  rw [this]
end
/-- The sums of the rounds of Prove fit. -/
theorem prvM_steps (tabs : List (List E)) (ps : List Trm) (m : List (List E)) (rho : E) (co : List E) (h : AllLen tabs (2 ^ co.length)) (h0 : 0 < tabs.length) (h3 : degE ps ≤ 3) (hm : m.length = co.length) (hr : ∀ g ∈ m, g.length = degE ps + 1) :
    ∃ C : Nat → E, ∀ i g r, (prvM (prvR tabs ps co) m rho co)[i]? = some g → co[i]? = some r → g.length = degE ps + 1 ∧ endsE g = C i ∧ atE g r = C (i + 1) := by
  have hd := degE_pos ps
  obtain ⟨c, q1, q2, q3⟩ := prvR_facts ps h3 co tabs h h0
  refine ⟨fun i => c i + rho * remM m co i, fun i g r hg hrr => ?_⟩
  have hi : i < m.length := by
    have := (List.getElem?_eq_some_iff.1 hrr).1
    omega
  obtain ⟨gp, hgp⟩ : ∃ gp, (prvR tabs ps co)[i]? = some gp := ⟨_, List.getElem?_eq_getElem (by rw [prvR_length]; omega)⟩
  obtain ⟨a1, a2, a3⟩ := q3 i gp r hgp hrr
  have hmi : (m.getD i []).length = degE ps + 1 := by
    have : m[i]? = some m[i] := List.getElem?_eq_getElem hi
    rw [show m.getD i [] = m[i] by simp [List.getD, this]]
    exact hr _ (List.getElem_mem hi)
  have hco : co.getD i 0 = r := by simp [List.getD, hrr]
  have hg' : g = linR gp rho (mrow m co i) := by
    have h1 : (prvM (prvR tabs ps co) m rho co)[i]? = some (linR ((prvR tabs ps co).getD i []) rho (mrow m co i)) := by simp [prvM, hi]
    rw [hg] at h1
    have := Option.some.inj h1
    rw [this]
    simp [List.getD, hgp]
  have hml : (mrow m co i).length = degE ps + 1 := by rw [mrow_length, hmi]
  subst hg'
  refine ⟨by rw [linR_length, hml], ?_, ?_⟩
  · show (linR gp rho (mrow m co i)).getD 0 0 + (linR gp rho (mrow m co i)).getD 1 0 = c i + rho * remM m co i
    rw [linR_getD _ _ _ 0 (by omega), linR_getD _ _ _ 1 (by omega), ← a2, ← mrow_ends m co i hi (by omega)]
    unfold endsE
    rw [E.mul_add]
    generalize rho * (mrow m co i).getD 0 0 = u
    generalize rho * (mrow m co i).getD 1 0 = v
    apply E.ext_ <;> simp only [add_a, add_b] <;> grind
  · show _ = c (i + 1) + rho * remM m co (i + 1)
    rw [atE_lin _ _ _ _ (by rw [a1, hml]), a3, ← hco, mrow_at m co i hi (by omega) (by omega)]
theorem sumOk_steps (rs : List (List E)) (co : List E) (hl : rs.length = co.length) (C : Nat → E) (h : ∀ i g r, rs[i]? = some g → co[i]? = some r → endsE g = C i ∧ atE g r = C (i + 1)) : sumOk rs co = true := by
  rw [sumOk_true]
  intro i h0 hi
  have e : ∀ j, j < rs.length → endsE (rs.getD j []) = C j ∧ atE (rs.getD j []) (co.getD j 0) = C (j + 1) := by
    intro j hj
    have h1 : rs[j]? = some rs[j] := List.getElem?_eq_getElem hj
    have h2 : co[j]? = some (co[j]'(by omega)) := List.getElem?_eq_getElem (by omega)
    rw [show rs.getD j [] = rs[j] by rw [List.getD_eq_getElem?_getD, h1]; rfl, show co.getD j 0 = co[j]'(by omega) by rw [List.getD_eq_getElem?_getD, h2]; rfl]
    exact h j _ _ h1 h2
  rw [(e i hi).1, (e (i - 1) (by omega)).2, show i - 1 + 1 = i by omega]
theorem any_bad (D : Nat) (rs : List (List E)) (h : ∀ g ∈ rs, g.length = D + 1) : rs.any (badLen D) = false := by
  rw [List.any_eq_false]
  intro g hg
  simp [badLen, h g hg]
section
variable (tabs : List (List E)) (ps : List Trm) (m : List (List E)) (rho : E) (co : List E) (h : AllLen tabs (2 ^ co.length)) (h0 : 0 < tabs.length) (h3 : degE ps ≤ 3) (hm : m.length = co.length) (hr : ∀ g ∈ m, g.length = degE ps + 1)
include h h0 h3 hm hr
theorem exp_prv (hrho : rho ≠ 0) : explE (prvR tabs ps co) (prvM (prvR tabs ps co) m rho co) rho co co.length (degE ps) = (expK (prvR tabs ps co) (prvM (prvR tabs ps co) m rho co) rho co co.length co.length, 0) := by
  obtain ⟨C, hC⟩ := prvM_steps tabs ps m rho co h h0 h3 hm hr
  have hl : (prvM (prvR tabs ps co) m rho co).length = co.length := by rw [prvM_length, hm]
  unfold explE
  rw [if_neg (by rw [hl]; simp), if_neg hrho, any_bad (degE ps) _ (fun g hg => by
    obtain ⟨i, hi, rfl⟩ := List.mem_iff_getElem.1 hg
    exact (hC i _ (co[i]'(by omega)) (List.getElem?_eq_getElem hi) (List.getElem?_eq_getElem (by omega))).1), if_neg (by simp), sumOk_steps _ co hl C (fun i g r q1 q2 => (hC i g r q1 q2).2), if_pos rfl]
theorem exp_all (hrho : rho ≠ 0) : ∃ K : List (List E), explE (prvR tabs ps co) (prvM (prvR tabs ps co) m rho co) rho co co.length (degE ps) = (K, 0) ∧ K.length = m.length ∧ (∀ (i : Nat) (g : List E), K[i]? = some g → g.length = degE ps + 1) ∧ (∀ (i : Nat) (g : List E), 0 < i → K[i]? = some g → g.getD 0 0 + g.getD 1 0 = 0) ∧
    (∀ (i : Nat) (g u : List E) (x : Nat), K[i]? = some g → m[i]? = some u → x < degE ps + 1 → g.getD x 0 - g.getD 0 0 = u.getD x 0 - u.getD 0 0) ∧ totM K = totM m ∧ evM K co = evM m co := by
  have hd := degE_pos ps
  refine ⟨_, exp_prv tabs ps m rho co h h0 h3 hm hr hrho, ?_⟩
  obtain ⟨K, hK⟩ : ∃ K, K = expK (prvR tabs ps co) (prvM (prvR tabs ps co) m rho co) rho co m.length m.length := ⟨_, rfl⟩
  have hkl : K.length = m.length := by rw [hK, expK_length]
  have hml : ∀ i, i < m.length → (m.getD i []).length = degE ps + 1 := fun i hi => by
    rw [show m.getD i [] = m[i] by simp [List.getD, hi]]
    exact hr _ (List.getElem_mem hi)
  have hm4 : ∀ i, i < m.length → 2 ≤ (m.getD i []).length ∧ (m.getD i []).length ≤ 4 := fun i hi => by rw [hml i hi]; omega
  have hKi : ∀ i, i < m.length → K.getD i [] = (m.getD i []).map (· + movE m K co i) := fun i hi => by
    rw [hK]
    exact expK_prv hrho hr i m.length hi hi
  rw [← hm, ← hK]
  have get : ∀ (L : List (List E)) i g, L[i]? = some g → L.getD i [] = g := fun L i g hg => by rw [List.getD_eq_getElem?_getD, hg]; rfl
  have hlt : ∀ i g, K[i]? = some g → i < m.length := fun i g hg => by
    have := (List.getElem?_eq_some_iff.1 hg).1
    omega
  refine ⟨hkl, fun i g hg => ?_, fun i g hi hg => ?_, fun i g u x hg hu hx => ?_, exp_tot hkl hm4 hKi, exp_evM hkl hm4 hKi⟩
  · rw [← get K i g hg, hKi i (hlt i g hg), List.length_map, hml i (hlt i g hg)]
  · obtain ⟨j, rfl⟩ : ∃ j, i = j + 1 := ⟨i - 1, by omega⟩
    rw [← get K _ g hg]
    exact exp_norm hm4 hKi j (hlt _ g hg)
  · have hi := hlt i g hg
    have hul : u.length = degE ps + 1 := by rw [← get m i u hu]; exact hml i hi
    have e := hKi i hi
    rw [get K i g hg, get m i u hu] at e
    rw [e]
    have key : ∀ y, y < u.length → (u.map (· + movE m K co i)).getD y 0 = u.getD y 0 + movE m K co i := fun y hy => by
      rw [List.getD_eq_getElem?_getD, List.getD_eq_getElem?_getD, List.getElem?_map, List.getElem?_eq_getElem hy]; rfl
    rw [key x (by omega), key 0 (by omega)]
    generalize movE m K co i = z
    generalize u.getD x 0 = s
    generalize u.getD 0 0 = t
    apply E.ext_ <;> simp only [add_a, add_b, sub_a, sub_b] <;> grind
end
end Go.Proofs.YtnddfeidggcplaaGreat
