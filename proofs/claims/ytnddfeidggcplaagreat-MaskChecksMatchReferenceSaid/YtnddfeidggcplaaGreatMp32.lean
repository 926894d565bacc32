/-
  Plain mathematics, no program: lists of coefficients, read as polynomials, under the steps by which the reference adds and multiplies them.
  Masks in mathematics: values, totals, rounds, completeness.
  Powers of elements of the extension, by contract.
  power, ends, Total and Eval of package mask, by contract.
-/
import Derived.Test.YtnddfeidggcplaaGreatInv
import Derived.Test.YtnddfeidggcplaaGreatCpm
import Derived.Test.YtnddfeidggcplaaGreatMl3
import Derived.Test.YtnddfeidggcplaaGreatSeqG
import Derived.Sort.CutIn
import Derived.Test.YtnddfeidggcplaaGreatPa
namespace Go.Proofs.YtnddfeidggcplaaGreat

def xp (x : E) : Nat → E
  | 0 => 1
  | k + 1 => x * xp x k
theorem xp_add (x : E) (i : Nat) : ∀ k, xp x (i + k) = xp x i * xp x k
  | 0 => by rw [Nat.add_zero, xp, E.mul_one]
  | k + 1 => by
    rw [← Nat.add_assoc, xp, xp_add x i k, xp]
    ac_rfl
theorem pev_nil (x : E) : pev [] x = 0 := rfl
theorem pev_cons (c : E) (cs : List E) (x : E) : pev (c :: cs) x = c + x * pev cs x := rfl
theorem pev_zeros (x : E) : ∀ n, pev (List.replicate n 0) x = 0
  | 0 => rfl
  | n + 1 => by rw [List.replicate_succ, pev_cons, pev_zeros x n, E.mul_zero, E.add_zero]
theorem pev_take (x : E) : ∀ (l : List E) (k : Nat), k < l.length → pev (l.take (k + 1)) x = pev (l.take k) x + xp x k * l.getD k 0
  | [], k, h => absurd h (Nat.not_lt_zero _)
  | c :: l, 0, _ => by
    show c + x * pev (l.take 0) x = 0 + 1 * c
    rw [List.take_zero, pev_nil, E.mul_zero, E.one_mul, E.add_zero, E.zero_add]
  | c :: l, k + 1, h => by
    rw [List.take_succ_cons, pev_cons, pev_take x l k (by simpa using h), List.take_succ_cons, pev_cons, List.getD_cons_succ, xp, E.mul_add]
    ac_rfl
theorem pev_set (x d : E) : ∀ (l : List E) (k : Nat), k < l.length → pev (l.set k (l.getD k 0 + d)) x = pev l x + xp x k * d
  | [], k, h => absurd h (Nat.not_lt_zero _)
  | c :: l, 0, _ => by
    show c + d + x * pev l x = c + x * pev l x + 1 * d
    rw [E.one_mul]
    ac_rfl
  | c :: l, k + 1, h => by
    rw [List.set_cons_succ, List.getD_cons_succ, pev_cons, pev_set x d l k (by simpa using h), pev_cons, xp, E.mul_add]
    ac_rfl
theorem pev_drop (x : E) (l : List E) (k : Nat) (h : k < l.length) : pev (l.drop k) x = l.getD k 0 + x * pev (l.drop (k + 1)) x := by
  rw [List.drop_eq_getElem_cons h, pev_cons]
  simp [List.getD, h]
theorem pev_cut (x : E) (l : List E) (k : Nat) (h : k < l.length) (h0 : l.getD k 0 = 0) : pev (l.take (k + 1)) x = pev (l.take k) x := by
  rw [pev_take x l k h, h0, E.mul_zero, E.add_zero]
/-- Both lists, the first k entries. -/
def addK (p q : List E) (x : E) (k : Nat) : E := pev (p.take k) x + pev (q.take k) x
theorem take_past (p : List E) (k : Nat) (h : p.length ≤ k) : p.take (k + 1) = p.take k := by rw [List.take_of_length_le (by omega), List.take_of_length_le h]
/-- The rows below i whole, and k entries of row i. -/
def mulK (p q : List E) (x : E) (i k : Nat) : E := pev (p.take i) x * pev q x + xp x i * (p.getD i 0 * pev (q.take k) x)
theorem mulK_zero (p q : List E) (x : E) : mulK p q x 0 0 = 0 := by
  unfold mulK
  rw [List.take_zero, List.take_zero, pev_nil, E.zero_mul, E.mul_zero, E.mul_zero, E.add_zero]
theorem mulK_step (p q : List E) (x : E) (i k : Nat) (hk : k < q.length) : mulK p q x i (k + 1) = mulK p q x i k + xp x (i + k) * (p.getD i 0 * q.getD k 0) := by
  unfold mulK
  rw [pev_take x q k hk, xp_add, E.mul_add, E.mul_add]
  ac_rfl
theorem mulK_row (p q : List E) (x : E) (i : Nat) (hi : i < p.length) : mulK p q x (i + 1) 0 = mulK p q x i q.length := by
  unfold mulK
  rw [List.take_of_length_le (Nat.le_refl q.length), pev_take x p i hi, List.take_zero, pev_nil, E.mul_zero, E.mul_zero, E.add_zero, E.add_mul]
  ac_rfl
theorem mulK_all (p q : List E) (x : E) : mulK p q x p.length 0 = pev p x * pev q x := by
  unfold mulK
  rw [List.take_of_length_le (Nat.le_refl p.length), List.take_zero, pev_nil, E.mul_zero, E.mul_zero, E.add_zero]
theorem refAtK_succ (v : List E) (x : E) (j : Nat) : refAtK v x (j + 1) = refAtK v x j + refK x j (v.getD j 0) v.length := esum_range _ j
theorem intE_ne (z : Int) (h : z ≠ 0) (h1 : -1000000 ≤ z) (h2 : z ≤ 1000000) : intE z ≠ 0 := fun e => by
  have e1 : fv (fz z) = fv 0 := congrArg (fun y : E => fv y.a) e
  rw [fv_fz, fv_zero] at e1
  omega
end Go.Proofs.YtnddfeidggcplaaGreat
namespace Go.Proofs.YtnddfeidggcplaaGreat

def e2 : E := intE 2
def hlf : E := einv e2
theorem e2_ne : e2 ≠ 0 := by decide +kernel
theorem hlf_two : hlf * e2 = 1 := einv_mul _ e2_ne
theorem e2_one : e2 = 1 + 1 := by decide +kernel
theorem e2_mul (x : E) : e2 * x = x + x := by rw [e2_one, E.add_mul, E.one_mul]
theorem hlf_add (x : E) : x * hlf + x * hlf = x := by rw [← e2_mul, E.mul_comm x hlf, ← E.mul_assoc, E.mul_comm e2 hlf, hlf_two, E.one_mul]
/-- Powers of two, of halves below zero. -/
def pwZ (k : Int) : E := if 0 ≤ k then xp e2 k.toNat else xp hlf (-k).toNat
theorem pwZ_nat (k : Nat) : pwZ (k : Int) = xp e2 k := by
  unfold pwZ
  rw [if_pos (Int.natCast_nonneg k), Int.toNat_natCast]
theorem pwZ_neg (k : Nat) : pwZ (-(k : Int)) = xp hlf k := by
  unfold pwZ
  by_cases h : k = 0
  · subst h; rfl
  · rw [if_neg (by omega), Int.neg_neg, Int.toNat_natCast]
theorem pwZ_one : pwZ (-1) = hlf := by
  have := pwZ_neg 1
  rw [show (-((1 : Nat) : Int)) = -1 from rfl] at this
  rw [this]
  exact E.mul_one _
theorem xp_half (k : Nat) : hlf * xp e2 (k + 1) = xp e2 k := by
  show hlf * (e2 * xp e2 k) = _
  rw [← E.mul_assoc, hlf_two, E.one_mul]
theorem cmul {a b c : E} (h : a = b) : a * c = b * c := by rw [h]
theorem cadd {a b c : E} (h : b = c) : a + b = a + c := by rw [h]
def endsE (p : List E) : E := p.getD 0 0 + p.getD 1 0
def evK (m : List (List E)) (p : List E) (k : Nat) : E := esum ((List.range k).map fun i => atE (m.getD i []) (p.getD i 0))
theorem evK_succ (m : List (List E)) (p : List E) (k : Nat) : evK m p (k + 1) = evK m p k + atE (m.getD k []) (p.getD k 0) := esum_range _ k
def evM (m : List (List E)) (p : List E) : E := evK m p m.length
theorem evK_take (m : List (List E)) (p : List E) (k i : Nat) (h : i ≤ k) : evK (m.take k) p i = evK m p i := by
  unfold evK
  refine esum_congr _ _ _ fun j hj => ?_
  have hj' := List.mem_range.1 hj
  rw [show (m.take k).getD j [] = m.getD j [] by simp [List.getD, List.getElem?_take, show j < k by omega]]
theorem evM_take (m : List (List E)) (p : List E) (k : Nat) (h : k ≤ m.length) : evM (m.take k) p = evK m p k := by
  unfold evM
  rw [List.length_take, Nat.min_eq_left h, evK_take m p k k (Nat.le_refl _)]
def endK (m : List (List E)) (k : Nat) : E := esum ((List.range k).map fun i => endsE (m.getD i []))
theorem endK_succ (m : List (List E)) (k : Nat) : endK m (k + 1) = endK m k + endsE (m.getD k []) := esum_range _ k
def totM (m : List (List E)) : E := endK m m.length * pwZ ((m.length : Int) - 1)
/-- The ends of the last k polynomials. -/
def bsK (m : List (List E)) (k : Nat) : E := esum ((List.range k).map fun j => endsE (m.getD (m.length - 1 - j) []))
theorem bsK_succ (m : List (List E)) (k : Nat) : bsK m (k + 1) = bsK m k + endsE (m.getD (m.length - 1 - k) []) := esum_range _ k
theorem bsK_split (m : List (List E)) : ∀ k, k ≤ m.length → endK m (m.length - k) + bsK m k = endK m m.length
  | 0, _ => by
    rw [Nat.sub_zero]
    exact E.add_zero _
  | k + 1, h => by
    rw [← bsK_split m k (by omega), bsK_succ]
    have e : m.length - k = m.length - (k + 1) + 1 := by omega
    rw [e, endK_succ, show m.length - 1 - k = m.length - (k + 1) by omega, E.add_assoc]
    congr 1
    exact E.add_comm _ _
theorem bsK_all (m : List (List E)) : bsK m m.length = endK m m.length := by
  have := bsK_split m m.length (Nat.le_refl _)
  rw [Nat.sub_self] at this
  rw [← this]
  exact (E.zero_add _).symm
def mskE (m : List (List E)) (co : List E) (i : Nat) (v : E) : E := (evK m co i + bsK m (m.length - 1 - i) * pwZ (-1) + v) * pwZ ((m.length : Int) - (i : Int) - 1)
def mrow (m : List (List E)) (co : List E) (i : Nat) : List E := (m.getD i []).map (mskE m co i)
/-- One row and a multiple of another. -/
def linR (g : List E) (rho : E) (h : List E) : List E := (List.range h.length).map fun x => g.getD x 0 + rho * h.getD x 0
theorem linR_length (g : List E) (rho : E) (h : List E) : (linR g rho h).length = h.length := by simp [linR]
theorem linR_getD (g : List E) (rho : E) (h : List E) (x : Nat) (hx : x < h.length) : (linR g rho h).getD x 0 = g.getD x 0 + rho * h.getD x 0 := by simp [linR, List.getD, hx]
def prvM (plain m : List (List E)) (rho : E) (co : List E) : List (List E) := (List.range m.length).map fun i => linR (plain.getD i []) rho (mrow m co i)
theorem prvM_length (plain m : List (List E)) (rho : E) (co : List E) : (prvM plain m rho co).length = m.length := by simp [prvM]
theorem mrow_length (m : List (List E)) (co : List E) (i : Nat) : (mrow m co i).length = (m.getD i []).length := by simp [mrow]
theorem atE_lin (g h : List E) (rho x : E) (hl : g.length = h.length) : atE (linR g rho h) x = atE g x + rho * atE h x := by
  unfold atE atK
  rw [linR_length, hl, ← esum_mul, ← esum_add]
  refine esum_congr _ _ _ fun i hi => ?_
  rw [linR_getD g rho h i (List.mem_range.1 hi), E.add_mul, E.add_mul, E.mul_assoc rho, E.mul_assoc rho]
theorem atE_const (n : Nat) (h2 : 2 ≤ n) (h4 : n ≤ 4) (c x : E) : atE (List.replicate n c) x = c := by
  have := lagrange n h2 h4 (fun _ => c) ((isP_const c).mono (by omega)) x
  rwa [List.map_const', List.length_range] at this
theorem atE_aff (g : List E) (k P x : E) (h2 : 2 ≤ g.length) (h4 : g.length ≤ 4) : atE (g.map fun v => (k + v) * P) x = (k + atE g x) * P := by
  have e : (g.map fun v => (k + v) * P) = linR (List.replicate g.length (k * P)) P g := by
    apply List.ext_getElem
    · rw [List.length_map, linR_length]
    · intro i h1 h2
      rw [List.length_map] at h1
      simp [linR, List.getD, h1, E.add_mul, E.mul_comm P]
  rw [e, atE_lin _ _ _ _ (by simp), atE_const _ h2 h4, E.add_mul, E.mul_comm P]
/-- What is left of the mask behind i coins. -/
def remM (m : List (List E)) (co : List E) (i : Nat) : E := (evK m co i + bsK m (m.length - i) * hlf) * xp e2 (m.length - i)
theorem remM_zero (m : List (List E)) (co : List E) : remM m co 0 = totM m := by
  unfold remM totM
  rw [Nat.sub_zero, bsK_all, show evK m co 0 = 0 from rfl, E.zero_add, E.mul_assoc]
  by_cases h : m.length = 0
  · rw [h, show endK m 0 = 0 from rfl, E.zero_mul, E.zero_mul]
  · obtain ⟨k, hk⟩ : ∃ k, m.length = k + 1 := ⟨m.length - 1, by omega⟩
    rw [hk, xp_half, show ((k + 1 : Nat) : Int) - 1 = ((k : Nat) : Int) by omega, pwZ_nat]
theorem remM_end (m : List (List E)) (co : List E) : remM m co m.length = evM m co := by
  unfold remM evM
  rw [Nat.sub_self, show bsK m 0 = 0 from rfl, E.zero_mul, E.add_zero]
  exact E.mul_one _
theorem mskE_eq (m : List (List E)) (co : List E) (i : Nat) (hi : i < m.length) (v : E) : mskE m co i v = (evK m co i + bsK m (m.length - 1 - i) * hlf + v) * xp e2 (m.length - 1 - i) := by
  unfold mskE
  rw [pwZ_one, show (m.length : Int) - (i : Int) - 1 = ((m.length - 1 - i : Nat) : Int) by omega, pwZ_nat]
theorem mrow_at (m : List (List E)) (co : List E) (i : Nat) (hi : i < m.length) (h2 : 2 ≤ (m.getD i []).length) (h4 : (m.getD i []).length ≤ 4) : atE (mrow m co i) (co.getD i 0) = remM m co (i + 1) := by
  have e : mrow m co i = (m.getD i []).map fun v => (evK m co i + bsK m (m.length - 1 - i) * hlf + v) * xp e2 (m.length - 1 - i) := by
    unfold mrow
    exact List.map_congr_left fun v _ => mskE_eq m co i hi v
  rw [e, atE_aff _ _ _ _ h2 h4]
  unfold remM
  rw [evK_succ, show m.length - (i + 1) = m.length - 1 - i by omega]
  refine cmul ?_
  rw [E.add_assoc, E.add_assoc]
  exact cadd (E.add_comm _ _)
theorem two_sum (a b c d h P : E) (hb : b * h + b * h = b) : (a + b * h + c) * P + (a + b * h + d) * P = (a + a + (b + (c + d))) * P := by
  rw [← E.add_mul]
  congr 1
  have : a + b * h + c + (a + b * h + d) = a + a + ((b * h + b * h) + (c + d)) := by
    generalize b * h = u
    apply E.ext_ <;> simp only [add_a, add_b] <;> grind
  rw [this, hb]
theorem mrow_ends (m : List (List E)) (co : List E) (i : Nat) (hi : i < m.length) (h2 : 2 ≤ (m.getD i []).length) : endsE (mrow m co i) = remM m co i := by
  have h0 : (mrow m co i).getD 0 0 = mskE m co i ((m.getD i []).getD 0 0) := by
    unfold mrow
    generalize m.getD i [] = g at *
    simp [List.getD, show 0 < g.length by omega]
  have h1 : (mrow m co i).getD 1 0 = mskE m co i ((m.getD i []).getD 1 0) := by
    unfold mrow
    generalize m.getD i [] = g at *
    simp [List.getD, show 1 < g.length by omega]
  have hb : bsK m (m.length - i) = bsK m (m.length - 1 - i) + endsE (m.getD i []) := by
    rw [show m.length - i = m.length - 1 - i + 1 by omega, bsK_succ, show m.length - 1 - (m.length - 1 - i) = i by omega]
  have hx : xp e2 (m.length - i) = e2 * xp e2 (m.length - 1 - i) := by
    rw [show m.length - i = m.length - 1 - i + 1 by omega]; rfl
  show (mrow m co i).getD 0 0 + (mrow m co i).getD 1 0 = _
  rw [h0, h1, mskE_eq m co i hi, mskE_eq m co i hi, two_sum _ _ _ _ _ _ (hlf_add _)]
  unfold remM
  rw [hb, hx, ← E.mul_assoc]
  refine cmul ?_
  rw [E.mul_comm _ e2, e2_mul]
  have h3 := hlf_add (bsK m (m.length - 1 - i) + endsE (m.getD i []))
  show evK m co i + evK m co i + (bsK m (m.length - 1 - i) + endsE (m.getD i [])) = _
  generalize (bsK m (m.length - 1 - i) + endsE (m.getD i [])) = u at *
  generalize evK m co i = a
  generalize u * hlf = c at *
  rw [← h3]
  apply E.ext_ <;> simp only [add_a, add_b] <;> grind

/-! ### Runs of Verify -/
theorem steps_ok (D : Nat) : ∀ (gs : List (List E)) (rs : List E) (c : Nat → E), gs.length = rs.length → (∀ i g r, gs[i]? = some g → rs[i]? = some r → g.length = D + 1 ∧ g.getD 0 0 + g.getD 1 0 = c i ∧ atE g r = c (i + 1)) → lastS (c 0) (stepsL D (c 0) gs rs) = (c gs.length, 0)
  | [], [], c, _, _ => rfl
  | [], r :: rs, c, h, _ => by simp at h
  | g :: gs, [], c, h, _ => by simp at h
  | g :: gs, r :: rs, c, h, hh => by
    obtain ⟨h1, h2, h3⟩ := hh 0 g r rfl rfl
    rw [stepsL, if_neg (fun e => e h1), if_neg (fun e => e h2), h3]
    exact steps_ok D gs rs (fun i => c (i + 1)) (by simpa using h) fun i g' r' hg hr => hh (i + 1) g' r' (by simpa using hg) (by simpa using hr)
theorem prvR_facts (ps : List Trm) (h3 : degE ps ≤ 3) : ∀ (coins : List E) (tabs : List (List E)), AllLen tabs (2 ^ coins.length) → 0 < tabs.length →
    ∃ c : Nat → E, c 0 = totE tabs ps ∧ c coins.length = finE (valL (prvV tabs coins)) ps ∧ ∀ i g r, (prvR tabs ps coins)[i]? = some g → coins[i]? = some r → g.length = degE ps + 1 ∧ g.getD 0 0 + g.getD 1 0 = c i ∧ atE g r = c (i + 1)
  | [], tabs, h, h0 => ⟨fun _ => totE tabs ps, rfl, tot_one tabs ps h h0, fun i g r hg => by simp [prvR] at hg⟩
  | x :: cs, tabs, h, h0 => by
    have h' : AllLen tabs (2 * 2 ^ cs.length) := by rw [← Nat.pow_succ']; exact h
    obtain ⟨c, q1, q2, q3⟩ := prvR_facts ps h3 cs (bndE tabs x) (h'.bnd x) (AllLen.pos h0)
    refine ⟨fun i => match i with | 0 => totE tabs ps | i + 1 => c i, rfl, q2, fun i g r hg hr => ?_⟩
    cases i with
    | zero =>
      simp only [prvR, List.getElem?_cons_zero, Option.some.injEq] at hg hr
      subst hg; subst hr
      exact ⟨rndE_length _ _, rnd_sum tabs ps _ h' h0, by rw [rnd_at tabs ps _ h' h0 h3]; exact q1.symm⟩
    | succ i =>
      simp only [prvR, List.getElem?_cons_succ] at hg hr
      exact q3 i g r hg hr
/-- Completeness of the masked sum-check. -/
theorem msk_complete (tabs : List (List E)) (ps : List Trm) (m : List (List E)) (rho : E) (co : List E) (h : AllLen tabs (2 ^ co.length)) (h0 : 0 < tabs.length) (h3 : degE ps ≤ 3) (hm : m.length = co.length) (hr : ∀ g ∈ m, g.length = degE ps + 1) :
    vrfE (degE ps : Int) (totE tabs ps + rho * totM m) (prvM (prvR tabs ps co) m rho co) co = (finE (valL (prvV tabs co)) ps + rho * evM m co, 0) := by
  have hd := degE_pos ps
  obtain ⟨c, q1, q2, q3⟩ := prvR_facts ps h3 co tabs h h0
  have key := steps_ok (degE ps) (prvM (prvR tabs ps co) m rho co) co (fun i => c i + rho * remM m co i) (by rw [prvM_length, hm]) (fun i g r hg hrr => by
    have hi : i < m.length := by
      have := (List.getElem?_eq_some_iff.1 hrr).1
      omega
    obtain ⟨gp, hgp⟩ : ∃ gp, (prvR tabs ps co)[i]? = some gp := ⟨_, List.getElem?_eq_getElem (by rw [prvR_length]; omega)⟩
    obtain ⟨a1, a2, a3⟩ := q3 i gp r hgp hrr
    have hmi : (m.getD i []).length = degE ps + 1 := by
      have : m[i]? = some m[i] := List.getElem?_eq_getElem hi
      rw [show m.getD i [] = m[i] by simp [List.getD, this]]
      exact hr _ (List.getElem_mem hi)
    have hco : co.getD i 0 = r := by simp [List.getD, hrr]
    have hg' : g = linR gp rho (mrow m co i) := by
      have h1 : (prvM (prvR tabs ps co) m rho co)[i]? = some (linR ((prvR tabs ps co).getD i []) rho (mrow m co i)) := by simp [prvM, hi]
      rw [hg] at h1
      have := Option.some.inj h1
      rw [this]
      simp [List.getD, hgp]
    have hml : (mrow m co i).length = degE ps + 1 := by rw [mrow_length, hmi]
    subst hg'
    refine ⟨by rw [linR_length, hml], ?_, ?_⟩
    · rw [linR_getD _ _ _ 0 (by omega), linR_getD _ _ _ 1 (by omega), ← a2, ← mrow_ends m co i hi (by omega)]
      unfold endsE
      rw [E.mul_add]
      generalize rho * (mrow m co i).getD 0 0 = u
      generalize rho * (mrow m co i).getD 1 0 = v
      apply E.ext_ <;> simp only [add_a, add_b] <;> grind
    · rw [atE_lin _ _ _ _ (by rw [a1, hml]), a3, ← hco, mrow_at m co i hi (by omega) (by omega)])
  unfold vrfE
  rw [if_neg (by rw [prvM_length, hm]; omega), Int.toNat_natCast]
  simp only [prvM_length, remM_zero, remM_end, q1] at key
  rw [key, hm, q2]
end Go.Proofs.YtnddfeidggcplaaGreat
namespace Go.Proofs.YtnddfeidggcplaaGreat
open Go.RowKit

attribute [local go_sem] Oper.semAt_some
def bitsL (n : Nat) : List Bool := if h : n = 0 then [] else decide (n % 2 = 1) :: bitsL (n / 2)
termination_by n
decreasing_by omega
theorem bitsL_zero : bitsL 0 = [] := by unfold bitsL; rw [dif_pos rfl]
theorem bitsL_pos (n : Nat) (h : n ≠ 0) : bitsL n = decide (n % 2 = 1) :: bitsL (n / 2) := by rw [bitsL, dif_neg h]
theorem and_one (k : Nat) (h : k < 18446744073709551616) : (bits .and .u64 (k : Int) 1 == 1) = decide (k % 2 = 1) := by
  have h1 : bits .and .u64 (k : Int) 1 = ((k % 2 : Nat) : Int) := by
    rw [u64_and (k : Int) 1 (by omega) (by omega) (by omega) (by omega)]
    rw [show (1 : Int).toNat = 2 ^ 1 - 1 from rfl, Nat.and_two_pow_sub_one_eq_mod]
    omega
  rw [h1]
  by_cases h2 : k % 2 = 1
  · rw [h2]; rfl
  · rw [show k % 2 = 0 by omega]; rfl
def natAt (w : World) (B : Nat) : Nat := match w.cell? ⟨B, 0, none⟩ with
  | some v => (intOf v).toNat
  | none => 0
theorem natAt_blk {w : World} {B : Nat} {t : TypeId} {v : Value} (h : Blk w B t #[v]) : natAt w B = (intOf v).toNat := by
  unfold natAt
  rw [h.cell 0]
  rfl
set_option maxRecDepth 100000 in
set_option maxHeartbeats 2000000 in
theorem wBits (k0 Bv : Nat) (hk0 : k0 < 18446744073709551616) (n : Nat) (hn : 1 ≤ n) (w : World) (b : Blk w Bv 28 #[.int .u64 (k0 : Int)]) :
    SeqG n Tryz.prog 139 #[.pointer (some ⟨Bv, 0, none⟩)] (fun x : Bool => #[.bool x]) (fun _ g => g = Bv) (fun _ g => g = Bv) 0 (bitsL k0) w := fun l J W hW hJ1 hJ2 hY h0 => by
  have hop := open_wide Tryz.prog
  have bW := b.keep hW
  have HJ1 := Lib.hid hJ1
  have HJ2 := Lib.hid hJ2
  have HY := Lib.hid hY
  clear b hW hJ1 hJ2 hY
  refine callsIn_of_wp Tryz.func139 rfl trivial ?_ rfl
  simp only [Tryz.ntmps139, List.size_toArray, List.length_cons, List.length_nil, Nat.reduceAdd, Nat.reduceSub, Array.replicate_succ, Array.replicate_zero, List.push_toArray, List.append_toArray, List.nil_append, List.cons_append]
  gi_wp2
  gi_loopw [3] (fun _ wr => ∃ (k : Nat) (pre : List Bool), k < 18446744073709551616 ∧ bitsL k0 = pre ++ bitsL k ∧ J pre wr ∧ Blk wr Bv 28 #[.int .u64 (k : Int)] ∧ W.heap.size ≤ wr.heap.size) (fun _ wr => natAt wr Bv)
  case atStart => exact ⟨k0, [], hk0, rfl, h0, bW, Nat.le_refl _⟩
  case round =>
    obtain ⟨k, pre, hk, hpre, hJs, bv, hs⟩ := hrel
    have c1 := bv.cell
    by_cases hz : k = 0
    · subst hz
      gi_wp2
      rw [bitsL_zero, List.append_nil] at hpre
      go_end0
      exact ⟨⟨_, rfl⟩, by rw [hpre]; exact hJs⟩
    · have hpos : 0 < k := by omega
      have hand := and_one k hk
      have hpre2 : bitsL k0 = pre ++ decide (k % 2 = 1) :: bitsL (k / 2) := by rw [hpre, bitsL_pos k hz]
      clear hpre
      generalize decide (k % 2 = 1) = bb at *
      have HP := Lib.hid hpre2
      obtain ⟨fn, tmps, assign, body, hy, hR⟩ := HY.out pre bb wr hJs hs ⟨_, hpre2⟩
      clear hpre2
      gi_wp2
      refine hR.mono ?_
      rintro e W3 ⟨rfl, hJ3, hk3⟩
      have bv3 : Blk W3 Bv 28 #[.int .u64 (k : Int)] := (hk3.same Bv rfl bv.lt).trans bv
      have hs3 := hk3.size
      clear hy hR c1
      have c3 := bv3.cell
      have c4 := bv3.frozen
      gi_wp2
      have hd : ((k : Int) / 2) = ((k / 2 : Nat) : Int) := by omega
      rw [hd]
      have hp : Put W3 (W3.setCell ⟨Bv, 0, none⟩ (.int .u64 ((k / 2 : Nat) : Int))) Bv := Put.set _ _ _ _
      have bX : Blk (W3.setCell ⟨Bv, 0, none⟩ (.int .u64 ((k / 2 : Nat) : Int))) Bv 28 #[.int .u64 ((k / 2 : Nat) : Int)] := bv3.set_ 0 _
      refine ⟨⟨k / 2, pre ++ [bb], by omega, by rw [HP.out]; simp, HJ2.out _ _ _ Bv rfl hJ3 hp, bX, by rw [hp.size]; omega⟩, ?_⟩
      rw [natAt_blk bX, natAt_blk bv]
      simp [intOf]
      omega
def pwF (s : E × E) (b : Bool) : E × E := (if b then s.2 * s.1 else s.1, s.2 * s.2)
theorem pwF_bits : ∀ (n : Nat) (o p : E), ((bitsL n).foldl pwF (o, p)).1 = o * xp p n := by
  intro n
  induction n using Nat.strongRecOn with
  | _ n ih =>
    intro o p
    by_cases h : n = 0
    · subst h
      rw [bitsL_zero]
      exact (E.mul_one o).symm
    · rw [bitsL_pos n h, List.foldl_cons]
      have h2 : ∀ k, xp (p * p) k = xp p (2 * k) := fun k => by
        induction k with
        | zero => rfl
        | succ k ih2 =>
          show p * p * xp (p * p) k = p * (p * xp p (2 * k))
          rw [ih2, E.mul_assoc]
      by_cases hb : n % 2 = 1
      · rw [decide_eq_true hb]
        show ((bitsL (n / 2)).foldl pwF (p * o, p * p)).1 = _
        rw [ih (n / 2) (by omega), h2]
        have e : n = 2 * (n / 2) + 1 := by omega
        generalize n / 2 = k at *
        subst e
        show p * o * xp p (2 * k) = o * (p * xp p (2 * k))
        rw [E.mul_comm p o, E.mul_assoc]
      · rw [decide_eq_false hb]
        show ((bitsL (n / 2)).foldl pwF (o, p * p)).1 = _
        rw [ih (n / 2) (by omega), h2]
        rw [show 2 * (n / 2) = n by omega]
theorem el_info : (Tryz.prog.info? 115).map (fun i => (i.zero, i.size, i.bytes)) = some (some (.agg #[.int .u64 0, .int .u64 0]), 2, 16) := by kernel_rfl
theorem gBits (k : Nat) (w : World) : Calls Tryz.prog 124 #[.int .u64 (k : Int)] w fun e w' =>
    e = .returned (.func (.func 139) #[] #[.pointer (some ⟨w.heap.size, 0, none⟩)]) ∧ w' = w.alloc (.cells #[.int .u64 (k : Int)] 28) := by
  go_enter Tryz.func124, Tryz.ntmps124
  go_wp2
  go_ret
  exact ⟨rfl, rfl⟩
theorem blk_putObj {W : World} {g l : Nat} {t : TypeId} {cs : Array Value} {o : Obj} (h : Blk W g t cs) (hne : g ≠ l) : Blk (W.putObj l o) g t cs := (World.putObj_heap_other (by omega)).trans h
set_option maxRecDepth 100000 in
set_option maxHeartbeats 4000000 in
theorem ePow (x : E) (k : Nat) (hk : k < 18446744073709551616) (w : World) : Calls Tryz.prog 94 #[ev x, .int .u64 (k : Int)] w (Ret (ev (xp x k)) w) := by
  have HF := Lib.hid (show ((bitsL k).foldl pwF (1, x)).1 = xp x k by rw [pwF_bits, E.one_mul])
  refine (callsIn_wide (n := 3)).1 ?_
  refine callsIn_of_wp_marks Tryz.func94 rfl trivial ?_ rfl
  unfold ev
  simp only [Tryz.ntmps94, List.size_toArray, List.length_cons, List.length_nil, Nat.reduceAdd, Nat.reduceSub, Array.replicate_succ, Array.replicate_zero, List.push_toArray, List.append_toArray, List.nil_append, List.cons_append]
  gi_wp2_with fail
  refine stk2 (M := fun W => Code.wpIn _ _ _ _ _ _ W) fun W hB hz b1 b2 => ?_
  have hWs := hz.out
  clear hz
  obtain ⟨i1, hi1, jz0, jz1, jz2⟩ := info_parts ext_info
  obtain ⟨i2, hi2, kz0, kz1, kz2⟩ := info_parts el_info
  have y1 := gw_blk b1
  have hop := open_wide Tryz.prog
  rename_i K hK
  refine wpIn_mono (Q := Exit.then K (fun _ _ _ => False)) ?hw (fun e a' w' h => by cases e <;> first | exact h | exact h.elim)
  refine (wpIn_wide (n := 3)).2 ?_
  refine wp_region_late 4 [1] [(2, Spec.rel (New 30 #[.int .u64 0, .int .u64 0]) (NewF)), (3, Spec.rel (New 115 #[.int .u64 0, .int .u64 0]) (NewF))] (by kernel_rfl) (by kernel_rfl) (by kernel_rfl) (by kernel_rfl) (by intro _ _ d _ _ h; cases d <;> exact h) ⟨fit_new, fit_new, trivial⟩ ?_
  refine rg_det rfl rfl rfl (fun K hK => ?_)
  go_big_quiet_op
  refine hK _ ?_; clear hK K
  refine rg_det rfl rfl rfl (fun K hK => ?_)
  go_big_quiet_op
  refine hK _ ?_; clear hK K
  refine rg_rel rfl rfl (fun W1 hW1 hF => step_new hi1 jz0 rfl) ?_
  intro n2 m2 v2 hn2 hm2 hd2 hf2 a' ha
  simp only [Act.put, List.setIfInBounds_toArray, List.set_cons_succ, List.set_cons_zero] at ha
  subst ha
  obtain rfl := hf2
  refine rg_rel rfl rfl (fun W1 hW1 hF => step_new hi2 kz0 rfl) ?_
  intro n3 m3 v3 hn3 hm3 hd3 hf3 a' ha
  simp only [Act.put, List.setIfInBounds_toArray, List.set_cons_succ, List.set_cons_zero] at ha
  subst ha
  obtain rfl := hf3
  refine rg_nil (fun w' hw' hF => ?_)
  obtain ⟨z, rfl⟩ := hw'
  simp only [List.drop_succ_cons, List.drop_zero]
  obtain ⟨-, -, l3, f3⟩ := end_last hF
  obtain ⟨-, -, l2, f2⟩ := end_last (end_init hF)
  have d32 := hd3 (n2, m2) (by simp)
  simp only at d32
  clear hF y1 hd2 hd3
  refine wpListC_put (cells := [.int .u64 1, .int .u64 0]) (new := #[.int .u64 1, .int .u64 0]) rfl _ _ _ rfl rfl rfl f2 (by decide) (by kernel_rfl) rfl rfl ⟨z, rfl⟩ hn2 fun X1 p1 w1 g1 => ?_
  refine wpListC_put (cells := [.int .u64 (fv x.a), .int .u64 (fv x.b)]) (new := #[.int .u64 (fv x.a), .int .u64 (fv x.b)]) rfl _ _ _ rfl rfl rfl (p1.blk f3 (by omega)) (show 0 + 2 ≤ 2 by decide) (by kernel_rfl) rfl rfl g1 hn3 fun X2 p2 w2' g2 => ?_
  have r2 := p2.blk w1 (by omega)
  have r3 := w2'
  have hX := grw_below g2
  have b2X := b2.keep hX
  have hBX := hB.trans (hX.mono hB.size)
  clear f2 f3 w1 w2' p1 p2 g1 g2
  refine wpListC_nil ?_
  refine hK _ _ ?_
  clear hK K
  gi_wp2_with fail
  refine ⟨trivial, ?_⟩
  refine (callsIn_wide.2 (gBits k X2)).mono ?_
  rintro e w2 ⟨rfl, rfl⟩
  gi_wp2_with fail
  refine stk1 (M := fun W => Code.wpIn _ _ _ _ _ _ W) fun X hBX1 hzX c1 => ?_
  have hXs : X.heap.size = X2.heap.size + 1 := hzX.out
  have r2X := r2.keep hBX1
  have r3X := r3.keep hBX1
  have b2Y := b2X.keep hBX1
  have hBY := hBX.trans (hBX1.mono hBX.size)
  have hn2lt := r2.lt
  have hn3lt := r3.lt
  have hwX := hBX.size
  have hb2 := b2X.lt
  clear r2 r3 b2X hzX b1 b2 hX
  refine wpIn_seqP1 (wBits k X2.heap.size hk 2 (by decide) X c1) (Below.refl _ _) (by decide) rfl (enters_of Tryz.func139 (by kernel_rfl) rfl) (fun g hg => by omega) (fun g hg => by omega)
    (fun pre V => Blk V n2 30 (ec (pre.foldl pwF (1, x)).1).toArray ∧ Blk V n3 115 (ec (pre.foldl pwF (1, x)).2).toArray ∧ Blk V (w.heap.size + 1) 30 #[.int .u64 0, .int .u64 0] ∧ Below w.heap.size w V)
    ?hI1 ?hI2 ?hI3 ?h0 7 ?assign ?body ?done
  case hI1 => exact fun s A B h hb => ⟨h.1.keep hb, h.2.1.keep hb, h.2.2.1.keep hb, h.2.2.2.trans (hb.mono h.2.2.2.size)⟩
  case hI2 => exact fun s A B g hg h hp => ⟨hp.blk h.1 (by omega), hp.blk h.2.1 (by omega), hp.blk h.2.2.1 (by omega), below_put h.2.2.2 hp (by omega)⟩
  case hI3 => exact fun s V o h => ⟨blk_putObj h.1 (by omega), blk_putObj h.2.1 (by omega), blk_putObj h.2.2.1 (by omega), below_putObj h.2.2.2 _ o (by omega)⟩
  case h0 => exact ⟨r2X, r3X, b2Y, hBY⟩
  case assign =>
    intro l b V K hK
    simp only [List.setIfInBounds_toArray, List.set_cons_succ, List.set_cons_zero] at hK ⊢
    gi_wp2_with fail
    exact hK
  case body =>
    rintro l pre b V ⟨q1, q2, q3, q4⟩ hsV -
    simp only [List.foldl_append, List.foldl_cons, List.foldl_nil]
    generalize List.foldl pwF (1, x) pre = s at *
    obtain ⟨o, p⟩ := s
    simp only at q1 q2
    simp only [List.setIfInBounds_toArray, List.set_cons_succ, List.set_cons_zero]
    have q1' : Blk V n2 30 #[.int .u64 (fv o.a), .int .u64 (fv o.b)] := q1
    have q2' : Blk V n3 115 #[.int .u64 (fv p.a), .int .u64 (fv p.b)] := q2
    clear q1 q2
    have hop := open_round (open_wide Tryz.prog) l
    cases b
    · have e2 := q2'.cell
      gi_wp2_with fail
      refine ⟨trivial, (CallsIn.inRound l (callsIn_wide.2 (eTimes p p V))).mono ?_⟩
      rintro e V9 ⟨he, hb⟩
      unfold ev at he
      subst he
      clear e2
      have r1 := (q1').keep hb
      have r2 := (q2').keep hb
      have r3 := (q3).keep hb
      have hsz9 := hb.size
      have e2 := r2.frozen
      have e3 := r2.cell
      gi_wp2_with fail
      have hp : Put V9 ((V9.setCell ⟨n3, 0, none⟩ (.int .u64 (fv (p * p).a))).setCell ⟨n3, 1, none⟩ (.int .u64 (fv (p * p).b))) n3 := (Put.set _ _ _ _).trans (Put.set _ _ _ _)
      refine ⟨⟨by rw [hp.size]; exact hb.size, fun g hg hl => (hp.other g (by omega)).trans (hb.block g hl)⟩, hp.blk r1 (by omega), (r2.set_ 0 _).set_ 1 _, hp.blk r3 (by omega), below_put (q4.trans (hb.mono q4.size)) hp (by omega)⟩
    · have e1 := q1'.cell
      have e2 := q2'.cell
      gi_wp2_with fail
      refine ⟨trivial, (CallsIn.inRound l (callsIn_wide.2 (eTimes p o V))).mono ?_⟩
      rintro e V2 ⟨he, hb0⟩
      unfold ev at he
      subst he
      clear e1 e2
      have s1 := q1'.keep hb0
      have s2 := q2'.keep hb0
      have s3 := q3.keep hb0
      have s4 := q4.trans (hb0.mono q4.size)
      have hsz := hb0.size
      have e1 := s1.frozen
      have e3 := s1.cell
      have e2 := s2.cell
      gi_upto_region 6 with (fail)
      have hp0 : Put V2 ((V2.setCell ⟨n2, 0, none⟩ (.int .u64 (fv (p * o).a))).setCell ⟨n2, 1, none⟩ (.int .u64 (fv (p * o).b))) n2 := (Put.set _ _ _ _).trans (Put.set _ _ _ _)
      refine set2 (M := fun W => Code.wpIn _ _ _ _ _ _ W) s1 fun V3 hV3 bV3 => ?_
      have t1 : Blk V3 n2 30 #[.int .u64 (fv (p * o).a), .int .u64 (fv (p * o).b)] := bV3
      have t2 := hV3.blk s2 (by omega)
      have t3 := hV3.blk s3 (by omega)
      have t4 := below_put s4 hV3 (by omega)
      have hk0 : Keeps (fun g => g = X2.heap.size ∨ g = X2.heap.size + 1 ∨ g = X2.heap.size + 1 + 1) V V3 := ⟨by rw [hV3.size]; exact hsz, fun g hg hl => (hV3.other g (by omega)).trans (hb0.block g hl)⟩
      clear e1 e2 e3 bV3 s1 s2 s3 hp0 q1' q2' q3
      have e2 := t2.cell
      gi_wp2_with fail
      refine ⟨trivial, (CallsIn.inRound l (callsIn_wide.2 (eTimes p p V3))).mono ?_⟩
      rintro e V9 ⟨he, hb⟩
      unfold ev at he
      subst he
      clear e2
      have r1 := (t1).keep hb
      have r2 := (t2).keep hb
      have r3 := (t3).keep hb
      have hsz9 := hb.size
      have e2 := r2.frozen
      have e3 := r2.cell
      gi_wp2_with fail
      have hp : Put V9 ((V9.setCell ⟨n3, 0, none⟩ (.int .u64 (fv (p * p).a))).setCell ⟨n3, 1, none⟩ (.int .u64 (fv (p * p).b))) n3 := (Put.set _ _ _ _).trans (Put.set _ _ _ _)
      refine ⟨⟨by rw [hp.size]; exact Nat.le_trans hk0.size hb.size, fun g hg hl => (hp.other g (by omega)).trans ((hb.block g (Nat.lt_of_lt_of_le hl hk0.size)).trans (hk0.same g hg hl))⟩, hp.blk r1 (by omega), (r2.set_ 0 _).set_ 1 _, hp.blk r3 (by omega), below_put (t4.trans (hb.mono t4.size)) hp (by omega)⟩
  case done =>
    intro D V hDh ⟨q1, q2, q3, q4⟩ hK
    rw [HF.out] at q1
    generalize xp x k = y at *
    have q1' : Blk V n2 30 #[.int .u64 (fv y.a), .int .u64 (fv y.b)] := q1
    clear q1 q2 HF
    have hop := open_wide Tryz.prog
    have e1 := q1'.cell
    have e2 := q3.frozen
    have e3 := q3.cell
    gi_wp2_with fail
    have hD := hDh.out
    have hpz : Put V ((V.setCell ⟨w.heap.size + 1, 0, none⟩ (.int .u64 (fv y.a))).setCell ⟨w.heap.size + 1, 1, none⟩ (.int .u64 (fv y.b))) (w.heap.size + 1) := (Put.set _ _ _ _).trans (Put.set _ _ _ _)
    obtain ⟨Z, hZ⟩ : ∃ Z, ((V.setCell ⟨w.heap.size + 1, 0, none⟩ (.int .u64 (fv y.a))).setCell ⟨w.heap.size + 1, 1, none⟩ (.int .u64 (fv y.b))) = Z := ⟨_, rfl⟩
    rw [hZ]
    have bZ : Blk Z (w.heap.size + 1) 30 #[.int .u64 (fv y.a), .int .u64 (fv y.b)] := by rw [← hZ]; exact blk_set2 q3
    have hBZ : Below w.heap.size w Z := by rw [← hZ]; exact below_put q4 hpz (by omega)
    have hKZ : Z.heap[D]? = some (.deferred (some [])) := by rw [← hZ]; exact (hpz.other D (by omega)).trans hK
    refine ⟨by simp, .inl ⟨_, _, rfl, run_takeDeferred hKZ, ?_⟩⟩
    have bZ' : Blk (Z.putObj D (.deferred none)) (w.heap.size + 1) 30 #[.int .u64 (fv y.a), .int .u64 (fv y.b)] := (World.putObj_heap_other (by omega)).trans bZ
    have e4 := bZ'.cell
    refine ⟨.agg #[.int .u64 (fv y.a), .int .u64 (fv y.b)], ?_, ?_⟩
    · simp [results, Tryz.results94, go_sem, e4]
    · exact ⟨rfl, below_putObj hBZ D _ (by omega)⟩
end Go.Proofs.YtnddfeidggcplaaGreat
namespace Go.Proofs.YtnddfeidggcplaaGreat
open Go.RowKit

set_option maxRecDepth 100000 in
set_option maxHeartbeats 2000000 in
theorem gPower (k : Int) (h1 : -1000 ≤ k) (h2 : k ≤ 1000) (w : World) : Calls Tryz.prog 54 #[.int .i64 k] w (Ret (ev (pwZ k)) w) := by
  by_cases hk : 0 ≤ k
  · obtain ⟨n, rfl⟩ : ∃ n : Nat, k = (n : Int) := ⟨k.toNat, (Int.toNat_of_nonneg hk).symm⟩
    rw [pwZ_nat]
    have HP := Lib.hid (ePow e2 n (by omega))
    generalize xp e2 n = y at *
    unfold ev
    go_enter Tryz.func54, Tryz.ntmps54
    go_wp2_with fail
    refine calls_stk1 fun W hB hz b1 => ?_
    clear hz
    refine (eFromInt 2 (by decide) (by decide) W).mono ?_
    rintro e w1 ⟨rfl, hb1⟩
    unfold ev
    go_wp2_with fail
    refine (HP.out w1).mono ?_
    rintro e w2 ⟨he, hb2⟩
    unfold ev at he
    subst he
    have b3 := (b1.keep hb1).keep hb2
    have e1 := b3.cell
    have e3 := b3.frozen
    go_wp2_with fail
    refine bodyPost_ret (v := .agg #[.int .u64 (fv (y).a), .int .u64 (fv (y).b)]) (by simp [results, Tryz.results54, go_sem, e1]) rfl ⟨rfl, ?_⟩
    have hB2 := hB.trans (hb1.mono hB.size)
    exact below_set2 (hB2.trans (hb2.mono hB2.size)) (Nat.le_refl _)
  · obtain ⟨n, rfl⟩ : ∃ n : Nat, k = -(n : Int) := ⟨(-k).toNat, by omega⟩
    rw [pwZ_neg]
    have HP := Lib.hid (ePow hlf n (by omega))
    have HI := Lib.hid (eInv e2 e2_ne)
    generalize xp hlf n = y at *
    have hkk : ¬ (0 : Int) ≤ -(n : Int) := hk
    unfold ev
    go_enter Tryz.func54, Tryz.ntmps54
    go_wp2_with fail
    refine calls_stk1 fun W hB hz b1 => ?_
    clear hz
    refine (eFromInt 2 (by decide) (by decide) W).mono ?_
    rintro e w1 ⟨rfl, hb1⟩
    unfold ev
    go_wp2_with fail
    refine (HI.out w1).mono ?_
    rintro e w2 ⟨he, hb2⟩
    replace he : e = .returned (.tuple #[.agg #[.int .u64 (fv hlf.a), .int .u64 (fv hlf.b)], .int .i64 0]) := he
    subst he
    have b2 := (b1.keep hb1).keep hb2
    have hB1 := hB.trans (hb1.mono hB.size)
    have hB2 := hB1.trans (hb2.mono hB1.size)
    go_upto_region 4 with (fail)
    refine wp_stk1 fun W3 hB3 hz3 b3 => ?_
    clear hz3
    have c1 := b3.cell
    have hnn : (-(-(n : Int))) = (n : Int) := Int.neg_neg _
    go_wp2_with fail
    refine (HP.out W3).mono ?_
    rintro e w4 ⟨he, hb4⟩
    unfold ev at he
    subst he
    have b4 := (b2.keep hB3).keep hb4
    clear c1
    have e1 := b4.cell
    have e3 := b4.frozen
    go_wp2_with fail
    refine bodyPost_ret (v := .agg #[.int .u64 (fv (y).a), .int .u64 (fv (y).b)]) (by simp [results, Tryz.results54, go_sem, e1]) rfl ⟨rfl, ?_⟩
    have hB4 := hB2.trans (hB3.mono hB2.size)
    exact below_set2 (hB4.trans (hb4.mono hB4.size)) (Nat.le_refl _)
theorem en_attestor_mask_ends : ∀ args w, (callFunc 63 args).run Tryz.prog w = .ok (.enter 63 args) w := enters_of Tryz.func63 (by kernel_rfl) rfl
theorem en_attestor_mask_power : ∀ args w, (callFunc 54 args).run Tryz.prog w = .ok (.enter 54 args) w := enters_of Tryz.func54 (by kernel_rfl) rfl
theorem en_attestor_mask_Eval : ∀ args w, (callFunc 22 args).run Tryz.prog w = .ok (.enter 22 args) w := enters_of Tryz.func22 (by kernel_rfl) rfl
set_option maxRecDepth 100000 in
set_option maxHeartbeats 1000000 in
theorem gEnds (p : List E) (h2 : 2 ≤ p.length) (v : Value) (lo hi : Nat) (w : World) (h : ExtS lo hi w v p) : Calls Tryz.prog 63 #[v] w (Ret (ev (endsE p)) w) := by
  obtain ⟨g, off, cap, rfl, -, -, -, q4, q5⟩ := exts_cells h (by omega)
  obtain ⟨x, hx, hxd⟩ := get_of (l := p) (k := 0) (by omega)
  obtain ⟨y, hy, hyd⟩ := get_of (l := p) (k := 1) (by omega)
  obtain ⟨d1, d2⟩ := q5 0 x hx
  obtain ⟨d3, d4⟩ := q5 1 y hy
  have hlen := h.2.1
  simp only [Nat.zero_mul, Nat.one_mul, Nat.add_zero, Nat.add_assoc, Nat.reduceAdd] at d1 d2 d3 d4
  have he : endsE p = x + y := by unfold endsE; rw [hxd, hyd]
  rw [he]
  generalize p.length = n at *
  clear q5 h hx hxd hy hyd he
  unfold ev
  go_enter Tryz.func63, Tryz.ntmps63
  go_upto_region 1 with (fail)
  refine wp_stk1 fun W hB hz b1 => ?_
  have k1 := gw_cell (W := W) (Nat.lt_of_lt_of_le q4 hB.size) ((hB.cell (p := ⟨g, off, none⟩) q4).trans d1)
  have k2 := gw_cell (W := W) (Nat.lt_of_lt_of_le q4 hB.size) ((hB.cell (p := ⟨g, off + 1, none⟩) q4).trans d2)
  have k3 := gw_cell (W := W) (Nat.lt_of_lt_of_le q4 hB.size) ((hB.cell (p := ⟨g, off + 2, none⟩) q4).trans d3)
  have k4 := gw_cell (W := W) (Nat.lt_of_lt_of_le q4 hB.size) ((hB.cell (p := ⟨g, off + 3, none⟩) q4).trans d4)
  refine wp_region_rg 7 [(6, Spec.val (.agg #[.int .u64 (fv (x + y).a), .int .u64 (fv (x + y).b)]))] (by kernel_rfl) (by kernel_rfl) (by kernel_rfl) trivial ?_
  refine rg_det rfl rfl rfl (fun K hK => ?_)
  go_big_quiet_op
  refine hK _ ?_; clear hK K
  refine rg_det rfl rfl rfl (fun K hK => ?_)
  go_big_quiet_op
  refine hK _ ?_; clear hK K
  refine rg_det rfl rfl rfl (fun K hK => ?_)
  go_big_quiet_op
  refine hK _ ?_; clear hK K
  refine rg_det rfl rfl rfl (fun K hK => ?_)
  go_big_quiet_op
  refine hK _ ?_; clear hK K
  refine rg_det rfl rfl rfl (fun K hK => ?_)
  go_big_quiet_op
  refine hK _ ?_; clear hK K
  refine rg_det rfl rfl rfl (fun K hK => ?_)
  go_big_quiet_op
  refine hK _ ?_; clear hK K
  refine rg_val rfl rfl (fun W1 hW1 hF => step_callv en_attestor_ext_Add (eAdd x y W1) rfl rfl) ?_
  intro a' ha
  simp only [Act.put, List.setIfInBounds_toArray, List.set_cons_succ, List.set_cons_zero] at ha
  subst ha
  refine rg_nil (fun w' hw' hF => ?_)
  obtain ⟨z, rfl⟩ := hw'
  simp only [List.drop_succ_cons, List.drop_zero]
  clear k1 k2 k3 k4 d1 d2 d3 d4
  have e1 := (b1.gw z).cell
  have e2 := (b1.gw z).frozen
  go_wp2
  refine bodyPost_ret (v := .agg #[.int .u64 (fv (x + y).a), .int .u64 (fv (x + y).b)]) (by simp [results, Tryz.results63, go_sem, e1]) rfl ⟨rfl, ?_⟩
  exact ((hB.trans (z.h.mono hB.size)).setCell (by show w.heap.size ≤ w.heap.size; omega) _).setCell (by show w.heap.size ≤ w.heap.size; omega) _
set_option maxRecDepth 100000 in
set_option maxHeartbeats 2000000 in
theorem gEvM (m : List (List E)) (p : List E) (hl : m.length ≤ p.length) (hn : m.length ≤ 1000) (hr : ∀ g ∈ m, g.length ≤ 1000) (v1 v2 : Value) (lo hi lo2 hi2 : Nat) (w : World) (h1 : TabS lo hi w v1 m) (h2 : ExtS lo2 hi2 w v2 p) :
    Calls Tryz.prog 22 #[v1, v2] w (Ret (ev (evM m p)) w) := by
  obtain ⟨A1, c1, rfl⟩ := h1.len
  obtain ⟨A2, c2, rfl⟩ := Rd.len h2
  have hsm := h2.2.1
  have H1 := Lib.hid h1
  have H2 := Lib.hid h2
  have HR := Lib.hid hr
  obtain ⟨n, hnl⟩ : ∃ n, n = m.length := ⟨_, rfl⟩
  obtain ⟨N, hNl⟩ : ∃ N, N = p.length := ⟨_, rfl⟩
  have HY := Lib.hid (show evK m p n = evM m p by rw [hnl]; rfl)
  rw [← hnl] at hl hn H1 ⊢
  rw [← hNl] at hl hsm H2 ⊢
  have HN := Lib.hid hnl
  have HN2 := Lib.hid hNl
  clear h1 h2 hr hnl hNl
  unfold ev
  go_enter Tryz.func22, Tryz.ntmps22
  go_upto_region 2 with (fail)
  refine wp_stk2 fun W hB hz b1 b2 => ?_
  clear hz
  go_wp2_with fail
  go_loopw [10] (fun i wr => ∃ k : Nat, k ≤ n ∧ i = .int .i64 k ∧ Blk wr (w.heap.size + 1) 30 #[.int .u64 (fv (evK m p k).a), .int .u64 (fv (evK m p k).b)] ∧ Blk wr w.heap.size 30 #[.int .u64 0, .int .u64 0] ∧ Below w.heap.size w wr) (fun i _ => n - (intOf i).toNat)
  case atStart => exact ⟨0, Nat.zero_le _, rfl, b2, b1, hB⟩
  case round =>
    obtain ⟨k, hk, rfl, bs, br, hBr⟩ := hrel
    by_cases hlt : k < n
    · obtain ⟨g, off, cap', hv, -, -, -, q4, q5⟩ := tabs_cells H1.out (by rw [← HN.out]; omega)
      rw [← HN.out] at hv
      cases hv
      obtain ⟨g', off', cap'', hv, -, -, -, r4, r5⟩ := exts_cells H2.out (by rw [← HN2.out]; omega)
      rw [← HN2.out] at hv
      cases hv
      obtain ⟨t, ht⟩ : ∃ t, m[k]? = some t := ⟨_, List.getElem?_eq_getElem (by rw [← HN.out]; exact hlt)⟩
      obtain ⟨x, hx⟩ : ∃ x, p[k]? = some x := ⟨_, List.getElem?_eq_getElem (by rw [← HN2.out]; omega)⟩
      obtain ⟨A3, c3, d0, hE⟩ := q5 k t ht
      obtain ⟨d1, d2⟩ := r5 k x hx
      have hEs := Lib.hid (show evK m p (k + 1) = evK m p k + atE t x by rw [evK_succ]; simp [List.getD, ht, hx])
      have HA := Lib.hid (fun W1 (hW : Below wr.heap.size wr W1) => gAt t x (HR.out t (List.mem_of_getElem? ht)) _ _ _ W1 (Rd.keep (Rd.keep hE hBr) hW))
      have e0 := (hBr.cell (p := ⟨g, off + k, none⟩) q4).trans d0
      have k1 := gw_cell (W := wr) (Nat.lt_of_lt_of_le r4 hBr.size) ((hBr.cell (p := ⟨g', off' + k * 2, none⟩) r4).trans d1)
      have k2 := gw_cell (W := wr) (Nat.lt_of_lt_of_le r4 hBr.size) ((hBr.cell (p := ⟨g', off' + k * 2 + 1, none⟩) r4).trans d2)
      have k3 := gw_blk bs
      have hltp : k < N := by omega
      clear q5 r5 d0 d1 d2 hE ht hx
      generalize evK m p k = s at *
      generalize atE t x = y at *
      go_upto_region 5 with (fail)
      refine wp_region_rg 8 [(6, Spec.val (.agg #[.int .u64 (fv (y).a), .int .u64 (fv (y).b)])), (7, Spec.val (.agg #[.int .u64 (fv (s + y).a), .int .u64 (fv (s + y).b)]))] (by kernel_rfl) (by kernel_rfl) (by kernel_rfl) trivial ?_
      refine rg_det rfl rfl rfl (fun K hK => ?_)
      go_big_quiet_op
      refine hK _ ?_; clear hK K
      refine rg_det rfl rfl rfl (fun K hK => ?_)
      go_big_quiet_op
      refine hK _ ?_; clear hK K
      refine rg_det rfl rfl rfl (fun K hK => ?_)
      go_big_quiet_op
      refine hK _ ?_; clear hK K
      refine rg_det rfl rfl rfl (fun K hK => ?_)
      go_big_quiet_op
      refine hK _ ?_; clear hK K
      refine rg_det rfl rfl rfl (fun K hK => ?_)
      go_big_quiet_op
      refine hK _ ?_; clear hK K
      refine rg_det rfl rfl rfl (fun K hK => ?_)
      go_big_quiet_op
      refine hK _ ?_; clear hK K
      refine rg_val rfl rfl (fun W1 hW1 hF => step_callv en_attestor_poly_At (HA.out W1 (grw_below hW1)) rfl rfl) ?_
      intro a' ha
      simp only [Act.put, List.setIfInBounds_toArray, List.set_cons_succ, List.set_cons_zero] at ha
      subst ha
      refine rg_val rfl rfl (fun W1 hW1 hF => step_callv en_attestor_ext_Add (eAdd s y W1) rfl rfl) ?_
      intro a' ha
      simp only [Act.put, List.setIfInBounds_toArray, List.set_cons_succ, List.set_cons_zero] at ha
      subst ha
      refine rg_nil (fun w' hw' hF => ?_)
      obtain ⟨z, rfl⟩ := hw'
      simp only [List.drop_succ_cons, List.drop_zero]
      have bsz := bs.gw z
      have e1 := bsz.frozen
      have e2 := bsz.cell
      clear hF k1 k2 k3 e0
      go_wp2_with fail
      have hp : Put z.w ((z.w.setCell ⟨w.heap.size + 1, 0, none⟩ (.int .u64 (fv (s + y).a))).setCell ⟨w.heap.size + 1, 1, none⟩ (.int .u64 (fv (s + y).b))) (w.heap.size + 1) := (Put.set _ _ _ _).trans (Put.set _ _ _ _)
      exact ⟨⟨k + 1, by omega, by go_num, by rw [hEs.out]; exact blk_set2 bsz, hp.blk (br.gw z) (by omega), below_put (hBr.trans (z.h.mono hBr.size)) hp (by omega)⟩, by simp [intOf]; omega⟩
    · obtain rfl : k = n := by omega
      rw [HY.out] at bs
      generalize evM m p = s at *
      have e1 := bs.cell
      have e2 := br.frozen
      have e3 := br.cell
      go_wp2_with fail
      refine bodyPost_ret (v := .agg #[.int .u64 (fv (s).a), .int .u64 (fv (s).b)]) (by simp [results, Tryz.results22, go_sem, e3]) rfl ⟨rfl, below_set2 hBr (Nat.le_refl _)⟩
set_option maxRecDepth 100000 in
set_option maxHeartbeats 2000000 in
theorem gTotM (m : List (List E)) (hn : m.length ≤ 1000) (hr : ∀ g ∈ m, 2 ≤ g.length) (v1 : Value) (lo hi : Nat) (w : World) (h1 : TabS lo hi w v1 m) :
    Calls Tryz.prog 20 #[v1] w (Ret (ev (totM m)) w) := by
  obtain ⟨A1, c1, rfl⟩ := h1.len
  have H1 := Lib.hid h1
  have HR := Lib.hid hr
  obtain ⟨n, hnl⟩ : ∃ n, n = m.length := ⟨_, rfl⟩
  have HY := Lib.hid (show endK m n * pwZ ((n : Int) - 1) = totM m by rw [hnl]; rfl)
  have HPw := Lib.hid (fun W1 => gPower ((n : Int) - 1) (by omega) (by rw [hnl]; omega) W1)
  rw [← hnl] at hn H1 ⊢
  have HN := Lib.hid hnl
  clear h1 hr hnl
  unfold ev
  go_enter Tryz.func20, Tryz.ntmps20
  go_upto_region 2 with (fail)
  refine wp_stk2 fun W hB hz b1 b2 => ?_
  clear hz
  go_wp2_with fail
  go_loopw [8] (fun i wr => ∃ k : Nat, k ≤ n ∧ i = .int .i64 k ∧ Blk wr (w.heap.size + 1) 30 #[.int .u64 (fv (endK m k).a), .int .u64 (fv (endK m k).b)] ∧ Blk wr w.heap.size 30 #[.int .u64 0, .int .u64 0] ∧ Below w.heap.size w wr) (fun i _ => n - (intOf i).toNat)
  case atStart => exact ⟨0, Nat.zero_le _, rfl, b2, b1, hB⟩
  case round =>
    obtain ⟨k, hk, rfl, bs, br, hBr⟩ := hrel
    by_cases hlt : k < n
    · obtain ⟨g, off, cap', hv, -, -, -, q4, q5⟩ := tabs_cells H1.out (by rw [← HN.out]; omega)
      rw [← HN.out] at hv
      cases hv
      obtain ⟨t, ht⟩ : ∃ t, m[k]? = some t := ⟨_, List.getElem?_eq_getElem (by rw [← HN.out]; exact hlt)⟩
      obtain ⟨A3, c3, d0, hE⟩ := q5 k t ht
      have hEs := Lib.hid (show endK m (k + 1) = endK m k + endsE t by rw [endK_succ]; simp [List.getD, ht])
      have HA := Lib.hid (fun W1 (hW : Below wr.heap.size wr W1) => gEnds t (HR.out t (List.mem_of_getElem? ht)) _ _ _ W1 (Rd.keep (Rd.keep hE hBr) hW))
      have e0 := (hBr.cell (p := ⟨g, off + k, none⟩) q4).trans d0
      have k3 := gw_blk bs
      clear q5 d0 hE ht
      generalize endK m k = s at *
      generalize endsE t = y at *
      go_upto_region 5 with (fail)
      refine wp_region_rg 4 [(2, Spec.val (.agg #[.int .u64 (fv (y).a), .int .u64 (fv (y).b)])), (3, Spec.val (.agg #[.int .u64 (fv (s + y).a), .int .u64 (fv (s + y).b)]))] (by kernel_rfl) (by kernel_rfl) (by kernel_rfl) trivial ?_
      refine rg_det rfl rfl rfl (fun K hK => ?_)
      go_big_quiet_op
      refine hK _ ?_; clear hK K
      refine rg_det rfl rfl rfl (fun K hK => ?_)
      go_big_quiet_op
      refine hK _ ?_; clear hK K
      refine rg_val rfl rfl (fun W1 hW1 hF => step_callv en_attestor_mask_ends (HA.out W1 (grw_below hW1)) rfl rfl) ?_
      intro a' ha
      simp only [Act.put, List.setIfInBounds_toArray, List.set_cons_succ, List.set_cons_zero] at ha
      subst ha
      refine rg_val rfl rfl (fun W1 hW1 hF => step_callv en_attestor_ext_Add (eAdd s y W1) rfl rfl) ?_
      intro a' ha
      simp only [Act.put, List.setIfInBounds_toArray, List.set_cons_succ, List.set_cons_zero] at ha
      subst ha
      refine rg_nil (fun w' hw' hF => ?_)
      obtain ⟨z, rfl⟩ := hw'
      simp only [List.drop_succ_cons, List.drop_zero]
      have bsz := bs.gw z
      have e1 := bsz.frozen
      have e2 := bsz.cell
      clear hF k3 e0
      go_wp2_with fail
      have hp : Put z.w ((z.w.setCell ⟨w.heap.size + 1, 0, none⟩ (.int .u64 (fv (s + y).a))).setCell ⟨w.heap.size + 1, 1, none⟩ (.int .u64 (fv (s + y).b))) (w.heap.size + 1) := (Put.set _ _ _ _).trans (Put.set _ _ _ _)
      exact ⟨⟨k + 1, by omega, by go_num, by rw [hEs.out]; exact blk_set2 bsz, hp.blk (br.gw z) (by omega), below_put (hBr.trans (z.h.mono hBr.size)) hp (by omega)⟩, by simp [intOf]; omega⟩
    · obtain rfl : k = n := by omega
      have HY2 := Lib.hid HY.out.symm
      clear HY
      generalize endK m k = s at *
      generalize pwZ ((k : Int) - 1) = q at *
      have k3 := gw_blk bs
      go_upto_region 7 with (fail)
      refine wp_region_rg 6 [(4, Spec.val (.agg #[.int .u64 (fv (q).a), .int .u64 (fv (q).b)])), (5, Spec.val (.agg #[.int .u64 (fv (s * q).a), .int .u64 (fv (s * q).b)]))] (by kernel_rfl) (by kernel_rfl) (by kernel_rfl) trivial ?_
      refine rg_det rfl rfl rfl (fun K hK => ?_)
      go_big_quiet_op
      refine hK _ ?_; clear hK K
      refine rg_det rfl rfl rfl (fun K hK => ?_)
      go_big_quiet_op
      refine hK _ ?_; clear hK K
      refine rg_det rfl rfl rfl (fun K hK => ?_)
      go_big_quiet_op
      refine hK _ ?_; clear hK K
      refine rg_det rfl rfl rfl (fun K hK => ?_)
      go_big_quiet_op
      refine hK _ ?_; clear hK K
      refine rg_val rfl rfl (fun W1 hW1 hF => step_callv en_attestor_mask_power (HPw.out W1) rfl rfl) ?_
      intro a' ha
      simp only [Act.put, List.setIfInBounds_toArray, List.set_cons_succ, List.set_cons_zero] at ha
      subst ha
      refine rg_val rfl rfl (fun W1 hW1 hF => step_callv en_attestor_ext_Mul (eMul s q W1) rfl rfl) ?_
      intro a' ha
      simp only [Act.put, List.setIfInBounds_toArray, List.set_cons_succ, List.set_cons_zero] at ha
      subst ha
      refine rg_nil (fun w' hw' hF => ?_)
      obtain ⟨z, rfl⟩ := hw'
      simp only [List.drop_succ_cons, List.drop_zero]
      have brz := br.gw z
      have e2 := brz.frozen
      have e3 := brz.cell
      clear hF k3
      go_wp2_with fail
      refine bodyPost_ret (v := .agg #[.int .u64 (fv (s * q).a), .int .u64 (fv (s * q).b)]) (by simp [results, Tryz.results20, go_sem, e3]) rfl ⟨by rw [HY2.out], below_set2 (hBr.trans (z.h.mono hBr.size)) (Nat.le_refl _)⟩
end Go.Proofs.YtnddfeidggcplaaGreat
