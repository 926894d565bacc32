/-
  MaskHiding in mathematics: the mask that Explain finds for consistent rounds has these rounds.
-/
import Derived.Test.YtnddfeidggcplaaGreatNm32
namespace Go.Proofs.YtnddfeidggcplaaGreat

theorem neg_one (s t : E) : s + (0 - 1) * t = s - t := by
  rw [E.mul_comm, E.mul_sub, E.mul_zero, E.mul_one]
  apply E.ext_ <;> simp only [add_a, add_b, sub_a, sub_b, zero_a, zero_b] <;> grind
theorem exp_at (rho : E) (g p : List E) (k : Int) (c x : E) (hl : g.length = p.length) (h2 : 2 ≤ g.length) (h4 : g.length ≤ 4) : atE (expRow rho g p k c) x = einv rho * (atE g x - atE p x) * pwZ k - c := by
  have e : expRow rho g p k c = linR (List.replicate g.length (0 - c)) (einv rho * pwZ k) (linR g (0 - 1) p) := by
    apply List.ext_getElem?
    intro i
    by_cases hi : i < g.length
    · have h1 : (linR g (0 - 1) p)[i]? = some (g.getD i 0 + (0 - 1) * p.getD i 0) := by simp [linR, ← hl, hi]
      have h3 : (linR g (0 - 1) p).getD i 0 = g.getD i 0 + (0 - 1) * p.getD i 0 := by rw [List.getD_eq_getElem?_getD, h1]; rfl
      rw [expRow_get _ _ _ _ _ _ hi]
      have h5 : (linR (List.replicate g.length (0 - c)) (einv rho * pwZ k) (linR g (0 - 1) p))[i]? = some ((0 - c) + (einv rho * pwZ k) * (g.getD i 0 + (0 - 1) * p.getD i 0)) := by
        unfold linR at h3 ⊢
        simp [← hl, hi]
      rw [h5]
      refine congrArg some ?_
      generalize g.getD i 0 = s
      generalize p.getD i 0 = t
      generalize einv rho = r
      generalize pwZ k = q
      have := neg_one s t
      rw [this, E.mul_assoc, E.mul_comm (s - t), ← E.mul_assoc]
      generalize r * q * (s - t) = z
      apply E.ext_ <;> simp only [add_a, add_b, sub_a, sub_b, zero_a, zero_b] <;> grind
    · rw [List.getElem?_eq_none (by rw [expRow_length]; omega), List.getElem?_eq_none (by rw [linR_length, linR_length]; omega)]
  rw [e, atE_lin _ _ _ _ (by rw [List.length_replicate, linR_length, hl]), atE_const _ h2 h4, atE_lin _ _ _ _ hl]
  generalize atE g x = s
  generalize atE p x = t
  generalize einv rho = r
  generalize pwZ k = q
  have := neg_one s t
  rw [this, E.mul_assoc r, E.mul_comm q, ← E.mul_assoc r]
  generalize r * (s - t) * q = z
  apply E.ext_ <;> simp only [add_a, add_b, sub_a, sub_b, zero_a, zero_b] <;> grind
theorem exp_ends (rho : E) (g p : List E) (k : Int) (c : E) (h2 : 2 ≤ g.length) : endsE (expRow rho g p k c) = einv rho * (endsE g - endsE p) * pwZ k - (c + c) := by
  unfold endsE
  have key : ∀ x, x < g.length → (expRow rho g p k c).getD x 0 = einv rho * (g.getD x 0 - p.getD x 0) * pwZ k - c := fun x hx => by
    rw [List.getD_eq_getElem?_getD, expRow_get _ _ _ _ _ _ hx]; rfl
  rw [key 0 (by omega), key 1 (by omega)]
  generalize g.getD 0 0 = a
  generalize g.getD 1 0 = b
  generalize p.getD 0 0 = s
  generalize p.getD 1 0 = t
  generalize einv rho = r
  generalize pwZ k = q
  rw [show a + b - (s + t) = (a - s) + (b - t) by apply E.ext_ <;> simp only [add_a, add_b, sub_a, sub_b] <;> grind, E.mul_add, E.add_mul]
  generalize r * (a - s) * q = x
  generalize r * (b - t) * q = y
  apply E.ext_ <;> simp only [add_a, add_b, sub_a, sub_b] <;> grind
section
variable {plain rs : List (List E)} {rho : E} {co : List E} {D : Nat} {c : Nat → E}
theorem exp_inv (hD1 : 1 ≤ D) (hD3 : D ≤ 3) (hpl : plain.length = co.length) (hp : ∀ i, i < co.length → (plain.getD i []).length = D + 1 ∧ endsE (plain.getD i []) = c i ∧ atE (plain.getD i []) (co.getD i 0) = c (i + 1))
    (hrl : rs.length = co.length) (hr : ∀ i, i < co.length → (rs.getD i []).length = D + 1) (hs : sumOk rs co = true) (hrho : rho ≠ 0) :
    explE plain rs rho co co.length D = (expK plain rs rho co co.length co.length, 0) ∧ (expK plain rs rho co co.length co.length).length = co.length ∧ (∀ (i : Nat) (g : List E), (expK plain rs rho co co.length co.length)[i]? = some g → g.length = D + 1) ∧ prvM plain (expK plain rs rho co co.length co.length) rho co = rs := by
  obtain ⟨n, hn⟩ : ∃ n, n = co.length := ⟨_, rfl⟩
  obtain ⟨K, hK⟩ : ∃ K, K = expK plain rs rho co n n := ⟨_, rfl⟩
  have hkl : K.length = n := by rw [hK, expK_length]
  rw [← hn] at hpl hp hrl hr ⊢
  have hex : explE plain rs rho co n D = (expK plain rs rho co n n, 0) := by
    unfold explE
    rw [if_neg (by rw [hrl, hn]; simp), if_neg hrho, any_bad D rs (fun g hg => by
      obtain ⟨i, hi, rfl⟩ := List.mem_iff_getElem.1 hg
      have := hr i (by omega)
      rwa [show rs.getD i [] = rs[i] by simp [List.getD, hi]] at this), if_neg (by simp), hs, if_pos rfl]
  have hg : ∀ i, i < n → K.getD i [] = expRow rho (rs.getD i []) (plain.getD i []) ((i : Int) + 1 - (n : Int)) (evK K co i) := fun i hi => by
    rw [List.getD_eq_getElem?_getD, hK, expK_get plain rs rho co n i n hi]; rfl
  have hgl : ∀ i, i < n → (K.getD i []).length = D + 1 := fun i hi => by rw [hg i hi, expRow_length, hr i hi]
  have hq : ∀ i, i < n → pwZ ((i : Int) + 1 - (n : Int)) = xp hlf (n - 1 - i) := fun i hi => by
    rw [show ((i : Int) + 1 - (n : Int)) = -((n - 1 - i : Nat) : Int) by omega, pwZ_neg]
  have hev : ∀ i, i < n → evK K co (i + 1) = einv rho * (atE (rs.getD i []) (co.getD i 0) - atE (plain.getD i []) (co.getD i 0)) * xp hlf (n - 1 - i) := fun i hi => by
    rw [evK_succ, hg i hi, exp_at _ _ _ _ _ _ (by rw [hr i hi, (hp i hi).1]) (by rw [hr i hi]; omega) (by rw [hr i hi]; omega), hq i hi]
    generalize evK K co i = e
    generalize einv rho * (atE (rs.getD i []) (co.getD i 0) - atE (plain.getD i []) (co.getD i 0)) * xp hlf (n - 1 - i) = z
    apply E.ext_ <;> simp only [add_a, add_b, sub_a, sub_b] <;> grind
  have hnorm : ∀ i, i + 1 < n → endsE (K.getD (i + 1) []) = 0 := fun i hi => by
    have hs1 := (sumOk_true rs co).1 hs (i + 1) (by omega) (by omega)
    rw [Nat.add_sub_cancel] at hs1
    rw [hg _ hi, exp_ends _ _ _ _ _ (by rw [hr _ hi]; omega), hev i (by omega), hq _ hi, hs1, (hp _ hi).2.1, (hp i (by omega)).2.2, show n - 1 - i = (n - 1 - (i + 1)) + 1 by omega]
    show einv rho * (atE (rs.getD i []) (co.getD i 0) - c (i + 1)) * xp hlf (n - 1 - (i + 1)) - (einv rho * (atE (rs.getD i []) (co.getD i 0) - c (i + 1)) * (hlf * xp hlf (n - 1 - (i + 1))) + einv rho * (atE (rs.getD i []) (co.getD i 0) - c (i + 1)) * (hlf * xp hlf (n - 1 - (i + 1)))) = 0
    generalize einv rho * (atE (rs.getD i []) (co.getD i 0) - c (i + 1)) = z
    generalize xp hlf (n - 1 - (i + 1)) = t
    have h1 := hlf_add (z * t)
    rw [show z * (hlf * t) = z * t * hlf by rw [E.mul_comm hlf, E.mul_assoc], h1, E.sub_self]
  have hbs : ∀ k, k + 1 ≤ n → bsK K k = 0 := by
    intro k
    induction k with
    | zero => intro _; rfl
    | succ k ih =>
      intro hk
      rw [bsK_succ, ih (by omega), hkl, show n - 1 - k = (n - 2 - k) + 1 by omega, hnorm _ (by omega), E.add_zero]
  have hrr : prvM plain K rho co = rs := by
    apply List.ext_getElem?
    intro i
    by_cases hi : i < n
    · have h1 : (prvM plain K rho co)[i]? = some (linR (plain.getD i []) rho (mrow K co i)) := by simp [prvM, hkl, hi]
      have h2 : rs[i]? = some (rs.getD i []) := by
        have : rs[i]? = some rs[i] := List.getElem?_eq_getElem (by omega)
        rw [List.getD_eq_getElem?_getD, this]; rfl
      rw [h1, h2]
      refine congrArg some ?_
      apply List.ext_getElem?
      intro x
      by_cases hx : x < D + 1
      · obtain ⟨v, hv⟩ : ∃ v, (K.getD i [])[x]? = some v := ⟨_, List.getElem?_eq_getElem (by rw [hgl i hi]; exact hx)⟩
        have hv2 := hv
        rw [hg i hi, expRow_get _ _ _ _ _ _ (by rw [hr i hi]; exact hx), Option.some.injEq] at hv2
        have hm : (mrow K co i).getD x 0 = mskE K co i v := by
          unfold mrow
          rw [List.getD_eq_getElem?_getD, List.getElem?_map, hv]; rfl
        have hml : (mrow K co i).length = D + 1 := by rw [mrow_length, hgl i hi]
        have h3 : (linR (plain.getD i []) rho (mrow K co i))[x]? = some ((plain.getD i []).getD x 0 + rho * mskE K co i v) := by
          rw [← hm]
          simp [linR, hml, hx]
        have h4 : (rs.getD i [])[x]? = some ((rs.getD i []).getD x 0) := by
          have : (rs.getD i [])[x]? = some ((rs.getD i [])[x]'(by rw [hr i hi]; exact hx)) := List.getElem?_eq_getElem (by rw [hr i hi]; exact hx)
          conv => rhs; rw [List.getD_eq_getElem?_getD (l := rs.getD i [])]
          rw [this]; rfl
        rw [h3, h4]
        refine congrArg some ?_
        rw [mskE_eq K co i (by rw [hkl]; exact hi), hkl, hbs _ (by omega), ← hv2, hq i hi, E.zero_mul, E.add_zero]
        have hpq := xp_pair (n - 1 - i)
        have hir : rho * einv rho = 1 := by rw [E.mul_comm]; exact einv_mul _ hrho
        generalize xp e2 (n - 1 - i) = P at *
        generalize xp hlf (n - 1 - i) = Q at *
        generalize evK K co i = e
        generalize (rs.getD i []).getD x 0 = s
        generalize (plain.getD i []).getD x 0 = t
        generalize einv rho = r at *
        rw [show e + (r * (s - t) * Q - e) = r * (s - t) * Q by generalize r * (s - t) * Q = z; apply E.ext_ <;> simp only [add_a, add_b, sub_a, sub_b] <;> grind]
        rw [E.mul_assoc (r * (s - t)), E.mul_comm Q, hpq, E.mul_one, ← E.mul_assoc, hir, E.one_mul]
        apply E.ext_ <;> simp only [add_a, add_b, sub_a, sub_b] <;> grind
      · rw [List.getElem?_eq_none (by rw [linR_length, mrow_length, hgl i hi]; omega), List.getElem?_eq_none (by rw [hr i hi]; omega)]
    · rw [List.getElem?_eq_none (by rw [prvM_length, hkl]; omega), List.getElem?_eq_none (by omega)]
  rw [← hK]
  refine ⟨by rw [hex, hK], hkl, fun i g h => ?_, hrr⟩
  have hi : i < n := by have := (List.getElem?_eq_some_iff.1 h).1; omega
  have := hgl i hi
  rwa [List.getD_eq_getElem?_getD, h] at this
end
/-- Explain for consistent rounds, and the rounds of what it finds. -/
theorem exp_hide (tabs : List (List E)) (ps : List Trm) (rs : List (List E)) (rho : E) (co : List E) (h : AllLen tabs (2 ^ co.length)) (h0 : 0 < tabs.length) (h3 : degE ps ≤ 3)
    (hrl : rs.length = co.length) (hr : ∀ (i : Nat) (g : List E), rs[i]? = some g → g.length = degE ps + 1) (hs : sumOk rs co = true) (hrho : rho ≠ 0) :
    ∃ K : List (List E), explE (prvR tabs ps co) rs rho co co.length (degE ps) = (K, 0) ∧ K.length = co.length ∧ (∀ (i : Nat) (g : List E), K[i]? = some g → g.length = degE ps + 1) ∧ prvM (prvR tabs ps co) K rho co = rs := by
  obtain ⟨c, q1, q2, q3⟩ := prvR_facts ps h3 co tabs h h0
  have hpl := prvR_length ps co tabs
  refine ⟨_, exp_inv (c := c) (degE_pos ps) h3 hpl (fun i hi => ?_) hrl (fun i hi => ?_) hs hrho⟩
  · have h1 : (prvR tabs ps co)[i]? = some ((prvR tabs ps co)[i]'(by omega)) := List.getElem?_eq_getElem (by omega)
    have h2 : co[i]? = some co[i] := List.getElem?_eq_getElem hi
    have := q3 i _ _ h1 h2
    rw [show (prvR tabs ps co).getD i [] = (prvR tabs ps co)[i]'(by omega) by rw [List.getD_eq_getElem?_getD, h1]; rfl, show co.getD i 0 = co[i] by rw [List.getD_eq_getElem?_getD, h2]; rfl]
    exact this
  · have h1 : rs[i]? = some (rs[i]'(by omega)) := List.getElem?_eq_getElem (by omega)
    rw [show rs.getD i [] = rs[i]'(by omega) by rw [List.getD_eq_getElem?_getD, h1]; rfl]
    exact hr i _ h1
theorem sim_sumOk (v : E) (co L : List E) (D : Nat) (fin : E) (hD : 1 ≤ D) (hl : (simE v co L D fin).length = co.length) : (∀ (i : Nat) (g : List E), (simE v co L D fin)[i]? = some g → g.length = D + 1) ∧ sumOk (simE v co L D fin) co = true := by
  by_cases h0 : (simE v co L D fin).length = 0
  · have e := List.eq_nil_of_length_eq_zero h0
    rw [e]
    exact ⟨fun i g h => by simp at h, rfl⟩
  · obtain ⟨h1, h2⟩ := simE_facts v co L D fin hD h0
    refine ⟨fun i g hg => ?_, sumOk_steps _ co h1 (fun i => if i < co.length then simV v co L D i else fin) (fun i g r hg hr => ?_)⟩
    · have hi : i < co.length := by have := (List.getElem?_eq_some_iff.1 hg).1; omega
      exact (h2 i g _ hg (List.getElem?_eq_getElem hi)).1
    · obtain ⟨-, h3, h4, -⟩ := h2 i g r hg hr
      exact ⟨h3, h4⟩
theorem sim_len (v : E) (co L : List E) (D : Nat) (fin : E) (hD : 1 ≤ D) (hl : (simE v co L D fin).length ≠ co.length) : simE v co L D fin = [] := by
  by_cases h0 : (simE v co L D fin).length = 0
  · exact List.eq_nil_of_length_eq_zero h0
  · exact absurd (simE_facts v co L D fin hD h0).1 hl
end Go.Proofs.YtnddfeidggcplaaGreat
