/-
  The batch's soundness in mathematics.
-/
import Derived.Test.YtipaecageimnnaaDoorRj21
import Derived.Test.YtipaecageimnnaaDoorPev
namespace Go.Proofs.YtipaecageimnnaaDoor
open Go.RowKit

theorem cmbE_sub (f g : Clm → E) : ∀ xs : List (E × ClW), cmbE (fun c => f c - g c) xs + cmbE g xs = cmbE f xs
  | [] => E.add_zero _
  | x :: xs => by
    rw [cmbE_cons, cmbE_cons, cmbE_cons, ← cmbE_sub f g xs, E.mul_sub]
    have h1 := E.sub_add_cancel (x.1 * f x.2.1) (x.1 * g x.2.1)
    obtain ⟨u, hu⟩ : ∃ u, u = x.1 * f x.2.1 - x.1 * g x.2.1 := ⟨_, rfl⟩
    rw [← hu] at h1 ⊢
    rw [← h1]
    generalize x.1 * g x.2.1 = b
    generalize cmbE (fun c => f c - g c) xs = c
    generalize cmbE g xs = d
    rw [E.add_assoc, E.add_assoc, ← E.add_assoc c b d, E.add_comm c b, E.add_assoc b c d]
/-- Horner's rule over the claims' errors. -/
theorem cmb_pev (f : Clm → E) (r : E) : ∀ (cs : List ClW) (y : E), cmbE f (pwL r y cs) = y * pev (cs.map fun x => f x.1) r
  | [], y => by
    show (0 : E) = _
    rw [List.map_nil, pev_nil, E.mul_zero]
  | c :: cs, y => by
    rw [pwL, cmbE_cons, cmb_pev f r cs, List.map_cons, pev_cons, E.mul_add, E.mul_assoc]
def errB (T : List E) (cs : List ClW) : List E := cs.map fun x => x.1.v - mev T x.1.p
theorem err_ne (T : List E) (cs : List ClW) (r : E) (hT : ∀ x ∈ cs, T.length = 2 ^ x.1.p.length) (h : pev (errB T cs) r ≠ 0) : valB cs r ≠ totE (tabB T cs r) trmB := by
  intro e
  apply h
  have h1 := cmb_pev (fun c => c.v - mev T c.p) r cs 1
  rw [E.one_mul] at h1
  have h2 := cmbE_sub (fun c => c.v) (fun c => mev T c.p) (pwL r 1 cs)
  rw [totB_val T cs r hT] at e
  unfold valB at e
  rw [e] at h2
  rw [E.sub_of _ _ h2] at h1
  exact h1.symm
/-- Two runs of a sum-check that begin apart and end alike meet at a round where they differ. -/
theorem meet (ps : List Trm) (h3 : degE ps ≤ 3) : ∀ (coins : List E) (gs : List (List E)) (tabs : List (List E)) (v : E), AllLen tabs (2 ^ coins.length) → 0 < tabs.length → gs.length = coins.length → v ≠ totE tabs ps →
    lastS v (stepsL (degE ps) v gs coins) = (finE (valL (prvV tabs coins)) ps, 0) →
    ∃ (i : Nat) (g h : List E) (c : E), gs[i]? = some g ∧ (prvR tabs ps coins)[i]? = some h ∧ coins[i]? = some c ∧ g ≠ h ∧ atE g c = atE h c
  | [], gs, tabs, v, h, h0, hl, hv, he => by
    exfalso
    apply hv
    rw [tot_one tabs ps h h0]
    obtain rfl : gs = [] := List.eq_nil_of_length_eq_zero hl
    exact (Prod.mk.inj he).1
  | c :: cs, [], tabs, v, h, h0, hl, hv, he => by simp at hl
  | c :: cs, g :: gs, tabs, v, h, h0, hl, hv, he => by
    have h' : AllLen tabs (2 * 2 ^ cs.length) := by rw [← Nat.pow_succ']; exact h
    rw [stepsL] at he
    by_cases hg : g.length ≠ degE ps + 1
    · rw [if_pos hg] at he
      exact absurd (Prod.mk.inj he).2 (show (61 : Int) ≠ 0 by decide)
    rw [if_neg hg] at he
    by_cases hs : g.getD 0 0 + g.getD 1 0 ≠ v
    · rw [if_pos hs] at he
      exact absurd (Prod.mk.inj he).2 (show (60 : Int) ≠ 0 by decide)
    rw [if_neg hs] at he
    have hs' : g.getD 0 0 + g.getD 1 0 = v := Decidable.byContradiction hs
    have he' : lastS (atE g c) (stepsL (degE ps) (atE g c) gs cs) = (finE (valL (prvV (bndE tabs c) cs)) ps, 0) := he
    by_cases hm : atE g c = totE (bndE tabs c) ps
    · refine ⟨0, g, rndE tabs ps, c, rfl, rfl, rfl, ?_, ?_⟩
      · rintro rfl
        exact hv (hs'.symm.trans (rnd_sum tabs ps _ h' h0))
      · rw [hm, rnd_at tabs ps _ h' h0 h3 c]
    · obtain ⟨i, g', h'', c', q1, q2, q3, q4, q5⟩ := meet ps h3 cs gs (bndE tabs c) (atE g c) (h'.bnd c) (AllLen.pos h0) (by simpa using hl) hm he'
      exact ⟨i + 1, g', h'', c', by simpa using q1, by simpa [prvR] using q2, by simpa using q3, q4, q5⟩
/-- What Verify hands back, and what an acceptance of false claims says. -/
theorem vfyB_sound (T : List E) (cs : List ClW) (r : E) (coins : List E) (gs : List (List E)) (A : Option Addr) (cap : Nat) (hT : T.length = 2 ^ coins.length) (h : ∀ x ∈ cs, coins.length = x.1.p.length) (hg : gs.length = coins.length) :
    ∃ AX nX cX x1 x2 e0, vfyB cs r gs coins (mev T coins) A cap = .tuple #[.agg #[.slice AX nX cX, .int .u64 x1, .int .u64 x2], .int .i64 e0] ∧
      (e0 = 0 → pev (errB T cs) r ≠ 0 → ∃ (i : Nat) (g h : List E) (c : E), gs[i]? = some g ∧ (prvR (tabB T cs r) trmB coins)[i]? = some h ∧ coins[i]? = some c ∧ g ≠ h ∧ atE g c = atE h c) := by
  have hTx : ∀ x ∈ cs, T.length = 2 ^ x.1.p.length := fun x hx => by rw [hT, h x hx]
  unfold vfyB
  by_cases h1 : (vrfE 2 (valB cs r) gs coins).2 ≠ 0
  · rw [if_pos h1]
    exact ⟨_, _, _, _, _, _, rfl, fun e => absurd e h1⟩
  rw [if_neg h1]
  by_cases h2 : (vrfE 2 (valB cs r) gs coins).1 ≠ mev T coins * wgtC cs r coins
  · rw [if_pos h2]
    exact ⟨_, _, _, _, _, _, rfl, fun e => absurd e (by decide)⟩
  rw [if_neg h2]
  refine ⟨_, _, _, _, _, _, rfl, fun _ hp => ?_⟩
  have hv := err_ne T cs r hTx hp
  have e1 : vrfE 2 (valB cs r) gs coins = (mev T coins * wgtC cs r coins, 0) := Prod.ext (Decidable.byContradiction h2) (Decidable.byContradiction h1)
  rw [← finB T cs r coins hT h] at e1
  unfold vrfE at e1
  rw [if_neg (by rw [hg]; omega)] at e1
  exact meet trmB (by decide) coins gs (tabB T cs r) (valB cs r) (hT ▸ tabB_all T cs r) (Nat.zero_lt_succ _) hg hv e1
end Go.Proofs.YtipaecageimnnaaDoor
