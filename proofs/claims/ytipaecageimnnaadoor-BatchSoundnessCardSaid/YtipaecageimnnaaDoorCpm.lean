/-
  Completeness of the sum-check in plain mathematics.
-/
import Derived.Test.YtipaecageimnnaaDoorVf2
namespace Go.Proofs.YtipaecageimnnaaDoor

theorem AllLen.pos {tabs : List (List E)} {r : E} (h0 : 0 < tabs.length) : 0 < (bndE tabs r).length := by rw [bndE_length]; exact h0
/-- The round polynomial at 0 and 1 adds up. -/
theorem rnd_sum (tabs : List (List E)) (ps : List Trm) (n : Nat) (h : AllLen tabs (2 * n)) (h0 : 0 < tabs.length) : (rndE tabs ps).getD 0 0 + (rndE tabs ps).getD 1 0 = totE tabs ps := by
  have hd := degE_pos ps
  rw [rndE_get tabs ps 0 (by omega), rndE_get tabs ps 1 (by omega), nodeE_zero, nodeE_one]
  exact tot_ends tabs ps n h h0
/-- The final value. -/
theorem tot_one (tabs : List (List E)) (ps : List Trm) (h : AllLen tabs 1) (h0 : 0 < tabs.length) : totE tabs ps = finE (valL (prvV tabs [])) ps := by
  have hl : lenT tabs = 1 := h.lenT h0
  unfold totE
  rw [hl, totK_succ]
  show 0 + finE (valT tabs 0) ps = _
  rw [E.zero_add]
  congr 1
  funext k
  show (tabs.getD k []).getD 0 0 = (tabs.map fun t => t.getD 0 0).getD k 0
  by_cases hk : k < tabs.length
  · simp [List.getD, hk]
  · simp [List.getD, hk]
theorem steps_tot (ps : List Trm) (h3 : degE ps ≤ 3) : ∀ (coins : List E) (tabs : List (List E)), AllLen tabs (2 ^ coins.length) → 0 < tabs.length →
    ∃ xs : List (E × Int), stepsL (degE ps) (totE tabs ps) (prvR tabs ps coins) coins = xs ∧ lastS (totE tabs ps) xs = (finE (valL (prvV tabs coins)) ps, 0)
  | [], tabs, h, h0 => ⟨[], rfl, by
    show (totE tabs ps, (0 : Int)) = _
    rw [tot_one tabs ps h h0]⟩
  | c :: cs, tabs, h, h0 => by
    have h' : AllLen tabs (2 * 2 ^ cs.length) := by rw [← Nat.pow_succ']; exact h
    obtain ⟨xs, h1, h2⟩ := steps_tot ps h3 cs (bndE tabs c) (h'.bnd c) (AllLen.pos h0)
    refine ⟨(totE (bndE tabs c) ps, 0) :: xs, ?_, ?_⟩
    · show stepsL (degE ps) (totE tabs ps) (rndE tabs ps :: prvR (bndE tabs c) ps cs) (c :: cs) = _
      rw [stepsL, rndE_length, if_neg (fun h => h rfl), if_neg (fun h => h (rnd_sum tabs ps _ h' h0)), rnd_at tabs ps _ h' h0 h3 c, h1]
    · exact h2
/-- Completeness. -/
theorem vrf_complete (tabs : List (List E)) (ps : List Trm) (coins : List E) (h : AllLen tabs (2 ^ coins.length)) (h0 : 0 < tabs.length) (h3 : degE ps ≤ 3) :
    vrfE (degE ps : Int) (totE tabs ps) (prvR tabs ps coins) coins = (finE (valL (prvV tabs coins)) ps, 0) := by
  have hd := degE_pos ps
  obtain ⟨xs, h1, h2⟩ := steps_tot ps h3 coins tabs h h0
  unfold vrfE
  rw [if_neg (by rw [prvR_length]; omega), Int.toNat_natCast, h1, h2]
theorem headD_getD (l : List E) : l.headD 0 = l.getD 0 0 := by cases l <;> rfl
theorem bndAll_map : ∀ (coins : List E) (tabs : List (List E)), bndAll tabs coins = tabs.map fun t => evalL t coins
  | [], tabs => by show tabs = tabs.map fun t => t; simp
  | c :: cs, tabs => by
    show bndAll (bndE tabs c) cs = _
    rw [bndAll_map cs, bndE, List.map_map]
    rfl
/-- The remaining values are the multilinear extensions at the coins. -/
theorem prvV_mev (tabs : List (List E)) (coins : List E) : prvV tabs coins = tabs.map fun t => mev t coins := by
  unfold prvV mev
  rw [bndAll_map, List.map_map]
  apply List.map_congr_left
  intro t _
  exact (headD_getD _).symm
theorem E.sub_of (a b : E) (h : a + b = b) : a = 0 := by
  have := E.cancel
  apply E.ext_
  · have := congrArg E.a h; simp only [add_a, zero_a] at *; grind
  · have := congrArg E.b h; simp only [add_b, zero_b] at *; grind
/-- A wrong claim. -/
theorem vrf_wrong (tabs : List (List E)) (ps : List Trm) (c : E) (cs : List E) (v : E) (h : AllLen tabs (2 ^ (c :: cs).length)) (h0 : 0 < tabs.length) (h3 : degE ps ≤ 3) (hv : v ≠ totE tabs ps) :
    vrfE (degE ps : Int) v (prvR tabs ps (c :: cs)) (c :: cs) = (0, 60) := by
  have hd := degE_pos ps
  have h' : AllLen tabs (2 * 2 ^ cs.length) := by rw [← Nat.pow_succ']; exact h
  unfold vrfE
  rw [if_neg (by rw [prvR_length]; omega), Int.toNat_natCast]
  show lastS v (stepsL (degE ps) v (rndE tabs ps :: prvR (bndE tabs c) ps cs) (c :: cs)) = _
  rw [stepsL, rndE_length, if_neg (fun h => h rfl), if_pos (by rw [rnd_sum tabs ps _ h' h0]; exact fun e => hv e.symm)]
  rfl
end Go.Proofs.YtipaecageimnnaaDoor
