/-
  A forged last round, in plain mathematics.
-/
import Derived.Test.YtilelegcniefcaaCpm
namespace Go.Proofs.Ytilelegcniefcaa

theorem prvR_len (ps : List Trm) : ∀ (cs : List E) (tabs : List (List E)), (prvR tabs ps cs).length = cs.length
  | [], _ => rfl
  | c :: cs, tabs => by show (prvR (bndE tabs c) ps cs).length + 1 = _; rw [prvR_len ps cs]; rfl
/-- The sum ahead of the last round. -/
def lastT (tabs : List (List E)) (coins : List E) : List (List E) := bndAll tabs coins.dropLast
theorem lastT_cons (tabs : List (List E)) (c d : E) (cs : List E) : lastT tabs (c :: d :: cs) = lastT (bndE tabs c) (d :: cs) := rfl
theorem prvR_last (ps : List Trm) : ∀ (cs : List E) (tabs : List (List E)), cs ≠ [] → prvR tabs ps cs = prvR tabs ps cs.dropLast ++ [rndE (lastT tabs cs) ps]
  | [], _, h => absurd rfl h
  | [c], tabs, _ => rfl
  | c :: d :: cs, tabs, _ => by
    show rndE tabs ps :: prvR (bndE tabs c) ps (d :: cs) = rndE tabs ps :: (prvR (bndE tabs c) ps (d :: cs).dropLast) ++ _
    rw [prvR_last ps (d :: cs) (bndE tabs c) (by simp)]
    rfl
/-- What Verify answers to the honest rounds but the last. -/
theorem steps_forged (ps : List Trm) (h3 : degE ps ≤ 3) (g : List E) (hg : g.length = degE ps + 1) : ∀ (coins : List E) (tabs : List (List E)), coins ≠ [] → AllLen tabs (2 ^ coins.length) → 0 < tabs.length →
    lastS (totE tabs ps) (stepsL (degE ps) (totE tabs ps) (prvR tabs ps coins.dropLast ++ [g]) coins) = if g.getD 0 0 + g.getD 1 0 ≠ totE (lastT tabs coins) ps then (0, 60) else (atE g (coins.getLastD 0), 0)
  | [], _, h, _, _ => absurd rfl h
  | [c], tabs, _, _, _ => by
    show lastS (totE tabs ps) (stepsL (degE ps) (totE tabs ps) [g] [c]) = _
    rw [stepsL, hg, if_neg (fun h => h rfl)]
    show lastS (totE tabs ps) (if _ then _ else _) = if g.getD 0 0 + g.getD 1 0 ≠ totE tabs ps then _ else _
    by_cases hs : g.getD 0 0 + g.getD 1 0 ≠ totE tabs ps
    · rw [if_pos hs, if_pos hs]; rfl
    · rw [if_neg hs, if_neg hs]; rfl
  | c :: d :: cs, tabs, _, h, h0 => by
    have h' : AllLen tabs (2 * 2 ^ (d :: cs).length) := by rw [← Nat.pow_succ']; exact h
    have ih := steps_forged ps h3 g hg (d :: cs) (bndE tabs c) (by simp) (h'.bnd c) (AllLen.pos h0)
    show lastS (totE tabs ps) (stepsL (degE ps) (totE tabs ps) (rndE tabs ps :: (prvR (bndE tabs c) ps (d :: cs).dropLast ++ [g])) (c :: d :: cs)) = _
    rw [stepsL, rndE_length, if_neg (fun h => h rfl), if_neg (fun h => h (rnd_sum tabs ps _ h' h0)), rnd_at tabs ps _ h' h0 h3 c]
    have key : ∀ xs : List (E × Int), lastS (totE tabs ps) ((totE (bndE tabs c) ps, 0) :: xs) = lastS (totE (bndE tabs c) ps) xs := fun xs => rfl
    rw [key, ih]
    rfl
theorem vrf_forged (tabs : List (List E)) (ps : List Trm) (coins : List E) (g : List E) (hg : g.length = degE ps + 1) (hc : coins ≠ []) (h : AllLen tabs (2 ^ coins.length)) (h0 : 0 < tabs.length) (h3 : degE ps ≤ 3) :
    vrfE (degE ps : Int) (totE tabs ps) (prvR tabs ps coins.dropLast ++ [g]) coins = if g.getD 0 0 + g.getD 1 0 ≠ totE (lastT tabs coins) ps then (0, 60) else (atE g (coins.getLastD 0), 0) := by
  have hd := degE_pos ps
  have hl : coins.length ≠ 0 := fun e => hc (List.length_eq_zero_iff.1 e)
  unfold vrfE
  rw [if_neg (by rw [List.length_append, prvR_len, List.length_dropLast]; simp only [List.length_cons, List.length_nil]; omega), Int.toNat_natCast]
  exact steps_forged ps h3 g hg coins tabs hc h h0
theorem lastT_all (tabs : List (List E)) (coins : List E) (hc : coins ≠ []) (h : AllLen tabs (2 ^ coins.length)) : AllLen (lastT tabs coins) (2 * 1) := by
  have hl : coins.length ≠ 0 := fun e => hc (List.length_eq_zero_iff.1 e)
  have := bndAll_len coins.length coins.dropLast tabs (by rw [List.length_dropLast]; omega) h
  rw [List.length_dropLast, show coins.length - (coins.length - 1) = 1 by omega] at this
  exact this
/-- The honest last round: its sum, and its value at the coin. -/
theorem last_sum (tabs : List (List E)) (ps : List Trm) (coins : List E) (hc : coins ≠ []) (h : AllLen tabs (2 ^ coins.length)) (h0 : 0 < tabs.length) :
    (rndE (lastT tabs coins) ps).getD 0 0 + (rndE (lastT tabs coins) ps).getD 1 0 = totE (lastT tabs coins) ps :=
  rnd_sum _ ps 1 (lastT_all tabs coins hc h) (by unfold lastT; rw [bndAll_length]; exact h0)
theorem last_at (tabs : List (List E)) (ps : List Trm) (coins : List E) (hc : coins ≠ []) (h : AllLen tabs (2 ^ coins.length)) (h0 : 0 < tabs.length) (h3 : degE ps ≤ 3) :
    atE (rndE (lastT tabs coins) ps) (coins.getLastD 0) = finE (valL (prvV tabs coins)) ps := by
  have h1 := lastT_all tabs coins hc h
  have hl0 : 0 < (lastT tabs coins).length := by unfold lastT; rw [bndAll_length]; exact h0
  rw [rnd_at _ ps 1 h1 hl0 h3, tot_one _ ps (h1.bnd _) (by rw [bndE_length]; exact hl0)]
  congr 2
  unfold prvV
  congr 1
  show bndE (bndAll tabs coins.dropLast) (coins.getLastD 0) = bndAll tabs coins
  have e : coins = coins.dropLast ++ [coins.getLastD 0] := by
    rw [List.getLastD_eq_getLast?, List.getLast?_eq_some_getLast hc]
    exact (List.dropLast_concat_getLast hc).symm
  conv => rhs; rw [e]
  unfold bndAll
  rw [List.foldl_append]
  rfl
end Go.Proofs.Ytilelegcniefcaa
