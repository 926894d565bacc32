/-
  A batch with one false claim, or with a wrong value, in mathematics.
-/
import Derived.Test.YtipaecageimnnaaDoorQ21
import Derived.Test.YtipaecageimnnaaDoorMl3
namespace Go.Proofs.YtipaecageimnnaaDoor
open Go.RowKit

theorem esum_cons1 (x : E) (l : List E) : esum (x :: l) = x + esum l := esum_cons x l
theorem cmbE_cons (val : Clm → E) (x : E × ClW) (xs : List (E × ClW)) : cmbE val (x :: xs) = x.1 * val x.2.1 + cmbE val xs := by
  unfold cmbE
  rw [List.map_cons, esum_cons]
theorem cmb_set_same (f : Clm → E) (r : E) (x' : ClW) : ∀ (cs : List ClW) (y : E) (k : Nat) (x : ClW), cs[k]? = some x → f x'.1 = f x.1 → cmbE f (pwL r y (cs.set k x')) = cmbE f (pwL r y cs)
  | c :: cs, y, 0, x, h, he => by
    simp only [List.getElem?_cons_zero, Option.some.injEq] at h
    subst h
    simp only [List.set_cons_zero, pwL, cmbE_cons, he]
  | c :: cs, y, k + 1, x, h, he => by
    simp only [List.getElem?_cons_succ] at h
    simp only [List.set_cons_succ, pwL, cmbE_cons, cmb_set_same f r x' cs (y * r) k x h he]
theorem cmb_set_add (r d : E) (hr : r ≠ 0) : ∀ (cs : List ClW) (y : E) (k : Nat) (x : ClW), y ≠ 0 → cs[k]? = some x →
    ∃ m, m ≠ 0 ∧ cmbE (fun c => c.v) (pwL r y (cs.set k (⟨x.1.p, x.1.v + d⟩, x.2))) = cmbE (fun c => c.v) (pwL r y cs) + m * d
  | c :: cs, y, 0, x, hy, h => by
    simp only [List.getElem?_cons_zero, Option.some.injEq] at h
    subst h
    refine ⟨y, hy, ?_⟩
    simp only [List.set_cons_zero, pwL, cmbE_cons]
    rw [E.mul_add]
    rw [E.add_assoc, E.add_assoc, E.add_comm (y * d)]
  | c :: cs, y, k + 1, x, hy, h => by
    simp only [List.getElem?_cons_succ] at h
    obtain ⟨m, hm, he⟩ := cmb_set_add r d hr cs (y * r) k x (E.mul_ne _ _ hy hr) h
    refine ⟨m, hm, ?_⟩
    simp only [List.set_cons_succ, pwL, cmbE_cons]
    rw [he, E.add_assoc]
/-- A wrong value: accepted only where it makes no difference. -/
theorem vfyB_value (T : List E) (cs : List ClW) (r d : E) (coins : List E) (A : Option Addr) (cap : Nat) (hT : T.length = 2 ^ coins.length) (h : ∀ x ∈ cs, coins.length = x.1.p.length) (ht : ∀ x ∈ cs, x.1.v = mev T x.1.p) :
    vfyB cs r (prvR (tabB T cs r) trmB coins) coins (mev T coins + d) A cap = if d * wgtC cs r coins = 0 then .tuple #[clV (⟨coins, mev T coins + d⟩, (A, cap)), .int .i64 0] else .tuple #[clm0, .int .i64 111] := by
  have h1 : totE (tabB T cs r) trmB = valB cs r := by
    rw [totB_val T cs r fun x hx => by rw [hT, h x hx]]
    exact cmbE_congr _ _ _ fun x hx => (ht x.2 (pwL_mem r _ _ x hx)).symm
  have h2 := vrf_complete (tabB T cs r) trmB coins (hT ▸ tabB_all T cs r) (Nat.zero_lt_succ _) (by decide)
  rw [h1, finB T cs r coins hT h] at h2
  have h3 : vrfE 2 (valB cs r) (prvR (tabB T cs r) trmB coins) coins = (mev T coins * wgtC cs r coins, 0) := h2
  have h4 : (mev T coins + d) * wgtC cs r coins = d * wgtC cs r coins + mev T coins * wgtC cs r coins := by rw [E.add_mul, E.add_comm]
  unfold vfyB
  rw [h3, h4, if_neg (by simp)]
  by_cases hz : d * wgtC cs r coins = 0
  · rw [hz, E.zero_add, if_neg (by simp), if_pos rfl]
  · rw [if_pos (fun e => hz (E.sub_of _ _ e.symm)), if_neg hz]
/-- One false claim: rejected. -/
theorem vfyB_false (T : List E) (cs : List ClW) (r d : E) (coins : List E) (A : Option Addr) (cap : Nat) (hT : T.length = 2 ^ coins.length) (h : ∀ x ∈ cs, coins.length = x.1.p.length) (ht : ∀ x ∈ cs, x.1.v = mev T x.1.p)
    (k : Nat) (x : ClW) (hx : cs[k]? = some x) (hr : r ≠ 0) (hd : d ≠ 0) :
    ∃ err : Int, err ≠ 0 ∧ vfyB (cs.set k (⟨x.1.p, x.1.v + d⟩, x.2)) r (prvR (tabB T cs r) trmB coins) coins (mev T coins) A cap = .tuple #[clm0, .int .i64 err] := by
  have h1 : totE (tabB T cs r) trmB = valB cs r := by
    rw [totB_val T cs r fun x hx => by rw [hT, h x hx]]
    exact cmbE_congr _ _ _ fun x hx => (ht x.2 (pwL_mem r _ _ x hx)).symm
  obtain ⟨m, hm, he⟩ := cmb_set_add r d hr cs 1 k x (by decide +kernel) hx
  have hv : valB (cs.set k (⟨x.1.p, x.1.v + d⟩, x.2)) r ≠ totE (tabB T cs r) trmB := by
    rw [h1]
    unfold valB
    rw [he]
    intro e
    rw [E.add_comm] at e
    exact E.mul_ne m d hm hd (E.sub_of _ _ e)
  have hw : wgtC (cs.set k (⟨x.1.p, x.1.v + d⟩, x.2)) r coins = wgtC cs r coins := cmb_set_same _ r _ cs 1 k x hx rfl
  have hall : AllLen (tabB T cs r) (2 ^ coins.length) := hT ▸ tabB_all T cs r
  unfold vfyB
  cases hc : coins with
  | nil =>
    subst hc
    have h2 := vrf_complete (tabB T cs r) trmB [] hall (Nat.zero_lt_succ _) (by decide)
    rw [finB T cs r [] hT h] at h2
    have h4 : totE (tabB T cs r) trmB = mev T [] * wgtC cs r [] := (Prod.mk.inj h2).1
    refine ⟨111, by decide, ?_⟩
    rw [show vrfE 2 (valB (cs.set k (⟨x.1.p, x.1.v + d⟩, x.2)) r) (prvR (tabB T cs r) trmB []) [] = (valB (cs.set k (⟨x.1.p, x.1.v + d⟩, x.2)) r, 0) from rfl, hw, ← h4, if_neg (by simp), if_pos hv]
  | cons c cs' =>
    subst hc
    have h2 : vrfE 2 (valB (cs.set k (⟨x.1.p, x.1.v + d⟩, x.2)) r) (prvR (tabB T cs r) trmB (c :: cs')) (c :: cs') = (0, 60) := vrf_wrong (tabB T cs r) trmB c cs' _ hall (Nat.zero_lt_succ _) (by decide) hv
    refine ⟨60, by decide, ?_⟩
    rw [h2, if_pos (by simp)]
end Go.Proofs.YtipaecageimnnaaDoor
