/-
  The batch in mathematics: its second table is the combined weight, its total the combined value of true claims.
-/
import Derived.Test.YtipaecageimnnaaDoorBa4
import Derived.Test.YtipaecageimnnaaDoorMl3
import Derived.Test.YtipaecageimnnaaDoorCpm
namespace Go.Proofs.YtipaecageimnnaaDoor
open Go.RowKit

theorem esum_swap {α β : Type} (f : α → β → E) (m : List β) : ∀ l : List α, esum (l.map fun x => esum (m.map fun y => f x y)) = esum (m.map fun y => esum (l.map fun x => f x y))
  | [] => by
    rw [List.map_nil, esum_nil]
    exact (esum_map_zero _ m fun y _ => rfl).symm
  | x :: l => by
    rw [List.map_cons, esum_cons, esum_swap f m l]
    have := esum_add (fun y => f x y) (fun y => esum (l.map fun x => f x y)) m
    rw [← this]
    rfl
theorem esum_mulr {α : Type} (c : E) (f : α → E) (l : List α) : esum (l.map fun x => f x * c) = esum (l.map f) * c := by
  rw [E.mul_comm, ← esum_mul]
  exact esum_congr _ _ _ fun x _ => E.mul_comm _ _
theorem accB_get (n : Nat) (xs : List (E × ClW)) (i : Nat) (h : i < n) : (accB n xs).getD i 0 = cmbE (fun c => eqi i c.p) xs := by simp [accB, List.getD, h]
/-- Sums with the batch's weights. -/
theorem accB_dot (n : Nat) (xs : List (E × ClW)) (g : Nat → E) : esum ((List.range n).map fun i => (accB n xs).getD i 0 * g i) = cmbE (fun c => esum ((List.range n).map fun i => eqi i c.p * g i)) xs := by
  have h1 : esum ((List.range n).map fun i => (accB n xs).getD i 0 * g i) = esum ((List.range n).map fun i => esum (xs.map fun x => x.1 * (eqi i x.2.1.p * g i))) := by
    refine esum_congr _ _ _ fun i hi => ?_
    rw [accB_get n xs i (List.mem_range.1 hi)]
    unfold cmbE
    rw [← esum_mulr]
    exact esum_congr _ _ _ fun x _ => E.mul_assoc _ _ _
  rw [h1, esum_swap]
  unfold cmbE
  refine esum_congr _ _ _ fun x _ => ?_
  exact esum_mul x.1 (fun i => eqi i x.2.1.p * g i) (List.range n)
theorem cmbE_congr (f g : Clm → E) (xs : List (E × ClW)) (h : ∀ x ∈ xs, f x.2.1 = g x.2.1) : cmbE f xs = cmbE g xs := by
  unfold cmbE
  exact esum_congr _ _ _ fun x hx => by rw [h x hx]
/-- The second table's extension is the combined weight. -/
theorem accB_mev (cs : List ClW) (r : E) (p : List E) (h : ∀ x ∈ cs, p.length = x.1.p.length) : mev (accB (2 ^ p.length) (pwL r 1 cs)) p = wgtC cs r p := by
  rw [mev_sum _ p (accB_len _ _), accB_dot _ _ (fun i => eqi i p)]
  unfold wgtC
  refine cmbE_congr _ _ _ fun x hx => ?_
  have hl := h x.2 (pwL_mem r _ _ x hx)
  rw [pfac_sum _ _ hl, hl]
theorem totB (T a : List E) (h : a.length = T.length) : totE [T, a] trmB = esum ((List.range T.length).map fun i => a.getD i 0 * T.getD i 0) := by
  unfold totE totK
  show esum ((List.range T.length).map _) = _
  refine esum_congr _ _ _ fun i _ => ?_
  simp [finE, trmB, trmE, trmK, valT, esum, E.add_zero, E.one_mul]
  exact E.mul_comm _ _
/-- The total is the combined value of true claims. -/
theorem totB_val (T : List E) (cs : List ClW) (r : E) (h : ∀ x ∈ cs, T.length = 2 ^ x.1.p.length) : totE (tabB T cs r) trmB = cmbE (fun c => mev T c.p) (pwL r 1 cs) := by
  unfold tabB
  rw [totB T _ (accB_len _ _), accB_dot _ _ (fun i => T.getD i 0)]
  refine cmbE_congr _ _ _ fun x hx => ?_
  have hl := h x.2 (pwL_mem r _ _ x hx)
  rw [hl]
  exact mev_weights T _ hl
theorem finB (T : List E) (cs : List ClW) (r : E) (coins : List E) (hT : T.length = 2 ^ coins.length) (h : ∀ x ∈ cs, coins.length = x.1.p.length) : finE (valL (prvV (tabB T cs r) coins)) trmB = mev T coins * wgtC cs r coins := by
  rw [prvV_mev]
  unfold tabB
  rw [hT]
  simp [finE, trmB, trmE, trmK, valL, esum, E.add_zero, E.one_mul]
  rw [accB_mev cs r coins h]
/-- Completeness: true claims are accepted. -/
theorem vfyB_complete (T : List E) (cs : List ClW) (r : E) (coins : List E) (A : Option Addr) (cap : Nat) (hT : T.length = 2 ^ coins.length) (h : ∀ x ∈ cs, coins.length = x.1.p.length) (ht : ∀ x ∈ cs, x.1.v = mev T x.1.p) :
    vfyB cs r (prvR (tabB T cs r) trmB coins) coins (mev T coins) A cap = .tuple #[clV (⟨coins, mev T coins⟩, (A, cap)), .int .i64 0] := by
  have h1 : totE (tabB T cs r) trmB = valB cs r := by
    rw [totB_val T cs r fun x hx => by rw [hT, h x hx]]
    exact cmbE_congr _ _ _ fun x hx => (ht x.2 (pwL_mem r _ _ x hx)).symm
  have h2 := vrf_complete (tabB T cs r) trmB coins (hT ▸ tabB_all T cs r) (Nat.zero_lt_succ _) (by decide)
  rw [h1, finB T cs r coins hT h] at h2
  have h3 : vrfE 2 (valB cs r) (prvR (tabB T cs r) trmB coins) coins = (mev T coins * wgtC cs r coins, 0) := h2
  unfold vfyB
  simp [h3]
end Go.Proofs.YtipaecageimnnaaDoor
