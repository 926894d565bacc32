/-
  Slices cut from an index on.
-/
import Derived.Test.YtilelegcniefcaaGt
namespace Go.Proofs.Ytilelegcniefcaa
open Go.RowKit

theorem elem_ext : Try.prog.elem 22 = 43 := by kernel_rfl
/-- A slice of elements, cut from index k on: what it is, and that it reads as the rest of the list. -/
theorem cut_ext (A : Option Addr) (n cap k : Nat) (hk : k ≤ n) : ∃ A' cap', (∀ w, (Instr.sliceAt 22 (.slice A n cap) (some (.int .i64 (k : Int))) none none).run Try.prog w = .ok (.slice A' (n - k) cap') w) ∧
    ∀ lo hi w xs, ExtS lo hi w (.slice A n cap) xs → ExtS lo hi w (.slice A' (n - k) cap') (xs.drop k) := by
  have ht : Try.prog.underlying 22 = some (.slice (Try.prog.elem 22)) := by rw [elem_ext]; exact Try.underlying22
  refine ⟨if cap = k then A else A.map (·.add (k * 2)), cap - k, fun w => ?_, fun lo hi w xs h => ?_⟩
  · rw [run_sliceAt_slice w _ _ _ _ _ ht, run_slice_l w _ A n cap ht .i64 (k : Int) (by omega) (by omega), elem_ext, Try.sizeOf43]
    simp [Result.andThen, sliced]
  · obtain ⟨h1, h2, A0, cap0, h3, h4, h5⟩ := h
    cases h3
    have hl : (xs.drop k).length = xs.length - k := List.length_drop ..
    refine ⟨flat_length ec_len _, by omega, _, _, by rw [hl], by omega, fun h0 => ?_⟩
    obtain ⟨g, off, rfl, q2, q3, q4, q5⟩ := h5 (by omega)
    refine ⟨g, off + k * 2, ?_, q2, q3, q4, fun j u hj => ?_⟩
    · rw [if_neg (by omega)]
      simp only [Option.map_some, Option.some.injEq]
      unfold Addr.add
      by_cases hk0 : k = 0
      · subst hk0; simp
      · rw [if_neg (by omega)]
    · rw [Nat.add_assoc]
      refine q5 (k * 2 + j) u ?_
      have e : xs.flatMap ec = (xs.take k).flatMap ec ++ (xs.drop k).flatMap ec := by rw [← List.flatMap_append, List.take_append_drop]
      have hlt : ((xs.take k).flatMap ec).length = k * 2 := by rw [flat_length ec_len, List.length_take, Nat.min_eq_left (by omega)]
      rw [e, List.getElem?_append_right (by omega), hlt, Nat.add_sub_cancel_left]
      exact hj
theorem step_cut {P : Program} {o : Oper} {a : Act} {w : World} {t : TypeId} {x lo : Operand} {v k u : Value} (ho : o.op = .slice t x (some lo) none none) (hx : a.eval x = v) (hlo : a.eval lo = k) (h : ∀ w, (Instr.sliceAt t v (some k) none none).run P w = .ok u w) :
    stepAt P o a w (fun v w' => v = u ∧ Below w.heap.size w w') := by
  unfold stepAt
  have e : (execOp a.eval o).run P w = .ok (.value u) w := by
    unfold execOp
    rw [ho]
    simp only [Sem.run_bind, Option.map_some, Option.map_none, hx, hlo, h w, Result.andThen, Sem.run_pure]
  rw [e]
  exact ⟨rfl, Below.refl _ _⟩
end Go.Proofs.Ytilelegcniefcaa
