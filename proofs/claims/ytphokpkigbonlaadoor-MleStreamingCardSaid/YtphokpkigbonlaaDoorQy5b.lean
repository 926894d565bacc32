/-
  A query and the changes of a statement of chapter 05 as the reading of the arguments gives it.
-/
import Derived.Test.YtphokpkigbonlaaDoorQy5
import Derived.Test.YtphokpkigbonlaaDoorChg
namespace Go.Proofs.YtphokpkigbonlaaDoor
open Go.ChangeShapes Go.WideShapes Go.RowKit

theorem okd_change {W : World} {n : Nat} {cs : List Value} (h : Okd Tryd.prog W n 53 cs) : ∃ x : Chg, x.Ok ∧ cs = cgc x := by
  obtain ⟨h1, m, h2⟩ := okd_struct Tryd.underlying53 h
  have c1 : Tryd.prog.cellsOf 53 = 3 := by kernel_rfl
  have c2 : Tryd.prog.cellsOf 5 = 1 := by kernel_rfl
  have c3 : Tryd.prog.cellsOf 27 = 2 := by kernel_rfl
  rw [c1] at h1
  obtain ⟨a, b, c, rfl⟩ : ∃ a b c, cs = [a, b, c] := by
    match cs, h1 with
    | [a, b, c], _ => exact ⟨a, b, c, rfl⟩
  obtain ⟨k0, k1, -⟩ := h2
  simp only [c2, c3, List.drop_zero, List.take_succ_cons, List.take_zero, List.drop_succ_cons] at k0 k1
  obtain ⟨x, e1, e2⟩ := okd_int Tryd.underlying5 k0
  obtain ⟨d, e3, e4⟩ := okd_raw k1
  obtain ⟨x0, x1⟩ := wf_u8 e2
  obtain ⟨x, rfl⟩ := Int.eq_ofNat_of_zero_le x0
  simp only [rc, List.cons.injEq, and_true] at e1 e4
  obtain ⟨e4, e5⟩ := e4
  subst e1; subst e4; subst e5
  exact ⟨⟨x, d⟩, ⟨show x < 256 by omega, e3⟩, rfl⟩
theorem okd_changes {W : World} {n : Nat} {cs : List Value} (h : Okd Tryd.prog W n 51 cs) : ∃ v, cs = [v] ∧ ∃ xs : List Chg, ChgS 0 W.heap.size W v xs :=
  okd_slice cgc _ (by decide) cgc_len Tryd.underlying51 (by kernel_rfl) (Nat.le_of_ble_eq_true (by kernel_rfl)) (fun n cs h => okd_change h) h
end Go.Proofs.YtphokpkigbonlaaDoor
