/-
  The arguments of MeterMatchesReference as the reading of the arguments gives them.
-/
import Derived.Test.YtoiampgfnidfdaaGreatDoorVsm26
import Derived.Test.YtoiampgfnidfdaaGreatDoorLMmr
set_option maxRecDepth 100000
set_option maxHeartbeats 8000000
namespace Go.Proofs.YtoiampgfnidfdaaGreatDoor
open Go.RowKit
section
open Go.ChangeShapes Go.WideShapes Go.RowKit

theorem J61 {x : Int} (h : Num x) : I64 x := ⟨h.1, by have := h.2; omega⟩
theorem Jin {W : World} {n : Nat} {cs : List Value} (h : Okd Tryz.prog W n 28 cs) : ∃ r : Rdg, RdgIn r ∧ cs = rdc r := by
 obtain ⟨h1, m, h2⟩ := J7f Tryz.underlying28 h
 have c1 : Tryz.prog.cellsOf 28 = 4 := by kernel_rfl
 have c3 : Tryz.prog.cellsOf 3 = 1 := by kernel_rfl
 rw [c1] at h1
 obtain ⟨a, b, c, d, rfl⟩ : ∃ a b c d, cs = [a, b, c, d] := by
  match cs, h1 with
  | [a, b, c, d], _ => exact ⟨a, b, c, d, rfl⟩
 obtain ⟨k0, k1, k2, k3, -⟩ := h2
 simp only [c3, List.drop_zero, List.take_succ_cons, List.take_zero, List.drop_succ_cons] at k0 k1 k2 k3
 obtain ⟨x0, e0, o0⟩ := J4w Tryz.underlying3 k0
 obtain ⟨x1, e1, o1⟩ := J4w Tryz.underlying3 k1
 obtain ⟨x2, e2, o2⟩ := J4w Tryz.underlying3 k2
 obtain ⟨x3, e3, o3⟩ := J4w Tryz.underlying3 k3
 simp only [List.cons.injEq, and_true] at e0 e1 e2 e3
 subst e0; subst e1; subst e2; subst e3
 exact ⟨⟨x0, x1, x2, x3⟩, ⟨J61 (wf_i64 o0), J61 (wf_i64 o1), J61 (wf_i64 o2), J61 (wf_i64 o3)⟩, rfl⟩
theorem Jhh {W : World} {n : Nat} {cs : List Value} (h : Okd Tryz.prog W n 30 cs) : ∃ (lg pt ix ep : Int) (r : Rdg), I64 lg ∧ I64 pt ∧ I64 ix ∧ I64 ep ∧ RdgIn r ∧ cs = argc lg pt ix ep r := by
 obtain ⟨h1, m, h2⟩ := J7f Tryz.underlying30 h
 have c1 : Tryz.prog.cellsOf 30 = 8 := by kernel_rfl
 have c3 : Tryz.prog.cellsOf 3 = 1 := by kernel_rfl
 have c4 : Tryz.prog.cellsOf 28 = 4 := by kernel_rfl
 rw [c1] at h1
 obtain ⟨a, b, c, d, e, f, g, i, rfl⟩ : ∃ a b c d e f g i, cs = [a, b, c, d, e, f, g, i] := by
  match cs, h1 with
  | [a, b, c, d, e, f, g, i], _ => exact ⟨a, b, c, d, e, f, g, i, rfl⟩
 obtain ⟨k0, k1, k2, k3, k4, -⟩ := h2
 simp only [c3, c4, List.drop_zero, List.take_succ_cons, List.take_zero, List.drop_succ_cons] at k0 k1 k2 k3 k4
 obtain ⟨x0, e0, o0⟩ := J4w Tryz.underlying3 k0
 obtain ⟨x1, e1, o1⟩ := J4w Tryz.underlying3 k1
 obtain ⟨x2, e2, o2⟩ := J4w Tryz.underlying3 k2
 obtain ⟨x3, e3, o3⟩ := J4w Tryz.underlying3 k3
 obtain ⟨r, hr, e4⟩ := Jin k4
 simp only [List.cons.injEq, and_true] at e0 e1 e2 e3
 subst e0; subst e1; subst e2; subst e3
 refine ⟨x0, x1, x2, x3, r, J61 (wf_i64 o0), J61 (wf_i64 o1), J61 (wf_i64 o2), J61 (wf_i64 o3), hr, ?_⟩
 rw [e4]
 rfl
end
end Go.Proofs.YtoiampgfnidfdaaGreatDoor
