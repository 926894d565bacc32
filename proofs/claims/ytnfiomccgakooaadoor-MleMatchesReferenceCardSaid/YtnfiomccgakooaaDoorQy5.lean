/-
  A query of a statement of chapter 05 as the reading of the arguments gives it.
-/
import Derived.Test.YtnfiomccgakooaaDoorQy
import Derived.Test.YtnfiomccgakooaaDoorMd5
namespace Go.Proofs.YtnfiomccgakooaaDoor
open Go.ChangeShapes Go.WideShapes Go.RowKit

theorem wf_u16 {z : Int} (h : (Lit.int .u16 z).wf = true) : 0 ≤ z ∧ z < 65536 := by
  simp only [Lit.wf, Bool.and_eq_true, decide_eq_true_eq] at h
  have e1 : IntKind.u16.min = 0 := rfl
  have e2 : IntKind.u16.max = 65535 := rfl
  rw [e1, e2] at h
  exact ⟨h.1, by omega⟩

theorem okd_query {W : World} {n : Nat} {cs : List Value} (h : Okd Tryd.prog W n 24 cs) :
    ∃ (q : Q5) (vT vP vQ : Value), cs = [vT, vP, vQ, .int .u8 q.N] ∧ Q5S W.heap.size W q vT vP vQ := by
  obtain ⟨h1, m, h2⟩ := okd_struct Tryd.underlying24 h
  have c1 : Tryd.prog.cellsOf 24 = 4 := by kernel_rfl
  have c3 : Tryd.prog.cellsOf 22 = 1 := by kernel_rfl
  have c6 : Tryd.prog.cellsOf 5 = 1 := by kernel_rfl
  rw [c1] at h1
  obtain ⟨a, b, c, d, rfl⟩ : ∃ a b c d, cs = [a, b, c, d] := by
    match cs, h1 with
    | [a, b, c, d], _ => exact ⟨a, b, c, d, rfl⟩
  obtain ⟨k0, k1, k2, k3, -⟩ := h2
  simp only [c3, c6, List.drop_zero, List.take_succ_cons, List.take_zero, List.drop_succ_cons] at k0 k1 k2 k3
  obtain ⟨v0, e0, T, hT⟩ := okd_raws k0
  obtain ⟨v1, e1, Pl, hP⟩ := okd_raws k1
  obtain ⟨v2, e2, Ql, hQ⟩ := okd_raws k2
  obtain ⟨K, e4, oK⟩ := okd_int Tryd.underlying5 k3
  simp only [List.cons.injEq, and_true] at e0 e1 e2 e4
  subst e0; subst e1; subst e2; subst e4
  exact ⟨⟨T, Pl, Ql, K⟩, _, _, _, rfl, ⟨hT, hP, hQ, wf_u8 oK⟩⟩
end Go.Proofs.YtnfiomccgakooaaDoor
