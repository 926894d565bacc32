/-
  Three tables as a parameter.
-/
import Derived.Test.YtnddfeidggcplaaGreatQy32
namespace Go.Proofs.YtnddfeidggcplaaGreat
open Go.RowKit Go.ChangeShapes Go.WideShapes

theorem three_of {α : Type} : ∀ cs : List α, cs.length = 3 → ∃ a b c, cs = [a, b, c]
  | [], h => by simp at h
  | [a], h => by simp at h
  | [a, b], h => by simp at h
  | [a, b, c], _ => ⟨a, b, c, rfl⟩
  | a :: b :: c :: d :: l, h => by simp at h
set_option maxRecDepth 10000 in
theorem okd_exts3 {W : World} {n : Nat} {cs : List Value} (h : Okd Tryz.prog W n 23 cs) :
    ∃ (O : Nat → List Raw) (B : Nat → Option Addr) (bc : Nat → Nat), cs = [.slice (B 0) (O 0).length (bc 0), .slice (B 1) (O 1).length (bc 1), .slice (B 2) (O 2).length (bc 2)] ∧ ∀ k, k < 3 → RawS 0 W.heap.size W (.slice (B k) (O k).length (bc k)) (O k) := by
  obtain ⟨h1, m, h3⟩ := okd_array Tryz.underlying23 h
  have c3 : Tryz.prog.cellsOf 23 = 3 := by kernel_rfl
  have c5 : Tryz.prog.cellsOf 22 = 1 := by kernel_rfl
  rw [c3] at h1
  obtain ⟨a, b, c, rfl⟩ := three_of cs h1
  have g0 := h3 0 (by decide)
  have g1 := h3 1 (by decide)
  have g2 := h3 2 (by decide)
  rw [c5] at g0 g1 g2
  simp only [Nat.zero_mul, Nat.one_mul, Nat.mul_one, List.drop_zero, List.take_succ_cons, List.take_zero, List.drop_succ_cons] at g0 g1 g2
  obtain ⟨v0, e0, T0, hT0⟩ := okd_raws g0
  obtain ⟨v1, e1, T1, hT1⟩ := okd_raws g1
  obtain ⟨v2, e2, T2, hT2⟩ := okd_raws g2
  simp only [List.cons.injEq, and_true] at e0 e1 e2
  subst e0; subst e1; subst e2
  obtain ⟨A0, n0, rfl⟩ := hT0.1.len
  obtain ⟨A1, n1, rfl⟩ := hT1.1.len
  obtain ⟨A2, n2, rfl⟩ := hT2.1.len
  refine ⟨fun k => if k = 0 then T0 else if k = 1 then T1 else T2, fun k => if k = 0 then A0 else if k = 1 then A1 else A2, fun k => if k = 0 then n0 else if k = 1 then n1 else n2, rfl, fun k hk => ?_⟩
  match k, hk with
  | 0, _ => exact hT0
  | 1, _ => exact hT1
  | 2, _ => exact hT2
end Go.Proofs.YtnddfeidggcplaaGreat
