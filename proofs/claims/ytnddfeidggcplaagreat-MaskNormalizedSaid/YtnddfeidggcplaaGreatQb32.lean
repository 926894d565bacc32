/-
  A pair of bytes as a parameter.
-/
import Derived.Test.YtnddfeidggcplaaGreatQy32
namespace Go.Proofs.YtnddfeidggcplaaGreat
open Go.RowKit Go.ChangeShapes Go.WideShapes

theorem two_of {α : Type} : ∀ cs : List α, cs.length = 2 → ∃ a b, cs = [a, b]
  | [], h => by simp at h
  | [a], h => by simp at h
  | [a, b], _ => ⟨a, b, rfl⟩
  | a :: b :: c :: l, h => by simp at h
set_option maxRecDepth 10000 in
theorem okd_u8p {W : World} {n : Nat} {cs : List Value} (h : Okd Tryz.prog W n 84 cs) : ∃ a b : Int, (0 ≤ a ∧ a < 256) ∧ (0 ≤ b ∧ b < 256) ∧ cs = [.int .u8 a, .int .u8 b] := by
  obtain ⟨h1, m, h2⟩ := okd_array Tryz.underlying84 h
  have c1 : Tryz.prog.cellsOf 84 = 2 := by kernel_rfl
  have c2 : Tryz.prog.cellsOf 5 = 1 := by kernel_rfl
  rw [c1] at h1
  obtain ⟨a, b, rfl⟩ := two_of cs h1
  have k0 := h2 0 (by decide)
  have k1 := h2 1 (by decide)
  rw [c2] at k0 k1
  simp only [Nat.zero_mul, Nat.one_mul, List.drop_zero, List.take_succ_cons, List.take_zero, List.drop_succ_cons] at k0 k1
  obtain ⟨x, ex, ox⟩ := okd_int Tryz.underlying5 k0
  obtain ⟨y, ey, oy⟩ := okd_int Tryz.underlying5 k1
  simp only [List.cons.injEq, and_true] at ex ey
  subst ex; subst ey
  exact ⟨x, y, wf_u8 ox, wf_u8 oy, rfl⟩
end Go.Proofs.YtnddfeidggcplaaGreat
