/-
  A pair of elements as a parameter.
-/
import Derived.Test.YtbmgngoeiadmmaaDoorQy
namespace Go.Proofs.YtbmgngoeiadmmaaDoor
open Go.RowKit Go.ChangeShapes Go.WideShapes

theorem okWide_array {P : Program} {w : World} {r : Reach} {base : Nat} {t e : TypeId} {m : Nat} {v : Value} (ht : P.underlying t = some (.array m e)) (h : Value.okWide P w r base t v) : ∃ cs, v = .agg cs ∧ cs.size = P.cellsOf t := by
  simp only [Value.okWide, ht] at h
  obtain ⟨cs, h1, h2, _⟩ := h
  exact ⟨cs, h1, h2⟩
theorem okd_raw2 {W : World} {n : Nat} {cs : List Value} (h : Okd Tryd.prog W n 28 cs) : ∃ x y : Raw, (Word x.1 ∧ Word x.2) ∧ (Word y.1 ∧ Word y.2) ∧ cs = [.int .u64 x.1, .int .u64 x.2, .int .u64 y.1, .int .u64 y.2] := by
  obtain ⟨h1, m, h2⟩ := okd_array Tryd.underlying28 h
  have c1 : Tryd.prog.cellsOf 28 = 4 := by kernel_rfl
  have c2 : Tryd.prog.cellsOf 27 = 2 := by kernel_rfl
  rw [c1] at h1
  obtain ⟨a, b, c, d, rfl⟩ : ∃ a b c d, cs = [a, b, c, d] := by
    match cs, h1 with
    | [a, b, c, d], _ => exact ⟨a, b, c, d, rfl⟩
  have k0 := h2 0 (by decide)
  have k1 := h2 1 (by decide)
  rw [c2] at k0 k1
  simp only [Nat.zero_mul, Nat.one_mul, List.drop_zero, List.take_succ_cons, List.take_zero, List.drop_succ_cons] at k0 k1
  obtain ⟨x, ox, ex⟩ := okd_raw k0
  obtain ⟨y, oy, ey⟩ := okd_raw k1
  simp only [rc, List.cons.injEq, and_true] at ex ey
  obtain ⟨ex1, ex2⟩ := ex
  obtain ⟨ey1, ey2⟩ := ey
  subst ex1; subst ex2; subst ey1; subst ey2
  exact ⟨x, y, ox, oy, rfl⟩
end Go.Proofs.YtbmgngoeiadmmaaDoor
