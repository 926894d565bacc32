/-
  A script of chapter 32 as the reading of the arguments gives it.
-/
import Derived.Test.YtnddfeidggcplaaGreatQy32
import Derived.Test.YtnddfeidggcplaaGreatMs32
namespace Go.Proofs.YtnddfeidggcplaaGreat
open Go.ChangeShapes Go.WideShapes Go.RowKit

set_option maxRecDepth 100000 in
theorem okd_sc32 {W : World} {n : Nat} {cs : List Value} (h : Okd Tryz.prog W n 55 cs) :
    ∃ (x : Sc32) (xC xR : Value), cs = [.int .u64 x.V.1, .int .u64 x.V.2, xC, xR, .int .u64 x.F.1, .int .u64 x.F.2, .int .u8 (x.N : Int), .int .u8 (x.D : Int)] ∧ Sc32S W.heap.size W x xC xR := by
  obtain ⟨h1, m, h2⟩ := okd_struct Tryz.underlying55 h
  have c1 : Tryz.prog.cellsOf 55 = 8 := by kernel_rfl
  have c3 : Tryz.prog.cellsOf 22 = 1 := by kernel_rfl
  have c2 : Tryz.prog.cellsOf 30 = 2 := by kernel_rfl
  have c6 : Tryz.prog.cellsOf 5 = 1 := by kernel_rfl
  rw [c1] at h1
  obtain ⟨a, b, c, d, e, f, g, i, rfl⟩ : ∃ a b c d e f g i, cs = [a, b, c, d, e, f, g, i] := by
    match cs, h1 with
    | [a, b, c, d, e, f, g, i], _ => exact ⟨a, b, c, d, e, f, g, i, rfl⟩
  obtain ⟨k0, k1, k2, k3, k4, k5, -⟩ := h2
  simp only [c2, c3, c6, List.drop_zero, List.take_succ_cons, List.take_zero, List.drop_succ_cons] at k0 k1 k2 k3 k4 k5
  obtain ⟨V, hV, eV⟩ := okd_raw k0
  obtain ⟨v1, e1, C, hC⟩ := okd_raws k1
  obtain ⟨v2, e2, R, hR⟩ := okd_raws k2
  obtain ⟨F, hF, eF⟩ := okd_raw k3
  obtain ⟨N, eN, oN⟩ := okd_int Tryz.underlying5 k4
  obtain ⟨D, eD, oD⟩ := okd_int Tryz.underlying5 k5
  simp only [rc, List.cons.injEq, and_true] at eV e1 e2 eF eN eD
  obtain ⟨eV1, eV2⟩ := eV
  obtain ⟨eF1, eF2⟩ := eF
  subst eV1; subst eV2; subst e1; subst e2; subst eF1; subst eF2; subst eN; subst eD
  obtain ⟨hN1, hN2⟩ := wf_u8 oN
  obtain ⟨hD1, hD2⟩ := wf_u8 oD
  exact ⟨⟨V, C, R, F, N.toNat, D.toNat⟩, _, _, by rw [Int.toNat_of_nonneg hN1, Int.toNat_of_nonneg hD1], ⟨hC, hR, hV.1, hV.2, hF.1, hF.2, by show N.toNat < 256; omega, by show D.toNat < 256; omega⟩⟩
end Go.Proofs.YtnddfeidggcplaaGreat
