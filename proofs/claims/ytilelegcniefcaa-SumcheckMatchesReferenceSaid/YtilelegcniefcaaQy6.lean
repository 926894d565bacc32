/-
  The raw description of a sum as the reading of the arguments gives it.
-/
import Derived.Test.YtilelegcniefcaaQy
import Derived.Test.YtilelegcniefcaaQyb
import Derived.Test.YtilelegcniefcaaLCo6
namespace Go.Proofs.Ytilelegcniefcaa
open Go.ChangeShapes Go.WideShapes Go.RowKit

set_option maxRecDepth 100000 in
theorem okd_term {W : World} {n : Nat} {cs : List Value} (h : Okd Try.prog W n 80 cs) : ∃ x : TRaw, x.ok ∧ cs = trawc x := by
  obtain ⟨h1, m, h2⟩ := okd_struct Try.underlying80 h
  have c1 : Try.prog.cellsOf 80 = 6 := by kernel_rfl
  have c2 : Try.prog.cellsOf 5 = 1 := by kernel_rfl
  have c3 : Try.prog.cellsOf 43 = 2 := by kernel_rfl
  have c4 : Try.prog.cellsOf 78 = 3 := by kernel_rfl
  rw [c1] at h1
  obtain ⟨a, b, c, d, e, f, rfl⟩ : ∃ a b c d e f, cs = [a, b, c, d, e, f] := by
    match cs, h1 with
    | [a, b, c, d, e, f], _ => exact ⟨a, b, c, d, e, f, rfl⟩
  obtain ⟨k0, k1, k2, -⟩ := h2
  simp only [c2, c3, c4, List.drop_zero, List.take_succ_cons, List.take_zero, List.drop_succ_cons] at k0 k1 k2
  obtain ⟨r, hr, er⟩ := okd_raw k0
  obtain ⟨-, m2, h3⟩ := okd_array Try.underlying78 k1
  have g0 := h3 0 (by decide)
  have g1 := h3 1 (by decide)
  have g2 := h3 2 (by decide)
  rw [c2] at g0 g1 g2
  simp only [Nat.zero_mul, Nat.one_mul, Nat.mul_one, List.drop_zero, List.take_succ_cons, List.take_zero, List.drop_succ_cons] at g0 g1 g2
  obtain ⟨x0, e0, w0⟩ := okd_int Try.underlying5 g0
  obtain ⟨x1, e1, w1⟩ := okd_int Try.underlying5 g1
  obtain ⟨x2, e2, w2⟩ := okd_int Try.underlying5 g2
  obtain ⟨y, e3, w3⟩ := okd_int Try.underlying5 k2
  simp only [rc, List.cons.injEq, and_true] at er e0 e1 e2 e3
  obtain ⟨er1, er2⟩ := er
  subst er1; subst er2; subst e0; subst e1; subst e2; subst e3
  refine ⟨⟨r, fun k => if k = 0 then x0 else if k = 1 then x1 else x2, y⟩, ⟨hr.1, hr.2, fun k hk => ?_, wf_u8 w3⟩, rfl⟩
  have a0 := wf_u8 w0
  have a1 := wf_u8 w1
  have a2 := wf_u8 w2
  show Byte (if k = 0 then x0 else if k = 1 then x1 else x2)
  unfold Byte
  by_cases h0 : k = 0
  · rw [if_pos h0]; exact a0
  · rw [if_neg h0]
    by_cases h1 : k = 1
    · rw [if_pos h1]; exact a1
    · rw [if_neg h1]; exact a2
theorem okd_terms {W : World} {n : Nat} {cs : List Value} (h : Okd Try.prog W n 24 cs) : ∃ v, cs = [v] ∧ ∃ xs : List TRaw, TRawS 0 W.heap.size W v xs :=
  okd_slice trawc _ (by decide) trawc_len Try.underlying24 (by kernel_rfl) (Nat.le_of_ble_eq_true (by kernel_rfl)) (fun n cs h => okd_term h) h
set_option maxRecDepth 100000 in
theorem okd_raw6 {W : World} {n : Nat} {cs : List Value} (h : Okd Try.prog W n 26 cs) :
    ∃ (q : Raw6) (A : Nat → Option Addr) (cc : Nat → Nat) (AL : Option Addr) (cL : Nat), cs = [.slice (A 0) (q.T 0).length (cc 0), .slice (A 1) (q.T 1).length (cc 1), .slice (A 2) (q.T 2).length (cc 2), .slice AL q.L.length cL, .int .u8 q.N] ∧ Raw6S W q A cc AL cL := by
  obtain ⟨h1, m, h2⟩ := okd_struct Try.underlying26 h
  have c1 : Try.prog.cellsOf 26 = 5 := by kernel_rfl
  have c2 : Try.prog.cellsOf 5 = 1 := by kernel_rfl
  have c3 : Try.prog.cellsOf 23 = 3 := by kernel_rfl
  have c4 : Try.prog.cellsOf 24 = 1 := by kernel_rfl
  have c5 : Try.prog.cellsOf 22 = 1 := by kernel_rfl
  rw [c1] at h1
  obtain ⟨a, b, c, d, e, rfl⟩ : ∃ a b c d e, cs = [a, b, c, d, e] := by
    match cs, h1 with
    | [a, b, c, d, e], _ => exact ⟨a, b, c, d, e, rfl⟩
  obtain ⟨k0, k1, k2, -⟩ := h2
  simp only [c2, c3, c4, List.drop_zero, List.take_succ_cons, List.take_zero, List.drop_succ_cons] at k0 k1 k2
  obtain ⟨-, m2, h3⟩ := okd_array Try.underlying23 k0
  have g0 := h3 0 (by decide)
  have g1 := h3 1 (by decide)
  have g2 := h3 2 (by decide)
  rw [c5] at g0 g1 g2
  simp only [Nat.zero_mul, Nat.one_mul, Nat.mul_one, List.drop_zero, List.take_succ_cons, List.take_zero, List.drop_succ_cons] at g0 g1 g2
  obtain ⟨v0, e0, T0, hT0⟩ := okd_raws g0
  obtain ⟨v1, e1, T1, hT1⟩ := okd_raws g1
  obtain ⟨v2, e2, T2, hT2⟩ := okd_raws g2
  obtain ⟨v3, e3, L, hL⟩ := okd_terms k1
  obtain ⟨N, e4, hN⟩ := okd_int Try.underlying5 k2
  simp only [List.cons.injEq, and_true] at e0 e1 e2 e3 e4
  subst e0; subst e1; subst e2; subst e3; subst e4
  obtain ⟨A0, n0, rfl⟩ := hT0.1.len
  obtain ⟨A1, n1, rfl⟩ := hT1.1.len
  obtain ⟨A2, n2, rfl⟩ := hT2.1.len
  obtain ⟨A3, n3, rfl⟩ := hL.1.len
  refine ⟨⟨fun k => if k = 0 then T0 else if k = 1 then T1 else T2, L, N⟩, fun k => if k = 0 then A0 else if k = 1 then A1 else A2, fun k => if k = 0 then n0 else if k = 1 then n1 else n2, A3, n3, rfl, ⟨fun k hk => ?_, hL, wf_u8 hN⟩⟩
  match k, hk with
  | 0, _ => exact hT0
  | 1, _ => exact hT1
  | 2, _ => exact hT2
end Go.Proofs.Ytilelegcniefcaa
