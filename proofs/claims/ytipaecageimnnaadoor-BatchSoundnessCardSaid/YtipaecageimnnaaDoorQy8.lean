/-
  An input of the laws of chapter 21 as the reading of the arguments gives it.
-/
import Derived.Test.YtipaecageimnnaaDoorQy
import Derived.Test.YtipaecageimnnaaDoorPb21
namespace Go.Proofs.YtipaecageimnnaaDoor
open Go.ChangeShapes Go.WideShapes Go.RowKit

set_option maxRecDepth 100000 in
theorem okd_claim {W : World} {n : Nat} {cs : List Value} (h : Okd Tryd.prog W n 38 cs) : ∃ x : RClW, (RawS 0 W.heap.size W (ptR x) x.1.p ∧ Word x.1.v.1 ∧ Word x.1.v.2) ∧ cs = rclc x := by
  obtain ⟨h1, m, h2⟩ := okd_struct Tryd.underlying38 h
  have c1 : Tryd.prog.cellsOf 38 = 3 := by kernel_rfl
  have c2 : Tryd.prog.cellsOf 26 = 2 := by kernel_rfl
  have c3 : Tryd.prog.cellsOf 22 = 1 := by kernel_rfl
  rw [c1] at h1
  obtain ⟨a, b, c, rfl⟩ : ∃ a b c, cs = [a, b, c] := by
    match cs, h1 with
    | [a, b, c], _ => exact ⟨a, b, c, rfl⟩
  obtain ⟨k0, k1, -⟩ := h2
  simp only [c2, c3, List.drop_zero, List.take_succ_cons, List.take_zero, List.drop_succ_cons] at k0 k1
  obtain ⟨v, e1, xs, hx⟩ := okd_raws k0
  obtain ⟨r, hr, er⟩ := okd_raw k1
  simp only [rc, List.cons.injEq, and_true] at er e1
  obtain ⟨er1, er2⟩ := er
  subst er1; subst er2; subst e1
  obtain ⟨A, cap, hv⟩ := hx.1.len
  exact ⟨(⟨xs, r⟩, (A, cap)), ⟨by unfold ptR; exact hv ▸ hx, hr.1, hr.2⟩, by unfold rclc ptR; rw [hv]⟩
theorem okd_claims {W : World} {n : Nat} {cs : List Value} (h : Okd Tryd.prog W n 23 cs) : ∃ v, cs = [v] ∧ ∃ xs : List RClW, RClU 0 W.heap.size W v xs := by
  obtain ⟨v, hv, xs, h1, h2⟩ := okd_slice rclc _ (by decide) rclc_len Tryd.underlying23 (by kernel_rfl) (Nat.le_of_ble_eq_true (by kernel_rfl)) (fun n cs h => okd_claim h) h
  exact ⟨v, hv, xs, h1, h2⟩
set_option maxRecDepth 100000 in
theorem okd_in21 {W : World} {n : Nat} {cs : List Value} (h : Okd Tryd.prog W n 30 cs) :
    ∃ (q : Q21) (vT vL vC : Value), cs = [vT, vL, .int .u64 q.R.1, .int .u64 q.R.2, vC, .int .u8 (q.N : Int)] ∧ Q21S W.heap.size W q vT vL vC := by
  obtain ⟨h1, m, h2⟩ := okd_struct Tryd.underlying30 h
  have c1 : Tryd.prog.cellsOf 30 = 6 := by kernel_rfl
  have c3 : Tryd.prog.cellsOf 22 = 1 := by kernel_rfl
  have c4 : Tryd.prog.cellsOf 23 = 1 := by kernel_rfl
  have c5 : Tryd.prog.cellsOf 28 = 3 := by kernel_rfl
  have c2 : Tryd.prog.cellsOf 26 = 2 := by kernel_rfl
  have c6 : Tryd.prog.cellsOf 5 = 1 := by kernel_rfl
  rw [c1] at h1
  obtain ⟨a, b, c, d, e, f, rfl⟩ : ∃ a b c d e f, cs = [a, b, c, d, e, f] := by
    match cs, h1 with
    | [a, b, c, d, e, f], _ => exact ⟨a, b, c, d, e, f, rfl⟩
  obtain ⟨k0, k1, k2, k3, -⟩ := h2
  simp only [c3, c4, c5, c6, List.drop_zero, List.take_succ_cons, List.take_zero, List.drop_succ_cons] at k0 k1 k2 k3
  obtain ⟨v0, e0, T, hT⟩ := okd_raws k0
  obtain ⟨v1, e1, L, hL⟩ := okd_claims k1
  obtain ⟨-, m2, s0, s1, -⟩ := okd_struct Tryd.underlying28 k2
  simp only [c2, c3, List.drop_zero, List.take_succ_cons, List.take_zero, List.drop_succ_cons] at s0 s1
  obtain ⟨r, hr, er⟩ := okd_raw s0
  obtain ⟨v2, e2, C, hC⟩ := okd_raws s1
  obtain ⟨K, e4, oK⟩ := okd_int Tryd.underlying5 k3
  simp only [rc, List.cons.injEq, and_true] at e0 e1 er e2 e4
  obtain ⟨er1, er2⟩ := er
  subst e0; subst e1; subst er1; subst er2; subst e2; subst e4
  obtain ⟨hK1, hK2⟩ := wf_u8 oK
  exact ⟨⟨T, L, r, C, K.toNat⟩, _, _, _, by rw [Int.toNat_of_nonneg hK1], ⟨hT, hL, hC, hr.1, hr.2, by show K.toNat < 256; omega⟩⟩
end Go.Proofs.YtipaecageimnnaaDoor
