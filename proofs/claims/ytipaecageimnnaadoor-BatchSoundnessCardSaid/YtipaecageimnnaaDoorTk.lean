/-
  A cut of a row of elements.
-/
import Derived.Test.YtipaecageimnnaaDoorCpm
namespace Go.Proofs.YtipaecageimnnaaDoor
open Go.RowKit
/-- A cut from the head on. -/
theorem exts_take {lo hi n k cap : Nat} {A : Option Addr} {w : World} {xs : List E} (h : ExtS lo hi w (.slice A n cap) xs) (hk : k ≤ xs.length) : ExtS lo hi w (.slice A k cap) (xs.take k) := by
  obtain ⟨h1, h2, A', cap', h3, h4, h5⟩ := h
  cases h3
  have hl : (xs.take k).length = k := by rw [List.length_take]; omega
  refine ⟨by rw [flat_length ec_len, hl], by omega, A, cap, by rw [hl], by omega, fun h0 => ?_⟩
  obtain ⟨g, off, q1, q2, q3, q4, q5⟩ := h5 (by omega)
  refine ⟨g, off, q1, q2, q3, q4, fun j u hj => q5 j u ?_⟩
  have e : xs.flatMap ec = (xs.take k).flatMap ec ++ (xs.drop k).flatMap ec := by rw [← List.flatMap_append, List.take_append_drop]
  rw [e, List.getElem?_append_left (List.getElem?_eq_some_iff.1 hj).1]
  exact hj
theorem rd_blk {W : World} {g size : Nat} {t : TypeId} {cs : List Value} {n lo hi : Nat} (h : Blk W g t cs.toArray) (hn : cs.length = n * size) (hb : n ≤ 1000000) (hlo : lo ≤ g) (hhi : g < hi) : Rd lo hi size W (.slice (some ⟨g, 0, none⟩) n n) n cs := by
  refine ⟨hn, by omega, some ⟨g, 0, none⟩, n, rfl, Nat.le_refl _, fun _ => ⟨g, 0, rfl, hlo, hhi, h.lt, fun j u hu => ?_⟩⟩
  rw [Nat.zero_add, h.cell]
  simpa using hu
end Go.Proofs.YtipaecageimnnaaDoor
