/-
  Slices of slices as they may come in.
-/
import Derived.Test.YtipaecageimnnaaDoorFi
namespace Go.Proofs.YtipaecageimnnaaDoor
open Go.RowKit

def RTabS (lo hi : Nat) (w : World) (v : Value) (tabs : List (List Raw)) : Prop := ∃ us : List Value, us.length = tabs.length ∧ Rd lo hi 1 w v tabs.length us ∧ ∀ (k : Nat) u t, us[k]? = some u → tabs[k]? = some t → RawS lo hi w u t
theorem RTabS.keep {lo hi : Nat} {w w' : World} {v : Value} {tabs : List (List Raw)} (h : RTabS lo hi w v tabs) (hb : Below w.heap.size w w') : RTabS lo hi w' v tabs := by
  obtain ⟨us, h1, h2, h3⟩ := h
  exact ⟨us, h1, h2.keep hb, fun k u t hu ht => ⟨Rd.keep (h3 k u t hu ht).1 hb, (h3 k u t hu ht).2⟩⟩
theorem RTabS.len {lo hi : Nat} {w : World} {v : Value} {tabs : List (List Raw)} (h : RTabS lo hi w v tabs) : ∃ A cap, v = .slice A tabs.length cap := by
  obtain ⟨us, _, h2, _⟩ := h
  exact h2.len
theorem RTabS.small {lo hi : Nat} {w : World} {v : Value} {tabs : List (List Raw)} (h : RTabS lo hi w v tabs) : tabs.length ≤ 140737488355327 := by
  obtain ⟨us, _, h2, _⟩ := h
  exact h2.2.1
theorem rtabs_cells {lo hi : Nat} {w : World} {v : Value} {tabs : List (List Raw)} (h : RTabS lo hi w v tabs) (h0 : 0 < tabs.length) : ∃ g off cap, v = .slice (some ⟨g, off, none⟩) tabs.length cap ∧ g < w.heap.size ∧
    ∀ k t, tabs[k]? = some t → ∃ A c, w.cell? ⟨g, off + k, none⟩ = some (.slice A t.length c) ∧ RawS lo hi w (.slice A t.length c) t := by
  obtain ⟨us, h1, h2, h3⟩ := h
  obtain ⟨g, off, cap, q1, q2, q3, q4, q5, q6⟩ := Rd.form h2 h0
  refine ⟨g, off, cap, q1, q5, fun k t ht => ?_⟩
  have hk : k < tabs.length := (List.getElem?_eq_some_iff.1 ht).1
  have hu : us[k]? = some (us[k]'(by omega)) := List.getElem?_eq_getElem _
  have h4 := h3 k _ t hu ht
  obtain ⟨A, c, hA⟩ := h4.1.len
  have h5 := q6 k _ hu
  rw [hA] at h4 h5
  exact ⟨A, c, h5, h4⟩
end Go.Proofs.YtipaecageimnnaaDoor
