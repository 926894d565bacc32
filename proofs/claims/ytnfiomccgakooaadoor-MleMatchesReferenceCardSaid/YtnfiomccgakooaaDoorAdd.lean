/-
  The sums of the wiring polynomials: a gate added.
-/
import Derived.Test.YtnfiomccgakooaaDoorTab2
namespace Go.Proofs.YtnfiomccgakooaaDoor
open Go.RowKit

def addN (l : List E) (q : Nat) (g : Gt) (x : E) : Nat → List E
  | 0 => l
  | k + 1 => (addN l q g x k).set (q + k) (l.getD (q + k) 0 + x * eb (gk g k))
theorem addN_len (l : List E) (q : Nat) (g : Gt) (x : E) : ∀ k, (addN l q g x k).length = l.length
  | 0 => rfl
  | k + 1 => by rw [addN, List.length_set, addN_len l q g x k]
theorem addN_get (l : List E) (q : Nat) (g : Gt) (x : E) : ∀ k i, (addN l q g x k)[i]? = if q ≤ i ∧ i < q + k ∧ i < l.length then some (l.getD i 0 + x * eb (gk g (i - q))) else l[i]?
  | 0, i => by rw [if_neg (by omega)]; rfl
  | k + 1, i => by
    rw [addN, List.getElem?_set, addN_len, addN_get l q g x k i]
    by_cases h : q + k = i
    · subst h
      by_cases hl : q + k < l.length
      · rw [if_pos rfl, if_pos hl, if_pos (by omega), Nat.add_sub_cancel_left]
      · rw [if_pos rfl, if_neg hl, if_neg (by omega), List.getElem?_eq_none (by omega)]
    · rw [if_neg h]
      by_cases h2 : q ≤ i ∧ i < q + k ∧ i < l.length
      · rw [if_pos h2, if_pos (by omega)]
      · rw [if_neg h2, if_neg (by omega)]
theorem set_self {α : Type} (l : List α) (i : Nat) (x : α) (h : l[i]? = some x) : l.set i x = l := by
  apply List.ext_getElem?
  intro j
  rw [List.getElem?_set]
  by_cases hij : i = j
  · subst hij
    rw [if_pos rfl, if_pos (List.getElem?_eq_some_iff.1 h).1, h]
  · rw [if_neg hij]

theorem grown_below {w a b : World} {row : Option Nat} (h : w.grownBy a row) (k : Below a.heap.size a b) : w.grownBy b row :=
  ⟨k.os.trans h.os, k.tape.trans h.tape, k.output.trans h.output, Nat.le_trans h.size k.size, fun i hi hr => (k.block i (Nat.lt_of_lt_of_le hi h.size)).trans (h.block i hi hr)⟩
theorem grown_set {w a : World} {B i : Nat} {v : Value} (h : w.grownBy a (some B)) : w.grownBy (a.setCell ⟨B, i, none⟩ v) (some B) :=
  ⟨h.os, h.tape, h.output, by simpa using h.size, fun k hk hr => (Below.heap_setCell a ⟨B, i, none⟩ v k (fun e => hr (by rw [e]))).trans (h.block k hk hr)⟩
end Go.Proofs.YtnfiomccgakooaaDoor
