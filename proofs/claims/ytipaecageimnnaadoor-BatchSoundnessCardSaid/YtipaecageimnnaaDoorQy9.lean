/-
  Slices of slices as the reading of the arguments gives them.
-/
import Derived.Test.YtipaecageimnnaaDoorQy
import Derived.Test.YtipaecageimnnaaDoorRtb
namespace Go.Proofs.YtipaecageimnnaaDoor
open Go.ChangeShapes Go.WideShapes Go.RowKit

def fst1 {α : Type} (x : Value × α) : List Value := [x.1]
theorem fst1_flat {α : Type} : ∀ xs : List (Value × α), xs.flatMap fst1 = xs.map (·.1)
  | [] => rfl
  | x :: xs => by rw [List.flatMap_cons, fst1_flat xs]; rfl
/-- A slice of slices of elements. -/
theorem okd_rtabs {W : World} {n : Nat} {cs : List Value} (h : Okd Tryd.prog W n 35 cs) : ∃ v, cs = [v] ∧ ∃ ts : List (List Raw), RTabS 0 W.heap.size W v ts := by
  obtain ⟨v, hv, xs, h1, h2⟩ := okd_slice (α := Value × List Raw) fst1 (fun x => RawS 0 W.heap.size W x.1 x.2) (by decide) (fun _ => rfl) Tryd.underlying35 (by kernel_rfl) (Nat.le_of_ble_eq_true (by kernel_rfl)) (fun n cs h => by
    obtain ⟨v, hv, ts, ht⟩ := okd_raws h
    exact ⟨(v, ts), ht, hv⟩) h
  rw [fst1_flat] at h1
  refine ⟨v, hv, xs.map (·.2), xs.map (·.1), by simp, by rw [List.length_map]; exact h1, fun k u t hu ht => ?_⟩
  rw [List.getElem?_map] at hu ht
  cases hx : xs[k]? with
  | none => rw [hx] at hu; cases hu
  | some x =>
    rw [hx] at hu ht
    simp only [Option.map_some, Option.some.injEq] at hu ht
    subst hu; subst ht
    exact h2 x (List.mem_of_getElem? hx)
end Go.Proofs.YtipaecageimnnaaDoor
