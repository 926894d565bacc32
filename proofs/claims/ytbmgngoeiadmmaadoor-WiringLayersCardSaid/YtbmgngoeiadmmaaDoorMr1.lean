/-
  The reference's functions of chapter 05, by contract.
-/
import Derived.Test.YtbmgngoeiadmmaaDoorMl2
import Derived.Test.YtbmgngoeiadmmaaDoorGrow
namespace Go.Proofs.YtbmgngoeiadmmaaDoor
open Go.RowKit

def lineE (p q : List E) (t : E) (j : Nat) : List E := (List.range j).map fun k => p.getD k 0 + t * (q.getD k 0 - p.getD k 0)
theorem lineE_succ (p q : List E) (t : E) (j : Nat) : lineE p q t (j + 1) = lineE p q t j ++ [p.getD j 0 + t * (q.getD j 0 - p.getD j 0)] := by simp [lineE, List.range_succ]
theorem lineE_length (p q : List E) (t : E) (j : Nat) : (lineE p q t j).length = j := by simp [lineE]
def bindE (t : List E) (r : E) (j : Nat) : List E := (List.range j).map fun k => t.getD (2 * k) 0 + r * (t.getD (2 * k + 1) 0 - t.getD (2 * k) 0)
theorem bindE_succ (t : List E) (r : E) (j : Nat) : bindE t r (j + 1) = bindE t r j ++ [t.getD (2 * j) 0 + r * (t.getD (2 * j + 1) 0 - t.getD (2 * j) 0)] := by simp [bindE, List.range_succ]
theorem bindE_length (t : List E) (r : E) (j : Nat) : (bindE t r j).length = j := by simp [bindE]
theorem bindE_all (r : E) : ∀ (n : Nat) (t : List E), t.length = 2 * n → bindE t r n = bindL t r
  | 0, [], _ => rfl
  | n + 1, x :: y :: t, h => by
    have ih := bindE_all r n t (by simp only [List.length_cons] at h; omega)
    rw [bindL, ← ih]
    unfold bindE
    rw [List.range_succ_eq_map, List.map_cons, List.map_map]
    congr 1
  | 0, _ :: _, h => by simp at h
  | n + 1, [], h => by simp at h
  | n + 1, [_], h => by simp at h; omega
/-- The table that 'Made' makes. -/
def mdAt (l : List Raw) (i : Nat) : E := if l.length = 0 then eb (fz i) else madeAt l (i % l.length) + eb (fz ((i / l.length : Nat) : Int))
def mdT (l : List Raw) (j : Nat) : List E := (List.range j).map (mdAt l)
theorem mdT_succ (l : List Raw) (j : Nat) : mdT l (j + 1) = mdT l j ++ [mdAt l j] := by simp [mdT, List.range_succ]
theorem mdT_length (l : List Raw) (j : Nat) : (mdT l j).length = j := by simp [mdT]
theorem tabE_succ (p : List E) (j : Nat) : ((List.range (j + 1)).map fun i => eqi i p) = ((List.range j).map fun i => eqi i p) ++ [eqi j p] := by simp [List.range_succ]
def liftE (zs : List Int) : List E := zs.map fun z => eb (fz z)

end Go.Proofs.YtbmgngoeiadmmaaDoor
