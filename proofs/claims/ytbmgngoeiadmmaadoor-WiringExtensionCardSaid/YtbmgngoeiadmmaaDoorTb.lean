/-
  The tables of the wiring polynomials: what they are.
-/
import Derived.Test.YtbmgngoeiadmmaaDoorAt2
namespace Go.Proofs.YtbmgngoeiadmmaaDoor
open Go.RowKit

theorem mk_sums (n : Nat) (hn : n ≤ 100000) (w : World) : (Instr.makeSlice 65 (.int .i64 (n : Int)) (.int .i64 (n : Int))).run Tryd.prog w = .ok (.slice (some ⟨w.heap.size, 0, none⟩) n n) (w.alloc (.cells ((List.replicate (n * 4) (0 : E)).flatMap ec).toArray 70)) := by
  have hinfo : (Tryd.prog.info? 70).map (fun i => (i.zero, i.size, i.bytes)) = some (some (.agg #[.int .u64 0, .int .u64 0, .int .u64 0, .int .u64 0, .int .u64 0, .int .u64 0, .int .u64 0, .int .u64 0]), 8, 64) := by kernel_rfl
  obtain ⟨i0, hi0, hz0, hz1, hz2⟩ := info_parts hinfo
  have h := run_make (P := Tryd.prog) w _ _ i0 _ Tryd.underlying65 hi0 hz0 .i64 .i64 (n : Int) (n : Int) (by omega) (Int.le_refl _) (by rw [hz2]; omega) (by omega)
  rw [h, Int.toNat_natCast, hz1]
  congr 4
  apply Array.ext_getElem?
  intro k
  unfold madeCells
  by_cases hk : k < n * 8
  · have hk2 : k % 8 = 0 ∨ k % 8 = 1 ∨ k % 8 = 2 ∨ k % 8 = 3 ∨ k % 8 = 4 ∨ k % 8 = 5 ∨ k % 8 = 6 ∨ k % 8 = 7 := by omega
    simp only [List.getElem?_toArray, ec_getD (n * 4) k (by omega), Array.getElem?_map, Value.cells]
    rw [Array.getElem?_range]
    simp only [hk, if_true, Option.map_some]
    rcases hk2 with h2 | h2 | h2 | h2 | h2 | h2 | h2 | h2 <;> simp [h2]
  · rw [Array.getElem?_eq_none (by simp; omega), Array.getElem?_eq_none (by have := flat_length ec_len (List.replicate (n * 4) (0 : E)); simp only [List.length_replicate] at this; simp only [List.size_toArray, this]; omega)]
/-- What part 'part' of the table holds at index i. -/
def tcell (k : Nat) (ts : List (Gt × E)) (i part : Nat) : E := esum (ts.map fun t => if t.1.L + t.1.R * 2 ^ k = i then t.2 * eb (gk t.1 part) else 0)
def cellsT (k : Nat) (ts : List (Gt × E)) : List E := (List.range (2 ^ (2 * k) * 4)).map fun m => tcell k ts (m / 4) (m % 4)
def tabT (k : Nat) (ts : List (Gt × E)) (part : Nat) : List E := (List.range (2 ^ (2 * k))).map fun i => tcell k ts i part
def tabsT (k : Nat) (ts : List (Gt × E)) : List (List E) := (List.range 4).map (tabT k ts)
theorem cellsT_nil (k : Nat) : cellsT k [] = List.replicate (2 ^ (2 * k) * 4) 0 := by
  unfold cellsT tcell
  simp [esum, List.map_const']
theorem cellsT_len (k : Nat) (ts : List (Gt × E)) : (cellsT k ts).length = 2 ^ (2 * k) * 4 := by simp [cellsT]
theorem tcell_snoc (k : Nat) (ts : List (Gt × E)) (t : Gt × E) (i part : Nat) : tcell k (ts ++ [t]) i part = tcell k ts i part + (if t.1.L + t.1.R * 2 ^ k = i then t.2 * eb (gk t.1 part) else 0) := by
  unfold tcell
  rw [List.map_append, esum_append]
  simp [esum, E.add_zero]
theorem cellsT_snoc (k : Nat) (ts : List (Gt × E)) (t : Gt × E) (i : Nat) (hi : t.1.L + t.1.R * 2 ^ k = i) : addN (cellsT k ts) (i * 4) t.1 t.2 4 = cellsT k (ts ++ [t]) := by
  apply List.ext_getElem?
  intro m
  rw [addN_get, cellsT_len]
  by_cases hm : m < 2 ^ (2 * k) * 4
  · unfold cellsT
    simp only [List.getD, List.getElem?_map, List.getElem?_range hm, Option.map_some, Option.getD_some]
    rw [tcell_snoc, hi]
    by_cases h : i * 4 ≤ m ∧ m < i * 4 + 4
    · rw [if_pos ⟨h.1, h.2, hm⟩, if_pos (by omega), show m - i * 4 = m % 4 by omega]
    · rw [if_neg (by omega), if_neg (by omega), E.add_zero]
  · unfold cellsT
    rw [if_neg (by omega), List.getElem?_eq_none (by simp; omega), List.getElem?_eq_none (by simp; omega)]
theorem cellsT_get (k : Nat) (ts : List (Gt × E)) (i part : Nat) (hi : i < 2 ^ (2 * k)) (hp : part < 4) : (cellsT k ts)[i * 4 + part]? = some (tcell k ts i part) := by
  unfold cellsT
  rw [List.getElem?_map, List.getElem?_range (by omega), Option.map_some, show (i * 4 + part) / 4 = i by omega, show (i * 4 + part) % 4 = part by omega]

/-- A slice of slices of elements. -/
def TabS (lo hi : Nat) (w : World) (v : Value) (ts : List (List E)) : Prop := ∃ vs : List Value, vs.length = ts.length ∧ Rd lo hi 1 w v ts.length vs ∧ ∀ (k : Nat) (x : Value) (y : List E), vs[k]? = some x → ts[k]? = some y → ExtS lo hi w x y
theorem TabS.below {lo hi N : Nat} {w w' : World} {v : Value} {ts : List (List E)} (h : TabS lo hi w v ts) (hb : Below N w w') (hN : hi ≤ N) : TabS lo hi w' v ts := by
  obtain ⟨vs, h1, h2, h3⟩ := h
  exact ⟨vs, h1, h2.below hb hN, fun k x y hx hy => (h3 k x y hx hy).below hb hN⟩
theorem TabS.keep {lo hi : Nat} {w w' : World} {v : Value} {ts : List (List E)} (h : TabS lo hi w v ts) (hb : Below w.heap.size w w') : TabS lo hi w' v ts := by
  obtain ⟨vs, h1, h2, h3⟩ := h
  exact ⟨vs, h1, h2.keep hb, fun k x y hx hy => (h3 k x y hx hy).keep hb⟩
theorem TabS.len {lo hi : Nat} {w : World} {v : Value} {ts : List (List E)} (h : TabS lo hi w v ts) : ∃ A cap, v = .slice A ts.length cap := by
  obtain ⟨vs, h1, h2, h3⟩ := h
  exact h2.len
def TabA (ts : List (List E)) (lo hi : Nat) (v : Value) (w : World) : Prop := TabS lo hi w v ts
theorem fit_tab {ts : List (List E)} : Fit (TabA ts) (SlF ts.length) := ⟨fun _ _ _ _ _ h hb => TabS.below h hb (Nat.le_refl _), fun _ => ⟨.slice none ts.length 0, none, 0, rfl⟩, fun _ _ _ _ h => TabS.len h⟩
end Go.Proofs.YtbmgngoeiadmmaaDoor
