/-
  The table of weights: what it is, and how it is made coordinate by coordinate.
-/
import Derived.Test.YtnfiomccgakooaaDoorSeq
namespace Go.Proofs.YtnfiomccgakooaaDoor
open Go.RowKit

theorem getD_append_left (p : List E) (x : E) (k : Nat) (h : k < p.length) : (p ++ [x]).getD k 0 = p.getD k 0 := by simp [List.getD, List.getElem?_append_left h]
theorem getD_append_last (p : List E) (x : E) : (p ++ [x]).getD p.length 0 = x := by simp [List.getD]
theorem wt_append (p : List E) (x : E) (i : Nat) : ∀ k, k ≤ p.length → wt (p ++ [x]) i k = wt p i k
  | 0, _ => rfl
  | k + 1, h => by rw [wt, wt, wt_append p x i k (by omega), getD_append_left p x k (by omega)]
theorem wt_low (p : List E) (x : E) (i : Nat) (h : i < 2 ^ p.length) : wt (p ++ [x]) i (p.length + 1) = wt p i p.length * (1 - x) := by
  rw [wt, wt_append p x i _ (Nat.le_refl _), getD_append_last]
  unfold sel
  rw [Nat.div_eq_of_lt h]; rfl
theorem wt_high (p : List E) (x : E) (i : Nat) (h : i < 2 ^ p.length) : wt (p ++ [x]) (2 ^ p.length + i) (p.length + 1) = wt p i p.length * x := by
  rw [wt, wt_append p x _ _ (Nat.le_refl _), getD_append_last]
  unfold sel
  have e : (2 ^ p.length + i) / 2 ^ p.length = 1 := by
    rw [Nat.add_comm, Nat.add_div_right _ (Nat.two_pow_pos _), Nat.div_eq_of_lt h]
  rw [e]
  have : wt p (2 ^ p.length + i) p.length = wt p i p.length := wt_mod p (by rw [Nat.add_mod_left])
  rw [this]; rfl
def tabE (p : List E) : List E := (List.range (2 ^ p.length)).map fun i => wt p i p.length
theorem tabE_len (p : List E) : (tabE p).length = 2 ^ p.length := by simp [tabE]
theorem tabE_get (p : List E) (i : Nat) (h : i < 2 ^ p.length) : (tabE p)[i]? = some (eqi i p) := by simp [tabE, h, eqi]
/-- The table when i of the old weights have been split. -/
def halfE (p : List E) (x : E) (i : Nat) : List E := (List.range (2 ^ p.length + i)).map fun j => if j < i then wt (p ++ [x]) j (p.length + 1) else if j < 2 ^ p.length then wt p j p.length else wt (p ++ [x]) j (p.length + 1)
theorem halfE_len (p : List E) (x : E) (i : Nat) : (halfE p x i).length = 2 ^ p.length + i := by simp [halfE]
theorem halfE_zero (p : List E) (x : E) : halfE p x 0 = tabE p := by
  unfold halfE tabE
  rw [Nat.add_zero]
  refine List.map_congr_left fun j hj => ?_
  rw [if_neg (by omega), if_pos (by simpa using hj)]
theorem halfE_all (p : List E) (x : E) : halfE p x (2 ^ p.length) = tabE (p ++ [x]) := by
  unfold halfE tabE
  rw [List.length_append, List.length_singleton, Nat.pow_succ, Nat.mul_two]
  refine List.map_congr_left fun j hj => ?_
  by_cases h : j < 2 ^ p.length
  · rw [if_pos h]
  · rw [if_neg h, if_neg h]
theorem halfE_get (p : List E) (x : E) (i : Nat) (h : i < 2 ^ p.length) : (halfE p x i)[i]? = some (wt p i p.length) := by
  unfold halfE
  rw [List.getElem?_map, List.getElem?_range (by omega)]
  simp [h]
theorem halfE_step (p : List E) (x : E) (i : Nat) (h : i < 2 ^ p.length) : (halfE p x i ++ [wt p i p.length * x]).set i (wt p i p.length - wt p i p.length * x) = halfE p x (i + 1) := by
  have e : wt p i p.length - wt p i p.length * x = wt (p ++ [x]) i (p.length + 1) := by rw [wt_low p x i h, E.mul_sub, E.mul_one]
  rw [e, ← wt_high p x i h]
  apply List.ext_getElem?
  intro j
  rw [List.getElem?_set]
  by_cases hji : i = j
  · subst hji
    rw [if_pos rfl, if_pos (by rw [List.length_append, halfE_len]; omega)]
    unfold halfE
    rw [List.getElem?_map, List.getElem?_range (by omega)]
    simp
  · rw [if_neg hji]
    by_cases hj : j < 2 ^ p.length + i
    · rw [List.getElem?_append_left (by rw [halfE_len]; exact hj)]
      unfold halfE
      rw [List.getElem?_map, List.getElem?_range hj, List.getElem?_map, List.getElem?_range (by omega)]
      simp only [Option.map_some]
      by_cases h1 : j < i
      · simp only [if_pos h1, if_pos (show j < i + 1 by omega)]
      · simp only [if_neg h1, if_neg (show ¬ j < i + 1 by omega)]
    · rw [List.getElem?_append_right (by rw [halfE_len]; omega), halfE_len]
      by_cases hj2 : j = 2 ^ p.length + i
      · subst hj2
        unfold halfE
        rw [List.getElem?_map, List.getElem?_range (by omega)]
        simp [show ¬ (2 ^ p.length + i < i + 1) by have := Nat.two_pow_pos p.length; omega, show ¬ (2 ^ p.length + i < 2 ^ p.length) by omega]
      · unfold halfE
        rw [List.getElem?_eq_none (by simp; omega), List.getElem?_eq_none (by simp; omega)]

/-! ### Rows of the call's own -/
theorem Blk.kept {w w' : World} {g : Nat} {t : TypeId} {cs : Array Value} {row : Option Nat} (h : Blk w g t cs) (hg : w.grownBy w' row) (hne : some g ≠ row) : Blk w' g t cs := (hg.block g h.lt hne).trans h
theorem blk_ne_row {w : World} {base e n cap g Bx : Nat} {xs : List Value} {a b : Value} (h : w.ownsRow base e 2 (.slice (some ⟨g, 0, none⟩) n cap) n xs) (hc : 2 ≤ cap) (hb : Blk w Bx e #[a, b]) : Bx ≠ g := by
  rintro rfl
  rcases h.2 with ⟨h', _⟩ | ⟨g', cap', cur, h', _, hg, _, _, hs, _⟩
  · simp at h'
  · simp only [Value.slice.injEq, Option.some.injEq, Addr.mk.injEq, and_true, true_and] at h'
    obtain ⟨rfl, rfl⟩ := h'
    rw [show w.heap[Bx]? = _ from hb] at hg
    simp only [Option.some.injEq, Obj.cells.injEq] at hg
    rw [← hg.1] at hs
    simp at hs
    omega
theorem blk_ne_row' {w : World} {base e t n cap g Bx size : Nat} {xs : List Value} {cs : Array Value} (h : w.ownsRow base e size (.slice (some ⟨g, 0, none⟩) n cap) n xs) (ht : t ≠ e) (hb : Blk w Bx t cs) : Bx ≠ g := by
  rintro rfl
  rcases h.2 with ⟨h', _⟩ | ⟨g', cap', cur, h', _, hg, _, _, hs, _⟩
  · simp at h'
  · simp only [Value.slice.injEq, Option.some.injEq, Addr.mk.injEq, and_true, true_and] at h'
    obtain ⟨rfl, rfl⟩ := h'
    rw [show w.heap[Bx]? = _ from hb] at hg
    simp only [Option.some.injEq, Obj.cells.injEq] at hg
    exact ht hg.2.1
theorem row_cap {w : World} {base e n cap g size : Nat} {xs : List Value} (h : w.ownsRow base e size (.slice (some ⟨g, 0, none⟩) n cap) n xs) : n ≤ cap ∧ base ≤ g ∧ g < w.heap.size := by
  rcases h.2 with ⟨h', _⟩ | ⟨g', cap', cur, h', h1, hg, h2, _, hs, _⟩
  · simp at h'
  · simp only [Value.slice.injEq, Option.some.injEq, Addr.mk.injEq, and_true, true_and] at h'
    obtain ⟨rfl, rfl⟩ := h'
    exact ⟨h2, h1, (Array.getElem?_eq_some_iff.1 hg).1⟩
theorem row_cells {w : World} {base e n cap g size : Nat} {xs : List Value} (h : w.ownsRow base e size (.slice (some ⟨g, 0, none⟩) n cap) n xs) : ∀ o, w.heap[g]? = some o → o.isCells = true := by
  rcases h.2 with ⟨h', _⟩ | ⟨g', cap', cur, h', h1, hg, h2, _, hs, _⟩
  · simp at h'
  · simp only [Value.slice.injEq, Option.some.injEq, Addr.mk.injEq, and_true, true_and] at h'
    obtain ⟨rfl, rfl⟩ := h'
    intro o ho
    rw [hg] at ho; cases ho; rfl
theorem row_setE {w : World} {base e n cap g : Nat} {l : List E} (h : w.ownsRow base e 2 (.slice (some ⟨g, 0, none⟩) n cap) n (l.flatMap ec)) (k : Nat) (x : E) (hk : k < l.length) :
    ((w.setCell ⟨g, k * 2, none⟩ (.int .u64 (fv x.a))).setCell ⟨g, k * 2 + 1, none⟩ (.int .u64 (fv x.b))).ownsRow base e 2 (.slice (some ⟨g, 0, none⟩) n cap) n ((l.set k x).flatMap ec) := by
  have h1 := (h.stored (k * 2) (.int .u64 (fv x.a))).1
  have h2 := (h1.stored (k * 2 + 1) (.int .u64 (fv x.b))).1
  rw [set_flat x l k hk] at h2
  exact h2
theorem row_cellE {w : World} {base e n cap g : Nat} {l : List E} (h : w.ownsRow base e 2 (.slice (some ⟨g, 0, none⟩) n cap) n (l.flatMap ec)) {k : Nat} {x : E} (hk : l[k]? = some x) : w.cell? ⟨g, k * 2, none⟩ = some (.int .u64 (fv x.a)) ∧ w.cell? ⟨g, k * 2 + 1, none⟩ = some (.int .u64 (fv x.b)) := by
  have hl := h.1
  rw [flat_length ec_len] at hl
  have hkl : k < l.length := (List.getElem?_eq_some_iff.1 hk).1
  have e0 := flat_get ec_len l k 0 x _ hk rfl
  have e1 := flat_get ec_len l k 1 x _ hk rfl
  refine ⟨?_, ?_⟩
  · rw [h.cellAt (k * 2) (by omega)]; simpa using e0
  · rw [h.cellAt (k * 2 + 1) (by omega)]; simpa using e1
theorem wpListIn_app1 {F : Fence} {m : Nat} {P : Program} {ops : Array Oper} {rest : List Oper} {o : Oper} {a : Act} {Q : Exit → Act → World → Prop} {X : World} {n base k size bytes : Nat} {t e : TypeId} {i : TypeInfo} {z : Value} {cl cs : List Value} {u : Value} (hgd : o.guard = none) (s x : Operand)
    (ho : o.op = .call { callee := .builtin .append, args := #[s, x], argTypes := #[t, t] }) (ht : P.underlying t = some (.slice e)) (hi : P.info? e = some i) (hz : i.zero = some z) (hsize : i.size = size) (hby : i.bytes = bytes) (hzs : z.cells.size = size) (hsz : 0 < size)
    (hcl : cl.length = 1 * size) (h1 : ∀ u ∈ cl, u.oneCell' = true) (hs : a.eval s = u) (hx : a.eval x = .slice (some ⟨n, 0, none⟩) 1 1) (hown : X.ownsRow base e size u k cs) (hsrc : Blk X n e cl.toArray) (hk : k + 1 ≤ maxLen) (hk2 : (k + 1) * bytes ≤ 140737488355328) (hbase : base ≤ X.heap.size)
    (h : ∀ v' w', w'.ownsRow base e size v' (k + 1) (cs ++ cl) → X.grownBy w' u.ownBlock → Below base X w' → wpListIn F m P ops Q rest (a.put o.dst v') w') : wpListIn F m P ops Q (o :: rest) a X := by
  refine wpListIn_append_own _ hgd s x t ho base e i z size bytes ht hi hz hsize hby hzs hsz u k cs hs hown ⟨n, 0, none⟩ 1 1 cl hx hcl (blk_news hsrc) h1 hk hk2 hbase ?_
  intro v' w' hown' hgrow _
  exact h v' w' hown' hgrow ((Below.refl _ _).grown hgrow hbase (fun g hg => (own_block hown hg).1))
end Go.Proofs.YtnfiomccgakooaaDoor
