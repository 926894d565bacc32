/-
  A block that is written, and what stays: stores of whole values, in the walk's steps.
  The table of weights: what it is, and how it is made coordinate by coordinate.
  The table of weights: the walk.
  The sums of the wiring polynomials: a gate added.
  Worlds that have grown but for one row; append onto a slice of one's own, with what its new row is not; an empty slice literal in a region.
-/
import Derived.Test.YtnddfeidggcplaaGreatGt
import Derived.Test.YtnddfeidggcplaaGreatRgU
import Derived.Test.YtnddfeidggcplaaGreatSeq
import Derived.Deep.Upon
import Derived.Deep.AppendSrc
namespace Go.Proofs.YtnddfeidggcplaaGreat
open Go.RowKit

/-- Only block g may have turned; no block is new. -/
structure Put (w X : World) (g : Nat) : Prop where
  os : X.os = w.os
  tape : X.tape = w.tape
  output : X.output = w.output
  size : X.heap.size = w.heap.size
  other : ∀ k, k ≠ g → X.heap[k]? = w.heap[k]?
theorem Put.refl (w : World) (g : Nat) : Put w w g := ⟨rfl, rfl, rfl, rfl, fun _ _ => rfl⟩
theorem Put.trans {a b c : World} {g : Nat} (h : Put a b g) (k : Put b c g) : Put a c g := ⟨k.os.trans h.os, k.tape.trans h.tape, k.output.trans h.output, k.size.trans h.size, fun i hi => (k.other i hi).trans (h.other i hi)⟩
theorem Put.set (w : World) (g i : Nat) (v : Value) : Put w (w.setCell ⟨g, i, none⟩ v) g := ⟨rfl, rfl, rfl, by simp [World.setCell], fun k hk => Below.heap_setCell w ⟨g, i, none⟩ v k hk⟩
theorem Put.below {w X : World} {g N : Nat} (h : Put w X g) (hN : N ≤ g) : Below N w X := ⟨h.os, h.tape, h.output, by rw [h.size]; exact Nat.le_refl _, fun k hk => h.other k (by omega)⟩
theorem Put.blk {w X : World} {g b : Nat} {t : TypeId} {cs : Array Value} (h : Put w X g) (hb : Blk w b t cs) (hne : b ≠ g) : Blk X b t cs := (h.other b hne).trans hb
theorem Put.rd {w X : World} {g lo hi size n : Nat} {v : Value} {cs : List Value} (h : Put w X g) (hr : Rd lo hi size w v n cs) (hne : g < lo ∨ hi ≤ g) : Rd lo hi size X v n cs :=
  hr.other (by rw [h.size]; exact Nat.le_refl _) fun k h1 h2 _ => h.other k (by omega)
theorem below_put {N : Nat} {a w X : World} {g : Nat} (h : Below N a w) (p : Put w X g) (hN : N ≤ g) : Below N a X := h.trans (p.below hN)

def spl (cs : Array Value) : Nat → List Value → Array Value
  | _, [] => cs
  | i, v :: vs => spl (cs.setIfInBounds i v) (i + 1) vs
theorem put_setCells {g : Nat} {t : TypeId} : ∀ (vs : List Value) (i : Nat) (cs : Array Value) (w : World), Blk w g t cs → Put w (w.setCells g i vs) g ∧ Blk (w.setCells g i vs) g t (spl cs i vs)
  | [], i, cs, w, h => ⟨Put.refl _ _, h⟩
  | v :: vs, i, cs, w, h => by
    obtain ⟨h1, h2⟩ := put_setCells vs (i + 1) (cs.setIfInBounds i v) (w.setCell ⟨g, i, none⟩ v) (h.set_ i v)
    exact ⟨(Put.set w g i v).trans h1, h2⟩
/-- A store of a whole value into a block of one's own. -/
theorem wpList_put {P : Program} {ops : Array Oper} {rest : List Oper} {o : Oper} {a : Act} {w : World} {Q : Exit → Act → World → Prop} {g i : Nat} {t : TypeId} {cs new : Array Value} {cells : List Value} (hgd : o.guard = none) (ty : TypeId) (x y : Operand) (ho : o.op = .store ty x y)
    (hx : a.eval x = .pointer (some ⟨g, i, none⟩)) (hy : a.eval y = .agg cells.toArray) (hb : Blk w g t cs) (hi : i + cells.length ≤ cs.size) (hz : (P.info? ty).map (·.size) = some cells.length) (h1 : cells.all (·.oneCell') = true) (hn : spl cs i cells = new)
    (h : ∀ X, Put w X g → Blk X g t new → wpList P ops Q rest (a.put o.dst undef) X) : wpList P ops Q (o :: rest) a w := by
  refine wpList_store_mid hgd ty x y ho g i cells.toArray hx hy ?_ (by simpa using hz) (by simpa using h1) ?_
  · intro j hj
    refine ⟨?_, hb.frozen _⟩
    rw [hb.cell]
    simp only [List.size_toArray] at hj
    rw [Array.getElem?_eq_getElem (by omega)]
    rfl
  · obtain ⟨q1, q2⟩ := put_setCells cells i cs w hb
    rw [hn] at q2
    exact h _ q1 q2
theorem Put.grw {W0 w X : World} {g : Nat} (h : Put w X g) (hw : Grw W0 w) (hg : W0.heap.size ≤ g) : Grw W0 X := grw_of (below_put (grw_below hw) h hg)
/-- The same, in a tail that keeps the world's condition. -/
theorem wpListC_put {P : Program} {ops : Array Oper} {rest : List Oper} {o : Oper} {a : Act} {W0 w : World} {Q : Exit → Act → World → Prop} {g i : Nat} {t : TypeId} {cs new : Array Value} {cells : List Value} (hgd : o.guard = none) (ty : TypeId) (x y : Operand) (ho : o.op = .store ty x y)
    (hx : a.eval x = .pointer (some ⟨g, i, none⟩)) (hy : a.eval y = .agg cells.toArray) (hb : Blk w g t cs) (hi : i + cells.length ≤ cs.size) (hz : (P.info? ty).map (·.size) = some cells.length) (h1 : cells.all (·.oneCell') = true) (hn : spl cs i cells = new)
    (hw : Grw W0 w) (hg : W0.heap.size ≤ g)
    (h : ∀ X, Put w X g → Blk X g t new → Grw W0 X → wpListC P ops Q (Grw W0) rest (a.put o.dst undef) X) : wpListC P ops Q (Grw W0) (o :: rest) a w := by
  refine ⟨hgd, wp_store_mid ty x y ho g i cells.toArray hx hy ?_ (by simpa using hz) (by simpa using h1) ?_⟩
  · intro j hj
    refine ⟨?_, hb.frozen _⟩
    rw [hb.cell]
    simp only [List.size_toArray] at hj
    rw [Array.getElem?_eq_getElem (by omega)]
    rfl
  · obtain ⟨q1, q2⟩ := put_setCells cells i cs w hb
    rw [hn] at q2
    exact ⟨q1.grw hw hg, h _ q1 q2 (q1.grw hw hg)⟩
section
variable {M : World → Prop} {w : World} {g : Nat} {t : TypeId} {cs : Array Value}
theorem set1 {i : Nat} {v : Value} (b : Blk w g t cs) (h : ∀ X, Put w X g → Blk X g t (cs.setIfInBounds i v) → M X) : M (w.setCell ⟨g, i, none⟩ v) := h _ (Put.set w g i v) (b.set_ i v)
theorem set2 {i j : Nat} {v u : Value} (b : Blk w g t cs) (h : ∀ X, Put w X g → Blk X g t ((cs.setIfInBounds i v).setIfInBounds j u) → M X) : M ((w.setCell ⟨g, i, none⟩ v).setCell ⟨g, j, none⟩ u) :=
  h _ ((Put.set w g i v).trans (Put.set _ g j u)) ((b.set_ i v).set_ j u)
theorem set6 {i0 i1 i2 i3 i4 i5 : Nat} {v0 v1 v2 v3 v4 v5 : Value} (b : Blk w g t cs) (h : ∀ X, Put w X g → Blk X g t ((((((cs.setIfInBounds i0 v0).setIfInBounds i1 v1).setIfInBounds i2 v2).setIfInBounds i3 v3).setIfInBounds i4 v4).setIfInBounds i5 v5) → M X) :
    M ((((((w.setCell ⟨g, i0, none⟩ v0).setCell ⟨g, i1, none⟩ v1).setCell ⟨g, i2, none⟩ v2).setCell ⟨g, i3, none⟩ v3).setCell ⟨g, i4, none⟩ v4).setCell ⟨g, i5, none⟩ v5) :=
  h _ ((((((Put.set w g i0 v0).trans (Put.set _ g i1 v1)).trans (Put.set _ g i2 v2)).trans (Put.set _ g i3 v3)).trans (Put.set _ g i4 v4)).trans (Put.set _ g i5 v5)) ((((((b.set_ i0 v0).set_ i1 v1).set_ i2 v2).set_ i3 v3).set_ i4 v4).set_ i5 v5)
end
end Go.Proofs.YtnddfeidggcplaaGreat
namespace Go.Proofs.YtnddfeidggcplaaGreat
open Go.RowKit

theorem getD_append_left (p : List E) (x : E) (k : Nat) (h : k < p.length) : (p ++ [x]).getD k 0 = p.getD k 0 := by simp [List.getD, List.getElem?_append_left h]
theorem getD_append_last (p : List E) (x : E) : (p ++ [x]).getD p.length 0 = x := by simp [List.getD]
theorem wt_append (p : List E) (x : E) (i : Nat) : ∀ k, k ≤ p.length → wt (p ++ [x]) i k = wt p i k
  | 0, _ => rfl
  | k + 1, h => by rw [wt, wt, wt_append p x i k (by omega), getD_append_left p x k (by omega)]
theorem wt_low (p : List E) (x : E) (i : Nat) (h : i < 2 ^ p.length) : wt (p ++ [x]) i (p.length + 1) = wt p i p.length * (1 - x) := by
  rw [wt, wt_append p x i _ (Nat.le_refl _), getD_append_last]
  unfold sel
  rw [Nat.div_eq_of_lt h]; rfl
theorem wt_high (p : List E) (x : E) (i : Nat) (h : i < 2 ^ p.length) : wt (p ++ [x]) (2 ^ p.length + i) (p.length + 1) = wt p i p.length * x := by
  rw [wt, wt_append p x _ _ (Nat.le_refl _), getD_append_last]
  unfold sel
  have e : (2 ^ p.length + i) / 2 ^ p.length = 1 := by
    rw [Nat.add_comm, Nat.add_div_right _ (Nat.two_pow_pos _), Nat.div_eq_of_lt h]
  rw [e]
  have : wt p (2 ^ p.length + i) p.length = wt p i p.length := wt_mod p (by rw [Nat.add_mod_left])
  rw [this]; rfl
def tabE (p : List E) : List E := (List.range (2 ^ p.length)).map fun i => wt p i p.length
theorem tabE_len (p : List E) : (tabE p).length = 2 ^ p.length := by simp [tabE]
theorem tabE_get (p : List E) (i : Nat) (h : i < 2 ^ p.length) : (tabE p)[i]? = some (eqi i p) := by simp [tabE, h, eqi]
/-- The table when i of the old weights have been split. -/
def halfE (p : List E) (x : E) (i : Nat) : List E := (List.range (2 ^ p.length + i)).map fun j => if j < i then wt (p ++ [x]) j (p.length + 1) else if j < 2 ^ p.length then wt p j p.length else wt (p ++ [x]) j (p.length + 1)
theorem halfE_len (p : List E) (x : E) (i : Nat) : (halfE p x i).length = 2 ^ p.length + i := by simp [halfE]
theorem halfE_zero (p : List E) (x : E) : halfE p x 0 = tabE p := by
  unfold halfE tabE
  rw [Nat.add_zero]
  refine List.map_congr_left fun j hj => ?_
  rw [if_neg (by omega), if_pos (by simpa using hj)]
theorem halfE_all (p : List E) (x : E) : halfE p x (2 ^ p.length) = tabE (p ++ [x]) := by
  unfold halfE tabE
  rw [List.length_append, List.length_singleton, Nat.pow_succ, Nat.mul_two]
  refine List.map_congr_left fun j hj => ?_
  by_cases h : j < 2 ^ p.length
  · rw [if_pos h]
  · rw [if_neg h, if_neg h]
theorem halfE_get (p : List E) (x : E) (i : Nat) (h : i < 2 ^ p.length) : (halfE p x i)[i]? = some (wt p i p.length) := by
  unfold halfE
  rw [List.getElem?_map, List.getElem?_range (by omega)]
  simp [h]
theorem halfE_step (p : List E) (x : E) (i : Nat) (h : i < 2 ^ p.length) : (halfE p x i ++ [wt p i p.length * x]).set i (wt p i p.length - wt p i p.length * x) = halfE p x (i + 1) := by
  have e : wt p i p.length - wt p i p.length * x = wt (p ++ [x]) i (p.length + 1) := by rw [wt_low p x i h, E.mul_sub, E.mul_one]
  rw [e, ← wt_high p x i h]
  apply List.ext_getElem?
  intro j
  rw [List.getElem?_set]
  by_cases hji : i = j
  · subst hji
    rw [if_pos rfl, if_pos (by rw [List.length_append, halfE_len]; omega)]
    unfold halfE
    rw [List.getElem?_map, List.getElem?_range (by omega)]
    simp
  · rw [if_neg hji]
    by_cases hj : j < 2 ^ p.length + i
    · rw [List.getElem?_append_left (by rw [halfE_len]; exact hj)]
      unfold halfE
      rw [List.getElem?_map, List.getElem?_range hj, List.getElem?_map, List.getElem?_range (by omega)]
      simp only [Option.map_some]
      by_cases h1 : j < i
      · simp only [if_pos h1, if_pos (show j < i + 1 by omega)]
      · simp only [if_neg h1, if_neg (show ¬ j < i + 1 by omega)]
    · rw [List.getElem?_append_right (by rw [halfE_len]; omega), halfE_len]
      by_cases hj2 : j = 2 ^ p.length + i
      · subst hj2
        unfold halfE
        rw [List.getElem?_map, List.getElem?_range (by omega)]
        simp [show ¬ (2 ^ p.length + i < i + 1) by have := Nat.two_pow_pos p.length; omega, show ¬ (2 ^ p.length + i < 2 ^ p.length) by omega]
      · unfold halfE
        rw [List.getElem?_eq_none (by simp; omega), List.getElem?_eq_none (by simp; omega)]

/-! ### Rows of the call's own -/
theorem Blk.kept {w w' : World} {g : Nat} {t : TypeId} {cs : Array Value} {row : Option Nat} (h : Blk w g t cs) (hg : w.grownBy w' row) (hne : some g ≠ row) : Blk w' g t cs := (hg.block g h.lt hne).trans h
theorem blk_ne_row {w : World} {base e n cap g Bx : Nat} {xs : List Value} {a b : Value} (h : w.ownsRow base e 2 (.slice (some ⟨g, 0, none⟩) n cap) n xs) (hc : 2 ≤ cap) (hb : Blk w Bx e #[a, b]) : Bx ≠ g := by
  rintro rfl
  rcases h.2 with ⟨h', _⟩ | ⟨g', cap', cur, h', _, hg, _, _, hs, _⟩
  · simp at h'
  · simp only [Value.slice.injEq, Option.some.injEq, Addr.mk.injEq, and_true, true_and] at h'
    obtain ⟨rfl, rfl⟩ := h'
    rw [show w.heap[Bx]? = _ from hb] at hg
    simp only [Option.some.injEq, Obj.cells.injEq] at hg
    rw [← hg.1] at hs
    simp at hs
    omega
theorem blk_ne_row' {w : World} {base e t n cap g Bx size : Nat} {xs : List Value} {cs : Array Value} (h : w.ownsRow base e size (.slice (some ⟨g, 0, none⟩) n cap) n xs) (ht : t ≠ e) (hb : Blk w Bx t cs) : Bx ≠ g := by
  rintro rfl
  rcases h.2 with ⟨h', _⟩ | ⟨g', cap', cur, h', _, hg, _, _, hs, _⟩
  · simp at h'
  · simp only [Value.slice.injEq, Option.some.injEq, Addr.mk.injEq, and_true, true_and] at h'
    obtain ⟨rfl, rfl⟩ := h'
    rw [show w.heap[Bx]? = _ from hb] at hg
    simp only [Option.some.injEq, Obj.cells.injEq] at hg
    exact ht hg.2.1
theorem row_cap {w : World} {base e n cap g size : Nat} {xs : List Value} (h : w.ownsRow base e size (.slice (some ⟨g, 0, none⟩) n cap) n xs) : n ≤ cap ∧ base ≤ g ∧ g < w.heap.size := by
  rcases h.2 with ⟨h', _⟩ | ⟨g', cap', cur, h', h1, hg, h2, _, hs, _⟩
  · simp at h'
  · simp only [Value.slice.injEq, Option.some.injEq, Addr.mk.injEq, and_true, true_and] at h'
    obtain ⟨rfl, rfl⟩ := h'
    exact ⟨h2, h1, (Array.getElem?_eq_some_iff.1 hg).1⟩
theorem row_cells {w : World} {base e n cap g size : Nat} {xs : List Value} (h : w.ownsRow base e size (.slice (some ⟨g, 0, none⟩) n cap) n xs) : ∀ o, w.heap[g]? = some o → o.isCells = true := by
  rcases h.2 with ⟨h', _⟩ | ⟨g', cap', cur, h', h1, hg, h2, _, hs, _⟩
  · simp at h'
  · simp only [Value.slice.injEq, Option.some.injEq, Addr.mk.injEq, and_true, true_and] at h'
    obtain ⟨rfl, rfl⟩ := h'
    intro o ho
    rw [hg] at ho; cases ho; rfl
theorem row_setE {w : World} {base e n cap g : Nat} {l : List E} (h : w.ownsRow base e 2 (.slice (some ⟨g, 0, none⟩) n cap) n (l.flatMap ec)) (k : Nat) (x : E) (hk : k < l.length) :
    ((w.setCell ⟨g, k * 2, none⟩ (.int .u64 (fv x.a))).setCell ⟨g, k * 2 + 1, none⟩ (.int .u64 (fv x.b))).ownsRow base e 2 (.slice (some ⟨g, 0, none⟩) n cap) n ((l.set k x).flatMap ec) := by
  have h1 := (h.stored (k * 2) (.int .u64 (fv x.a))).1
  have h2 := (h1.stored (k * 2 + 1) (.int .u64 (fv x.b))).1
  rw [set_flat x l k hk] at h2
  exact h2
theorem row_cellE {w : World} {base e n cap g : Nat} {l : List E} (h : w.ownsRow base e 2 (.slice (some ⟨g, 0, none⟩) n cap) n (l.flatMap ec)) {k : Nat} {x : E} (hk : l[k]? = some x) : w.cell? ⟨g, k * 2, none⟩ = some (.int .u64 (fv x.a)) ∧ w.cell? ⟨g, k * 2 + 1, none⟩ = some (.int .u64 (fv x.b)) := by
  have hl := h.1
  rw [flat_length ec_len] at hl
  have hkl : k < l.length := (List.getElem?_eq_some_iff.1 hk).1
  have e0 := flat_get ec_len l k 0 x _ hk rfl
  have e1 := flat_get ec_len l k 1 x _ hk rfl
  refine ⟨?_, ?_⟩
  · rw [h.cellAt (k * 2) (by omega)]; simpa using e0
  · rw [h.cellAt (k * 2 + 1) (by omega)]; simpa using e1
theorem wpListIn_app1 {F : Fence} {m : Nat} {P : Program} {ops : Array Oper} {rest : List Oper} {o : Oper} {a : Act} {Q : Exit → Act → World → Prop} {X : World} {n base k size bytes : Nat} {t e : TypeId} {i : TypeInfo} {z : Value} {cl cs : List Value} {u : Value} (hgd : o.guard = none) (s x : Operand)
    (ho : o.op = .call { callee := .builtin .append, args := #[s, x], argTypes := #[t, t] }) (ht : P.underlying t = some (.slice e)) (hi : P.info? e = some i) (hz : i.zero = some z) (hsize : i.size = size) (hby : i.bytes = bytes) (hzs : z.cells.size = size) (hsz : 0 < size)
    (hcl : cl.length = 1 * size) (h1 : ∀ u ∈ cl, u.oneCell' = true) (hs : a.eval s = u) (hx : a.eval x = .slice (some ⟨n, 0, none⟩) 1 1) (hown : X.ownsRow base e size u k cs) (hsrc : Blk X n e cl.toArray) (hk : k + 1 ≤ maxLen) (hk2 : (k + 1) * bytes ≤ 140737488355328) (hbase : base ≤ X.heap.size)
    (h : ∀ v' w', w'.ownsRow base e size v' (k + 1) (cs ++ cl) → X.grownBy w' u.ownBlock → Below base X w' → wpListIn F m P ops Q rest (a.put o.dst v') w') : wpListIn F m P ops Q (o :: rest) a X := by
  refine wpListIn_append_own _ hgd s x t ho base e i z size bytes ht hi hz hsize hby hzs hsz u k cs hs hown ⟨n, 0, none⟩ 1 1 cl hx hcl (blk_news hsrc) h1 hk hk2 hbase ?_
  intro v' w' hown' hgrow _
  exact h v' w' hown' hgrow ((Below.refl _ _).grown hgrow hbase (fun g hg => (own_block hown hg).1))
end Go.Proofs.YtnddfeidggcplaaGreat
namespace Go.Proofs.YtnddfeidggcplaaGreat
open Go.RowKit
attribute [local go_sem] Oper.semAt_some

set_option maxRecDepth 100000 in
theorem mk_ext2 (l n : Nat) (hl : l ≤ n) (hn : n ≤ 1000000) (w : World) : (Instr.makeSlice 22 (.int .i64 (l : Int)) (.int .i64 (n : Int))).run Tryz.prog w = .ok (.slice (some ⟨w.heap.size, 0, none⟩) l n) (w.alloc (.cells ((List.replicate n (0 : E)).flatMap ec).toArray 30)) := by
  obtain ⟨i0, hi0, hz0, hz1, hz2⟩ := info_parts ext_info
  have h := run_make (P := Tryz.prog) w _ _ i0 _ Tryz.underlying22 hi0 hz0 .i64 .i64 (l : Int) (n : Int) (by omega) (by omega) (by rw [hz2]; omega) (by omega)
  have h' := mk_ext n hn w
  have h2 := run_make (P := Tryz.prog) w _ _ i0 _ Tryz.underlying22 hi0 hz0 .i64 .i64 (n : Int) (n : Int) (by omega) (Int.le_refl _) (by rw [hz2]; omega) (by omega)
  rw [h'] at h2
  rw [h]
  simp only [Int.toNat_natCast, Result.ok.injEq] at h2 ⊢
  exact ⟨trivial, h2.2.symm⟩

end Go.Proofs.YtnddfeidggcplaaGreat
namespace Go.Proofs.YtnddfeidggcplaaGreat
open Go.RowKit

def addN (l : List E) (q : Nat) (g : Gt) (x : E) : Nat → List E
  | 0 => l
  | k + 1 => (addN l q g x k).set (q + k) (l.getD (q + k) 0 + x * eb (gk g k))
theorem addN_len (l : List E) (q : Nat) (g : Gt) (x : E) : ∀ k, (addN l q g x k).length = l.length
  | 0 => rfl
  | k + 1 => by rw [addN, List.length_set, addN_len l q g x k]
theorem addN_get (l : List E) (q : Nat) (g : Gt) (x : E) : ∀ k i, (addN l q g x k)[i]? = if q ≤ i ∧ i < q + k ∧ i < l.length then some (l.getD i 0 + x * eb (gk g (i - q))) else l[i]?
  | 0, i => by rw [if_neg (by omega)]; rfl
  | k + 1, i => by
    rw [addN, List.getElem?_set, addN_len, addN_get l q g x k i]
    by_cases h : q + k = i
    · subst h
      by_cases hl : q + k < l.length
      · rw [if_pos rfl, if_pos hl, if_pos (by omega), Nat.add_sub_cancel_left]
      · rw [if_pos rfl, if_neg hl, if_neg (by omega), List.getElem?_eq_none (by omega)]
    · rw [if_neg h]
      by_cases h2 : q ≤ i ∧ i < q + k ∧ i < l.length
      · rw [if_pos h2, if_pos (by omega)]
      · rw [if_neg h2, if_neg (by omega)]
theorem set_self {α : Type} (l : List α) (i : Nat) (x : α) (h : l[i]? = some x) : l.set i x = l := by
  apply List.ext_getElem?
  intro j
  rw [List.getElem?_set]
  by_cases hij : i = j
  · subst hij
    rw [if_pos rfl, if_pos (List.getElem?_eq_some_iff.1 h).1, h]
  · rw [if_neg hij]

theorem grown_below {w a b : World} {row : Option Nat} (h : w.grownBy a row) (k : Below a.heap.size a b) : w.grownBy b row :=
  ⟨k.os.trans h.os, k.tape.trans h.tape, k.output.trans h.output, Nat.le_trans h.size k.size, fun i hi hr => (k.block i (Nat.lt_of_lt_of_le hi h.size)).trans (h.block i hi hr)⟩
theorem grown_set {w a : World} {B i : Nat} {v : Value} (h : w.grownBy a (some B)) : w.grownBy (a.setCell ⟨B, i, none⟩ v) (some B) :=
  ⟨h.os, h.tape, h.output, by simpa using h.size, fun k hk hr => (Below.heap_setCell a ⟨B, i, none⟩ v k (fun e => hr (by rw [e]))).trans (h.block k hk hr)⟩
end Go.Proofs.YtnddfeidggcplaaGreat
namespace Go.Proofs.YtnddfeidggcplaaGreat
open Go.RowKit

/-- A walk halts before a goal that bears this mark. -/
def Stop (p : Prop) : Prop := p
theorem stop_in {p : Prop} (h : Stop p) : p := h
theorem stop_out {p : Prop} (h : p) : Stop p := h
theorem grown_blk {X W : World} {row : Option Nat} {b : Nat} {t : TypeId} {cs : Array Value} (h : X.grownBy W row) (hb : Blk X b t cs) (hne : some b ≠ row) : Blk W b t cs := (h.block b hb.lt hne).trans hb
theorem grown_rd {X W : World} {g lo hi size n : Nat} {v : Value} {cs : List Value} (h : X.grownBy W (some g)) (hr : Rd lo hi size X v n cs) (hne : g < lo ∨ hi ≤ g) : Rd lo hi size W v n cs :=
  hr.other h.size fun k h1 h2 h3 => h.block k h3 (fun e => by cases e; omega)
theorem grown_refl (X : World) (row : Option Nat) : X.grownBy X row := ⟨rfl, rfl, rfl, Nat.le_refl _, fun _ _ _ => rfl⟩
theorem grown_step {X a b : World} {g0 : Nat} {row : Option Nat} (h : X.grownBy a (some g0)) (k : a.grownBy b row) (hr : ∀ g, row = some g → g = g0 ∨ X.heap.size ≤ g) : X.grownBy b (some g0) :=
  ⟨k.os.trans h.os, k.tape.trans h.tape, k.output.trans h.output, Nat.le_trans h.size k.size, fun i hi hne =>
    (k.block i (Nat.lt_of_lt_of_le hi h.size) (fun e => by
      rcases hr i e.symm with h1 | h1
      · exact hne (by rw [h1])
      · omega)).trans (h.block i hi hne)⟩
theorem grown_b {B g : Nat} {A X W : World} (h : Below B A X) (k : X.grownBy W (some g)) (hB : B ≤ X.heap.size) (hg : B ≤ g) : Below B A W := h.grown k hB (fun i e => by cases e; exact hg)
/-- The row of an own slice is the one that it began in, or a new one. -/
def OwnAt (X : World) (g0 : Nat) (v : Value) : Prop := ∀ g, v.ownBlock = some g → g = g0 ∨ X.heap.size ≤ g
theorem ownAt_first {X : World} {g0 n cap : Nat} : OwnAt X g0 (.slice (some ⟨g0, 0, none⟩) n cap) := fun g h => by cases h; exact .inl rfl
theorem OwnAt.ne {X : World} {g0 : Nat} {v : Value} {b : Nat} (h : OwnAt X g0 v) (hb : b < X.heap.size) (hne : b ≠ g0) : some b ≠ v.ownBlock := fun e => by
  rcases h b e.symm with h | h
  · exact hne h
  · omega
/-- append of one element to a slice of the call's own that lies in the row where it began, or in a newer one. -/
theorem wpList_app2 {P : Program} {ops : Array Oper} {rest : List Oper} {o : Oper} {a : Act} {Q : Exit → Act → World → Prop} {X0 X : World} {n g0 base k size bytes : Nat} {t e : TypeId} {i : TypeInfo} {z : Value} {cl cs : List Value} {u : Value} (hgd : o.guard = none) (s x : Operand)
    (ho : o.op = .call { callee := .builtin .append, args := #[s, x], argTypes := #[t, t] }) (ht : P.underlying t = some (.slice e)) (hi : P.info? e = some i) (hz : i.zero = some z) (hsize : i.size = size) (hby : i.bytes = bytes) (hzs : z.cells.size = size) (hsz : 0 < size)
    (hcl : cl.length = 1 * size) (h1 : ∀ u ∈ cl, u.oneCell' = true) (hs : a.eval s = u) (hx : a.eval x = .slice (some ⟨n, 0, none⟩) 1 1) (hown : X.ownsRow base e size u k cs) (hat : OwnAt X0 g0 u) (hgr : X0.grownBy X (some g0)) (hsrc : Blk X n e cl.toArray) (hk : k + 1 ≤ maxLen) (hk2 : (k + 1) * bytes ≤ 140737488355328) (hbase : base ≤ X.heap.size)
    (h : ∀ v' w', w'.ownsRow base e size v' (k + 1) (cs ++ cl) → OwnAt X0 g0 v' → X0.grownBy w' (some g0) → wpList P ops Q rest (a.put o.dst v') w') : wpList P ops Q (o :: rest) a X := by
  refine wpList_append_own_at X hgd s x t ho base e i z size bytes ht hi hz hsize hby hzs hsz u k cs hs hown ⟨n, 0, none⟩ 1 1 cl hx hcl (blk_news hsrc) h1 hk hk2 hbase ?_
  intro v' w' hown' hgrow _ hat'
  refine h v' w' hown' (fun g hg => ?_) (grown_step hgr hgrow hat)
  rcases hat' with h2 | h2
  · exact hat g (by rw [← h2]; exact hg)
  · rw [h2] at hg
    cases hg
    exact .inr hgr.size
theorem step_lit0 {P : Program} {o : Oper} {a : Act} {w : World} {t e : TypeId} {ie : TypeInfo} {z : Value} (hu : P.underlying t = some (.slice e)) (hie : P.info? e = some ie) (_hz : ie.zero = some z)
    (ho : o.op = .buildSlice t 0 #[]) : stepAt P o a w (fun v w' => Lit e 0 #[] w.heap.size w'.heap.size v w' ∧ Below w.heap.size w w') := by
  have hr : (Instr.buildSlice t 0 #[]).run P w = .ok (.slice (some ⟨w.heap.size, 0, none⟩) 0 0) (w.alloc (.cells #[] e)) := by
    simp [Instr.buildSlice, run_underlying hu, sizeOf, typeInfo, hie, newRow, Instr.fill]
    rw [show Array.map (fun (_ : Nat) => (default : Value)) (Array.range 0) = #[] from Array.eq_empty_of_size_eq_zero (by simp)]
  unfold stepAt execOp
  simp only [ho, Sem.run_bind, List.map_toArray, List.map_nil, hr, Result.andThen_ok]
  exact ⟨⟨rfl, by simp only [World.size_alloc]; omega, Blk.new _ _ _⟩, (Below.refl _ _).alloc (Nat.le_refl _) _⟩
/-- append of a whole row that reads as the cells say. -/
theorem wpList_appR {P : Program} {ops : Array Oper} {rest : List Oper} {o : Oper} {a : Act} {Q : Exit → Act → World → Prop} {X0 X : World} {g0 base k m lo hi2 size bytes : Nat} {t e : TypeId} {i : TypeInfo} {z : Value} {cl cs : List Value} {u v2 : Value} (hgd : o.guard = none) (s x : Operand)
    (ho : o.op = .call { callee := .builtin .append, args := #[s, x], argTypes := #[t, t] }) (ht : P.underlying t = some (.slice e)) (hi : P.info? e = some i) (hz : i.zero = some z) (hsize : i.size = size) (hby : i.bytes = bytes) (hzs : z.cells.size = size) (hsz : 0 < size)
    (h1 : ∀ u ∈ cl, u.oneCell' = true) (hs : a.eval s = u) (hx : a.eval x = v2) (hr : Rd lo hi2 size X v2 m cl) (hown : X.ownsRow base e size u k cs) (hat : OwnAt X0 g0 u) (hgr : X0.grownBy X (some g0)) (hk : k + m ≤ maxLen) (hk2 : (k + m) * bytes ≤ 140737488355328) (hbase : base ≤ X.heap.size)
    (h : ∀ v' w', w'.ownsRow base e size v' (k + m) (cs ++ cl) → OwnAt X0 g0 v' → X0.grownBy w' (some g0) → wpList P ops Q rest (a.put o.dst v') w') : wpList P ops Q (o :: rest) a X := by
  by_cases hm : m = 0
  · subst hm
    have hcl : cl = [] := List.eq_nil_of_length_eq_zero (by rw [hr.1]; omega)
    subst hcl
    obtain ⟨A2, cap2, rfl⟩ := hr.len
    obtain ⟨A, cap, hu, hc⟩ : ∃ A cap, u = .slice A k cap ∧ k ≤ cap := by
      rcases hown.2 with ⟨rfl, rfl⟩ | ⟨g, cap, cur, rfl, _, _, q, _⟩
      · exact ⟨none, 0, rfl, Nat.le_refl _⟩
      · exact ⟨_, cap, rfl, q⟩
    have hlc : ∀ (b : Addr) (W : World), (loadCells b 0).run P W = .ok #[] W := fun b W => run_loadCells_list (P := P) W b [] (fun j v hv => by simp at hv)
    have src : Src P i.size t (.slice A2 0 cap2) 0 [] X := ⟨.inl ⟨e, ht⟩, fun w' => by simp [Builtin.lenOf], by cases A2 <;> simp [Builtin.firstCells, hlc], by cases A2 <;> simp [Builtin.firstCells, hlc], by simp, fun u hu => by cases hu⟩
    have hrun := run_append_nothing (P := P) X t t o.type e i ht hi A k cap hc (.slice A2 0 cap2) src
    refine wpList_plain hgd fun K hK => ?_
    unfold Oper.wp execOp
    rw [hu] at hs
    simp only [ho, resolve, invoke, builtin, Sem.run_bind, Sem.run_pure, Result.andThen_ok, List.map_toArray, List.map_cons, List.map_nil, hs, hx, hrun]
    rw [← hu]
    exact hK _ _ (h u X (by simpa using hown) hat hgr)
  · obtain ⟨g, off, cap2, rfl, _, _, _, _, hcells⟩ := hr.form (by omega)
    refine wpList_append_own_at X hgd s x t ho base e i z size bytes ht hi hz hsize hby hzs hsz u k cs hs hown ⟨g, off, none⟩ m cap2 cl hx hr.1 (fun j v hv => by rw [Addr.add_mid]; exact hcells j v hv) h1 hk hk2 hbase ?_
    intro v' w' hown' hgrow _ hat'
    refine h v' w' hown' (fun g hg => ?_) (grown_step hgr hgrow hat)
    rcases hat' with h2 | h2
    · exact hat g (by rw [← h2]; exact hg)
    · rw [h2] at hg
      cases hg
      exact .inr hgr.size
/-- append of a whole row that reads as the cells say, onto a slice of one's own. -/
theorem wpList_appB {P : Program} {ops : Array Oper} {rest : List Oper} {o : Oper} {a : Act} {Q : Exit → Act → World → Prop} {X : World} {base k m lo hi2 size bytes : Nat} {t e : TypeId} {i : TypeInfo} {z : Value} {cl cs : List Value} {u v2 : Value} (hgd : o.guard = none) (s x : Operand)
    (ho : o.op = .call { callee := .builtin .append, args := #[s, x], argTypes := #[t, t] }) (ht : P.underlying t = some (.slice e)) (hi : P.info? e = some i) (hz : i.zero = some z) (hsize : i.size = size) (hby : i.bytes = bytes) (hzs : z.cells.size = size) (hsz : 0 < size)
    (h1 : ∀ u ∈ cl, u.oneCell' = true) (hs : a.eval s = u) (hx : a.eval x = v2) (hr : Rd lo hi2 size X v2 m cl) (hown : X.ownsRow base e size u k cs) (hk : k + m ≤ maxLen) (hk2 : (k + m) * bytes ≤ 140737488355328) (hbase : base ≤ X.heap.size)
    (h : ∀ v' w', w'.ownsRow base e size v' (k + m) (cs ++ cl) → X.grownBy w' u.ownBlock → Below base X w' → wpList P ops Q rest (a.put o.dst v') w') : wpList P ops Q (o :: rest) a X := by
  by_cases hm : m = 0
  · subst hm
    have hcl : cl = [] := List.eq_nil_of_length_eq_zero (by rw [hr.1]; omega)
    subst hcl
    obtain ⟨A2, cap2, rfl⟩ := hr.len
    obtain ⟨A, cap, hu, hc⟩ : ∃ A cap, u = .slice A k cap ∧ k ≤ cap := by
      rcases hown.2 with ⟨rfl, rfl⟩ | ⟨g, cap, cur, rfl, _, _, q, _⟩
      · exact ⟨none, 0, rfl, Nat.le_refl _⟩
      · exact ⟨_, cap, rfl, q⟩
    have hlc : ∀ (b : Addr) (W : World), (loadCells b 0).run P W = .ok #[] W := fun b W => run_loadCells_list (P := P) W b [] (fun j v hv => by simp at hv)
    have src : Src P i.size t (.slice A2 0 cap2) 0 [] X := ⟨.inl ⟨e, ht⟩, fun w' => by simp [Builtin.lenOf], by cases A2 <;> simp [Builtin.firstCells, hlc], by cases A2 <;> simp [Builtin.firstCells, hlc], by simp, fun u hu => by cases hu⟩
    have hrun := run_append_nothing (P := P) X t t o.type e i ht hi A k cap hc (.slice A2 0 cap2) src
    refine wpList_plain hgd fun K hK => ?_
    unfold Oper.wp execOp
    rw [hu] at hs
    simp only [ho, resolve, invoke, builtin, Sem.run_bind, Sem.run_pure, Result.andThen_ok, List.map_toArray, List.map_cons, List.map_nil, hs, hx, hrun]
    rw [← hu]
    exact hK _ _ (h u X (by simpa using hown) (grown_refl _ _) (Below.refl _ _))
  · obtain ⟨g, off, cap2, rfl, _, _, _, _, hcells⟩ := hr.form (by omega)
    refine wpList_append_own _ hgd s x t ho base e i z size bytes ht hi hz hsize hby hzs hsz u k cs hs hown ⟨g, off, none⟩ m cap2 cl hx hr.1 (fun j v hv => by rw [Addr.add_mid]; exact hcells j v hv) h1 hk hk2 hbase ?_
    intro v' w' hown' hgrow _
    exact h v' w' hown' hgrow ((Below.refl _ _).grown hgrow hbase (fun g hg => (own_block hown hg).1))
/-- Rows of a stretch of blocks that stay. -/
def Kept (lo hi : Nat) (w w' : World) : Prop := ∀ k, lo ≤ k → k < hi → w'.heap[k]? = w.heap[k]?
theorem Kept.refl (lo hi : Nat) (w : World) : Kept lo hi w w := fun _ _ _ => rfl
theorem Kept.trans {lo hi : Nat} {a b c : World} (h : Kept lo hi a b) (k : Kept lo hi b c) : Kept lo hi a c := fun i h1 h2 => (k i h1 h2).trans (h i h1 h2)
theorem Kept.of_below {lo hi : Nat} {a b : World} (h : Below a.heap.size a b) (hh : hi ≤ a.heap.size) : Kept lo hi a b := fun i _ h2 => h.block i (Nat.lt_of_lt_of_le h2 hh)
def Outside (lo hi : Nat) (v : Value) : Prop := ∀ b, v.ownBlock = some b → b < lo ∨ hi ≤ b
theorem Kept.of_grown {lo hi : Nat} {a b : World} {v : Value} (h : a.grownBy b v.ownBlock) (ho : Outside lo hi v) (hh : hi ≤ a.heap.size) : Kept lo hi a b := fun i h1 h2 => h.block i (Nat.lt_of_lt_of_le h2 hh) (fun e => by
  rcases ho i e.symm with h | h <;> omega)
theorem Outside.next {lo hi : Nat} {u v : Value} {X : World} (ho : Outside lo hi u) (h : v.ownBlock = u.ownBlock ∨ v.ownBlock = some X.heap.size) (hh : hi ≤ X.heap.size) : Outside lo hi v := fun b hb => by
  rcases h with h | h
  · exact ho b (by rw [← h]; exact hb)
  · rw [h] at hb; cases hb; exact .inr hh
theorem rd_kept {lo hi size n : Nat} {v : Value} {cs : List Value} {a b : World} (h : Rd lo hi size a v n cs) (k : Kept lo hi a b) (hs : a.heap.size ≤ b.heap.size) : Rd lo hi size b v n cs := h.other hs fun g h1 h2 _ => k g h1 h2
/-- append of one element, with what becomes of the row. -/
theorem wpList_app3 {P : Program} {ops : Array Oper} {rest : List Oper} {o : Oper} {a : Act} {Q : Exit → Act → World → Prop} {X : World} {n base k size bytes : Nat} {t e : TypeId} {i : TypeInfo} {z : Value} {cl cs : List Value} {u : Value} (hgd : o.guard = none) (s x : Operand)
    (ho : o.op = .call { callee := .builtin .append, args := #[s, x], argTypes := #[t, t] }) (ht : P.underlying t = some (.slice e)) (hi : P.info? e = some i) (hz : i.zero = some z) (hsize : i.size = size) (hby : i.bytes = bytes) (hzs : z.cells.size = size) (hsz : 0 < size)
    (hcl : cl.length = 1 * size) (h1 : ∀ u ∈ cl, u.oneCell' = true) (hs : a.eval s = u) (hx : a.eval x = .slice (some ⟨n, 0, none⟩) 1 1) (hown : X.ownsRow base e size u k cs) (hsrc : Blk X n e cl.toArray) (hk : k + 1 ≤ maxLen) (hk2 : (k + 1) * bytes ≤ 140737488355328) (hbase : base ≤ X.heap.size)
    (h : ∀ v' w', w'.ownsRow base e size v' (k + 1) (cs ++ cl) → X.grownBy w' u.ownBlock → Below base X w' → (v'.ownBlock = u.ownBlock ∨ v'.ownBlock = some X.heap.size) → wpList P ops Q rest (a.put o.dst v') w') : wpList P ops Q (o :: rest) a X := by
  refine wpList_append_own_at X hgd s x t ho base e i z size bytes ht hi hz hsize hby hzs hsz u k cs hs hown ⟨n, 0, none⟩ 1 1 cl hx hcl (blk_news hsrc) h1 hk hk2 hbase ?_
  intro v' w' hown' hgrow _ hat'
  exact h v' w' hown' hgrow ((Below.refl _ _).grown hgrow hbase (fun g hg => (own_block hown hg).1)) hat'
end Go.Proofs.YtnddfeidggcplaaGreat
