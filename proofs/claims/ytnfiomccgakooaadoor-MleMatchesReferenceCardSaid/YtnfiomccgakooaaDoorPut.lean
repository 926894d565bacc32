/-
  A block that is written, and what stays: stores of whole values, in the walk's steps.
-/
import Derived.Test.YtnfiomccgakooaaDoorGt
import Derived.Test.YtnfiomccgakooaaDoorRgL
namespace Go.Proofs.YtnfiomccgakooaaDoor
open Go.RowKit

/-- Only block g may have turned; no block is new. -/
structure Put (w X : World) (g : Nat) : Prop where
  os : X.os = w.os
  tape : X.tape = w.tape
  output : X.output = w.output
  size : X.heap.size = w.heap.size
  other : ∀ k, k ≠ g → X.heap[k]? = w.heap[k]?
theorem Put.refl (w : World) (g : Nat) : Put w w g := ⟨rfl, rfl, rfl, rfl, fun _ _ => rfl⟩
theorem Put.trans {a b c : World} {g : Nat} (h : Put a b g) (k : Put b c g) : Put a c g := ⟨k.os.trans h.os, k.tape.trans h.tape, k.output.trans h.output, k.size.trans h.size, fun i hi => (k.other i hi).trans (h.other i hi)⟩
theorem Put.set (w : World) (g i : Nat) (v : Value) : Put w (w.setCell ⟨g, i, none⟩ v) g := ⟨rfl, rfl, rfl, by simp [World.setCell], fun k hk => Below.heap_setCell w ⟨g, i, none⟩ v k hk⟩
theorem Put.below {w X : World} {g N : Nat} (h : Put w X g) (hN : N ≤ g) : Below N w X := ⟨h.os, h.tape, h.output, by rw [h.size]; exact Nat.le_refl _, fun k hk => h.other k (by omega)⟩
theorem Put.blk {w X : World} {g b : Nat} {t : TypeId} {cs : Array Value} (h : Put w X g) (hb : Blk w b t cs) (hne : b ≠ g) : Blk X b t cs := (h.other b hne).trans hb
theorem Put.rd {w X : World} {g lo hi size n : Nat} {v : Value} {cs : List Value} (h : Put w X g) (hr : Rd lo hi size w v n cs) (hne : g < lo ∨ hi ≤ g) : Rd lo hi size X v n cs :=
  hr.other (by rw [h.size]; exact Nat.le_refl _) fun k h1 h2 _ => h.other k (by omega)
theorem below_put {N : Nat} {a w X : World} {g : Nat} (h : Below N a w) (p : Put w X g) (hN : N ≤ g) : Below N a X := h.trans (p.below hN)

def spl (cs : Array Value) : Nat → List Value → Array Value
  | _, [] => cs
  | i, v :: vs => spl (cs.setIfInBounds i v) (i + 1) vs
theorem put_setCells {g : Nat} {t : TypeId} : ∀ (vs : List Value) (i : Nat) (cs : Array Value) (w : World), Blk w g t cs → Put w (w.setCells g i vs) g ∧ Blk (w.setCells g i vs) g t (spl cs i vs)
  | [], i, cs, w, h => ⟨Put.refl _ _, h⟩
  | v :: vs, i, cs, w, h => by
    obtain ⟨h1, h2⟩ := put_setCells vs (i + 1) (cs.setIfInBounds i v) (w.setCell ⟨g, i, none⟩ v) (h.set_ i v)
    exact ⟨(Put.set w g i v).trans h1, h2⟩
/-- A store of a whole value into a block of one's own. -/
theorem wpList_put {P : Program} {ops : Array Oper} {rest : List Oper} {o : Oper} {a : Act} {w : World} {Q : Exit → Act → World → Prop} {g i : Nat} {t : TypeId} {cs new : Array Value} {cells : List Value} (hgd : o.guard = none) (ty : TypeId) (x y : Operand) (ho : o.op = .store ty x y)
    (hx : a.eval x = .pointer (some ⟨g, i, none⟩)) (hy : a.eval y = .agg cells.toArray) (hb : Blk w g t cs) (hi : i + cells.length ≤ cs.size) (hz : (P.info? ty).map (·.size) = some cells.length) (h1 : cells.all (·.oneCell') = true) (hn : spl cs i cells = new)
    (h : ∀ X, Put w X g → Blk X g t new → wpList P ops Q rest (a.put o.dst undef) X) : wpList P ops Q (o :: rest) a w := by
  refine wpList_store_mid hgd ty x y ho g i cells.toArray hx hy ?_ (by simpa using hz) (by simpa using h1) ?_
  · intro j hj
    refine ⟨?_, hb.frozen _⟩
    rw [hb.cell]
    simp only [List.size_toArray] at hj
    rw [Array.getElem?_eq_getElem (by omega)]
    rfl
  · obtain ⟨q1, q2⟩ := put_setCells cells i cs w hb
    rw [hn] at q2
    exact h _ q1 q2
theorem Put.grw {W0 w X : World} {g : Nat} (h : Put w X g) (hw : Grw W0 w) (hg : W0.heap.size ≤ g) : Grw W0 X := grw_of (below_put (grw_below hw) h hg)
/-- The same, in a tail that keeps the world's condition. -/
theorem wpListC_put {P : Program} {ops : Array Oper} {rest : List Oper} {o : Oper} {a : Act} {W0 w : World} {Q : Exit → Act → World → Prop} {g i : Nat} {t : TypeId} {cs new : Array Value} {cells : List Value} (hgd : o.guard = none) (ty : TypeId) (x y : Operand) (ho : o.op = .store ty x y)
    (hx : a.eval x = .pointer (some ⟨g, i, none⟩)) (hy : a.eval y = .agg cells.toArray) (hb : Blk w g t cs) (hi : i + cells.length ≤ cs.size) (hz : (P.info? ty).map (·.size) = some cells.length) (h1 : cells.all (·.oneCell') = true) (hn : spl cs i cells = new)
    (hw : Grw W0 w) (hg : W0.heap.size ≤ g)
    (h : ∀ X, Put w X g → Blk X g t new → Grw W0 X → wpListC P ops Q (Grw W0) rest (a.put o.dst undef) X) : wpListC P ops Q (Grw W0) (o :: rest) a w := by
  refine ⟨hgd, wp_store_mid ty x y ho g i cells.toArray hx hy ?_ (by simpa using hz) (by simpa using h1) ?_⟩
  · intro j hj
    refine ⟨?_, hb.frozen _⟩
    rw [hb.cell]
    simp only [List.size_toArray] at hj
    rw [Array.getElem?_eq_getElem (by omega)]
    rfl
  · obtain ⟨q1, q2⟩ := put_setCells cells i cs w hb
    rw [hn] at q2
    exact ⟨q1.grw hw hg, h _ q1 q2 (q1.grw hw hg)⟩
section
variable {M : World → Prop} {w : World} {g : Nat} {t : TypeId} {cs : Array Value}
theorem set1 {i : Nat} {v : Value} (b : Blk w g t cs) (h : ∀ X, Put w X g → Blk X g t (cs.setIfInBounds i v) → M X) : M (w.setCell ⟨g, i, none⟩ v) := h _ (Put.set w g i v) (b.set_ i v)
theorem set2 {i j : Nat} {v u : Value} (b : Blk w g t cs) (h : ∀ X, Put w X g → Blk X g t ((cs.setIfInBounds i v).setIfInBounds j u) → M X) : M ((w.setCell ⟨g, i, none⟩ v).setCell ⟨g, j, none⟩ u) :=
  h _ ((Put.set w g i v).trans (Put.set _ g j u)) ((b.set_ i v).set_ j u)
theorem set6 {i0 i1 i2 i3 i4 i5 : Nat} {v0 v1 v2 v3 v4 v5 : Value} (b : Blk w g t cs) (h : ∀ X, Put w X g → Blk X g t ((((((cs.setIfInBounds i0 v0).setIfInBounds i1 v1).setIfInBounds i2 v2).setIfInBounds i3 v3).setIfInBounds i4 v4).setIfInBounds i5 v5) → M X) :
    M ((((((w.setCell ⟨g, i0, none⟩ v0).setCell ⟨g, i1, none⟩ v1).setCell ⟨g, i2, none⟩ v2).setCell ⟨g, i3, none⟩ v3).setCell ⟨g, i4, none⟩ v4).setCell ⟨g, i5, none⟩ v5) :=
  h _ ((((((Put.set w g i0 v0).trans (Put.set _ g i1 v1)).trans (Put.set _ g i2 v2)).trans (Put.set _ g i3 v3)).trans (Put.set _ g i4 v4)).trans (Put.set _ g i5 v5)) ((((((b.set_ i0 v0).set_ i1 v1).set_ i2 v2).set_ i3 v3).set_ i4 v4).set_ i5 v5)
end
end Go.Proofs.YtnfiomccgakooaaDoor
