/-
  The iterator over the weights of a point's coordinates.
  The iterator over weighted gates; the functions that yield the two iterators.
-/
import Derived.Test.YtnddfeidggcplaaGreatCo
import Derived.RangeFuncNested
import Derived.RangeFuncBound
import Derived.RangeFuncCalls
import Derived.RangeFuncLeaves
import Derived.Shelf.Abstract
import Derived.Shelf.RegionOpen
import Derived.WalkKit
import Derived.OwnWalkIn
import Derived.TacticsInMore
import Derived.LoopNIn
import Derived.LoopIn
namespace Go.Proofs.YtnddfeidggcplaaGreat
open Go.RowKit
attribute [local go_sem] Oper.semAt_some

/-- The blocks that a round must keep. -/
structure Keeps (S : Nat → Prop) (W W' : World) : Prop where
  size : W.heap.size ≤ W'.heap.size
  same : ∀ g, S g → g < W.heap.size → W'.heap[g]? = W.heap[g]?
theorem Keeps.refl {S : Nat → Prop} (W : World) : Keeps S W W := ⟨Nat.le_refl _, fun _ _ _ => rfl⟩
theorem Keeps.trans {S : Nat → Prop} {A B C : World} (h : Keeps S A B) (k : Keeps S B C) : Keeps S A C := ⟨Nat.le_trans h.size k.size, fun g hg hl => (k.same g hg (Nat.lt_of_lt_of_le hl h.size)).trans (h.same g hg hl)⟩
theorem Keeps.of_below {S : Nat → Prop} {A B : World} (h : Below A.heap.size A B) : Keeps S A B := ⟨h.size, fun g _ hl => h.block g hl⟩
theorem Keeps.cell {S : Nat → Prop} {A B : World} (h : Keeps S A B) {g i : Nat} {v : Value} (hg : S g) (hc : A.cell? ⟨g, i, none⟩ = some v) : B.cell? ⟨g, i, none⟩ = some v := by
  rcases Nat.lt_or_ge g A.heap.size with hl | hl
  · exact (World.cell?_of_block (w := A) (a := ⟨g, i, none⟩) (h.same g hg hl)).trans hc
  · simp only [World.cell?] at hc; rw [Array.getElem?_eq_none hl] at hc; cases hc
theorem Keeps.rd {S : Nat → Prop} {lo hi size n : Nat} {w w' : World} {v : Value} {cs : List Value} (h : Rd lo hi size w v n cs) (hk : Keeps S w w') (hS : ∀ g, lo ≤ g → g < hi → S g) : Rd lo hi size w' v n cs :=
  h.other hk.size fun g h1 h2 h3 => hk.same g (hS g h1 h2) h3
theorem grown_of_below {w w' : World} (h : Below w.heap.size w w') : w.grownBy w' none := ⟨h.os, h.tape, h.output, h.size, fun k hk _ => h.block k hk⟩
theorem below_of_grown {w w' : World} (h : w.grownBy w' none) : Below w.heap.size w w' := ⟨h.os, h.tape, h.output, h.size, fun k hk => h.block k hk (by simp)⟩
theorem abides {β : Type} {B : Nat} {J : β → World → Prop} (h : AbidesFrom B J) {s : β} {w w' : World} (hJ : J s w) (hb : Below w.heap.size w w') : J s w' := h s w w' none hJ (grown_of_below hb) (fun r e => by cases e)

theorem wpIn_stk1 {F : Fence} {n : Nat} {P : Program} {c : Code} {Q : Exit → Act → World → Prop} {a : Act} {w : World} {c1 : Array Value} {t1 : TypeId} (h : ∀ W, Below w.heap.size w W → Hid (W.heap.size = w.heap.size + 1) → Blk W (w.heap.size) t1 c1 → Code.wpIn F n P c Q a W) : Code.wpIn F n P c Q a (w.alloc (.cells c1 t1)) := stk1 (M := fun W => Code.wpIn F n P c Q a W) h
/-- The variable that holds one. -/
def Laid (w : World) : Prop := w.cell? ⟨0, 0, none⟩ = some (.int .u64 (fv (1 : E).a)) ∧ w.cell? ⟨0, 1, none⟩ = some (.int .u64 (fv (1 : E).b)) ∧ 0 < w.heap.size
theorem Laid.below {N : Nat} {w w' : World} (h : Laid w) (hb : Below N w w') (hN : 0 < N) : Laid w' := ⟨(hb.cell (p := ⟨0, 0, none⟩) hN).trans h.1, (hb.cell (p := ⟨0, 1, none⟩) hN).trans h.2.1, Nat.lt_of_lt_of_le h.2.2 hb.size⟩
theorem Laid.keep {w w' : World} (h : Laid w) (hb : Below w.heap.size w w') : Laid w' := h.below hb h.2.2

end Go.Proofs.YtnddfeidggcplaaGreat
namespace Go.Proofs.YtnddfeidggcplaaGreat
open Go.RowKit
attribute [local go_sem] Oper.semAt_some

end Go.Proofs.YtnddfeidggcplaaGreat
