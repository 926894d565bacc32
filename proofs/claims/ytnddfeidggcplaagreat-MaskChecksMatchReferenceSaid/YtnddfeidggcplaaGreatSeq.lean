/-
  A range over an iterator whose rounds all go on: the law of the kit, cut to what the program's loops need; the loop variables lie in blocks of their own.
-/
import Derived.Test.YtnddfeidggcplaaGreatWt2
namespace Go.Proofs.YtnddfeidggcplaaGreat
open Go.RowKit

theorem keepsOthers_of_below {W W' : World} (h : Below W.heap.size W W') : KeepsOthers W W' :=
  ⟨h.size, fun k _ hk _ => (h.block k (Array.getElem?_eq_some_iff.1 hk).1).trans hk⟩
theorem keepsOthers_of_grown {W W' : World} {row : Option Nat} (h : W.grownBy W' row) (hr : ∀ j o, row = some j → W.heap[j]? = some o → o.isCells = true) : KeepsOthers W W' :=
  KeepsOthers.of_grownBy h hr
theorem blk_own {β : Type} {B g : Nat} {t : TypeId} {cs : Array Value} : OwnFrom B (fun (_ : β) W => Blk W g t cs) := fun s W W' row hs hg hr =>
  (hg.block g hs.lt (fun e => by
    obtain ⟨_, o, ho, hc⟩ := hr g e.symm
    rw [show W.heap[g]? = _ from hs] at ho; cases ho; cases hc)).trans hs

def boxAct {α : Type} (p1 p2 : Tmp) (e1 e2 : α → Value) (a : Act) (x : α) : Array Value := (a.tmps.setIfInBounds p1 (e1 x)).setIfInBounds p2 (e2 x)
theorem boxAct_eq {α : Type} (p1 p2 : Tmp) (e1 e2 : α → Value) (a : Act) (x : α) : ((#[p1, p2] : Array Tmp).zip (#[e1 x, e2 x] : Array Value)).foldl (fun t (p, v) => t.setIfInBounds p v) a.tmps = boxAct p1 p2 e1 e2 a x := by
  simp [boxAct]

theorem wpIn_seq1 {α : Type} {n : Nat} {P : Program} {g : Operand} {p1 p2 : Tmp} {assign body : Code} {Q : Exit → Act → World → Prop} {a : Act} {w : World} {gf : Nat} {lb : Array Value} {e1 e2 : α → Value} {S : Nat → Prop} {xs : List α} {N : Nat}
    (hseq : SeqStopsK .wide (n - 1) P gf lb (fun x => #[e1 x, e2 x]) (Keeps S) (fun ys => ys = xs) (fun _ => True) N w) (h1 : 1 ≤ n) (hg : a.eval g = .func (.func gf) #[] lb) (eg : ∀ args w, (callFunc gf args).run P w = .ok (.enter gf args) w)
    (hS : ∀ g, S g → g < w.heap.size) (I : List α → World → Prop) (hI : OwnFrom w.heap.size I) (hIs : ∀ pre W, I pre W → w.heap.size ≤ W.heap.size) (h0 : I [] w) (slot : Tmp) (t : TypeId) (cx : α → Array Value)
    (hassign : ∀ (l : Nat) (x : α) (W : World) (K : Act → World → Prop), (∀ a' W', a' = { tmps := (boxAct p1 p2 e1 e2 a x).setIfInBounds slot (.pointer (some ⟨W.heap.size, 0, none⟩)), defers := [] } → W' = W.alloc (.cells (cx x) t) → K a' W') →
      assign.wpIn (Fence.wide.inRound l) (n - 1 - 1) P (Exit.then K (fun _ _ _ => False)) { tmps := boxAct p1 p2 e1 e2 a x, defers := [] } W)
    (hbody : ∀ (l : Nat) (pre : List α) (x : α) (Bx : Nat) (W : World) (a' : Act), a' = { tmps := (boxAct p1 p2 e1 e2 a x).setIfInBounds slot (.pointer (some ⟨Bx, 0, none⟩)), defers := [] } → I pre W → w.heap.size ≤ Bx → Blk W Bx t (cx x) → pre.length < N →
      body.wpIn (Fence.wide.inRound l) (n - 1 - 1) P (fun e _ W' => e = .normal ∧ KeepsOthers W W' ∧ Keeps S W W' ∧ I (pre ++ [x]) W') a' W)
    (hdone : ∀ (D : Nat) (W : World), w.heap.size ≤ D → I xs W → W.heap[D]? = some (.deferred (some [])) → Q .normal { a with defers := { target := .collected D, args := #[] } :: a.defers } W) :
    (Code.rangeFunc g #[p1, p2] assign body).wpIn .wide n P Q a w := by
  refine wpIn_rangeFunc_ownH rfl h1 hg trivial eg hseq (fun h k => h.trans k) ?_ (Below.refl _ _) (fun _ => rfl) I (fun _ _ _ => False) hI (fun _ _ _ _ _ h _ _ => h) h0
    (fun x a' W => ∃ Bx, w.heap.size ≤ Bx ∧ Blk W Bx t (cx x) ∧ a' = { tmps := (boxAct p1 p2 e1 e2 a x).setIfInBounds slot (.pointer (some ⟨Bx, 0, none⟩)), defers := [] }) ?_ ?_ ?_ ?_ ?_
  · intro W l o o' hl h _ _
    exact ⟨by simp, fun g hg _ => World.putObj_heap_other (by have := hS g hg; omega)⟩
  · rintro x a' s W W' row ⟨Bx, h2, h3, h4⟩ hg hr
    exact ⟨Bx, h2, blk_own (β := Unit) () W W' row h3 hg hr, h4⟩
  · intro l pre x W K hi hK
    rw [boxAct_eq]
    refine hassign l x W K ?_
    rintro a' W' ha rfl
    have hb : Below W.heap.size W (W.alloc (.cells (cx x) t)) := (Below.refl _ _).alloc (Nat.le_refl _) _
    exact hK a' _ ((keepsOthers_of_below hb).from _) (Keeps.of_below hb) (hI _ _ _ none hi (grown_of_below hb) (fun r e => by cases e)) ⟨W.heap.size, hIs _ _ hi, Blk.new _ _ _, ha⟩
  · rintro l pre x a' W _ _ hi ⟨Bx, h2, h3, h4⟩ hlt
    refine wpIn_mono (hbody l pre x Bx W a' h4 hi h2 h3 hlt) ?_
    rintro e a2 W2 ⟨rfl, hk, hk2, hi2⟩
    exact ⟨hk.from _, hk2, hi2⟩
  · rintro D ys W hD rfl hi hK
    exact hdone D W hD hi hK
  · rintro D c pre W _ _ h _
    exact h.elim
theorem wpIn_seq2 {α : Type} {n : Nat} {P : Program} {g : Operand} {p1 p2 : Tmp} {assign body : Code} {Q : Exit → Act → World → Prop} {a : Act} {w : World} {gf : Nat} {lb : Array Value} {e1 e2 : α → Value} {S : Nat → Prop} {xs : List α} {N : Nat}
    (hseq : SeqStopsK .wide (n - 1) P gf lb (fun x => #[e1 x, e2 x]) (Keeps S) (fun ys => ys = xs) (fun _ => True) N w) (h1 : 1 ≤ n) (hg : a.eval g = .func (.func gf) #[] lb) (eg : ∀ args w, (callFunc gf args).run P w = .ok (.enter gf args) w)
    (hS : ∀ g, S g → g < w.heap.size) (I : List α → World → Prop) (hI : OwnFrom w.heap.size I) (hIs : ∀ pre W, I pre W → w.heap.size ≤ W.heap.size) (h0 : I [] w) (slot : Tmp) (t : TypeId) (cx : α → Array Value) (slot2 : Tmp) (t2 : TypeId) (cx2 : α → Array Value)
    (hassign : ∀ (l : Nat) (x : α) (W : World) (K : Act → World → Prop), (∀ a' W', a' = { tmps := ((boxAct p1 p2 e1 e2 a x).setIfInBounds slot (.pointer (some ⟨W.heap.size, 0, none⟩))).setIfInBounds slot2 (.pointer (some ⟨W.heap.size + 1, 0, none⟩)), defers := [] } → W' = (W.alloc (.cells (cx x) t)).alloc (.cells (cx2 x) t2) → K a' W') →
      assign.wpIn (Fence.wide.inRound l) (n - 1 - 1) P (Exit.then K (fun _ _ _ => False)) { tmps := boxAct p1 p2 e1 e2 a x, defers := [] } W)
    (hbody : ∀ (l : Nat) (pre : List α) (x : α) (Bx : Nat) (W : World) (a' : Act), a' = { tmps := ((boxAct p1 p2 e1 e2 a x).setIfInBounds slot (.pointer (some ⟨Bx, 0, none⟩))).setIfInBounds slot2 (.pointer (some ⟨Bx + 1, 0, none⟩)), defers := [] } → I pre W → w.heap.size ≤ Bx → Blk W Bx t (cx x) → Blk W (Bx + 1) t2 (cx2 x) → pre.length < N →
      body.wpIn (Fence.wide.inRound l) (n - 1 - 1) P (fun e _ W' => e = .normal ∧ KeepsOthers W W' ∧ Keeps S W W' ∧ I (pre ++ [x]) W') a' W)
    (hdone : ∀ (D : Nat) (W : World), w.heap.size ≤ D → I xs W → W.heap[D]? = some (.deferred (some [])) → Q .normal { a with defers := { target := .collected D, args := #[] } :: a.defers } W) :
    (Code.rangeFunc g #[p1, p2] assign body).wpIn .wide n P Q a w := by
  refine wpIn_rangeFunc_ownH rfl h1 hg trivial eg hseq (fun h k => h.trans k) ?_ (Below.refl _ _) (fun _ => rfl) I (fun _ _ _ => False) hI (fun _ _ _ _ _ h _ _ => h) h0
    (fun x a' W => ∃ Bx, w.heap.size ≤ Bx ∧ Blk W Bx t (cx x) ∧ Blk W (Bx + 1) t2 (cx2 x) ∧ a' = { tmps := ((boxAct p1 p2 e1 e2 a x).setIfInBounds slot (.pointer (some ⟨Bx, 0, none⟩))).setIfInBounds slot2 (.pointer (some ⟨Bx + 1, 0, none⟩)), defers := [] }) ?_ ?_ ?_ ?_ ?_
  · intro W l o o' hl h _ _
    exact ⟨by simp, fun g hg _ => World.putObj_heap_other (by have := hS g hg; omega)⟩
  · rintro x a' s W W' row ⟨Bx, h2, h3, h3', h4⟩ hg hr
    exact ⟨Bx, h2, blk_own (β := Unit) () W W' row h3 hg hr, blk_own (β := Unit) () W W' row h3' hg hr, h4⟩
  · intro l pre x W K hi hK
    rw [boxAct_eq]
    refine hassign l x W K ?_
    rintro a' W' ha rfl
    have hb : Below W.heap.size W ((W.alloc (.cells (cx x) t)).alloc (.cells (cx2 x) t2)) := ((Below.refl _ _).alloc (Nat.le_refl _) _).alloc (by simp) _
    exact hK a' _ ((keepsOthers_of_below hb).from _) (Keeps.of_below hb) (hI _ _ _ none hi (grown_of_below hb) (fun r e => by cases e)) ⟨W.heap.size, hIs _ _ hi, (Blk.new _ _ _).alloc _, Blk.new_at _ _ _ (by simp), ha⟩
  · rintro l pre x a' W _ _ hi ⟨Bx, h2, h3, h3', h4⟩ hlt
    refine wpIn_mono (hbody l pre x Bx W a' h4 hi h2 h3 h3' hlt) ?_
    rintro e a2 W2 ⟨rfl, hk, hk2, hi2⟩
    exact ⟨hk.from _, hk2, hi2⟩
  · rintro D ys W hD rfl hi hK
    exact hdone D W hD hi hK
  · rintro D c pre W _ _ h _
    exact h.elim
end Go.Proofs.YtnddfeidggcplaaGreat
