/-
  Plain mathematics, no program: the steps of Euclid's algorithm in the prime field.
  Plain mathematics, no program: the modulus is prime, Fermat's little theorem, seven is no square; so every element but zero has an inverse.
  Multilinear extensions: what the functions of chapter 05 compute, and its laws.
  Laws of the multilinear extension: sums, vertices, joined points, affine coordinates.
  Laws of the multilinear extension: weights, equality, streaming, sums of a table.
  The law of a region that draws its order, once more, for a region in which some loads may come late: behind the first of the forced stores. Such a load yields the same value wherever it stands, as long as each operation leaves what was there at the region's start as it was.
  The iterator over weighted gates; the functions that yield the two iterators.
  A range over an iterator whose rounds all go on: the law of the kit, cut to what the program's loops need; the loop variables lie in blocks of their own.
  A block that is written, and what stays: stores of whole values, in the walk's steps.
  The table of weights: what it is, and how it is made coordinate by coordinate.
  The table of weights: the walk.
  The sums of the wiring polynomials: a gate added.
  Worlds that have grown but for one row; append onto a slice of one's own, with what its new row is not; an empty slice literal in a region.
  Plain mathematics, no program: sums of products of tables, their round polynomials, the sum-check protocol.
  Plain mathematics, no program: the polynomial through values at 0, 1, .. , as the program and as the reference reckon it.
  The inverses: of a field element by Euclid's algorithm, and of an element of the extension, by contract.
  Sums of products of tables, as they lie in memory: slices of tables, slices of terms.
  The sum over all terms, for a function that gives the tables' values; Final, Total and Degree of package sumcheck, by contract.
  Final, Total and Degree of package sumcheck, by contract.
  Integers as elements, and the weights of the nodes, in packages field, ext and poly, by contract.
  The value of the polynomial through values at 0, 1, .. , as package poly reckons it, by contract.
  The functions of package mle that bind a variable in place, and Eval, by contract.
  Bind of package sumcheck, by contract.
  Slices of slices that a call builds of its own, by append.
  A variable of a great type that begins with its zero value.
-/
import Derived.Test.YtoiampgfnidfdaaGreatDoorExt2
import Derived.Test.YtoiampgfnidfdaaGreatDoorShc
import Derived.Test.YtoiampgfnidfdaaGreatDoorRg
import Derived.OrdersHeld
import Derived.Deep.MidRow
import Derived.Deep.Upon
import Derived.Deep.AppendSrc
import Derived.WalkMore
import Derived.Deep.Cut
namespace Go.Proofs.YtoiampgfnidfdaaGreatDoor
def fn (k : Nat) : Fp := Fin.ofNat PP k
end Go.Proofs.YtoiampgfnidfdaaGreatDoor
namespace Go.Proofs.YtoiampgfnidfdaaGreatDoor

/-! ### Powers -/
section
variable {n : Nat} [NeZero n]
end
/-! ### Pigeonholes -/
/-! ### The modulus -/
/-! ### Fermat -/
end Go.Proofs.YtoiampgfnidfdaaGreatDoor
namespace Go.Proofs.YtoiampgfnidfdaaGreatDoor

theorem sel_succ (i k : Nat) (x : E) : sel i (k + 1) x = sel (i / 2) k x := by
  unfold sel
  rw [Nat.pow_succ', ← Nat.div_div_eq_div_mul]
theorem wt_cons (r : E) (p : List E) (i : Nat) : ∀ k, wt (r :: p) i (k + 1) = sel i 0 r * wt p (i / 2) k
  | 0 => by
    show 1 * sel i 0 r = sel i 0 r * 1
    rw [E.mul_one, E.one_mul]
  | k + 1 => by
    rw [wt, wt_cons r p i k, wt, E.mul_assoc, sel_succ]
    rfl
theorem eqi_nil (i : Nat) : eqi i [] = 1 := rfl
theorem eqi_cons (i : Nat) (r : E) (p : List E) : eqi i (r :: p) = sel i 0 r * eqi (i / 2) p := wt_cons r p i p.length
theorem sel_even (i : Nat) (r : E) : sel (2 * i) 0 r = 1 - r := by unfold sel; rw [if_neg (by simp)]
theorem sel_odd (i : Nat) (r : E) : sel (2 * i + 1) 0 r = r := by unfold sel; rw [if_pos (by simp)]
def bindL : List E → E → List E
  | x :: y :: t, r => (x + r * (y - x)) :: bindL t r
  | _, _ => []
def evalL : List E → List E → List E
  | t, [] => t
  | t, r :: p => evalL (bindL t r) p
theorem bindL_length (r : E) : ∀ (n : Nat) (t : List E), t.length = 2 * n → (bindL t r).length = n
  | 0, [], _ => rfl
  | n + 1, x :: y :: t, h => by
    show (bindL t r).length + 1 = n + 1
    rw [bindL_length r n t (by simp only [List.length_cons] at h; omega)]
  | 0, _ :: _, h => by simp at h
  | n + 1, [], h => by simp at h
  | n + 1, [_], h => by simp at h; omega
def mev (t p : List E) : E := (evalL t p).headD 0
def dotF (p : List E) : Nat → List E → E
  | _, [] => 0
  | s, x :: t => x * eqi s p + dotF p (s + 1) t
theorem dot_bind (r : E) (p : List E) : ∀ (n : Nat) (t : List E) (s : Nat), t.length = 2 * n → dotF (r :: p) (2 * s) t = dotF p s (bindL t r)
  | 0, [], _, _ => rfl
  | n + 1, x :: y :: t, s, h => by
    rw [dotF, dotF, bindL, dotF, show 2 * s + 1 + 1 = 2 * (s + 1) by omega, dot_bind r p n t (s + 1) (by simp only [List.length_cons] at h; omega), eqi_cons, eqi_cons, sel_even, sel_odd, show 2 * s / 2 = s by omega, show (2 * s + 1) / 2 = s by omega]
    generalize dotF p (s + 1) (bindL t r) = d
    generalize eqi s p = m
    apply E.ext_ <;> simp only [mul_a, mul_b, add_a, add_b, sub_a, sub_b, one_a, one_b] <;> grind
  | 0, _ :: _, _, h => by simp at h
  | n + 1, [], _, h => by simp at h
  | n + 1, [_], _, h => by simp at h; omega
theorem mev_dot : ∀ (p t : List E), t.length = 2 ^ p.length → mev t p = dotF p 0 t
  | [], t, h => by
    match t, h with
    | [x], _ =>
      show x = x * 1 + 0
      rw [E.mul_one, E.add_zero]
  | r :: p, t, h => by
    have h2 : t.length = 2 * 2 ^ p.length := by rw [h, List.length_cons, Nat.pow_succ']
    show mev (bindL t r) p = _
    rw [mev_dot p _ (bindL_length r _ t h2), ← dot_bind r p _ t 0 h2]
def dotE (t p : List E) (j : Nat) : E := esum ((List.range j).map fun i => t.getD i 0 * eqi i p)
theorem dotF_esum (p : List E) : ∀ (t : List E) (s : Nat), dotF p s t = esum ((List.range t.length).map fun i => t.getD i 0 * eqi (s + i) p)
  | [], _ => rfl
  | x :: t, s => by
    rw [dotF, dotF_esum p t (s + 1), List.length_cons, List.range_succ_eq_map, List.map_cons, List.map_map]
    show _ = x * eqi (s + 0) p + esum _
    rw [Nat.add_zero]
    congr 2
    apply List.map_congr_left
    intro i _
    simp only [Function.comp, List.getD_cons_succ]
    rw [show s + (i + 1) = s + 1 + i by omega]
theorem dotE_all (t p : List E) (h : t.length = 2 ^ p.length) : dotE t p t.length = mev t p := by
  rw [mev_dot p t h, dotF_esum]
  unfold dotE
  congr 1
  apply List.map_congr_left
  intro i _
  rw [Nat.zero_add]
end Go.Proofs.YtoiampgfnidfdaaGreatDoor
namespace Go.Proofs.YtoiampgfnidfdaaGreatDoor

section
variable {α : Type}
theorem esum_add (f g : α → E) : ∀ l : List α, esum (l.map fun x => f x + g x) = esum (l.map f) + esum (l.map g)
  | [] => by simp only [List.map_nil, esum, E.add_zero]
  | x :: l => by
    simp only [List.map_cons, esum]
    rw [esum_add f g l]
    generalize esum (l.map f) = a
    generalize esum (l.map g) = b
    apply E.ext_ <;> simp only [add_a, add_b] <;> grind
theorem esum_map_zero (f : α → E) : ∀ (l : List α), (∀ t ∈ l, f t = 0) → esum (l.map f) = 0
  | [], _ => rfl
  | t :: l, h => by
    show f t + esum (l.map f) = 0
    rw [h t (List.mem_cons_self ..), esum_map_zero f l (fun t ht => h t (List.mem_cons_of_mem _ ht)), E.add_zero]
theorem esum_single (f : Nat → E) (j : Nat) : ∀ n, esum ((List.range n).map fun i => if j = i then f i else 0) = if j < n then f j else 0
  | 0 => rfl
  | n + 1 => by
    rw [List.range_succ, List.map_append, esum_append, esum_single f j n]
    show _ + ((if j = n then f n else 0) + 0) = _
    rw [E.add_zero]
    rcases Nat.lt_trichotomy j n with h | h | h
    · rw [if_pos h, if_neg (by omega), if_pos (by omega), E.add_zero]
    · subst h; rw [if_neg (by omega), if_pos rfl, if_pos (by omega), E.zero_add]
    · rw [if_neg (by omega), if_neg (by omega), if_neg (by omega), E.add_zero]
end
theorem mev_sum (t p : List E) (h : t.length = 2 ^ p.length) : mev t p = esum ((List.range (2 ^ p.length)).map fun i => t.getD i 0 * eqi i p) := by
  rw [← dotE_all t p h, ← h]; rfl
end Go.Proofs.YtoiampgfnidfdaaGreatDoor
namespace Go.Proofs.YtoiampgfnidfdaaGreatDoor

theorem mev_add (t p : List E) (a : Nat) (d : E) (h : t.length = 2 ^ p.length) (ha : a < 2 ^ p.length) : mev (t.set a (t.getD a 0 + d)) p = mev t p + d * eqi a p := by
  rw [mev_sum t p h, mev_sum _ p (by rw [List.length_set]; exact h)]
  have e : (List.range (2 ^ p.length)).map (fun i => (t.set a (t.getD a 0 + d)).getD i 0 * eqi i p) = (List.range (2 ^ p.length)).map fun i => t.getD i 0 * eqi i p + (if a = i then d * eqi i p else 0) := by
    apply List.map_congr_left
    intro i hi
    have hi' : i < t.length := by rw [h]; exact List.mem_range.1 hi
    by_cases hai : a = i
    · subst hai
      rw [if_pos rfl]
      simp only [List.getD_eq_getElem?_getD, List.getElem?_set_self hi', Option.getD_some]
      exact E.add_mul _ _ _
    · rw [if_neg hai, E.add_zero]
      simp only [List.getD_eq_getElem?_getD, List.getElem?_set_ne hai]
  rw [e, esum_add, esum_single (fun i => d * eqi i p), if_pos ha]
theorem mev_zero (n : Nat) (p : List E) (h : n = 2 ^ p.length) : mev (List.replicate n 0) p = 0 := by
  rw [mev_sum _ p (by simp [h])]
  apply esum_map_zero
  intro i hi
  have : i < n := by rw [h]; exact List.mem_range.1 hi
  simp only [List.getD_eq_getElem?_getD, List.getElem?_replicate, this, if_true, Option.getD_some]
  exact E.zero_mul _
/-! ### Finite differences -/
end Go.Proofs.YtoiampgfnidfdaaGreatDoor
namespace Go.Proofs.YtoiampgfnidfdaaGreatDoor
open Go Go.RowKit

def sinkL (ops : Array Oper) (n : Nat) (L : List Nat) : Bool := (List.range n).all fun i => L.contains i || (List.range (n + 1)).any fun j => decide (i < j) && Region.waitsFor .any ops j i
section
variable {P : Program} {ops : Array Oper} {n : Nat} {B : List Nat} {Sp : List (Nat × Spec)} {C : World → Prop} {N0 : Nat} {a0 : Act}
theorem listed_both {listed : Array Bool} {i : Nat} (h : listed.getD i true = false) : listed.getD i false = false := by
  rcases Nat.lt_or_ge i listed.size with h' | h'
  · simp [h'] at h ⊢; exact h
  · simp [Array.getElem?_eq_none h'] at h
theorem tail_waitsL {L : List Nat} {listed : Array Bool} (hs : sinkL ops n L = true) (hc : Region.chainB .any ops n = true) (hn : n < ops.size) (inv : HeadInv .any ops n listed) (hL : ∀ i ∈ L, i < n → listed.getD i true = true) :
    ∀ (d i : Nat), n - i = d → i < n → listed.getD i true = false → ∀ t, n ≤ t → t ∉ Region.ready .any ops listed := by
  intro d
  induction d using Nat.strongRecOn with
  | _ d ih =>
    intro i hd hi hun t ht hr
    obtain ⟨_, ot, hot, hall⟩ := mem_ready.1 hr
    have htlt : t < ops.size := (Array.getElem?_eq_some_iff.1 hot).1
    have h1 := List.all_eq_true.1 hs i (List.mem_range.2 hi)
    have hiL : ¬ i ∈ L := fun h => by have := hL i h hi; rw [this] at hun; cases hun
    simp only [Bool.or_eq_true, List.contains_iff_mem, hiL, false_or, List.any_eq_true, List.mem_range, Bool.and_eq_true, decide_eq_true_eq] at h1
    obtain ⟨j, hj, hij, hw⟩ := h1
    obtain ⟨oj, hoj, e, he, hb, hon⟩ := Region.waitsFor_spec hw
    by_cases hjn : j = n
    · subst hjn
      by_cases htj : t = j
      · subst htj
        obtain rfl : ot = oj := Option.some.inj (hot.symm.trans hoj)
        have := hall e he hb
        rw [hon, listed_both hun] at this
        cases this
      · have h2 := List.all_eq_true.1 hc t (List.mem_range.2 htlt)
        simp only [Bool.or_eq_true, decide_eq_true_eq] at h2
        rcases h2 with h2 | h2
        · omega
        · obtain ⟨o2, ho2, e2, he2, hb2, hon2⟩ := Region.waitsFor_spec h2
          obtain rfl : ot = o2 := Option.some.inj (hot.symm.trans ho2)
          have := hall e2 he2 hb2
          rw [hon2, listed_both (inv.tail (t - 1) (by omega) (by omega))] at this
          cases this
    · have hjun : listed.getD j true = false := by
        cases hjl : listed.getD j false with
        | true =>
          have := inv.closed j oj hoj hjl e he hb
          rw [hon, listed_both hun] at this
          cases this
        | false =>
          have hjs : j < listed.size := by rw [inv.size]; omega
          simp [hjs] at hjl ⊢
          exact hjl
      exact ih (n - j) (by omega) j rfl (by omega) hjun t ht hr
end

end Go.Proofs.YtoiampgfnidfdaaGreatDoor
namespace Go.Proofs.YtoiampgfnidfdaaGreatDoor
open Go.RowKit
attribute [local go_sem] Oper.semAt_some

set_option maxRecDepth 100000 in
set_option maxHeartbeats 1000000 in
theorem wWeights (A : Option Addr) (k cap : Nat) (w : World) : Calls Tryz.prog 148 #[.slice A k cap] w fun e w' => e = .returned (.func (.func 163) #[] #[.pointer (some ⟨w.heap.size, 0, none⟩)]) ∧ w' = w.alloc (.cells #[.slice A k cap] 78) := by
  go_enter Tryz.func148, Tryz.ntmps148
  go_wp2
  go_ret
  exact ⟨rfl, rfl⟩
end Go.Proofs.YtoiampgfnidfdaaGreatDoor
namespace Go.Proofs.YtoiampgfnidfdaaGreatDoor
open Go.RowKit

theorem keepsOthers_of_below {W W' : World} (h : Below W.heap.size W W') : KeepsOthers W W' :=
  ⟨h.size, fun k _ hk _ => (h.block k (Array.getElem?_eq_some_iff.1 hk).1).trans hk⟩
theorem keepsOthers_of_grown {W W' : World} {row : Option Nat} (h : W.grownBy W' row) (hr : ∀ j o, row = some j → W.heap[j]? = some o → o.isCells = true) : KeepsOthers W W' :=
  KeepsOthers.of_grownBy h hr
theorem blk_own {β : Type} {B g : Nat} {t : TypeId} {cs : Array Value} : OwnFrom B (fun (_ : β) W => Blk W g t cs) := fun s W W' row hs hg hr =>
  (hg.block g hs.lt (fun e => by
    obtain ⟨_, o, ho, hc⟩ := hr g e.symm
    rw [show W.heap[g]? = _ from hs] at ho; cases ho; cases hc)).trans hs

def boxAct {α : Type} (p1 p2 : Tmp) (e1 e2 : α → Value) (a : Act) (x : α) : Array Value := (a.tmps.setIfInBounds p1 (e1 x)).setIfInBounds p2 (e2 x)
theorem boxAct_eq {α : Type} (p1 p2 : Tmp) (e1 e2 : α → Value) (a : Act) (x : α) : ((#[p1, p2] : Array Tmp).zip (#[e1 x, e2 x] : Array Value)).foldl (fun t (p, v) => t.setIfInBounds p v) a.tmps = boxAct p1 p2 e1 e2 a x := by
  simp [boxAct]

theorem wpIn_seq2 {α : Type} {n : Nat} {P : Program} {g : Operand} {p1 p2 : Tmp} {assign body : Code} {Q : Exit → Act → World → Prop} {a : Act} {w : World} {gf : Nat} {lb : Array Value} {e1 e2 : α → Value} {S : Nat → Prop} {xs : List α} {N : Nat}
    (hseq : SeqStopsK .wide (n - 1) P gf lb (fun x => #[e1 x, e2 x]) (Keeps S) (fun ys => ys = xs) (fun _ => True) N w) (h1 : 1 ≤ n) (hg : a.eval g = .func (.func gf) #[] lb) (eg : ∀ args w, (callFunc gf args).run P w = .ok (.enter gf args) w)
    (hS : ∀ g, S g → g < w.heap.size) (I : List α → World → Prop) (hI : OwnFrom w.heap.size I) (hIs : ∀ pre W, I pre W → w.heap.size ≤ W.heap.size) (h0 : I [] w) (slot : Tmp) (t : TypeId) (cx : α → Array Value) (slot2 : Tmp) (t2 : TypeId) (cx2 : α → Array Value)
    (hassign : ∀ (l : Nat) (x : α) (W : World) (K : Act → World → Prop), (∀ a' W', a' = { tmps := ((boxAct p1 p2 e1 e2 a x).setIfInBounds slot (.pointer (some ⟨W.heap.size, 0, none⟩))).setIfInBounds slot2 (.pointer (some ⟨W.heap.size + 1, 0, none⟩)), defers := [] } → W' = (W.alloc (.cells (cx x) t)).alloc (.cells (cx2 x) t2) → K a' W') →
      assign.wpIn (Fence.wide.inRound l) (n - 1 - 1) P (Exit.then K (fun _ _ _ => False)) { tmps := boxAct p1 p2 e1 e2 a x, defers := [] } W)
    (hbody : ∀ (l : Nat) (pre : List α) (x : α) (Bx : Nat) (W : World) (a' : Act), a' = { tmps := ((boxAct p1 p2 e1 e2 a x).setIfInBounds slot (.pointer (some ⟨Bx, 0, none⟩))).setIfInBounds slot2 (.pointer (some ⟨Bx + 1, 0, none⟩)), defers := [] } → I pre W → w.heap.size ≤ Bx → Blk W Bx t (cx x) → Blk W (Bx + 1) t2 (cx2 x) → pre.length < N →
      body.wpIn (Fence.wide.inRound l) (n - 1 - 1) P (fun e _ W' => e = .normal ∧ KeepsOthers W W' ∧ Keeps S W W' ∧ I (pre ++ [x]) W') a' W)
    (hdone : ∀ (D : Nat) (W : World), w.heap.size ≤ D → I xs W → W.heap[D]? = some (.deferred (some [])) → Q .normal { a with defers := { target := .collected D, args := #[] } :: a.defers } W) :
    (Code.rangeFunc g #[p1, p2] assign body).wpIn .wide n P Q a w := by
  refine wpIn_rangeFunc_ownH rfl h1 hg trivial eg hseq (fun h k => h.trans k) ?_ (Below.refl _ _) (fun _ => rfl) I (fun _ _ _ => False) hI (fun _ _ _ _ _ h _ _ => h) h0
    (fun x a' W => ∃ Bx, w.heap.size ≤ Bx ∧ Blk W Bx t (cx x) ∧ Blk W (Bx + 1) t2 (cx2 x) ∧ a' = { tmps := ((boxAct p1 p2 e1 e2 a x).setIfInBounds slot (.pointer (some ⟨Bx, 0, none⟩))).setIfInBounds slot2 (.pointer (some ⟨Bx + 1, 0, none⟩)), defers := [] }) ?_ ?_ ?_ ?_ ?_
  · intro W l o o' hl h _ _
    exact ⟨by simp, fun g hg _ => World.putObj_heap_other (by have := hS g hg; omega)⟩
  · rintro x a' s W W' row ⟨Bx, h2, h3, h3', h4⟩ hg hr
    exact ⟨Bx, h2, blk_own (β := Unit) () W W' row h3 hg hr, blk_own (β := Unit) () W W' row h3' hg hr, h4⟩
  · intro l pre x W K hi hK
    rw [boxAct_eq]
    refine hassign l x W K ?_
    rintro a' W' ha rfl
    have hb : Below W.heap.size W ((W.alloc (.cells (cx x) t)).alloc (.cells (cx2 x) t2)) := ((Below.refl _ _).alloc (Nat.le_refl _) _).alloc (by simp) _
    exact hK a' _ ((keepsOthers_of_below hb).from _) (Keeps.of_below hb) (hI _ _ _ none hi (grown_of_below hb) (fun r e => by cases e)) ⟨W.heap.size, hIs _ _ hi, (Blk.new _ _ _).alloc _, Blk.new_at _ _ _ (by simp), ha⟩
  · rintro l pre x a' W _ _ hi ⟨Bx, h2, h3, h3', h4⟩ hlt
    refine wpIn_mono (hbody l pre x Bx W a' h4 hi h2 h3 h3' hlt) ?_
    rintro e a2 W2 ⟨rfl, hk, hk2, hi2⟩
    exact ⟨hk.from _, hk2, hi2⟩
  · rintro D ys W hD rfl hi hK
    exact hdone D W hD hi hK
  · rintro D c pre W _ _ h _
    exact h.elim
end Go.Proofs.YtoiampgfnidfdaaGreatDoor
namespace Go.Proofs.YtoiampgfnidfdaaGreatDoor
open Go.RowKit

structure Put (w X : World) (g : Nat) : Prop where
  os : X.os = w.os
  tape : X.tape = w.tape
  output : X.output = w.output
  size : X.heap.size = w.heap.size
  other : ∀ k, k ≠ g → X.heap[k]? = w.heap[k]?
theorem Put.refl (w : World) (g : Nat) : Put w w g := ⟨rfl, rfl, rfl, rfl, fun _ _ => rfl⟩
theorem Put.trans {a b c : World} {g : Nat} (h : Put a b g) (k : Put b c g) : Put a c g := ⟨k.os.trans h.os, k.tape.trans h.tape, k.output.trans h.output, k.size.trans h.size, fun i hi => (k.other i hi).trans (h.other i hi)⟩
theorem Put.set (w : World) (g i : Nat) (v : Value) : Put w (w.setCell ⟨g, i, none⟩ v) g := ⟨rfl, rfl, rfl, by simp [World.setCell], fun k hk => Below.heap_setCell w ⟨g, i, none⟩ v k hk⟩
theorem Put.below {w X : World} {g N : Nat} (h : Put w X g) (hN : N ≤ g) : Below N w X := ⟨h.os, h.tape, h.output, by rw [h.size]; exact Nat.le_refl _, fun k hk => h.other k (by omega)⟩
theorem Put.blk {w X : World} {g b : Nat} {t : TypeId} {cs : Array Value} (h : Put w X g) (hb : Blk w b t cs) (hne : b ≠ g) : Blk X b t cs := (h.other b hne).trans hb
theorem Put.rd {w X : World} {g lo hi size n : Nat} {v : Value} {cs : List Value} (h : Put w X g) (hr : Rd lo hi size w v n cs) (hne : g < lo ∨ hi ≤ g) : Rd lo hi size X v n cs :=
  hr.other (by rw [h.size]; exact Nat.le_refl _) fun k h1 h2 _ => h.other k (by omega)
theorem below_put {N : Nat} {a w X : World} {g : Nat} (h : Below N a w) (p : Put w X g) (hN : N ≤ g) : Below N a X := h.trans (p.below hN)

def spl (cs : Array Value) : Nat → List Value → Array Value
  | _, [] => cs
  | i, v :: vs => spl (cs.setIfInBounds i v) (i + 1) vs
theorem put_setCells {g : Nat} {t : TypeId} : ∀ (vs : List Value) (i : Nat) (cs : Array Value) (w : World), Blk w g t cs → Put w (w.setCells g i vs) g ∧ Blk (w.setCells g i vs) g t (spl cs i vs)
  | [], i, cs, w, h => ⟨Put.refl _ _, h⟩
  | v :: vs, i, cs, w, h => by
    obtain ⟨h1, h2⟩ := put_setCells vs (i + 1) (cs.setIfInBounds i v) (w.setCell ⟨g, i, none⟩ v) (h.set_ i v)
    exact ⟨(Put.set w g i v).trans h1, h2⟩
theorem wpList_put {P : Program} {ops : Array Oper} {rest : List Oper} {o : Oper} {a : Act} {w : World} {Q : Exit → Act → World → Prop} {g i : Nat} {t : TypeId} {cs new : Array Value} {cells : List Value} (hgd : o.guard = none) (ty : TypeId) (x y : Operand) (ho : o.op = .store ty x y)
    (hx : a.eval x = .pointer (some ⟨g, i, none⟩)) (hy : a.eval y = .agg cells.toArray) (hb : Blk w g t cs) (hi : i + cells.length ≤ cs.size) (hz : (P.info? ty).map (·.size) = some cells.length) (h1 : cells.all (·.oneCell') = true) (hn : spl cs i cells = new)
    (h : ∀ X, Put w X g → Blk X g t new → wpList P ops Q rest (a.put o.dst undef) X) : wpList P ops Q (o :: rest) a w := by
  refine wpList_store_mid hgd ty x y ho g i cells.toArray hx hy ?_ (by simpa using hz) (by simpa using h1) ?_
  · intro j hj
    refine ⟨?_, hb.frozen _⟩
    rw [hb.cell]
    simp only [List.size_toArray] at hj
    rw [Array.getElem?_eq_getElem (by omega)]
    rfl
  · obtain ⟨q1, q2⟩ := put_setCells cells i cs w hb
    rw [hn] at q2
    exact h _ q1 q2
section
variable {M : World → Prop} {w : World} {g : Nat} {t : TypeId} {cs : Array Value}
theorem set1 {i : Nat} {v : Value} (b : Blk w g t cs) (h : ∀ X, Put w X g → Blk X g t (cs.setIfInBounds i v) → M X) : M (w.setCell ⟨g, i, none⟩ v) := h _ (Put.set w g i v) (b.set_ i v)
end
end Go.Proofs.YtoiampgfnidfdaaGreatDoor
namespace Go.Proofs.YtoiampgfnidfdaaGreatDoor
open Go.RowKit

theorem getD_append_left (p : List E) (x : E) (k : Nat) (h : k < p.length) : (p ++ [x]).getD k 0 = p.getD k 0 := by simp [List.getD, List.getElem?_append_left h]
theorem getD_append_last (p : List E) (x : E) : (p ++ [x]).getD p.length 0 = x := by simp [List.getD]
theorem wt_append (p : List E) (x : E) (i : Nat) : ∀ k, k ≤ p.length → wt (p ++ [x]) i k = wt p i k
  | 0, _ => rfl
  | k + 1, h => by rw [wt, wt, wt_append p x i k (by omega), getD_append_left p x k (by omega)]
/-! ### Rows of the call's own -/
end Go.Proofs.YtoiampgfnidfdaaGreatDoor
namespace Go.Proofs.YtoiampgfnidfdaaGreatDoor
open Go.RowKit
attribute [local go_sem] Oper.semAt_some

end Go.Proofs.YtoiampgfnidfdaaGreatDoor
namespace Go.Proofs.YtoiampgfnidfdaaGreatDoor
open Go.RowKit

theorem grown_below {w a b : World} {row : Option Nat} (h : w.grownBy a row) (k : Below a.heap.size a b) : w.grownBy b row :=
  ⟨k.os.trans h.os, k.tape.trans h.tape, k.output.trans h.output, Nat.le_trans h.size k.size, fun i hi hr => (k.block i (Nat.lt_of_lt_of_le hi h.size)).trans (h.block i hi hr)⟩
end Go.Proofs.YtoiampgfnidfdaaGreatDoor
namespace Go.Proofs.YtoiampgfnidfdaaGreatDoor
open Go.RowKit

theorem grown_blk {X W : World} {row : Option Nat} {b : Nat} {t : TypeId} {cs : Array Value} (h : X.grownBy W row) (hb : Blk X b t cs) (hne : some b ≠ row) : Blk W b t cs := (h.block b hb.lt hne).trans hb
theorem grown_refl (X : World) (row : Option Nat) : X.grownBy X row := ⟨rfl, rfl, rfl, Nat.le_refl _, fun _ _ _ => rfl⟩
theorem grown_step {X a b : World} {g0 : Nat} {row : Option Nat} (h : X.grownBy a (some g0)) (k : a.grownBy b row) (hr : ∀ g, row = some g → g = g0 ∨ X.heap.size ≤ g) : X.grownBy b (some g0) :=
  ⟨k.os.trans h.os, k.tape.trans h.tape, k.output.trans h.output, Nat.le_trans h.size k.size, fun i hi hne =>
    (k.block i (Nat.lt_of_lt_of_le hi h.size) (fun e => by
      rcases hr i e.symm with h1 | h1
      · exact hne (by rw [h1])
      · omega)).trans (h.block i hi hne)⟩
def OwnAt (X : World) (g0 : Nat) (v : Value) : Prop := ∀ g, v.ownBlock = some g → g = g0 ∨ X.heap.size ≤ g
theorem OwnAt.ne {X : World} {g0 : Nat} {v : Value} {b : Nat} (h : OwnAt X g0 v) (hb : b < X.heap.size) (hne : b ≠ g0) : some b ≠ v.ownBlock := fun e => by
  rcases h b e.symm with h | h
  · exact hne h
  · omega
theorem wpList_app2 {P : Program} {ops : Array Oper} {rest : List Oper} {o : Oper} {a : Act} {Q : Exit → Act → World → Prop} {X0 X : World} {n g0 base k size bytes : Nat} {t e : TypeId} {i : TypeInfo} {z : Value} {cl cs : List Value} {u : Value} (hgd : o.guard = none) (s x : Operand)
    (ho : o.op = .call { callee := .builtin .append, args := #[s, x], argTypes := #[t, t] }) (ht : P.underlying t = some (.slice e)) (hi : P.info? e = some i) (hz : i.zero = some z) (hsize : i.size = size) (hby : i.bytes = bytes) (hzs : z.cells.size = size) (hsz : 0 < size)
    (hcl : cl.length = 1 * size) (h1 : ∀ u ∈ cl, u.oneCell' = true) (hs : a.eval s = u) (hx : a.eval x = .slice (some ⟨n, 0, none⟩) 1 1) (hown : X.ownsRow base e size u k cs) (hat : OwnAt X0 g0 u) (hgr : X0.grownBy X (some g0)) (hsrc : Blk X n e cl.toArray) (hk : k + 1 ≤ maxLen) (hk2 : (k + 1) * bytes ≤ 140737488355328) (hbase : base ≤ X.heap.size)
    (h : ∀ v' w', w'.ownsRow base e size v' (k + 1) (cs ++ cl) → OwnAt X0 g0 v' → X0.grownBy w' (some g0) → wpList P ops Q rest (a.put o.dst v') w') : wpList P ops Q (o :: rest) a X := by
  refine wpList_append_own_at X hgd s x t ho base e i z size bytes ht hi hz hsize hby hzs hsz u k cs hs hown ⟨n, 0, none⟩ 1 1 cl hx hcl (blk_news hsrc) h1 hk hk2 hbase ?_
  intro v' w' hown' hgrow _ hat'
  refine h v' w' hown' (fun g hg => ?_) (grown_step hgr hgrow hat)
  rcases hat' with h2 | h2
  · exact hat g (by rw [← h2]; exact hg)
  · rw [h2] at hg
    cases hg
    exact .inr hgr.size
theorem step_lit0 {P : Program} {o : Oper} {a : Act} {w : World} {t e : TypeId} {ie : TypeInfo} {z : Value} (hu : P.underlying t = some (.slice e)) (hie : P.info? e = some ie) (_hz : ie.zero = some z)
    (ho : o.op = .buildSlice t 0 #[]) : stepAt P o a w (fun v w' => Lit e 0 #[] w.heap.size w'.heap.size v w' ∧ Below w.heap.size w w') := by
  have hr : (Instr.buildSlice t 0 #[]).run P w = .ok (.slice (some ⟨w.heap.size, 0, none⟩) 0 0) (w.alloc (.cells #[] e)) := by
    simp [Instr.buildSlice, run_underlying hu, sizeOf, typeInfo, hie, newRow, Instr.fill]
    rw [show Array.map (fun (_ : Nat) => (default : Value)) (Array.range 0) = #[] from Array.eq_empty_of_size_eq_zero (by simp)]
  unfold stepAt execOp
  simp only [ho, Sem.run_bind, List.map_toArray, List.map_nil, hr, Result.andThen_ok]
  exact ⟨⟨rfl, by simp only [World.size_alloc]; omega, Blk.new _ _ _⟩, (Below.refl _ _).alloc (Nat.le_refl _) _⟩
theorem wpList_appB {P : Program} {ops : Array Oper} {rest : List Oper} {o : Oper} {a : Act} {Q : Exit → Act → World → Prop} {X : World} {base k m lo hi2 size bytes : Nat} {t e : TypeId} {i : TypeInfo} {z : Value} {cl cs : List Value} {u v2 : Value} (hgd : o.guard = none) (s x : Operand)
    (ho : o.op = .call { callee := .builtin .append, args := #[s, x], argTypes := #[t, t] }) (ht : P.underlying t = some (.slice e)) (hi : P.info? e = some i) (hz : i.zero = some z) (hsize : i.size = size) (hby : i.bytes = bytes) (hzs : z.cells.size = size) (hsz : 0 < size)
    (h1 : ∀ u ∈ cl, u.oneCell' = true) (hs : a.eval s = u) (hx : a.eval x = v2) (hr : Rd lo hi2 size X v2 m cl) (hown : X.ownsRow base e size u k cs) (hk : k + m ≤ maxLen) (hk2 : (k + m) * bytes ≤ 140737488355328) (hbase : base ≤ X.heap.size)
    (h : ∀ v' w', w'.ownsRow base e size v' (k + m) (cs ++ cl) → X.grownBy w' u.ownBlock → Below base X w' → wpList P ops Q rest (a.put o.dst v') w') : wpList P ops Q (o :: rest) a X := by
  by_cases hm : m = 0
  · subst hm
    have hcl : cl = [] := List.eq_nil_of_length_eq_zero (by rw [hr.1]; omega)
    subst hcl
    obtain ⟨A2, cap2, rfl⟩ := hr.len
    obtain ⟨A, cap, hu, hc⟩ : ∃ A cap, u = .slice A k cap ∧ k ≤ cap := by
      rcases hown.2 with ⟨rfl, rfl⟩ | ⟨g, cap, cur, rfl, _, _, q, _⟩
      · exact ⟨none, 0, rfl, Nat.le_refl _⟩
      · exact ⟨_, cap, rfl, q⟩
    have hlc : ∀ (b : Addr) (W : World), (loadCells b 0).run P W = .ok #[] W := fun b W => run_loadCells_list (P := P) W b [] (fun j v hv => by simp at hv)
    have src : Src P i.size t (.slice A2 0 cap2) 0 [] X := ⟨.inl ⟨e, ht⟩, fun w' => by simp [Builtin.lenOf], by cases A2 <;> simp [Builtin.firstCells, hlc], by cases A2 <;> simp [Builtin.firstCells, hlc], by simp, fun u hu => by cases hu⟩
    have hrun := run_append_nothing (P := P) X t t o.type e i ht hi A k cap hc (.slice A2 0 cap2) src
    refine wpList_plain hgd fun K hK => ?_
    unfold Oper.wp execOp
    rw [hu] at hs
    simp only [ho, resolve, invoke, builtin, Sem.run_bind, Sem.run_pure, Result.andThen_ok, List.map_toArray, List.map_cons, List.map_nil, hs, hx, hrun]
    rw [← hu]
    exact hK _ _ (h u X (by simpa using hown) (grown_refl _ _) (Below.refl _ _))
  · obtain ⟨g, off, cap2, rfl, _, _, _, _, hcells⟩ := hr.form (by omega)
    refine wpList_append_own _ hgd s x t ho base e i z size bytes ht hi hz hsize hby hzs hsz u k cs hs hown ⟨g, off, none⟩ m cap2 cl hx hr.1 (fun j v hv => by rw [Addr.add_mid]; exact hcells j v hv) h1 hk hk2 hbase ?_
    intro v' w' hown' hgrow _
    exact h v' w' hown' hgrow ((Below.refl _ _).grown hgrow hbase (fun g hg => (own_block hown hg).1))
def Kept (lo hi : Nat) (w w' : World) : Prop := ∀ k, lo ≤ k → k < hi → w'.heap[k]? = w.heap[k]?
theorem Kept.refl (lo hi : Nat) (w : World) : Kept lo hi w w := fun _ _ _ => rfl
theorem Kept.trans {lo hi : Nat} {a b c : World} (h : Kept lo hi a b) (k : Kept lo hi b c) : Kept lo hi a c := fun i h1 h2 => (k i h1 h2).trans (h i h1 h2)
theorem Kept.of_below {lo hi : Nat} {a b : World} (h : Below a.heap.size a b) (hh : hi ≤ a.heap.size) : Kept lo hi a b := fun i _ h2 => h.block i (Nat.lt_of_lt_of_le h2 hh)
def Outside (lo hi : Nat) (v : Value) : Prop := ∀ b, v.ownBlock = some b → b < lo ∨ hi ≤ b
theorem Outside.next {lo hi : Nat} {u v : Value} {X : World} (ho : Outside lo hi u) (h : v.ownBlock = u.ownBlock ∨ v.ownBlock = some X.heap.size) (hh : hi ≤ X.heap.size) : Outside lo hi v := fun b hb => by
  rcases h with h | h
  · exact ho b (by rw [← h]; exact hb)
  · rw [h] at hb; cases hb; exact .inr hh
theorem wpList_app3 {P : Program} {ops : Array Oper} {rest : List Oper} {o : Oper} {a : Act} {Q : Exit → Act → World → Prop} {X : World} {n base k size bytes : Nat} {t e : TypeId} {i : TypeInfo} {z : Value} {cl cs : List Value} {u : Value} (hgd : o.guard = none) (s x : Operand)
    (ho : o.op = .call { callee := .builtin .append, args := #[s, x], argTypes := #[t, t] }) (ht : P.underlying t = some (.slice e)) (hi : P.info? e = some i) (hz : i.zero = some z) (hsize : i.size = size) (hby : i.bytes = bytes) (hzs : z.cells.size = size) (hsz : 0 < size)
    (hcl : cl.length = 1 * size) (h1 : ∀ u ∈ cl, u.oneCell' = true) (hs : a.eval s = u) (hx : a.eval x = .slice (some ⟨n, 0, none⟩) 1 1) (hown : X.ownsRow base e size u k cs) (hsrc : Blk X n e cl.toArray) (hk : k + 1 ≤ maxLen) (hk2 : (k + 1) * bytes ≤ 140737488355328) (hbase : base ≤ X.heap.size)
    (h : ∀ v' w', w'.ownsRow base e size v' (k + 1) (cs ++ cl) → X.grownBy w' u.ownBlock → Below base X w' → (v'.ownBlock = u.ownBlock ∨ v'.ownBlock = some X.heap.size) → wpList P ops Q rest (a.put o.dst v') w') : wpList P ops Q (o :: rest) a X := by
  refine wpList_append_own_at X hgd s x t ho base e i z size bytes ht hi hz hsize hby hzs hsz u k cs hs hown ⟨n, 0, none⟩ 1 1 cl hx hcl (blk_news hsrc) h1 hk hk2 hbase ?_
  intro v' w' hown' hgrow _ hat'
  exact h v' w' hown' hgrow ((Below.refl _ _).grown hgrow hbase (fun g hg => (own_block hown hg).1)) hat'
end Go.Proofs.YtoiampgfnidfdaaGreatDoor
namespace Go.Proofs.YtoiampgfnidfdaaGreatDoor

structure Trm where
  c : E
  t : List Nat
def bndE (tabs : List (List E)) (r : E) : List (List E) := tabs.map fun t => bindL t r
theorem bndE_length (tabs : List (List E)) (r : E) : (bndE tabs r).length = tabs.length := by simp [bndE]
/-! ### The two ends of a round -/
/-! ### Polynomials -/
def pev : List E → E → E
  | [], _ => 0
  | c :: cs, x => c + x * pev cs x
def IsP (n : Nat) (f : E → E) : Prop := ∃ cs : List E, cs.length ≤ n ∧ ∀ x, f x = pev cs x
theorem IsP.mono {n m : Nat} {f : E → E} (h : IsP n f) (hm : n ≤ m) : IsP m f := by
  obtain ⟨cs, h1, h2⟩ := h
  exact ⟨cs, Nat.le_trans h1 hm, h2⟩
def padd : List E → List E → List E
  | [], bs => bs
  | us, [] => us
  | a :: us, b :: bs => (a + b) :: padd us bs
theorem padd_length : ∀ us bs : List E, (padd us bs).length = max us.length bs.length
  | [], bs => by simp [padd]
  | a :: us, [] => by simp [padd]
  | a :: us, b :: bs => by rw [padd, List.length_cons, padd_length us bs, List.length_cons, List.length_cons]; omega
theorem pev_padd (x : E) : ∀ us bs : List E, pev (padd us bs) x = pev us x + pev bs x
  | [], bs => by show pev bs x = 0 + pev bs x; rw [E.zero_add]
  | a :: us, [] => by show pev (a :: us) x = pev (a :: us) x + 0; rw [E.add_zero]
  | a :: us, b :: bs => by
    rw [padd, pev, pev_padd x us bs, pev, pev, E.mul_add]
    generalize x * pev us x = u
    generalize x * pev bs x = v
    ac_rfl
theorem IsP.add {n : Nat} {f g : E → E} (hf : IsP n f) (hg : IsP n g) : IsP n (fun x => f x + g x) := by
  obtain ⟨us, h1, h2⟩ := hf
  obtain ⟨bs, h3, h4⟩ := hg
  exact ⟨padd us bs, by rw [padd_length]; exact Nat.max_le.2 ⟨h1, h3⟩, fun x => by rw [pev_padd, ← h2, ← h4]⟩
end Go.Proofs.YtoiampgfnidfdaaGreatDoor
namespace Go.Proofs.YtoiampgfnidfdaaGreatDoor

def intE (z : Int) : E := eb (fz z)
/-! ### Inverses of products -/
/-! ### The reference's product -/
/-! ### Interpolation, for at most four values -/
end Go.Proofs.YtoiampgfnidfdaaGreatDoor
namespace Go.Proofs.YtoiampgfnidfdaaGreatDoor
open Go.RowKit

set_option maxRecDepth 100000 in
set_option maxHeartbeats 400000 in
theorem fNeg (a : Fp) (w : World) : Calls Tryz.prog 149 #[.int .u64 (fv a)] w fun e w' => e = .returned (.int .u64 (fv (0 - a))) ∧ w = w' := by
  have c1 := fun w => fSub 0 a w
  rw [fv_zero] at c1
  have C1 := Lib.hid c1
  clear c1
  go_enter Tryz.func149, Tryz.ntmps149
  go_wp2_with fail
  refine (C1.out _).mono ?_
  rintro e w' ⟨rfl, rfl⟩
  go_wp2_with fail
  go_ret
  exact ⟨rfl, rfl⟩
end Go.Proofs.YtoiampgfnidfdaaGreatDoor
namespace Go.Proofs.YtoiampgfnidfdaaGreatDoor
open Go.RowKit

def ic (k : Nat) : List Value := [.int .i64 (k : Int)]
def IdxS (lo hi : Nat) (w : World) (v : Value) (l : List Nat) : Prop := Rd lo hi 1 w v l.length (l.flatMap ic)
def TabS (lo hi : Nat) (w : World) (v : Value) (tabs : List (List E)) : Prop := ∃ us : List Value, us.length = tabs.length ∧ Rd lo hi 1 w v tabs.length us ∧ ∀ (k : Nat) u t, us[k]? = some u → tabs[k]? = some t → ExtS lo hi w u t
theorem TabS.keep {lo hi : Nat} {w w' : World} {v : Value} {tabs : List (List E)} (h : TabS lo hi w v tabs) (hb : Below w.heap.size w w') : TabS lo hi w' v tabs := by
  obtain ⟨us, h1, h2, h3⟩ := h
  exact ⟨us, h1, h2.keep hb, fun k u t hu ht => Rd.keep (h3 k u t hu ht) hb⟩
theorem TabS.wide {lo hi lo' hi' : Nat} {w : World} {v : Value} {tabs : List (List E)} (h : TabS lo hi w v tabs) (h1 : lo' ≤ lo) (h2 : hi ≤ hi') : TabS lo' hi' w v tabs := by
  obtain ⟨us, q1, q2, q3⟩ := h
  exact ⟨us, q1, q2.wide h1 h2, fun k u t hu ht => Rd.wide (q3 k u t hu ht) h1 h2⟩
theorem TabS.other {lo hi : Nat} {w w' : World} {v : Value} {tabs : List (List E)} (h : TabS lo hi w v tabs) (hs : w.heap.size ≤ w'.heap.size) (hb : ∀ g, lo ≤ g → g < hi → g < w.heap.size → w'.heap[g]? = w.heap[g]?) : TabS lo hi w' v tabs := by
  obtain ⟨us, q1, q2, q3⟩ := h
  exact ⟨us, q1, q2.other hs hb, fun k u t hu ht => Rd.other (q3 k u t hu ht) hs hb⟩
theorem TabS.len {lo hi : Nat} {w : World} {v : Value} {tabs : List (List E)} (h : TabS lo hi w v tabs) : ∃ A cap, v = .slice A tabs.length cap := by
  obtain ⟨us, _, h2, _⟩ := h
  exact h2.len
theorem TabS.small {lo hi : Nat} {w : World} {v : Value} {tabs : List (List E)} (h : TabS lo hi w v tabs) : tabs.length ≤ 140737488355327 := by
  obtain ⟨us, _, h2, _⟩ := h
  exact h2.2.1
def trc (x : Trm × Value) : List Value := [.int .u64 (fv x.1.c.a), .int .u64 (fv x.1.c.b), x.2]
def TrmS (lo hi : Nat) (w : World) (v : Value) (ps : List Trm) : Prop := ∃ us : List Value, us.length = ps.length ∧ Rd lo hi 3 w v ps.length ((ps.zip us).flatMap trc) ∧ ∀ (k : Nat) u p, us[k]? = some u → ps[k]? = some p → IdxS lo hi w u p.t
theorem TrmS.keep {lo hi : Nat} {w w' : World} {v : Value} {ps : List Trm} (h : TrmS lo hi w v ps) (hb : Below w.heap.size w w') : TrmS lo hi w' v ps := by
  obtain ⟨us, h1, h2, h3⟩ := h
  exact ⟨us, h1, h2.keep hb, fun k u t hu ht => Rd.keep (h3 k u t hu ht) hb⟩
theorem TrmS.wide {lo hi lo' hi' : Nat} {w : World} {v : Value} {ps : List Trm} (h : TrmS lo hi w v ps) (h1 : lo' ≤ lo) (h2 : hi ≤ hi') : TrmS lo' hi' w v ps := by
  obtain ⟨us, q1, q2, q3⟩ := h
  exact ⟨us, q1, q2.wide h1 h2, fun k u t hu ht => Rd.wide (q3 k u t hu ht) h1 h2⟩
theorem TrmS.other {lo hi : Nat} {w w' : World} {v : Value} {ps : List Trm} (h : TrmS lo hi w v ps) (hs : w.heap.size ≤ w'.heap.size) (hb : ∀ g, lo ≤ g → g < hi → g < w.heap.size → w'.heap[g]? = w.heap[g]?) : TrmS lo hi w' v ps := by
  obtain ⟨us, q1, q2, q3⟩ := h
  exact ⟨us, q1, q2.other hs hb, fun k u t hu ht => Rd.other (q3 k u t hu ht) hs hb⟩
theorem TrmS.len {lo hi : Nat} {w : World} {v : Value} {ps : List Trm} (h : TrmS lo hi w v ps) : ∃ A cap, v = .slice A ps.length cap := by
  obtain ⟨us, _, h2, _⟩ := h
  exact h2.len
theorem TrmS.small {lo hi : Nat} {w : World} {v : Value} {ps : List Trm} (h : TrmS lo hi w v ps) : ps.length ≤ 140737488355327 := by
  obtain ⟨us, _, h2, _⟩ := h
  exact h2.2.1
structure SumS (lo hi : Nat) (w : World) (vt vp : Value) (tabs : List (List E)) (ps : List Trm) : Prop where
  ht : TabS lo hi w vt tabs
  hp : TrmS lo hi w vp ps
  ix : ∀ p ∈ ps, ∀ k ∈ p.t, k < tabs.length
  few : ps.length ≤ 1000
  short : ∀ p ∈ ps, p.t.length ≤ 1000
theorem SumS.keep {lo hi : Nat} {w w' : World} {vt vp : Value} {tabs : List (List E)} {ps : List Trm} (h : SumS lo hi w vt vp tabs ps) (hb : Below w.heap.size w w') : SumS lo hi w' vt vp tabs ps :=
  ⟨h.ht.keep hb, h.hp.keep hb, h.ix, h.few, h.short⟩
end Go.Proofs.YtoiampgfnidfdaaGreatDoor
namespace Go.Proofs.YtoiampgfnidfdaaGreatDoor
open Go.RowKit

end Go.Proofs.YtoiampgfnidfdaaGreatDoor
namespace Go.Proofs.YtoiampgfnidfdaaGreatDoor
open Go.RowKit

end Go.Proofs.YtoiampgfnidfdaaGreatDoor
namespace Go.Proofs.YtoiampgfnidfdaaGreatDoor
open Go.RowKit

def rngL (n : Nat) (f : Nat → E) : List E := (List.range n).map f
theorem rngL_length (n : Nat) (f : Nat → E) : (rngL n f).length = n := by simp [rngL]
set_option maxRecDepth 100000 in
set_option maxHeartbeats 400000 in
theorem fFromInt (x : Int) (h1 : -9223372036854775808 ≤ x) (h2 : x ≤ 9223372036854775807) (w : World) : Calls Tryz.prog 131 #[.int .i64 x] w (Ret (.int .u64 (fv (fz x))) w) := by
  by_cases h : x < 0
  · have e1 : fv (fz (-x)) = -x := by rw [fv_fz]; omega
    have e2 : 0 - fz (-x) = fz x := by apply fv_inj; rw [fv_sub, fv_fz, fv_fz, fv_zero]; omega
    have c1 := fun w => fRed (-x) (by omega) (by omega) w
    have c2 := fun w => fNeg (fz (-x)) w
    rw [show (-x) % 18446744069414584321 = -x by omega] at c1
    rw [e1, e2] at c2
    have C1 := Lib.hid c1
    have C2 := Lib.hid c2
    have hw1 : IntKind.u64.wrap x = x + 18446744073709551616 := by rw [IntKind.wrap_u64]; omega
    have hw2 : IntKind.u64.wrap (-(x + 18446744073709551616)) = -x := by rw [IntKind.wrap_u64]; omega
    clear c1 c2 e1 e2
    go_enter Tryz.func131, Tryz.ntmps131
    go_wp2_with fail
    refine (C1.out _).mono ?_
    rintro e w' ⟨rfl, rfl⟩
    go_wp2_with fail
    refine (C2.out _).mono ?_
    rintro e w' ⟨rfl, rfl⟩
    go_wp2_with fail
    go_ret
    exact ⟨rfl, Below.refl _ _⟩
  · have e1 : fv (fz x) = x := by rw [fv_fz]; omega
    rw [e1]
    have hw1 : IntKind.u64.wrap x = x := by rw [IntKind.wrap_u64]; omega
    clear e1
    go_enter Tryz.func131, Tryz.ntmps131
    go_wp2_with fail
    go_ret
    exact ⟨rfl, Below.refl _ _⟩
set_option maxRecDepth 100000 in
set_option maxHeartbeats 400000 in
theorem eFromBase (c : Fp) (w : World) : Calls Tryz.prog 87 #[.int .u64 (fv c)] w (Ret (ev (eb c)) w) := by
  unfold ev eb
  go_enter Tryz.func87, Tryz.ntmps87
  go_wp2
  refine bodyPost_ret (v := .agg #[.int .u64 (fv c), .int .u64 (fv 0)]) (by simp [results, Tryz.results87, go_sem, fv0]) rfl ⟨rfl, ?_⟩
  exact (Below.refl _ _).alloc (Nat.le_refl _) _
set_option maxRecDepth 100000 in
set_option maxHeartbeats 400000 in
theorem eFromInt (x : Int) (h1 : -9223372036854775808 ≤ x) (h2 : x ≤ 9223372036854775807) (w : World) : Calls Tryz.prog 104 #[.int .i64 x] w (Ret (ev (intE x)) w) := by
  unfold ev
  go_enter Tryz.func104, Tryz.ntmps104
  go_wp2_with fail
  refine calls_stk1 fun W hB hz b1 => ?_
  refine (fFromInt x h1 h2 W).mono ?_
  rintro e w2 ⟨rfl, hb⟩
  go_wp2_with fail
  refine (eFromBase (fz x) w2).mono ?_
  rintro e w3 ⟨he, hb3⟩
  unfold ev at he
  subst he
  have b3 := (b1.keep hb).keep hb3
  have e1 := b3.cell
  have e2 := b3.frozen
  go_wp2_with fail
  refine bodyPost_ret (v := .agg #[.int .u64 (fv (intE x).a), .int .u64 (fv (intE x).b)]) (by simp [results, Tryz.results104, go_sem, e1]; exact ⟨rfl, rfl⟩) rfl ⟨rfl, ?_⟩
  have hB2 := hB.trans (hb.mono hB.size)
  exact below_set2 (hB2.trans (hb3.mono hB2.size)) (Nat.le_refl _)
end Go.Proofs.YtoiampgfnidfdaaGreatDoor
namespace Go.Proofs.YtoiampgfnidfdaaGreatDoor
open Go.RowKit

theorem step_mkE {o : Oper} {a : Act} {w : World} {x y : Operand} (n : Nat) (hn : n ≤ 1000000) (ho : o.op = .makeSlice 78 x y) (hx : a.eval x = .int .i64 (n : Int)) (hy : a.eval y = .int .i64 (n : Int)) :
    stepAt Tryz.prog o a w (fun v w' => Lit 86 n ((List.replicate n (0 : E)).flatMap ec).toArray w.heap.size w'.heap.size v w' ∧ Below w.heap.size w w') := by
  unfold stepAt execOp
  simp only [ho, hx, hy, Sem.run_bind, mk_ext n hn w, Result.andThen_ok]
  exact ⟨⟨rfl, by simp only [World.size_alloc]; omega, Blk.new _ _ _⟩, (Below.refl _ _).alloc (Nat.le_refl _) _⟩
structure AtS (w : World) (n gb ga : Nat) (x : E) (wr : World) (fb fa : Nat → E) : Prop where
  bb : Blk wr gb 86 ((rngL (n + 1) fb).flatMap ec).toArray
  ba : Blk wr ga 86 ((rngL (n + 1) fa).flatMap ec).toArray
  bx : Blk wr w.heap.size 86 #[.int .u64 (fv x.a), .int .u64 (fv x.b)]
  br : Blk wr (w.heap.size + 1) 86 #[.int .u64 0, .int .u64 0]
  hB : Below w.heap.size w wr
structure AtC (w : World) (gb ga : Nat) : Prop where
  h1 : w.heap.size + 2 ≤ gb
  h2 : w.heap.size + 2 ≤ ga
  h3 : gb ≠ ga
section
variable {w wr X : World} {n gb ga : Nat} {x : E} {fb fa f' : Nat → E}
theorem AtS.keep (h : AtS w n gb ga x wr fb fa) (hb : Below wr.heap.size wr X) : AtS w n gb ga x X fb fa := ⟨h.bb.keep hb, h.ba.keep hb, h.bx.keep hb, h.br.keep hb, h.hB.trans (hb.mono h.hB.size)⟩
theorem AtS.setB (h : AtS w n gb ga x wr fb fa) (c : AtC w gb ga) (k : Nat) (v : E) (hk : k < n + 1) (e : (rngL (n + 1) fb).set k v = rngL (n + 1) f') : AtS w n gb ga x ((wr.setCell ⟨gb, k * 2, none⟩ (.int .u64 (fv v.a))).setCell ⟨gb, k * 2 + 1, none⟩ (.int .u64 (fv v.b))) f' fa :=
  ⟨by rw [← e]; exact blk_setE h.bb k v (by rw [rngL_length]; exact hk), blk_farE h.ba (by have := c.h3; omega), blk_farE h.bx (by have := c.h1; omega), blk_farE h.br (by have := c.h1; omega), below_setE h.hB (by have := c.h1; omega)⟩
end
end Go.Proofs.YtoiampgfnidfdaaGreatDoor
namespace Go.Proofs.YtoiampgfnidfdaaGreatDoor
open Go.RowKit

section
variable {w : World} {g : Nat} {t : TypeId} {cs : List E} {rest : List Value}
theorem flat_set_pad (x : E) (rest : List Value) (cs : List E) (k : Nat) (hk : k < cs.length) : ((cs.flatMap ec ++ rest).set (k * 2) (.int .u64 (fv x.a))).set (k * 2 + 1) (.int .u64 (fv x.b)) = (cs.set k x).flatMap ec ++ rest := by
  have hl := flat_length ec_len cs
  rw [List.set_append_left _ _ (by omega), List.set_append_left _ _ (by rw [List.length_set]; omega), set_flat x cs k hk]
theorem blk_setP (h : Blk w g t (cs.flatMap ec ++ rest).toArray) (k : Nat) (x : E) (hk : k < cs.length) : Blk ((w.setCell ⟨g, k * 2, none⟩ (.int .u64 (fv x.a))).setCell ⟨g, k * 2 + 1, none⟩ (.int .u64 (fv x.b))) g t ((cs.set k x).flatMap ec ++ rest).toArray := by
  have := (h.set_ (k * 2) (.int .u64 (fv x.a))).set_ (k * 2 + 1) (.int .u64 (fv x.b))
  rw [← flat_set_pad x rest cs k hk]
  simpa using this
theorem blk_cellP (h : Blk w g t (cs.flatMap ec ++ rest).toArray) {k : Nat} {x : E} (hk : cs[k]? = some x) : w.cell? ⟨g, k * 2, none⟩ = some (.int .u64 (fv x.a)) ∧ w.cell? ⟨g, k * 2 + 1, none⟩ = some (.int .u64 (fv x.b)) := by
  have e0 := flat_get ec_len cs k 0 x _ hk rfl
  have e1 := flat_get ec_len cs k 1 x _ hk rfl
  have hl := flat_length ec_len cs
  have hkl : k < cs.length := (List.getElem?_eq_some_iff.1 hk).1
  refine ⟨?_, ?_⟩
  · rw [h.cell, List.getElem?_toArray, List.getElem?_append_left (by omega)]; simpa using e0
  · rw [h.cell, List.getElem?_toArray, List.getElem?_append_left (by omega)]; simpa using e1
end
end Go.Proofs.YtoiampgfnidfdaaGreatDoor
namespace Go.Proofs.YtoiampgfnidfdaaGreatDoor
open Go.RowKit

def nilV : Value := .slice none 0 0
def BndK (w : World) (gt L : Nat) (tabs : List (List E)) (r : E) (j : Nat) (wr : World) : Prop := ∃ us : List Value, us.length = j ∧ Blk wr gt 78 (us ++ List.replicate (tabs.length - j) nilV).toArray ∧ ∀ (k : Nat) u t, us[k]? = some u → tabs[k]? = some t → ExtS L wr.heap.size wr u (bindL t r)
theorem BndK.keep {w a b : World} {gt L j : Nat} {tabs : List (List E)} {r : E} (h : BndK w gt L tabs r j a) (hb : Below a.heap.size a b) : BndK w gt L tabs r j b := by
  obtain ⟨us, h1, h2, h3⟩ := h
  exact ⟨us, h1, h2.keep hb, fun k u t hu ht => (Rd.keep (h3 k u t hu ht) hb).wide (Nat.le_refl _) hb.size⟩
theorem BndK.all {w a : World} {gt L : Nat} {tabs : List (List E)} {r : E} (h : BndK w gt L tabs r tabs.length a) (hl : tabs.length ≤ 1000) {lo : Nat} (hgt : lo ≤ gt) (hL : lo ≤ L) : TabS lo a.heap.size a (.slice (some ⟨gt, 0, none⟩) tabs.length tabs.length) (bndE tabs r) := by
  obtain ⟨us, h1, h2, h3⟩ := h
  refine ⟨us, by rw [h1, bndE_length], ?_, fun k u t hu ht => ?_⟩
  · rw [bndE_length]
    refine ⟨by omega, by omega, _, _, rfl, Nat.le_refl _, fun _ => ⟨gt, 0, rfl, hgt, h2.lt, h2.lt, fun j u hu => ?_⟩⟩
    rw [Nat.zero_add, h2.cell, Nat.sub_self]
    simpa using hu
  · obtain ⟨s, hs, rfl⟩ : ∃ s, tabs[k]? = some s ∧ bindL s r = t := by
      unfold bndE at ht
      rw [List.getElem?_map] at ht
      cases he : tabs[k]? with
      | none => rw [he] at ht; cases ht
      | some s => rw [he] at ht; exact ⟨s, rfl, Option.some.inj ht⟩
    exact Rd.wide (h3 k u s hu hs) hL (Nat.le_refl _)
theorem TabS.put {lo hi g : Nat} {w w' : World} {v : Value} {tabs : List (List E)} (h : TabS lo hi w v tabs) (hp : Put w w' g) (hne : g < lo ∨ hi ≤ g) : TabS lo hi w' v tabs :=
  h.other (by rw [hp.size]; exact Nat.le_refl _) fun k h1 h2 _ => hp.other k (by omega)
end Go.Proofs.YtoiampgfnidfdaaGreatDoor
namespace Go.Proofs.YtoiampgfnidfdaaGreatDoor
open Go.RowKit

def RowT (base : Nat) (w : World) (u : Value) (ts : List (List E)) : Prop := ∃ us : List Value, w.ownsRow base 78 1 u ts.length us ∧ us.length = ts.length ∧ ∀ (k : Nat) x t, us[k]? = some x → ts[k]? = some t → ∃ lo hi, base ≤ lo ∧ hi ≤ w.heap.size ∧ Outside lo hi u ∧ ExtS lo hi w x t
theorem RowT.first (base : Nat) (w : World) : RowT base w (.slice none 0 0) [] := ⟨[], ⟨rfl, .inl ⟨rfl, rfl⟩⟩, rfl, fun k x t h => by simp at h⟩
theorem RowT.keep {base : Nat} {w X : World} {u : Value} {ts : List (List E)} (h : RowT base w u ts) (hb : Below w.heap.size w X) : RowT base X u ts := by
  obtain ⟨us, h1, h2, h3⟩ := h
  refine ⟨us, own_below h1 (Nat.le_refl _) hb, h2, fun k x t hx ht => ?_⟩
  obtain ⟨lo, hi, q1, q2, q3, q4⟩ := h3 k x t hx ht
  exact ⟨lo, hi, q1, Nat.le_trans q2 hb.size, q3, Rd.keep q4 hb⟩
theorem own_put {w w' : World} {base n size g : Nat} {e : TypeId} {v : Value} {xs : List Value} (h : w.ownsRow base e size v n xs) (hp : Put w w' g) (hg : g < base) : w'.ownsRow base e size v n xs := by
  obtain ⟨h1, h2⟩ := h
  refine ⟨h1, h2.imp id ?_⟩
  rintro ⟨b, cap, cur, q1, q2, q3, q4⟩
  exact ⟨b, cap, cur, q1, q2, (hp.other b (by omega)).trans q3, q4⟩
theorem RowT.put {base g : Nat} {w X : World} {u : Value} {ts : List (List E)} (h : RowT base w u ts) (hp : Put w X g) (hg : g < base) : RowT base X u ts := by
  obtain ⟨us, h1, h2, h3⟩ := h
  refine ⟨us, own_put h1 hp hg, h2, fun k x t hx ht => ?_⟩
  obtain ⟨lo, hi, q1, q2, q3, q4⟩ := h3 k x t hx ht
  exact ⟨lo, hi, q1, by rw [hp.size]; exact q2, q3, hp.rd q4 (.inl (by omega))⟩
theorem RowT.block {base g : Nat} {w : World} {u : Value} {ts : List (List E)} (h : RowT base w u ts) (hg : u.ownBlock = some g) : base ≤ g ∧ g < w.heap.size := by
  obtain ⟨us, h1, _⟩ := h
  exact own_block h1 hg
theorem RowT.out {base lo hi : Nat} {w : World} {u : Value} {ts : List (List E)} (h : RowT base w u ts) (hlo : w.heap.size ≤ lo) : Outside lo hi u := fun b hb => .inl (Nat.lt_of_lt_of_le (h.block hb).2 hlo)
theorem RowT.tabs {base : Nat} {w : World} {u : Value} {ts : List (List E)} (h : RowT base w u ts) (hl : ts.length ≤ 1000000) : TabS base w.heap.size w u ts := by
  obtain ⟨us, h1, h2, h3⟩ := h
  refine ⟨us, h2, Rd.of_own h1 (by omega) (Nat.le_refl _), fun k x t hx ht => ?_⟩
  obtain ⟨lo, hi, q1, q2, q3, q4⟩ := h3 k x t hx ht
  exact Rd.wide q4 q1 q2
theorem RowT.len {base : Nat} {w : World} {u : Value} {ts : List (List E)} (h : RowT base w u ts) (hl : ts.length ≤ 1000000) : ∃ A cap, u = .slice A ts.length cap := (h.tabs hl).len
theorem TabS.base {lo hi : Nat} {w : World} {v : Value} {ts : List (List E)} (h : TabS lo hi w v ts) : TabS 0 w.heap.size w v ts := by
  obtain ⟨us, h1, h2, h3⟩ := h
  have key : ∀ {n size : Nat} {v : Value} {cs : List Value}, Rd lo hi size w v n cs → Rd 0 w.heap.size size w v n cs := fun ⟨q1, q2, A, cap, q3, q4, q5⟩ => ⟨q1, q2, A, cap, q3, q4, fun h0 => by
    obtain ⟨g, off, r1, r2, r3, r4, r5⟩ := q5 h0
    exact ⟨g, off, r1, Nat.zero_le _, r4, r4, r5⟩⟩
  exact ⟨us, h1, key h2, fun k u t hu ht => key (h3 k u t hu ht)⟩
end Go.Proofs.YtoiampgfnidfdaaGreatDoor
namespace Go.Proofs.YtoiampgfnidfdaaGreatDoor
open Go.RowKit

theorem spl_self : ∀ (vs : List Value) (pre : List Value), spl (pre ++ vs).toArray pre.length vs = (pre ++ vs).toArray
  | [], pre => rfl
  | v :: vs, pre => by
    have e : ((pre ++ v :: vs).toArray.setIfInBounds pre.length v) = ((pre ++ [v]) ++ vs).toArray := by simp
    rw [spl, e]
    have := spl_self vs (pre ++ [v])
    rw [List.length_append, List.length_singleton] at this
    rw [this]
    simp
theorem step_new0 {P : Program} {o : Oper} {a : Act} {w : World} {e : TypeId} {ie : TypeInfo} {z : Value} (hie : P.info? e = some ie) (hz : ie.zero = some z) (ho : o.op = .alloc e) :
    stepAt P o a w (fun v w' => v = .pointer (some ⟨w.heap.size, 0, none⟩) ∧ w' = w.alloc (.cells z.cells e)) := by
  unfold stepAt execOp
  simp [ho, Instr.alloc, zeroValue, typeInfo, hie, hz, newVar, newRow, newObj]
  exact ⟨rfl, rfl⟩
theorem step_loadR0 {P : Program} {o : Oper} {a : Act} {w : World} {t : TypeId} {x : Operand} {g i : Nat} {cs : List Value} {d : TypeDesc} (hu : P.underlying t = some d) (hd : d.isRow = true) (hi : (P.info? t).map (·.size) = some cs.length) (ho : o.op = .load t x) (hx : a.eval x = .pointer (some ⟨g, i, none⟩)) (hc : w.rangeAt g i cs) :
    stepAt P o a w (fun v' w' => v' = .agg cs.toArray ∧ w' = w) := by
  have h2 := run_loadAt_mid (P := P) w g i t cs d hc hu hd hi
  unfold stepAt execOp
  simp only [ho, hx, Sem.run_bind, h2, Result.andThen_ok]
  exact ⟨rfl, rfl⟩
theorem spl_cat : ∀ (vs pre c2 : List Value), c2.length = vs.length → spl (pre ++ c2).toArray pre.length vs = (pre ++ vs).toArray
  | [], pre, c2, h => by
    rw [List.eq_nil_of_length_eq_zero h]
    rfl
  | v :: vs, pre, c :: c2, h => by
    have e : ((pre ++ c :: c2).toArray.setIfInBounds pre.length v) = ((pre ++ [v]) ++ c2).toArray := by simp
    rw [spl, e]
    have := spl_cat vs (pre ++ [v]) c2 (by simpa using h)
    rw [List.length_append, List.length_singleton] at this
    rw [this]
    simp
theorem spl_all (c2 : Array Value) (cs : List Value) (h : c2.size = cs.length) : spl c2 0 cs = cs.toArray := by
  have := spl_cat cs [] c2.toList (by simpa using h)
  simpa using this
theorem wp_zvar {P : Program} {id : Nat} {o1 o2 o3 : Oper} {Q : Exit → Act → World → Prop} {a : Act} {w : World} (t : TypeId) (i : TypeInfo) (cs : List Value) (x y : Operand)
    (g1 : o1.guard = none) (g2 : o2.guard = none) (g3 : o3.guard = none) (h1 : o1.op = .build t #[]) (h2 : o2.op = .alloc t) (h3 : o3.op = .store t x y)
    (hi : P.info? t = some i) (hz : i.zero = some (.agg cs.toArray)) (hs : i.size = cs.length) (hone : cs.all (·.oneCell') = true) (hb : P.built t [] = some cs.toArray)
    (hx : ∀ u v, ((a.put o1.dst u).put o2.dst v).eval x = v) (hy : ∀ u v, ((a.put o1.dst u).put o2.dst v).eval y = u)
    (H : ∀ X v, Below w.heap.size w X → X.heap.size = w.heap.size + 1 → Blk X w.heap.size t cs.toArray → Q .normal (((a.put o1.dst v).put o2.dst (.pointer (some ⟨w.heap.size, 0, none⟩))).put o3.dst undef) X) :
    (Code.region id #[o1, o2, o3] false).wp P Q a w := by
  refine wp_region_lit (l := [o1, o2, o3]) ?_
  refine wpList_plain g1 fun K hK => wp_build t #[] h1 (by simp [hb]) (hK _ _ ?_)
  refine wpList_plain g2 fun K2 hK2 => wp_of_step (stepAt_mono (fun v w' hh => ?_) (step_new0 hi hz h2))
  obtain ⟨rfl, rfl⟩ := hh
  refine hK2 _ _ ?_
  have hb1 : Blk (w.alloc (.cells (Value.agg cs.toArray).cells t)) w.heap.size t cs.toArray := World.alloc_heap_new w _
  simp only [List.map_toArray, List.map_nil, hb, Option.getD_some]
  have e := spl_self cs []
  simp only [List.nil_append, List.length_nil] at e
  refine wpList_put g3 t x y h3 (g := w.heap.size) (i := 0) (hx _ _) (hy _ _) hb1 (by simp) (by rw [hi]; simp [hs]) hone e fun X hX bX => ?_
  exact H X _ (below_put ((Below.refl _ _).alloc (Nat.le_refl _) _) hX (Nat.le_refl _)) (by rw [hX.size]; simp) bX
theorem blk_range {w : World} {g : Nat} {t : TypeId} {cs : List Value} (hb : Blk w g t cs.toArray) : w.rangeAt g 0 cs := fun j v hv => by
  rw [Nat.zero_add, hb.cell]
  simpa using hv
theorem wp_carry {P : Program} {id : Nat} {o1 o2 : Oper} {Q : Exit → Act → World → Prop} {a : Act} {w : World} (t : TypeId) (cs : List Value) (x y z : Operand) (d : TypeDesc) {g1 g2 : Nat} {t1 t2 : TypeId} {c2 : Array Value}
    (k1 : o1.guard = none) (k2 : o2.guard = none) (h1 : o1.op = .load t x) (h2 : o2.op = .store t y z) (hu : P.underlying t = some d) (hd : d.isRow = true) (hi : (P.info? t).map (·.size) = some cs.length) (hone : cs.all (·.oneCell') = true)
    (hx : a.eval x = .pointer (some ⟨g1, 0, none⟩)) (hy : ∀ u, (a.put o1.dst u).eval y = .pointer (some ⟨g2, 0, none⟩)) (hz : ∀ u, (a.put o1.dst u).eval z = u) (hb1 : Blk w g1 t1 cs.toArray) (hb2 : Blk w g2 t2 c2) (hs : c2.size = cs.length)
    (H : ∀ X v, Put w X g2 → Blk X g2 t2 cs.toArray → Q .normal ((a.put o1.dst v).put o2.dst undef) X) :
    (Code.region id #[o1, o2] false).wp P Q a w := by
  refine wp_region_lit (l := [o1, o2]) ?_
  refine wpList_plain k1 fun K hK => wp_of_step (stepAt_mono (fun v w' hh => ?_) (step_loadR0 hu hd hi h1 hx (blk_range hb1)))
  obtain ⟨rfl, rfl⟩ := hh
  refine hK _ _ ?_
  have e : spl c2 0 cs = cs.toArray := spl_all c2 cs hs
  refine wpList_put k2 t y z h2 (hy _) (hz _) hb2 (by omega) hi hone e fun X hX bX => ?_
  exact H X _ hX bX
theorem res_row {P : Program} {fn : Func} {a : Act} {w : World} {s : Tmp} {t : TypeId} {g : Nat} {t1 : TypeId} {cs : List Value} {d : TypeDesc} (hres : fn.results = #[.cell s t]) (hp : a.tmps[s]? = some (.pointer (some ⟨g, 0, none⟩)))
    (hu : P.underlying t = some d) (hd : d.isRow = true) (hi : (P.info? t).map (·.size) = some cs.length) (hb : Blk w g t1 cs.toArray) : (results fn a.tmps).run P w = .ok (.agg cs.toArray) w := by
  simp [results, hres, hp, Sem.run_bind, asAddr, run_loadVar_mid w g 0 t cs d (blk_range hb) hu hd hi]
end Go.Proofs.YtoiampgfnidfdaaGreatDoor
