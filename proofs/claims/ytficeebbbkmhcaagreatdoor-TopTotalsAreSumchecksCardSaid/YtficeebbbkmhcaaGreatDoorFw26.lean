/-
  A range over an iterator that keeps variables of its own in blocks that it makes itself; two values a round; the rounds all go on.
  Claims as they lie in memory; the iterator over claims and powers, by contract.
  A range over an iterator of one value a round, told by what the memory holds behind the value; the rounds all go on.
  The program's SHA-256: the blocks of the padded message.
  Slices cut from an index on.
  The program's SHA-256: the iterator over the blocks of the padded message, by contract.
  The program's SHA-256, whole.
  The program's transcripts: the tagged hash.
  The program's transcripts: the bytes of elements.
  The program's transcripts: absorbing.
  Hash trees in mathematics: peaks, the bag of the peaks, the tree of at most eight leaves.
  The meter in mathematics: points, epochs, states; its operations.
  The meter in mathematics: what any operations keep.
  A meter in memory.
  The program's digests of leaves and pairs.
  The program's keyed digest.
  The reference's digests of leaves, of pairs, and the keyed digest.
  The library's Backward by contract, and a range over an iterator of two values a round whose rounds all go on.
  Reading bytes in mathematics: parsers that take exactly what was written.
  The program's reading of a number.
  An append onto a row without room; literals of bytes in their form.
  The parser of queries: the filter of the fixed text.
  The forms of queries: a map of seven entries.
  The program's transcripts: the next hash output.
  The program's transcripts: the challenge.
  The coordinates of a point in the program.
  The coordinates of a point in the reference.
  The library's Clone of epochs, of points and of elements, by contract.
  The program's find and current.
  What lies in a set of blocks of a world, and in every world that keeps these.
  The program's change: one epoch turned by a function.
  The program's Close.
  The functions of package mle over the iterator of weights: EqIndex and Accumulate, by contract.
  The program's add: amounts added at every point of an epoch.
  Readings: their fields, whether they are valid, how they are written.
  The program's Retract.
  The number of zeros at the end, for few leaves.
  The program's Push.
  The program's Take.
  The program's Open.
  The program's Open, whole.
  The program's New and Words.
  The program's Bag.
  The program's Root.
  A range over an iterator of one value a round whose rounds all go on; the unused points.
  The program's Left.
  The library's AppendSeq and Collect by contract, over an iterator of numbers.
  The program's flag and write.
-/
import Derived.Test.YtficeebbbkmhcaaGreatDoorRgM
import Derived.Test.YtficeebbbkmhcaaGreatDoorVf2
import Derived.Sort.CutIn
import Derived.Test.YtficeebbbkmhcaaGreatDoorQy
import Derived.Deep.RegionHeld3
import Derived.Test.YtficeebbbkmhcaaGreatDoorTag4
import Derived.Test.YtficeebbbkmhcaaGreatDoorRgL
import Derived.Test.YtficeebbbkmhcaaGreatDoorGrow
import Derived.ArgAppend
import Derived.Test.YtficeebbbkmhcaaGreatDoorPn
import Derived.Test.YtficeebbbkmhcaaGreatDoorZv
import Derived.Maps.OwnIn
namespace Go.Proofs.YtficeebbbkmhcaaGreatDoor
open Go.RowKit

end Go.Proofs.YtficeebbbkmhcaaGreatDoor
namespace Go.Proofs.YtficeebbbkmhcaaGreatDoor
open Go.RowKit

structure Clm where
  p : List E
  v : E
abbrev ClW := Clm × (Option Addr × Nat)
def ptV (x : ClW) : Value := .slice x.2.1 x.1.p.length x.2.2
def clc (x : ClW) : List Value := [ptV x, .int .u64 (fv x.1.v.a), .int .u64 (fv x.1.v.b)]
theorem clc_len (x : ClW) : (clc x).length = 3 := rfl
def ClmU (lo hi : Nat) (w : World) (v : Value) (cs : List ClW) : Prop := Rd lo hi 3 w v cs.length (cs.flatMap clc) ∧ ∀ x ∈ cs, ExtS lo hi w (ptV x) x.1.p
theorem ClmU.keep {lo hi : Nat} {w w' : World} {v : Value} {cs : List ClW} (h : ClmU lo hi w v cs) (hb : Below w.heap.size w w') : ClmU lo hi w' v cs :=
  ⟨h.1.keep hb, fun x hx => Rd.keep (h.2 x hx) hb⟩
theorem ClmU.wide {lo hi lo' hi' : Nat} {w : World} {v : Value} {cs : List ClW} (h : ClmU lo hi w v cs) (h1 : lo' ≤ lo) (h2 : hi ≤ hi') : ClmU lo' hi' w v cs :=
  ⟨h.1.wide h1 h2, fun x hx => Rd.wide (h.2 x hx) h1 h2⟩
theorem ClmU.len {lo hi : Nat} {w : World} {v : Value} {cs : List ClW} (h : ClmU lo hi w v cs) : ∃ A cap, v = .slice A cs.length cap := h.1.len
theorem ClmU.small {lo hi : Nat} {w : World} {v : Value} {cs : List ClW} (h : ClmU lo hi w v cs) : cs.length ≤ 140737488355327 := h.1.2.1
theorem ClmU.cells {lo hi : Nat} {w : World} {v : Value} {cs : List ClW} (h : ClmU lo hi w v cs) (h0 : 0 < cs.length) : ∃ g off cap, v = .slice (some ⟨g, off, none⟩) cs.length cap ∧ cs.length ≤ cap ∧ lo ≤ g ∧ g < hi ∧ g < w.heap.size ∧
    ∀ k x, cs[k]? = some x → ExtS lo hi w (ptV x) x.1.p ∧ w.cell? ⟨g, off + k * 3, none⟩ = some (ptV x) ∧ w.cell? ⟨g, off + k * 3 + 1, none⟩ = some (.int .u64 (fv x.1.v.a)) ∧ w.cell? ⟨g, off + k * 3 + 2, none⟩ = some (.int .u64 (fv x.1.v.b)) := by
  obtain ⟨g, off, cap, q1, q2, q3, q4, q5, q6⟩ := Rd.form h.1 h0
  refine ⟨g, off, cap, q1, q2, q3, q4, q5, fun k x hx => ?_⟩
  have e : ∀ j u, (clc x)[j]? = some u → w.cell? ⟨g, off + k * 3 + j, none⟩ = some u := fun j u hu => by
    have := q6 (k * 3 + j) _ (flat_get clc_len _ k j _ _ hx hu)
    rwa [← Nat.add_assoc] at this
  exact ⟨h.2 x (List.mem_of_getElem? hx), e 0 _ rfl, e 1 _ rfl, e 2 _ rfl⟩

/-! ### Powers -/
attribute [local go_sem] Oper.semAt_some
end Go.Proofs.YtficeebbbkmhcaaGreatDoor
namespace Go.Proofs.YtficeebbbkmhcaaGreatDoor
open Go.RowKit

end Go.Proofs.YtficeebbbkmhcaaGreatDoor
namespace Go.Proofs.YtficeebbbkmhcaaGreatDoor
open Go.RowKit

theorem grown_split {A B : World} {g : Nat} (h : A.grownBy B (some g)) (hg : g < A.heap.size) : ∃ M, Below A.heap.size A M ∧ Put M B g := by
  refine ⟨B.putObj g A.heap[g], ⟨h.os, h.tape, h.output, by simpa using h.size, fun k hk => ?_⟩, ⟨rfl, rfl, rfl, by simp, fun k hk => (World.putObj_heap_other (by omega)).symm⟩⟩
  by_cases e : k = g
  · subst e
    rw [World.putObj_heap_same (Nat.lt_of_lt_of_le hk h.size), Array.getElem?_eq_getElem hk]
  · rw [World.putObj_heap_other (by omega)]
    exact h.block k hk (fun e' => by cases e'; exact e rfl)
structure Calm (base : Nat) (I : World → Prop) : Prop where
  up : ∀ A B, I A → Below A.heap.size A B → I B
  put : ∀ A B g, base ≤ g → I A → Put A B g → I B
theorem Calm.grown {base : Nat} {I : World → Prop} (h : Calm base I) {A B : World} {r : Option Nat} (hI : I A) (hg : A.grownBy B r) (hr : ∀ g, r = some g → base ≤ g ∧ g < A.heap.size) : I B := by
  cases r with
  | none => exact h.up A B hI ⟨hg.os, hg.tape, hg.output, hg.size, fun k hk => hg.block k hk (fun e => by cases e)⟩
  | some g =>
    obtain ⟨h1, h2⟩ := hr g rfl
    obtain ⟨M, hM, hP⟩ := grown_split hg h2
    exact h.put _ _ _ h1 (h.up _ _ hI hM) hP
theorem Calm.and {base : Nat} {I K : World → Prop} (h : Calm base I) (k : Calm base K) : Calm base (fun w => I w ∧ K w) := ⟨fun A B i b => ⟨h.up A B i.1 b, k.up A B i.2 b⟩, fun A B g hg i p => ⟨h.put A B g hg i.1 p, k.put A B g hg i.2 p⟩⟩
end Go.Proofs.YtficeebbbkmhcaaGreatDoor
namespace Go.Proofs.YtficeebbbkmhcaaGreatDoor
open Go.RowKit

end Go.Proofs.YtficeebbbkmhcaaGreatDoor
namespace Go.Proofs.YtficeebbbkmhcaaGreatDoor
open Go.RowKit

attribute [local go_sem] Oper.semAt_some
end Go.Proofs.YtficeebbbkmhcaaGreatDoor
namespace Go.Proofs.YtficeebbbkmhcaaGreatDoor
open Go.RowKit

attribute [local go_sem] Oper.semAt_some
end Go.Proofs.YtficeebbbkmhcaaGreatDoor
namespace Go.Proofs.YtficeebbbkmhcaaGreatDoor
open Go.RowKit

attribute [local irreducible] wpRg
end Go.Proofs.YtficeebbbkmhcaaGreatDoor
namespace Go.Proofs.YtficeebbbkmhcaaGreatDoor
open Go.RowKit

attribute [local irreducible] wpRg
end Go.Proofs.YtficeebbbkmhcaaGreatDoor
namespace Go.Proofs.YtficeebbbkmhcaaGreatDoor
open Go.RowKit

attribute [local irreducible] wpRg
end Go.Proofs.YtficeebbbkmhcaaGreatDoor
namespace Go.Proofs.YtficeebbbkmhcaaGreatDoor

abbrev Dg := List Nat
def tz1 (n : Nat) : Nat := if h : n % 2 = 1 then tz1 (n / 2) + 1 else 0
termination_by n
decreasing_by omega
section
variable (pr : Dg → Dg → Dg)
def pushN : Nat → List Dg → Dg → List Dg
  | 0, ps, d => ps ++ [d]
  | t + 1, ps, d => pushN t ps.dropLast (pr (ps.getLastD []) d)
def peaksN : List Dg → Nat → List Dg → List Dg
  | ps, _, [] => ps
  | ps, n, d :: r => peaksN (pushN pr (tz1 n) ps d) (n + 1) r
def onesN (n : Nat) : Nat := if h : n = 0 then 0 else n % 2 + onesN (n / 2)
termination_by n
decreasing_by omega
theorem peaks_ones : ∀ l : List Dg, l.length ≤ 8 → (peaksN pr [] 0 l).length = onesN l.length
  | [], _ => by simp [peaksN, onesN]
  | [_], _ => by simp [peaksN, pushN, tz1, onesN]
  | [_, _], _ => by simp [peaksN, pushN, tz1, onesN]
  | [_, _, _], _ => by simp [peaksN, pushN, tz1, onesN]
  | [_, _, _, _], _ => by simp [peaksN, pushN, tz1, onesN]
  | [_, _, _, _, _], _ => by simp [peaksN, pushN, tz1, onesN]
  | [_, _, _, _, _, _], _ => by simp [peaksN, pushN, tz1, onesN]
  | [_, _, _, _, _, _, _], _ => by simp [peaksN, pushN, tz1, onesN]
  | [_, _, _, _, _, _, _, _], _ => by simp [peaksN, pushN, tz1, onesN]
  | _ :: _ :: _ :: _ :: _ :: _ :: _ :: _ :: _ :: _, h => by simp at h
end
end Go.Proofs.YtficeebbbkmhcaaGreatDoor
namespace Go.Proofs.YtficeebbbkmhcaaGreatDoor

def maskK (key : Dg) (m : Nat) : List Nat := (key ++ List.replicate 32 0).map fun x => x ^^^ m
def keyD (key : Dg) (b : List Nat) : Dg := sha (maskK key 92 ++ sha (maskK key 54 ++ b))
def leafD (b : List Nat) : Dg := sha (0 :: b)
def pairD (a b : Dg) : Dg := sha (1 :: a ++ b)
def cdE (d : Dg) : E := ⟨fz (le8 d 0 8), fz (le8 d 8 8)⟩
def cdB (n k i : Nat) : List Nat := [112, 111, 105, 110, 116] ++ [n % 256, k % 256, i % 256]
def coordM (seed : Dg) (n k log : Nat) : List E := (List.range log).map fun i => cdE (keyD seed (cdB n k i))
theorem coordM_length (seed : Dg) (n k log : Nat) : (coordM seed n k log).length = log := by simp [coordM]
structure Pt where
  R : List E
  V : List E
  used : Bool
structure Ep where
  log : Nat
  count : Nat
  closed : Bool
  pts : List Pt
  peaks : List Dg
structure Mt where
  ver : Nat
  seed : Dg
  eps : List Ep
structure Rdg where
  who : Int
  when : Int
  kind : Int
  value : Int
def Rdg.ok (r : Rdg) : Prop := (0 ≤ r.who ∧ r.who < 16) ∧ (0 ≤ r.when ∧ r.when < 256) ∧ (0 ≤ r.kind ∧ r.kind < 16) ∧ (0 ≤ r.value ∧ r.value < 256)
instance (r : Rdg) : Decidable r.ok := by unfold Rdg.ok; infer_instance
def Rdg.enc (r : Rdg) : List Nat := [(r.who + 16 * r.kind).toNat, r.when.toNat, r.value.toNat]
def Mt.put (m : Mt) (i : Nat) (e : Ep) : Mt := ⟨m.ver + 1, m.seed, m.eps.set i e⟩
def Mt.at (m : Mt) (i : Nat) : Ep := m.eps.getD i ⟨0, 0, false, [], []⟩
def leB (x n : Nat) : List Nat := (List.range n).map fun i => x / 2 ^ (8 * i) % 256
def flB (b : Bool) : Nat := if b then 1 else 0
def extB (x : E) : List Nat := leB (fv x.a).toNat 8 ++ leB (fv x.b).toNat 8
def ptB (p : Pt) : List Nat := flB p.used :: p.V.flatMap extB
def epB (e : Ep) : List Nat := e.log % 256 :: leB e.count 4 ++ [flB e.closed, e.pts.length % 256] ++ e.pts.flatMap ptB ++ e.peaks.length % 256 :: e.peaks.flatten
def encM (m : Mt) : List Nat := leB m.ver 8 ++ m.seed ++ m.eps.length % 256 :: m.eps.flatMap epB
end Go.Proofs.YtficeebbbkmhcaaGreatDoor
namespace Go.Proofs.YtficeebbbkmhcaaGreatDoor

abbrev Stm := List (Rdg × Bool)
def amt (c : Nat) (x : Rdg × Bool) : Int := [x.1.who, x.1.when, x.1.kind, x.1.value, if x.2 then 0 else 1].getD c 0
def colM (c log : Nat) (l : Stm) : List E := (List.range (2 ^ log)).map fun i => match l[i]? with | some x => eb (fz (amt c x)) | none => 0
theorem colM_length (c log : Nat) (l : Stm) : (colM c log l).length = 2 ^ log := by simp [colM]
theorem colM_get (c log : Nat) (l : Stm) (i : Nat) (h : i < 2 ^ log) : (colM c log l)[i]? = some (match l[i]? with | some x => eb (fz (amt c x)) | none => 0) := by
  simp [colM, h]
def valsM (log : Nat) (l : Stm) (R : List E) : List E := (List.range 5).map fun c => mev (colM c log l) R
structure Op26 where
  kind : Nat
  b0 : Nat
  b1 : Nat
  b2 : Nat
  i : Nat
  n : Nat
def Op26.ok (o : Op26) : Prop := o.kind < 256 ∧ o.b0 < 256 ∧ o.b1 < 256 ∧ o.b2 < 256 ∧ o.i < 256 ∧ o.n < 256
def Op26.rdg (o : Op26) : Rdg := ⟨o.b0 % 16, o.b1, o.b0 / 16, o.b2⟩
abbrev St26 := Mt × List Stm
def St26.put (s : St26) (m : Mt) (l : Stm) : St26 := (m, s.2.set (s.2.length - 1) l)
structure EpOk (seed : Dg) (n : Nat) (e : Ep) (l : Stm) : Prop where
  log : e.log ≤ 3
  cnt : e.count = l.length
  le : l.length ≤ 2 ^ e.log
  p1 : 1 ≤ e.pts.length
  p4 : e.pts.length ≤ 4
  pt : ∀ k p, e.pts[k]? = some p → p.R = coordM seed n k e.log ∧ p.V = valsM e.log l p.R ∧ (p.used = true → e.closed = true)
  pk : e.peaks = peaksN pairD [] 0 (l.map fun x => leafD x.1.enc)
  rd : ∀ x ∈ l, x.1.ok
structure StOk26 (k : Nat) (s : St26) : Prop where
  seed : s.1.seed.length = 32 ∧ ∀ x ∈ s.1.seed, x < 256
  ver : s.1.ver ≤ k
  len : s.2.length = s.1.eps.length
  eps : s.1.eps.length ≤ k
  ep : ∀ i e l, s.1.eps[i]? = some e → s.2[i]? = some l → EpOk s.1.seed i e l
  cl : ∀ i e, s.1.eps[i]? = some e → i + 1 < s.1.eps.length → e.closed = true
theorem at_get (m : Mt) (i : Nat) (h : i < m.eps.length) : m.eps[i]? = some (m.at i) := by
  unfold Mt.at
  rw [List.getD_eq_getElem?_getD, List.getElem?_eq_getElem h]
  rfl
theorem StOk26.mono {k k' : Nat} {s : St26} (h : StOk26 k s) (hk : k ≤ k') : StOk26 k' s := ⟨h.seed, Nat.le_trans h.ver hk, h.len, Nat.le_trans h.eps hk, h.ep, h.cl⟩
theorem set_self26 {α : Type} (l : List α) (i : Nat) (x : α) (h : l[i]? = some x) : l.set i x = l := by
  refine List.ext_getElem? fun j => ?_
  by_cases hj : i = j
  · subst hj
    rw [List.getElem?_set_self (List.getElem?_eq_some_iff.1 h).1, h]
  · rw [List.getElem?_set_ne hj]
theorem StOk26.at {k : Nat} {s : St26} (h : StOk26 k s) (i : Nat) (hi : i < s.1.eps.length) : ∃ l, s.2[i]? = some l ∧ EpOk s.1.seed i (s.1.at i) l := by
  have hl : i < s.2.length := by rw [h.len]; exact hi
  exact ⟨s.2[i], List.getElem?_eq_getElem hl, h.ep i _ _ (at_get _ _ hi) (List.getElem?_eq_getElem hl)⟩
end Go.Proofs.YtficeebbbkmhcaaGreatDoor
namespace Go.Proofs.YtficeebbbkmhcaaGreatDoor
open Go.RowKit

def Al {α β : Type} (R : α → β → Prop) (us : List α) (ps : List β) : Prop := us.length = ps.length ∧ ∀ (k : Nat) u p, us[k]? = some u → ps[k]? = some p → R u p
section
variable {α β : Type} {R S : α → β → Prop} {us : List α} {ps : List β}
theorem Al.nil : Al R [] [] := ⟨rfl, fun k u p h => (by cases h)⟩
theorem Al.mono (h : Al R us ps) (hs : ∀ u p, R u p → S u p) : Al S us ps := ⟨h.1, fun k u p h1 h2 => hs _ _ (h.2 k u p h1 h2)⟩
theorem Al.snoc (h : Al R us ps) {u : α} {p : β} (hu : R u p) : Al R (us ++ [u]) (ps ++ [p]) := by
  refine ⟨by simp [h.1], fun k x y hx hy => ?_⟩
  by_cases hk : k < us.length
  · rw [List.getElem?_append_left hk] at hx
    rw [List.getElem?_append_left (by rw [← h.1]; exact hk)] at hy
    exact h.2 k x y hx hy
  · have hk2 := (List.getElem?_eq_some_iff.1 hx).1
    simp only [List.length_append, List.length_singleton] at hk2
    obtain rfl : k = us.length := by omega
    rw [List.getElem?_append_right (Nat.le_refl _), Nat.sub_self] at hx
    rw [List.getElem?_append_right (by rw [h.1]; exact Nat.le_refl _), h.1, Nat.sub_self] at hy
    cases hx
    cases hy
    exact hu
theorem Al.set (h : Al R us ps) {i : Nat} {u : α} {p : β} (hu : R u p) : Al R (us.set i u) (ps.set i p) := by
  refine ⟨by simp [h.1], fun k x y hx hy => ?_⟩
  by_cases hk : i = k
  · subst hk
    have h1 := (List.getElem?_eq_some_iff.1 hx).1
    have h2 := (List.getElem?_eq_some_iff.1 hy).1
    rw [List.length_set] at h1 h2
    rw [List.getElem?_set_self h1] at hx
    rw [List.getElem?_set_self h2] at hy
    cases hx
    cases hy
    exact hu
  · rw [List.getElem?_set_ne hk] at hx hy
    exact h.2 k x y hx hy
theorem Al.get (h : Al R us ps) {k : Nat} (hk : k < ps.length) : ∃ u p, us[k]? = some u ∧ ps[k]? = some p ∧ R u p := by
  have h1 : k < us.length := by rw [h.1]; exact hk
  exact ⟨us[k], ps[k], List.getElem?_eq_getElem h1, List.getElem?_eq_getElem hk, h.2 k _ _ (List.getElem?_eq_getElem h1) (List.getElem?_eq_getElem hk)⟩
theorem Al.take (h : Al R us ps) (n : Nat) : Al R (us.take n) (ps.take n) := by
  refine ⟨by simp [h.1], fun k x y hx hy => ?_⟩
  rw [List.getElem?_take] at hx hy
  split at hx
  · rename_i hk
    rw [if_pos hk] at hy
    exact h.2 k x y hx hy
  · cases hx
end
def RdA (size : Nat) (W : World) (v : Value) (n : Nat) (cs : List Value) : Prop := Rd 0 W.heap.size size W v n cs
theorem RdA.keep {size n : Nat} {W W' : World} {v : Value} {cs : List Value} (h : RdA size W v n cs) (hb : Below W.heap.size W W') : RdA size W' v n cs := (Rd.keep h hb).wide (Nat.le_refl _) hb.size
theorem RdA.of {size n lo hi : Nat} {W : World} {v : Value} {cs : List Value} (h : Rd lo hi size W v n cs) : RdA size W v n cs := by
  obtain ⟨q1, q2, A, cap, q3, q4, q5⟩ := h
  refine ⟨q1, q2, A, cap, q3, q4, fun h0 => ?_⟩
  obtain ⟨g, off, r1, r2, r3, r4, r5⟩ := q5 h0
  exact ⟨g, off, r1, Nat.zero_le _, r4, r4, r5⟩
def ExA (W : World) (v : Value) (xs : List E) : Prop := RdA 2 W v xs.length (xs.flatMap ec)
theorem ExA.keep {W W' : World} {v : Value} {xs : List E} (h : ExA W v xs) (hb : Below W.heap.size W W') : ExA W' v xs := RdA.keep h hb
structure PtW where
  r : Value
  v : Value
  u : Bool
def ptc (x : PtW) : List Value := [x.r, x.v, .bool x.u]
theorem ptc_len (x : PtW) : (ptc x).length = 3 := rfl
def PtIn (W : World) (x : PtW) (p : Pt) : Prop := ExA W x.r p.R ∧ ExA W x.v p.V ∧ x.u = p.used
theorem PtIn.keep {W W' : World} {x : PtW} {p : Pt} (h : PtIn W x p) (hb : Below W.heap.size W W') : PtIn W' x p := ⟨h.1.keep hb, h.2.1.keep hb, h.2.2⟩
def PtsA (W : World) (v : Value) (ps : List Pt) : Prop := ∃ us : List PtW, RdA 3 W v us.length (us.flatMap ptc) ∧ Al (PtIn W) us ps
theorem PtsA.keep {W W' : World} {v : Value} {ps : List Pt} (h : PtsA W v ps) (hb : Below W.heap.size W W') : PtsA W' v ps := by
  obtain ⟨us, h1, h2⟩ := h
  exact ⟨us, h1.keep hb, h2.mono fun _ _ h => h.keep hb⟩
theorem byc_len' (l : List Nat) : (byc l).length = l.length := by simp [byc]
def DgOk (d : Dg) : Prop := d.length = 32 ∧ ∀ x ∈ d, x < 256
def DgsA (W : World) (v : Value) (ds : List Dg) : Prop := RdA 32 W v ds.length (ds.flatMap byc) ∧ ∀ d ∈ ds, DgOk d
theorem DgsA.keep {W W' : World} {v : Value} {ds : List Dg} (h : DgsA W v ds) (hb : Below W.heap.size W W') : DgsA W' v ds := ⟨h.1.keep hb, h.2⟩
structure EpW where
  log : Nat
  count : Nat
  closed : Bool
  p : Value
  k : Value
def epc (x : EpW) : List Value := [.int .i64 (x.log : Int), .int .i64 (x.count : Int), .bool x.closed, x.p, x.k]
theorem epc_len (x : EpW) : (epc x).length = 5 := rfl
def EpIn (W : World) (x : EpW) (e : Ep) : Prop := (x.log = e.log ∧ x.count = e.count ∧ x.closed = e.closed) ∧ PtsA W x.p e.pts ∧ DgsA W x.k e.peaks
theorem EpIn.keep {W W' : World} {x : EpW} {e : Ep} (h : EpIn W x e) (hb : Below W.heap.size W W') : EpIn W' x e := ⟨h.1, h.2.1.keep hb, h.2.2.keep hb⟩
def EpsA (W : World) (v : Value) (es : List Ep) : Prop := ∃ us : List EpW, RdA 5 W v us.length (us.flatMap epc) ∧ Al (EpIn W) us es
theorem EpsA.keep {W W' : World} {v : Value} {es : List Ep} (h : EpsA W v es) (hb : Below W.heap.size W W') : EpsA W' v es := by
  obtain ⟨us, h1, h2⟩ := h
  exact ⟨us, h1.keep hb, h2.mono fun _ _ h => h.keep hb⟩
theorem RdA.form {size n : Nat} {W : World} {v : Value} {cs : List Value} (h : RdA size W v n cs) (h0 : 0 < n) : ∃ g off cap, v = .slice (some ⟨g, off, none⟩) n cap ∧ n ≤ cap ∧ g < W.heap.size ∧ ∀ j u, cs[j]? = some u → W.cell? ⟨g, off + j, none⟩ = some u := by
  obtain ⟨g, off, cap, h1, h2, _, _, h3, h4⟩ := Rd.form h h0
  exact ⟨g, off, cap, h1, h2, h3, h4⟩
theorem RdA.at {α : Type} {f : α → List Value} {size : Nat} {W : World} {v : Value} {us : List α} (hf : ∀ x, (f x).length = size) (h : RdA size W v us.length (us.flatMap f)) {k : Nat} {u : α} (hk : us[k]? = some u) :
    ∃ g off cap, v = .slice (some ⟨g, off, none⟩) us.length cap ∧ us.length ≤ cap ∧ g < W.heap.size ∧ ∀ j x, (f u)[j]? = some x → W.cell? ⟨g, off + (k * size + j), none⟩ = some x := by
  have h0 : 0 < us.length := by have := (List.getElem?_eq_some_iff.1 hk).1; omega
  obtain ⟨g, off, cap, h1, h2, h3, h4⟩ := h.form h0
  exact ⟨g, off, cap, h1, h2, h3, fun j x hj => h4 _ _ (flat_get hf us k j u x hk hj)⟩
theorem EpsA.len {W : World} {v : Value} {es : List Ep} (h : EpsA W v es) : ∃ A cap, v = .slice A es.length cap := by
  obtain ⟨us, h1, h2⟩ := h
  obtain ⟨A, cap, h3⟩ := Rd.len h1
  exact ⟨A, cap, by rw [h3, h2.1]⟩
theorem EpsA.small {W : World} {v : Value} {es : List Ep} (h : EpsA W v es) : es.length ≤ 140737488355327 := by
  obtain ⟨us, h1, h2⟩ := h
  rw [← h2.1]
  exact h1.2.1
theorem PtsA.len {W : World} {v : Value} {es : List Pt} (h : PtsA W v es) : ∃ A cap, v = .slice A es.length cap := by
  obtain ⟨us, h1, h2⟩ := h
  obtain ⟨A, cap, h3⟩ := Rd.len h1
  exact ⟨A, cap, by rw [h3, h2.1]⟩
theorem PtsA.small {W : World} {v : Value} {es : List Pt} (h : PtsA W v es) : es.length ≤ 140737488355327 := by
  obtain ⟨us, h1, h2⟩ := h
  rw [← h2.1]
  exact h1.2.1
theorem DgsA.len {W : World} {v : Value} {ds : List Dg} (h : DgsA W v ds) : ∃ A cap, v = .slice A ds.length cap := Rd.len h.1
theorem EpsA.at {W : World} {v : Value} {es : List Ep} (h : EpsA W v es) {k : Nat} {e : Ep} (hk : es[k]? = some e) : ∃ g off cap p d, v = .slice (some ⟨g, off, none⟩) es.length cap ∧ es.length ≤ cap ∧ g < W.heap.size ∧
    W.cell? ⟨g, off + k * 5, none⟩ = some (.int .i64 (e.log : Int)) ∧ W.cell? ⟨g, off + k * 5 + 1, none⟩ = some (.int .i64 (e.count : Int)) ∧ W.cell? ⟨g, off + k * 5 + 2, none⟩ = some (.bool e.closed) ∧
    W.cell? ⟨g, off + k * 5 + 3, none⟩ = some p ∧ W.cell? ⟨g, off + k * 5 + 4, none⟩ = some d ∧ PtsA W p e.pts ∧ DgsA W d e.peaks := by
  obtain ⟨us, h1, h2⟩ := h
  have hl : k < es.length := (List.getElem?_eq_some_iff.1 hk).1
  obtain ⟨u, e', hu, he', hR⟩ := h2.get hl
  obtain rfl : e' = e := Option.some.inj (he'.symm.trans hk)
  obtain ⟨g, off, cap, q1, q2, q3, q4⟩ := RdA.at epc_len h1 hu
  obtain ⟨⟨r1, r2, r3⟩, r4, r5⟩ := hR
  refine ⟨g, off, cap, u.p, u.k, by rw [q1, h2.1], by rw [← h2.1]; exact q2, q3, ?_, ?_, ?_, ?_, ?_, r4, r5⟩
  · rw [← r1]; exact q4 0 _ rfl
  · rw [← r2, Nat.add_assoc]; exact q4 1 _ rfl
  · rw [← r3, Nat.add_assoc]; exact q4 2 _ rfl
  · rw [Nat.add_assoc]; exact q4 3 _ rfl
  · rw [Nat.add_assoc]; exact q4 4 _ rfl
theorem PtsA.at {W : World} {v : Value} {ps : List Pt} (h : PtsA W v ps) {k : Nat} {p : Pt} (hk : ps[k]? = some p) : ∃ g off cap r x, v = .slice (some ⟨g, off, none⟩) ps.length cap ∧ ps.length ≤ cap ∧ g < W.heap.size ∧
    W.cell? ⟨g, off + k * 3, none⟩ = some r ∧ W.cell? ⟨g, off + k * 3 + 1, none⟩ = some x ∧ W.cell? ⟨g, off + k * 3 + 2, none⟩ = some (.bool p.used) ∧ ExA W r p.R ∧ ExA W x p.V := by
  obtain ⟨us, h1, h2⟩ := h
  have hl : k < ps.length := (List.getElem?_eq_some_iff.1 hk).1
  obtain ⟨u, e', hu, he', hR⟩ := h2.get hl
  obtain rfl : e' = p := Option.some.inj (he'.symm.trans hk)
  obtain ⟨g, off, cap, q1, q2, q3, q4⟩ := RdA.at ptc_len h1 hu
  obtain ⟨r1, r2, r3⟩ := hR
  refine ⟨g, off, cap, u.r, u.v, by rw [q1, h2.1], by rw [← h2.1]; exact q2, q3, ?_, ?_, ?_, r1, r2⟩
  · exact q4 0 _ rfl
  · rw [Nat.add_assoc]; exact q4 1 _ rfl
  · rw [← r3, Nat.add_assoc]; exact q4 2 _ rfl
theorem DgsA.at {W : World} {v : Value} {ds : List Dg} (h : DgsA W v ds) {k : Nat} {d : Dg} (hk : ds[k]? = some d) : ∃ g off cap, v = .slice (some ⟨g, off, none⟩) ds.length cap ∧ ds.length ≤ cap ∧ g < W.heap.size ∧ W.rangeAt g (off + k * 32) (byc d) ∧ DgOk d := by
  have hl : k < ds.length := (List.getElem?_eq_some_iff.1 hk).1
  have hd := h.2 d (List.mem_of_getElem? hk)
  obtain ⟨g, off, cap, h1, h2, h3, h4⟩ := h.1.form (by omega)
  refine ⟨g, off, cap, h1, h2, h3, fun j v hj => ?_, hd⟩
  rw [Nat.add_assoc]
  refine h4 _ _ ?_
  have hj2 : j < 32 := by
    have := (List.getElem?_eq_some_iff.1 hj).1
    rw [byc_len', hd.1] at this
    exact this
  have hall : ∀ (l : List Dg), (∀ x ∈ l, DgOk x) → ∀ (k : Nat) (d : Dg), l[k]? = some d → (l.flatMap byc)[k * 32 + j]? = (byc d)[j]? := by
    intro l
    induction l with
    | nil => intro _ k d hk; cases hk
    | cons y l ih =>
      intro hl k d hk
      have hy : (byc y).length = 32 := by rw [byc_len']; exact (hl y (List.mem_cons_self ..)).1
      rcases k with _ | k
      · cases hk
        rw [List.flatMap_cons, Nat.zero_mul, Nat.zero_add, List.getElem?_append_left (by omega)]
      · rw [List.flatMap_cons, List.getElem?_append_right (by rw [hy, Nat.succ_mul]; omega), hy, show (k + 1) * 32 + j - 32 = k * 32 + j by rw [Nat.succ_mul]; omega]
        exact ih (fun x hx => hl x (List.mem_cons_of_mem _ hx)) k d (by simpa using hk)
  rw [hall ds h.2 k d hk]
  exact hj
end Go.Proofs.YtficeebbbkmhcaaGreatDoor
namespace Go.Proofs.YtficeebbbkmhcaaGreatDoor
open Go.RowKit

attribute [local irreducible] wpRg
end Go.Proofs.YtficeebbbkmhcaaGreatDoor
namespace Go.Proofs.YtficeebbbkmhcaaGreatDoor
open Go.RowKit

attribute [local irreducible] wpRg
end Go.Proofs.YtficeebbbkmhcaaGreatDoor
namespace Go.Proofs.YtficeebbbkmhcaaGreatDoor
open Go.RowKit

attribute [local irreducible] wpRg
end Go.Proofs.YtficeebbbkmhcaaGreatDoor
namespace Go.Proofs.YtficeebbbkmhcaaGreatDoor
open Go.RowKit

attribute [local go_sem] Oper.semAt_some
end Go.Proofs.YtficeebbbkmhcaaGreatDoor
namespace Go.Proofs.YtficeebbbkmhcaaGreatDoor

/-! ### What is taken is taken from the front -/
/-! ### What was written is read; what is read was written -/
end Go.Proofs.YtficeebbbkmhcaaGreatDoor
namespace Go.Proofs.YtficeebbbkmhcaaGreatDoor
open Go.RowKit

theorem keepsS_set {S : Nat → Prop} (W : World) (p : Addr) (v : Value) (h : ¬ S p.block) : Keeps S W (W.setCell p v) :=
  ⟨by simp, fun g hg _ => Below.heap_setCell _ p _ g (fun e => h (e ▸ hg))⟩
attribute [local go_sem] Oper.semAt_some
end Go.Proofs.YtficeebbbkmhcaaGreatDoor
namespace Go.Proofs.YtficeebbbkmhcaaGreatDoor
open Go.RowKit

theorem step_grows {P : Program} {o : Oper} {a : Act} {w : World} {s x : Operand} {t e : TypeId} {i : TypeInfo} {z : Value} {size bytes n m lo hi lo2 hi2 : Nat} {ao : Option Addr} {olds news : List Value} {v2 : Value}
    (ho : o.op = .call { callee := .builtin .append, args := #[s, x], argTypes := #[t, t] }) (ht : P.underlying t = some (.slice e)) (hie : P.info? e = some i) (hz : i.zero = some z) (hsize : i.size = size) (hby : i.bytes = bytes) (hzs : z.cells.size = size) (hsz : 0 < size)
    (h1 : ∀ u ∈ news, u.oneCell' = true) (hs : a.eval s = .slice ao n n) (hnone : ao = none → n = 0) (hx : a.eval x = v2) (hr1 : Rd lo hi size w (.slice ao n n) n olds) (hr2 : Rd lo2 hi2 size w v2 m news) (hm : 0 < m) (hk : n + m ≤ maxLen) (hk2 : (n + m) * bytes ≤ 140737488355328) :
    stepAt P o a w fun v' w' => w'.ownsRow w.heap.size e size v' (n + m) (olds ++ news) ∧ Below w.heap.size w w' := by
  obtain ⟨g2, off2, c2, rfl, -, -, -, q2, q3⟩ := Rd.form hr2 hm
  have hcell : ∀ j u, news[j]? = some u → w.cell? (Addr.add ⟨g2, off2, none⟩ j) = some u := fun j u hj => by rw [Addr.add_lit]; exact q3 j u hj
  cases ao with
  | some b =>
    have hold : ∀ j u, olds[j]? = some u → w.cell? (b.add j) = some u := by
      rcases Nat.eq_zero_or_pos n with h0 | h0
      · subst h0
        have : olds = [] := List.eq_nil_of_length_eq_zero (by rw [hr1.1]; omega)
        intro j u hj
        rw [this] at hj
        cases hj
      · obtain ⟨g, off, c, hv, -, -, -, -, q⟩ := Rd.form hr1 h0
        cases hv
        exact fun j u hj => by rw [Addr.add_lit]; exact q j u hj
    obtain ⟨v', w', hrun, r1, r2⟩ := run_append_arg_grows (P := P) w t o.type e i z size bytes ht hie hz hsize hby hzs hsz b n n olds hr1.1 hold ⟨g2, off2, none⟩ m c2 news hr2.1 hcell (by omega) hk hk2
    unfold stepAt execOp
    simp only [ho]
    simp [resolve, invoke, builtin, hs, hx, hrun, Result.andThen]
    exact ⟨r1, below_of_grown r2⟩
  | none =>
    obtain rfl := hnone rfl
    obtain rfl : olds = [] := List.eq_nil_of_length_eq_zero (by rw [hr1.1]; omega)
    obtain ⟨v', w', hrun, r1, r2, _⟩ := run_append_own (P := P) w w.heap.size t o.type e i z size bytes ht hie hz hsize hby hzs hsz (.slice none 0 0) 0 [] (World.ownsRow_nil w _ e size) ⟨g2, off2, none⟩ m c2 news hr2.1 hcell h1 hk hk2 (Nat.le_refl _)
    unfold stepAt execOp
    simp only [ho]
    simp [resolve, invoke, builtin, hs, hx, hrun, Result.andThen]
    exact ⟨by simpa using r1, below_of_grown (show w.grownBy w' none from r2)⟩
theorem OwA.form {l : List Nat} {lo hi : Nat} {v : Value} {w : World} (h : OwA l lo hi v w) (h0 : 0 < l.length) : ∃ g cap, v = .slice (some ⟨g, 0, none⟩) l.length cap ∧ l.length ≤ cap ∧ cap ≤ maxLen ∧ lo ≤ g ∧ g < hi := by
  rcases h.1.2 with ⟨_, h2⟩ | ⟨g, cap, cur, rfl, r1, r2, r3, r4, _⟩
  · omega
  · exact ⟨g, cap, rfl, r3, r4, r1, h.2 g rfl⟩
end Go.Proofs.YtficeebbbkmhcaaGreatDoor
namespace Go.Proofs.YtficeebbbkmhcaaGreatDoor
open Go.RowKit

def flagN : Value → Nat
  | .bool true => 1
  | _ => 0
theorem conds_slice : Tryz.prog.underlying 49 = some (.slice 136) := by kernel_rfl
theorem cond_info : (Tryz.prog.info? 136).map (fun i => (i.zero, i.size, i.bytes)) = some (some (.agg #[.int .i64 0, .int .i64 0, .int .i64 0]), 3, 24) := by kernel_rfl
theorem Onl.to_rd {b lo hi size n : Nat} {w X : World} {v : Value} {cs : List Value} (h : Onl b w X) (hr : Rd lo hi size w v n cs) (hlo : b < lo ∨ hi ≤ b) : Rd lo hi size X v n cs := by
  obtain ⟨h1, h2, A, cap, h3, h4, h5⟩ := hr
  refine ⟨h1, h2, A, cap, h3, h4, fun h0 => ?_⟩
  obtain ⟨g, off, q1, q2, q3, q4, q5⟩ := h5 h0
  refine ⟨g, off, q1, q2, q3, Nat.lt_of_lt_of_le q4 h.size, fun j u hu => ?_⟩
  exact (World.cell?_of_block (a := ⟨g, off + j, none⟩) (h.block g q4 (by simp; omega))).trans (q5 j u hu)
set_option maxRecDepth 100000 in
set_option maxHeartbeats 2000000 in
theorem gFilter (b : Nat) (w : World) (hP : PrB w b txt15 14) : Calls Tryz.prog 86 #[prV b] w fun e w' => ∃ v, e = .returned v ∧ Rd w.heap.size w'.heap.size 3 w' v 1 (cdc 2 5 5) ∧ PrB w' b txt15 29 ∧ Onl b w w' := by
  have hlt := hP.lt
  have HP := Lib.hid hP
  have HA := Lib.hid (fun W hW => gAccept txt15 txt_size b 14 15 (by decide) 1 { data := #[119, 104, 101, 114, 101] } bl14 pk15 1 { data := #[119, 104, 101, 114, 101] } (by decide) true (by decide +kernel) W hW)
  have HA2 := Lib.hid (fun W hW => gAccept txt15 txt_size b 29 29 (by decide) 0 { data := #[] } (blank_self _ _) pk29 1 { data := #[97, 110, 100] } (by decide) false (by decide +kernel) W hW)
  have HCo := Lib.hid (fun W hW => gCond b W hW)
  unfold prV tkV at HA HA2
  unfold prV at HCo
  clear hP
  unfold prV
  go_enter Tryz.func86, Tryz.ntmps86
  go_upto_region 2 with (fail)
  refine wp_stk1 fun W hW hz b6 => ?_
  have hPW := HP.out.keep hW
  have HWW := Lib.hid (Onl.of b hW)
  have HPW := Lib.hid hPW
  obtain ⟨g6, hg6⟩ : ∃ g, g = w.heap.size := ⟨_, rfl⟩
  rw [← hg6] at b6 ⊢
  have hne6 : b < g6 := by omega
  have hmf : ∀ (fn : Fn) (first cap : Array Value) (w : World), (Instr.makeFunc fn first cap).run Tryz.prog w = .ok (.func fn first cap) w := fun _ _ _ _ => rfl
  clear hW hPW b6 hz hg6
  go_wp2_with fail
  refine (HA.out W HPW.out).mono ?_
  rintro e W1 ⟨rfl, P1, O1⟩
  replace P1 : PrB W1 b txt15 20 := P1
  have HP1 := Lib.hid P1
  have HW1 := Lib.hid (HWW.out.trans O1)
  have lb := P1.lt
  clear P1 O1
  obtain ⟨ic, hic, ic0, ic1, ic2⟩ := info_parts cond_info
  go_upto_region 4 with (fail)
  go_loopw [3, 5] (fun o m wr => (o = .slice (some ⟨g6, 0, none⟩) 0 0 ∧ m = .bool true ∧ wr = W1) ∨ (m = .bool false ∧ Rd w.heap.size wr.heap.size 3 wr o 1 (cdc 2 5 5) ∧ PrB wr b txt15 29 ∧ Onl b w wr)) (fun _ m _ => flagN m)
  case atStart => exact .inl ⟨rfl, rfl, rfl⟩
  case round =>
    obtain ⟨rfl, rfl, rfl⟩ | ⟨rfl, hR, hPr, hO⟩ := hrel
    · go_upto_region 6 with (fail)
      refine wp_region_lit ?_
      iterate 2 (refine wpList_plain rfl fun K hK => ?_; go_big_op; refine hK _ _ ?_; clear hK K)
      refine wpList_plain rfl fun K2 hK2 => wp_of_step (stepAt_mono (fun v23 W2 hh => ?_) (step_call (R := fun v w' => v = .agg (cdc 2 5 5).toArray ∧ PrB w' b txt15 29 ∧ Onl b wr w') en___attestor_query_parser__cond ((HCo.out _ HP1.out).mono fun e w' h => ⟨_, h.1, rfl, h.2⟩) rfl rfl))
      obtain ⟨rfl, P2, O2⟩ := hh
      refine hK2 _ _ ?_
      clear hK2 K2
      try simp only [Act.put, List.setIfInBounds_toArray, List.set_cons_succ, List.set_cons_zero]
      refine wpList_plain rfl fun K3 hK3 => wp_of_step (stepAt_mono (fun v24 W3 hh => ?_) (step_lit1 (cs := (cdc 2 5 5).toArray) conds_slice hic ic0 ic1 (by decide) (by decide) rfl rfl rfl))
      obtain ⟨⟨rfl, l24, b24⟩, B24⟩ := hh
      refine hK3 _ _ ?_
      clear hK3 K3
      try simp only [Act.put, List.setIfInBounds_toArray, List.set_cons_succ, List.set_cons_zero]
      have hR24 : Rd W2.heap.size W3.heap.size 3 W3 (.slice (some ⟨W2.heap.size, 0, none⟩) 1 1) 1 (cdc 2 5 5) := ⟨rfl, by decide, _, _, rfl, Nat.le_refl _, fun _ => ⟨_, 0, rfl, Nat.le_refl _, l24, l24, fun j u hj => by rw [Nat.zero_add, b24.cell]; simpa using hj⟩⟩
      refine wpList_plain rfl fun K4 hK4 => wp_of_step (stepAt_mono (fun v25 W4 hh => ?_) (step_grows (olds := []) rfl conds_slice hic ic0 ic1 ic2 rfl (by decide) (by decide) rfl (fun h => by cases h) rfl (rd_nil 0 0 _ _ _ _) hR24 (by decide) (by decide) (by decide)))
      obtain ⟨own, B25⟩ := hh
      refine hK4 _ _ ?_
      clear hK4 K4
      iterate 2 (try simp only [Act.put, List.setIfInBounds_toArray, List.set_cons_succ, List.set_cons_zero])
      have hR4 : Rd w.heap.size W4.heap.size 3 W4 v25 1 (cdc 2 5 5) := (Rd.of_own own (by decide) (Nat.le_refl _)).wide (by have := B24.size; have := O2.size; have := HW1.out.size; omega) (Nat.le_refl _)
      have HR4 := Lib.hid hR4
      have P4 := (P2.keep B24).keep B25
      have HP4 := Lib.hid P4
      have HO4 := Lib.hid (((HW1.out.trans O2).below B24).below B25)
      obtain ⟨A4, cap4, rfl⟩ := Rd.len hR4
      clear hR4 own hR24 b24 l24 B24 B25 P2 O2 P4
      go_wp2_with fail
      refine (HA2.out _ HP4.out).mono ?_
      rintro e W5 ⟨rfl, P5, O5⟩
      replace P5 : PrB W5 b txt15 29 := P5
      have HP5 := Lib.hid P5
      have HR5 := Lib.hid (O5.to_rd HR4.out (.inl hlt) |>.wide (Nat.le_refl _) O5.size)
      have HO5 := Lib.hid (HO4.out.trans O5)
      clear P5 O5
      go_wp2_with fail
      exact ⟨.inr ⟨rfl, HR5.out, HP5.out, HO5.out⟩, by simp [flagN]⟩
    · have HP5 := Lib.hid hPr
      have HR5 := Lib.hid hR
      have HO5 := Lib.hid hO
      obtain ⟨A4, cap4, rfl⟩ := Rd.len hR
      clear hPr hR hO
      go_wp2_with fail
      exact bodyPost_ret (v := .slice A4 1 cap4) (by simp [results, Tryz.results86, go_sem]) rfl ⟨_, rfl, HR5.out, HP5.out, HO5.out⟩
end Go.Proofs.YtficeebbbkmhcaaGreatDoor
namespace Go.Proofs.YtficeebbbkmhcaaGreatDoor
open Go.RowKit Go.Maps

def fmV (t : ByteArray) (c : Bool) (k n : Int) : Value := .agg #[.string t, .bool c, .int .i64 k, .int .i64 n]
def tCount : ByteArray := { data := #[99, 111, 117, 110, 116] }
def tTotal : ByteArray := { data := #[116, 111, 116, 97, 108] }
def tMoment : ByteArray := { data := #[109, 111, 109, 101, 110, 116] }
def frm1 : DataW Value := (DataW.map []).put (.int .i64 1) (.held (fmV tCount false 0 1))
def frm2 : DataW Value := frm1.put (.int .i64 2) (.held (fmV tTotal true 0 1))
def frm3 : DataW Value := frm2.put (.int .i64 3) (.held (fmV tMoment true 6 1))
def frm4 : DataW Value := frm3.put (.int .i64 4) (.held (fmV { data := #[103, 114, 111, 117, 112, 115] } true 0 1))
def frm5 : DataW Value := frm4.put (.int .i64 5) (.held (fmV { data := #[100, 105, 115, 116, 105, 110, 99, 116] } true 0 1))
def frm6 : DataW Value := frm5.put (.int .i64 6) (.held (fmV { data := #[115, 109, 97, 108, 108, 101, 115, 116] } true 65536 1))
def frm7 : DataW Value := frm6.put (.int .i64 7) (.held (fmV { data := #[112, 97, 105, 114, 115] } false 0 2))
theorem frms_map : Tryz.prog.underlying 146 = some (.map 3 149) := by kernel_rfl
theorem int_und : Tryz.prog.underlying 3 = some (.int .i64) := by kernel_rfl
theorem frm_zero (w : World) : (zeroValue 149).run Tryz.prog w = .ok (fmV { data := #[] } false 0 0) w := by kernel_rfl
theorem en_attestor_query_forms : ∀ args w, (callFunc 82 args).run Tryz.prog w = .ok (.enter 82 args) w := enters_of Tryz.func82 (by kernel_rfl) rfl
set_option maxRecDepth 100000 in
set_option maxHeartbeats 1000000 in
theorem gForms (w : World) : Calls Tryz.prog 82 #[] w fun e w' => ∃ b, e = .returned (.map (some b)) ∧ w.heap.size ≤ b ∧ MpO 3 w' b 7 frm7 ∧ Below w.heap.size w w' := by
  go_enter Tryz.func82, Tryz.ntmps82
  go_upto_region 1 with (fail)
  refine wp_region_lit ?_
  refine wpList_plain rfl fun K1 hK1 => wp_of_step (stepAt_mono (fun v1 W0 hh => ?_) (step_mnew 3 rfl))
  obtain ⟨rfl, H0, B0⟩ := hh
  refine hK1 _ _ ?_
  clear hK1 K1
  try simp only [Act.put, List.setIfInBounds_toArray, List.set_cons_succ, List.set_cons_zero]
  obtain ⟨b, hb⟩ : ∃ b, b = w.heap.size := ⟨_, rfl⟩
  rw [← hb] at H0 B0 ⊢
  have HB := Lib.hid hb
  clear hb
  iterate 1 (refine wpList_plain rfl fun K hK => ?_; go_big_op; refine hK _ _ ?_; clear hK K)
  refine wpList_plain rfl fun K4 hK4 => wp_of_step (stepAt_mono (fun u1 W1 hh => ?_) (step_mput (v := fmV tCount false 0 1) int_und frms_map rfl rfl rfl (by decide) rfl H0 (by decide)))
  obtain ⟨H1, C1, -⟩ := hh
  refine hK4 _ _ ?_
  clear hK4 K4
  try simp only [Act.put, List.setIfInBounds_toArray, List.set_cons_succ, List.set_cons_zero]
  iterate 1 (refine wpList_plain rfl fun K hK => ?_; go_big_op; refine hK _ _ ?_; clear hK K)
  refine wpList_plain rfl fun K7 hK7 => wp_of_step (stepAt_mono (fun u2 W2 hh => ?_) (step_mput (v := fmV tTotal true 0 1) int_und frms_map rfl rfl rfl (by decide) rfl H1 (by decide)))
  obtain ⟨H2, C2, -⟩ := hh
  refine hK7 _ _ ?_
  clear hK7 K7
  try simp only [Act.put, List.setIfInBounds_toArray, List.set_cons_succ, List.set_cons_zero]
  iterate 1 (refine wpList_plain rfl fun K hK => ?_; go_big_op; refine hK _ _ ?_; clear hK K)
  refine wpList_plain rfl fun K10 hK10 => wp_of_step (stepAt_mono (fun u3 W3 hh => ?_) (step_mput (v := fmV tMoment true 6 1) int_und frms_map rfl rfl rfl (by decide) rfl H2 (by decide)))
  obtain ⟨H3, C3, -⟩ := hh
  refine hK10 _ _ ?_
  clear hK10 K10
  try simp only [Act.put, List.setIfInBounds_toArray, List.set_cons_succ, List.set_cons_zero]
  iterate 1 (refine wpList_plain rfl fun K hK => ?_; go_big_op; refine hK _ _ ?_; clear hK K)
  refine wpList_plain rfl fun K13 hK13 => wp_of_step (stepAt_mono (fun u4 W4 hh => ?_) (step_mput (v := fmV { data := #[103, 114, 111, 117, 112, 115] } true 0 1) int_und frms_map rfl rfl rfl (by decide) rfl H3 (by decide)))
  obtain ⟨H4, C4, -⟩ := hh
  refine hK13 _ _ ?_
  clear hK13 K13
  try simp only [Act.put, List.setIfInBounds_toArray, List.set_cons_succ, List.set_cons_zero]
  iterate 1 (refine wpList_plain rfl fun K hK => ?_; go_big_op; refine hK _ _ ?_; clear hK K)
  refine wpList_plain rfl fun K16 hK16 => wp_of_step (stepAt_mono (fun u5 W5 hh => ?_) (step_mput (v := fmV { data := #[100, 105, 115, 116, 105, 110, 99, 116] } true 0 1) int_und frms_map rfl rfl rfl (by decide) rfl H4 (by decide)))
  obtain ⟨H5, C5, -⟩ := hh
  refine hK16 _ _ ?_
  clear hK16 K16
  try simp only [Act.put, List.setIfInBounds_toArray, List.set_cons_succ, List.set_cons_zero]
  iterate 1 (refine wpList_plain rfl fun K hK => ?_; go_big_op; refine hK _ _ ?_; clear hK K)
  refine wpList_plain rfl fun K19 hK19 => wp_of_step (stepAt_mono (fun u6 W6 hh => ?_) (step_mput (v := fmV { data := #[115, 109, 97, 108, 108, 101, 115, 116] } true 65536 1) int_und frms_map rfl rfl rfl (by decide) rfl H5 (by decide)))
  obtain ⟨H6, C6, -⟩ := hh
  refine hK19 _ _ ?_
  clear hK19 K19
  try simp only [Act.put, List.setIfInBounds_toArray, List.set_cons_succ, List.set_cons_zero]
  iterate 1 (refine wpList_plain rfl fun K hK => ?_; go_big_op; refine hK _ _ ?_; clear hK K)
  refine wpList_plain rfl fun K22 hK22 => wp_of_step (stepAt_mono (fun u7 W7 hh => ?_) (step_mput (v := fmV { data := #[112, 97, 105, 114, 115] } false 0 2) int_und frms_map rfl rfl rfl (by decide) rfl H6 (by decide)))
  obtain ⟨H7, C7, -⟩ := hh
  refine hK22 _ _ ?_
  clear hK22 K22
  try simp only [Act.put, List.setIfInBounds_toArray, List.set_cons_succ, List.set_cons_zero]
  have HE := Lib.hid H7
  have hB := ((((((B0.trans C1).trans C2).trans C3).trans C4).trans C5).trans C6).trans C7
  rw [show b = w.heap.size from HB.out] at hB
  have HBB := Lib.hid hB
  clear hB B0 H0 H1 H2 H3 H4 H5 H6 H7 C1 C2 C3 C4 C5 C6 C7
  go_wp2_with fail
  exact bodyPost_ret (v := .map (some b)) (by simp [results, Tryz.results82, go_sem]) rfl ⟨b, rfl, Nat.le_of_eq HB.out.symm, HE.out, HBB.out⟩
end Go.Proofs.YtficeebbbkmhcaaGreatDoor
namespace Go.Proofs.YtficeebbbkmhcaaGreatDoor
open Go.RowKit

attribute [local irreducible] wpRg
end Go.Proofs.YtficeebbbkmhcaaGreatDoor
namespace Go.Proofs.YtficeebbbkmhcaaGreatDoor
open Go.RowKit

attribute [local irreducible] wpRg
end Go.Proofs.YtficeebbbkmhcaaGreatDoor
namespace Go.Proofs.YtficeebbbkmhcaaGreatDoor
open Go.RowKit

attribute [local irreducible] wpRg
end Go.Proofs.YtficeebbbkmhcaaGreatDoor
namespace Go.Proofs.YtficeebbbkmhcaaGreatDoor
open Go.RowKit

theorem own_lenR {w : World} {base n size : Nat} {e : TypeId} {v : Value} {cs : List Value} (h : w.ownsRow base e size v n cs) : ∃ A cap, v = .slice A n cap := by
  rcases h.2 with ⟨rfl, h2⟩ | ⟨g, cap, cur, rfl, _⟩
  · exact ⟨none, 0, by rw [h2]⟩
  · exact ⟨_, _, rfl⟩
attribute [local irreducible] wpRg
end Go.Proofs.YtficeebbbkmhcaaGreatDoor
namespace Go.Proofs.YtficeebbbkmhcaaGreatDoor
open Go.RowKit

def OwR (e : TypeId) (size n : Nat) (cs : List Value) (lo hi : Nat) (v : Value) (w : World) : Prop := w.ownsRow lo e size v n cs ∧ ∀ g, v.ownBlock = some g → g < hi
theorem own_a {e : TypeId} {size n base : Nat} {cs : List Value} {v : Value} {w : World} (h : w.ownsRow base e size v n cs) : OwR e size n cs base w.heap.size v w := ⟨h, fun _ hg => (own_block h hg).2⟩
end Go.Proofs.YtficeebbbkmhcaaGreatDoor
namespace Go.Proofs.YtficeebbbkmhcaaGreatDoor
open Go.RowKit

structure MtN (m : Mt) : Prop where
  seed : DgOk m.seed
  ver : m.ver < 9223372036854775808
  eps : m.eps.length ≤ 1000
  ep : ∀ (i : Nat) e, m.eps[i]? = some e → e.pts.length ≤ 1000 ∧ e.log ≤ 16 ∧ e.count ≤ 65536 ∧ e.peaks.length ≤ 1000
attribute [local irreducible] wpRg
end Go.Proofs.YtficeebbbkmhcaaGreatDoor
namespace Go.Proofs.YtficeebbbkmhcaaGreatDoor
open Go.RowKit

structure Bse where
  W : World
  S : Nat → Prop
def InB (b : Bse) (g : Nat) : Prop := b.S g ∧ g < b.W.heap.size
def Bse.ok (b : Bse) (X : World) : Prop := b.W.heap.size ≤ X.heap.size ∧ ∀ g, InB b g → X.heap[g]? = b.W.heap[g]?
theorem Bse.ok_self (b : Bse) : b.ok b.W := ⟨Nat.le_refl _, fun _ _ => rfl⟩
theorem Bse.ok.below {b : Bse} {X Y : World} (h : b.ok X) (hb : Below X.heap.size X Y) : b.ok Y := ⟨Nat.le_trans h.1 hb.size, fun g hg => (hb.block g (Nat.lt_of_lt_of_le hg.2 h.1)).trans (h.2 g hg)⟩
theorem Bse.ok.keeps {b : Bse} {X Y : World} {S : Nat → Prop} (h : b.ok X) (hk : Keeps S X Y) (hS : ∀ g, InB b g → S g) : b.ok Y := ⟨Nat.le_trans h.1 hk.size, fun g hg => (hk.same g (hS g hg) (Nat.lt_of_lt_of_le hg.2 h.1)).trans (h.2 g hg)⟩
theorem Bse.ok.put {b : Bse} {X Y : World} {g : Nat} (h : b.ok X) (hp : Put X Y g) (hg : ¬ InB b g) : b.ok Y := ⟨by rw [hp.size]; exact h.1, fun k hk => (hp.other k (fun e => hg (e ▸ hk))).trans (h.2 k hk)⟩
def Bse.le (b c : Bse) : Prop := ∀ X, c.ok X → b.ok X
theorem Bse.le_of {b c : Bse} (hs : b.W.heap.size ≤ c.W.heap.size) (h : ∀ g, InB b g → c.S g ∧ c.W.heap[g]? = b.W.heap[g]?) : b.le c := fun X hX => ⟨Nat.le_trans hs hX.1, fun g hg => (hX.2 g ⟨(h g hg).1, Nat.lt_of_lt_of_le hg.2 hs⟩).trans (h g hg).2⟩
theorem Bse.le_ok {b c : Bse} (h : b.ok c.W) (hS : ∀ g, InB b g → c.S g) : b.le c := Bse.le_of h.1 fun g hg => ⟨hS g hg, h.2 g hg⟩
def Bse.new (b : Bse) (w W2 : World) : Bse := ⟨W2, fun g => InB b g ∨ w.heap.size ≤ g⟩
def RdB (b : Bse) (size : Nat) (v : Value) (n : Nat) (cs : List Value) : Prop := ∀ X, b.ok X → RdA size X v n cs
def ExB (b : Bse) (v : Value) (xs : List E) : Prop := ∀ X, b.ok X → ExA X v xs
def PtIB (b : Bse) (x : PtW) (p : Pt) : Prop := ExB b x.r p.R ∧ ExB b x.v p.V ∧ x.u = p.used
def PtsB (b : Bse) (v : Value) (ps : List Pt) : Prop := ∃ us : List PtW, RdB b 3 v us.length (us.flatMap ptc) ∧ Al (PtIB b) us ps
def DgsB (b : Bse) (v : Value) (ds : List Dg) : Prop := ∀ X, b.ok X → DgsA X v ds
def EpIB (b : Bse) (x : EpW) (e : Ep) : Prop := (x.log = e.log ∧ x.count = e.count ∧ x.closed = e.closed) ∧ PtsB b x.p e.pts ∧ DgsB b x.k e.peaks
def EpsB (b : Bse) (v : Value) (es : List Ep) : Prop := ∃ us : List EpW, RdB b 5 v us.length (us.flatMap epc) ∧ Al (EpIB b) us es
section
variable {b c : Bse} {X : World}
theorem PtIB.old {u : PtW} {p : Pt} (h : PtIB b u p) (ho : b.ok X) : PtIn X u p := ⟨h.1 X ho, h.2.1 X ho, h.2.2⟩
theorem PtsB.old {v : Value} {ps : List Pt} (h : PtsB b v ps) (ho : b.ok X) : PtsA X v ps := by
  obtain ⟨us, h1, h2⟩ := h
  exact ⟨us, h1 X ho, h2.mono fun _ _ h => h.old ho⟩
theorem DgsB.old {v : Value} {ds : List Dg} (h : DgsB b v ds) (ho : b.ok X) : DgsA X v ds := h X ho
theorem EpIB.old {u : EpW} {e : Ep} (h : EpIB b u e) (ho : b.ok X) : EpIn X u e := ⟨h.1, h.2.1.old ho, h.2.2.old ho⟩
theorem EpsB.old {v : Value} {es : List Ep} (h : EpsB b v es) (ho : b.ok X) : EpsA X v es := by
  obtain ⟨us, h1, h2⟩ := h
  exact ⟨us, h1 X ho, h2.mono fun _ _ h => h.old ho⟩
theorem PtIB.le {u : PtW} {p : Pt} (h : PtIB b u p) (hl : b.le c) : PtIB c u p := ⟨fun X hX => h.1 X (hl X hX), fun X hX => h.2.1 X (hl X hX), h.2.2⟩
theorem PtsB.le {v : Value} {ps : List Pt} (h : PtsB b v ps) (hl : b.le c) : PtsB c v ps := by
  obtain ⟨us, h1, h2⟩ := h
  exact ⟨us, fun X hX => h1 X (hl X hX), h2.mono fun _ _ h => h.le hl⟩
theorem DgsB.le {v : Value} {ds : List Dg} (h : DgsB b v ds) (hl : b.le c) : DgsB c v ds := fun X hX => h X (hl X hX)
theorem EpIB.le {u : EpW} {e : Ep} (h : EpIB b u e) (hl : b.le c) : EpIB c u e := ⟨h.1, h.2.1.le hl, h.2.2.le hl⟩
theorem EpsB.le {v : Value} {es : List Ep} (h : EpsB b v es) (hl : b.le c) : EpsB c v es := by
  obtain ⟨us, h1, h2⟩ := h
  exact ⟨us, fun X hX => h1 X (hl X hX), h2.mono fun _ _ h => h.le hl⟩
theorem EpsB.len {v : Value} {es : List Ep} (h : EpsB b v es) : ∃ A cap, v = .slice A es.length cap := (h.old b.ok_self).len
theorem Bse.ok.keepsS (h : b.ok X) : Keeps b.S b.W X := ⟨h.1, fun g hg hl => h.2 g ⟨hg, hl⟩⟩
theorem EpsB.out {v : Value} {es : List Ep} {w w1 W2 X : World} {g : Nat} (h : EpsB (b.new w1 W2) v es) (hp : Put W2 X g) (hw : b.ok w) (h1 : w.heap.size ≤ g) (h2 : g < w1.heap.size) (h3 : w.heap.size ≤ w1.heap.size) : EpsB (b.new w X) v es :=
  h.le (Bse.le_of (by show W2.heap.size ≤ X.heap.size; rw [hp.size]; exact Nat.le_refl _) fun k hk => ⟨hk.1.imp id fun h => Nat.le_trans h3 h, hp.other k fun e => by
    subst e
    rcases hk.1 with h | h
    · have := h.2; have := hw.1; omega
    · omega⟩)
end
end Go.Proofs.YtficeebbbkmhcaaGreatDoor
namespace Go.Proofs.YtficeebbbkmhcaaGreatDoor
open Go.RowKit

theorem OwR.form {e : TypeId} {size n : Nat} {cs : List Value} {lo hi : Nat} {v : Value} {w : World} (h : OwR e size n cs lo hi v w) (h0 : 0 < n) : ∃ g cap rest, v = .slice (some ⟨g, 0, none⟩) n cap ∧ n ≤ cap ∧ lo ≤ g ∧ g < hi ∧ Blk w g e (cs ++ rest).toArray := by
  rcases h.1.2 with ⟨_, h2⟩ | ⟨g, cap, cur, rfl, r1, r2, r3, r4, r5, r6⟩
  · omega
  · refine ⟨g, cap, cur.toList.drop (n * size), rfl, r3, r1, h.2 g rfl, ?_⟩
    rw [← r6, List.take_append_drop]
    exact r2
theorem res_mt {P : Program} {fn : Func} {a : Act} {w : World} {s1 s2 : Tmp} {t1 : TypeId} {g1 : Nat} {u1 : TypeId} {c1 : List Value} {d1 : TypeDesc} {x : Value} (hres : fn.results = #[.cell s1 t1, .tmp s2]) (hp1 : a.tmps[s1]? = some (.pointer (some ⟨g1, 0, none⟩))) (hp2 : a.tmps[s2]? = some x)
    (hu1 : P.underlying t1 = some d1) (hd1 : d1.isRow = true) (hi1 : (P.info? t1).map (·.size) = some c1.length) (hb1 : Blk w g1 u1 c1.toArray) :
    (results fn a.tmps).run P w = .ok (.tuple #[.agg c1.toArray, x]) w := by
  simp [results, hres, hp1, hp2, Sem.run_bind, asAddr, run_loadVar_mid w g1 0 t1 c1 d1 (blk_range hb1) hu1 hd1 hi1]
attribute [local irreducible] wpRg
end Go.Proofs.YtficeebbbkmhcaaGreatDoor
namespace Go.Proofs.YtficeebbbkmhcaaGreatDoor
open Go.RowKit

theorem own_keepsS {A B : World} {S : Nat → Prop} {N n size : Nat} {e : TypeId} {v : Value} {xs : List Value} (h : A.ownsRow N e size v n xs) (hk : Keeps S A B) (hS : ∀ g, N ≤ g → S g) : B.ownsRow N e size v n xs := by
  obtain ⟨h1, h2⟩ := h
  refine ⟨h1, h2.imp id ?_⟩
  rintro ⟨b, cap, cur, q1, q2, q3, q4⟩
  exact ⟨b, cap, cur, q1, q2, (hk.same b (hS b q2) (Array.getElem?_eq_some_iff.1 q3).1).trans q3, q4⟩
theorem own_putN26 {base n size g : Nat} {e : TypeId} {v : Value} {xs : List Value} {w w' : World} (h : w.ownsRow base e size v n xs) (hp : Put w w' g) (hg : v.ownBlock ≠ some g) : w'.ownsRow base e size v n xs := by
  obtain ⟨h1, h2⟩ := h
  refine ⟨h1, h2.imp id ?_⟩
  rintro ⟨g', cap, cur, rfl, q2, q3, q4⟩
  exact ⟨g', cap, cur, rfl, q2, (hp.other g' (fun e => hg (by rw [← e]; rfl))).trans q3, q4⟩
attribute [local irreducible] wpRg
end Go.Proofs.YtficeebbbkmhcaaGreatDoor
namespace Go.Proofs.YtficeebbbkmhcaaGreatDoor
open Go.RowKit
attribute [local go_sem] Oper.semAt_some

end Go.Proofs.YtficeebbbkmhcaaGreatDoor
namespace Go.Proofs.YtficeebbbkmhcaaGreatDoor
open Go.RowKit

theorem own_setC {w : World} {base n size g cap idx : Nat} {e : TypeId} {cs : List Value} {x : Value} (h : w.ownsRow base e size (.slice (some ⟨g, 0, none⟩) n cap) n cs) (hi : idx < cs.length) : (w.setCell ⟨g, idx, none⟩ x).ownsRow base e size (.slice (some ⟨g, 0, none⟩) n cap) n (cs.set idx x) := by
  obtain ⟨h1, h2⟩ := h
  rcases h2 with ⟨h2, _⟩ | ⟨g', cap', cur, hv, q1, q2, q3, q4, q5, q6⟩
  · cases h2
  · cases hv
    have hb : Blk w g e cur := q2
    refine ⟨by rw [List.length_set]; exact h1, .inr ⟨g, cap, cur.setIfInBounds idx x, rfl, q1, hb.set_ idx x, q3, q4, by simp [q5], ?_⟩⟩
    rw [Array.toList_setIfInBounds, ← q6, List.take_set]
attribute [local irreducible] wpRg
end Go.Proofs.YtficeebbbkmhcaaGreatDoor
namespace Go.Proofs.YtficeebbbkmhcaaGreatDoor
open Go.RowKit

def rdc (r : Rdg) : List Value := [.int .i64 r.who, .int .i64 r.when, .int .i64 r.kind, .int .i64 r.value]
def rdV (r : Rdg) : Value := .agg (rdc r).toArray
def RdgIn (r : Rdg) : Prop := (-9223372036854775808 ≤ r.who ∧ r.who ≤ 9223372036854775807) ∧ (-9223372036854775808 ≤ r.when ∧ r.when ≤ 9223372036854775807) ∧ (-9223372036854775808 ≤ r.kind ∧ r.kind ≤ 9223372036854775807) ∧ (-9223372036854775808 ≤ r.value ∧ r.value ≤ 9223372036854775807)
theorem gField1 (r : Rdg) (w : World) : Calls Tryz.prog 55 #[rdV r] w fun e w2 => e = .returned (.int .i64 r.who) ∧ Below w.heap.size w w2 := by
  unfold rdV rdc
  go_enter Tryz.func55, Tryz.ntmps55
  go_wp2
  go_ret
  exact ⟨rfl, (Below.refl _ w).alloc (Nat.le_refl _) _⟩
theorem gField2 (r : Rdg) (w : World) : Calls Tryz.prog 56 #[rdV r] w fun e w2 => e = .returned (.int .i64 r.when) ∧ Below w.heap.size w w2 := by
  unfold rdV rdc
  go_enter Tryz.func56, Tryz.ntmps56
  go_wp2
  go_ret
  exact ⟨rfl, (Below.refl _ w).alloc (Nat.le_refl _) _⟩
theorem gField3 (r : Rdg) (w : World) : Calls Tryz.prog 57 #[rdV r] w fun e w2 => e = .returned (.int .i64 r.kind) ∧ Below w.heap.size w w2 := by
  unfold rdV rdc
  go_enter Tryz.func57, Tryz.ntmps57
  go_wp2
  go_ret
  exact ⟨rfl, (Below.refl _ w).alloc (Nat.le_refl _) _⟩
theorem gField4 (r : Rdg) (w : World) : Calls Tryz.prog 58 #[rdV r] w fun e w2 => e = .returned (.int .i64 r.value) ∧ Below w.heap.size w w2 := by
  unfold rdV rdc
  go_enter Tryz.func58, Tryz.ntmps58
  go_wp2
  go_ret
  exact ⟨rfl, (Below.refl _ w).alloc (Nat.le_refl _) _⟩
def fldC : List Value := [.func (.func 55) #[] #[], .int .i64 4, .func (.func 56) #[] #[], .int .i64 8, .func (.func 57) #[] #[], .int .i64 4, .func (.func 58) #[] #[], .int .i64 8]
theorem fld_under : Tryz.prog.underlying 85 = some (.array 4 84) := by kernel_rfl
theorem fld_size : (Tryz.prog.info? 85).map (·.size) = some 8 := by kernel_rfl
set_option maxRecDepth 100000 in
theorem gFields (w : World) : Calls Tryz.prog 24 #[] w fun e w2 => e = .returned (.agg fldC.toArray) ∧ Below w.heap.size w w2 := by
  go_enter Tryz.func24, Tryz.ntmps24
  go_upto_region 1 with (fail)
  refine wp_stk1 fun W hB hz b1 => ?_
  obtain ⟨cs0, hcs0, b1'⟩ : ∃ cs : Array Value, cs.size = 8 ∧ Blk W w.heap.size 85 cs := ⟨_, rfl, b1⟩
  clear b1 hz
  refine wp_region_lit ?_
  iterate 5 (refine wpList_plain rfl fun K hK => ?_; go_big_op; refine hK _ _ ?_; clear hK K)
  refine wpList_put rfl 85 (.tmp 0) (.tmp 5) rfl rfl (cells := fldC) rfl b1' (by rw [hcs0]; decide) fld_size rfl (spl_all _ _ (by rw [hcs0]; rfl)) fun Y hY bY => ?_
  have hBY := below_put hB hY (Nat.le_refl _)
  clear b1' hB hcs0
  go_wp2_with fail
  exact bodyPost_ret (v := .agg fldC.toArray) (res_row (g := w.heap.size) rfl rfl fld_under rfl fld_size bY) rfl ⟨rfl, hBY⟩
theorem fe_under : Tryz.prog.underlying 84 = some (.struct (Tryz.prog.fieldsOf 84)) := by kernel_rfl
def fldE : Nat → List Value
  | 0 => [.func (.func 55) #[] #[], .int .i64 4]
  | 1 => [.func (.func 56) #[] #[], .int .i64 8]
  | 2 => [.func (.func 57) #[] #[], .int .i64 4]
  | _ => [.func (.func 58) #[] #[], .int .i64 8]
theorem run_ixF (k : Nat) (hk : k < 4) (w : World) : (Instr.index 85 (.agg fldC.toArray) (.int .i64 (k : Int))).run Tryz.prog w = .ok (.agg (fldE k).toArray) w := by
  obtain ⟨i, hi, hs⟩ : ∃ i, Tryz.prog.info? 84 = some i ∧ i.size = 2 := by
    have i8 : (Tryz.prog.info? 84).map (·.size) = some 2 := by kernel_rfl
    cases h : Tryz.prog.info? 84 with
    | none => rw [h] at i8; cases i8
    | some i => rw [h] at i8; exact ⟨i, rfl, by simpa using i8⟩
  obtain rfl | rfl | rfl | rfl : k = 0 ∨ k = 1 ∨ k = 2 ∨ k = 3 := by omega
  all_goals simp [Instr.index, asIntOf, run_underlying fld_under, run_underlying fe_under, part, sizeOf, typeInfo, hi, hs, fldC, fldE]
theorem fe_info : (Tryz.prog.info? 84).map (fun i => (i.zero, i.size)) = some (some (.agg #[.nilFunc, .int .i64 0]), 2) := by kernel_rfl
theorem fe_parts : ∃ i, Tryz.prog.info? 84 = some i ∧ i.zero = some (.agg #[.nilFunc, .int .i64 0]) ∧ i.size = 2 := by
  have h := fe_info
  cases hh : Tryz.prog.info? 84 with
  | none => rw [hh] at h; cases h
  | some i =>
    rw [hh] at h
    simp only [Option.map_some, Option.some.injEq, Prod.mk.injEq] at h
    exact ⟨i, rfl, h.1, h.2⟩
theorem rd_under : Tryz.prog.underlying 69 = some (.struct (Tryz.prog.fieldsOf 69)) := by kernel_rfl
theorem rd_size : (Tryz.prog.info? 69).map (·.size) = some 4 := by kernel_rfl
end Go.Proofs.YtficeebbbkmhcaaGreatDoor
namespace Go.Proofs.YtficeebbbkmhcaaGreatDoor
open Go.RowKit

def PtsN5 (m : Mt) : Prop := ∀ e ∈ m.eps, ∀ p ∈ e.pts, p.R.length ≤ 60 ∧ p.V.length = 5
attribute [local irreducible] wpRg
end Go.Proofs.YtficeebbbkmhcaaGreatDoor
namespace Go.Proofs.YtficeebbbkmhcaaGreatDoor
open Go.RowKit

structure Ldb (w : World) : Prop where
  c0 : w.cell? ⟨6, 0, none⟩ = some (.int .u8 0)
  c1 : w.cell? ⟨6, 1, none⟩ = some (.int .u8 1)
  c3 : w.cell? ⟨6, 3, none⟩ = some (.int .u8 2)
  c7 : w.cell? ⟨6, 7, none⟩ = some (.int .u8 3)
  sz : 6 < w.heap.size
theorem Ldb.keep {w X : World} (h : Ldb w) (hb : Below w.heap.size w X) : Ldb X :=
  ⟨(hb.cell (p := ⟨6, 0, none⟩) h.sz).trans h.c0, (hb.cell (p := ⟨6, 1, none⟩) h.sz).trans h.c1, (hb.cell (p := ⟨6, 3, none⟩) h.sz).trans h.c3, (hb.cell (p := ⟨6, 7, none⟩) h.sz).trans h.c7, Nat.lt_of_lt_of_le h.sz hb.size⟩
end Go.Proofs.YtficeebbbkmhcaaGreatDoor
namespace Go.Proofs.YtficeebbbkmhcaaGreatDoor
open Go.RowKit

theorem pairD_ok (a b : Dg) : DgOk (pairD a b) := ⟨by unfold pairD; exact sha_length _, by unfold pairD; exact sha_lt _⟩
theorem leafD_ok (b : List Nat) : DgOk (leafD b) := ⟨by unfold leafD; exact sha_length _, by unfold leafD; exact sha_lt _⟩
theorem range_keep {w W : World} {g o : Nat} {cs : List Value} (h : w.rangeAt g o cs) (hg : g < w.heap.size) (hb : Below w.heap.size w W) : W.rangeAt g o cs := fun q x hx => (hb.cell (p := ⟨g, o + q, none⟩) hg).trans (h q x hx)
attribute [local irreducible] wpRg
end Go.Proofs.YtficeebbbkmhcaaGreatDoor
namespace Go.Proofs.YtficeebbbkmhcaaGreatDoor
open Go.RowKit

attribute [local irreducible] wpRg
def CntN (m : Mt) : Prop := ∀ e ∈ m.eps, e.log ≤ 3 ∧ e.count ≤ 2 ^ e.log ∧ (e.count < 8 → tz1 e.count ≤ e.peaks.length)
end Go.Proofs.YtficeebbbkmhcaaGreatDoor
namespace Go.Proofs.YtficeebbbkmhcaaGreatDoor
open Go.RowKit

end Go.Proofs.YtficeebbbkmhcaaGreatDoor
namespace Go.Proofs.YtficeebbbkmhcaaGreatDoor
open Go.RowKit

end Go.Proofs.YtficeebbbkmhcaaGreatDoor
namespace Go.Proofs.YtficeebbbkmhcaaGreatDoor
open Go.RowKit

end Go.Proofs.YtficeebbbkmhcaaGreatDoor
namespace Go.Proofs.YtficeebbbkmhcaaGreatDoor
open Go.RowKit

theorem step_put {P : Program} {o : Oper} {a : Act} {w : World} {g i : Nat} {t : TypeId} {cs new : Array Value} {cells : List Value} (ty : TypeId) (x y : Operand) (ho : o.op = .store ty x y)
    (hx : a.eval x = .pointer (some ⟨g, i, none⟩)) (hy : a.eval y = .agg cells.toArray) (hb : Blk w g t cs) (hi : i + cells.length ≤ cs.size) (hz : (P.info? ty).map (·.size) = some cells.length) (h1 : cells.all (·.oneCell') = true) (hn : spl cs i cells = new) :
    stepAt P o a w fun v w' => v = undef ∧ Put w w' g ∧ Blk w' g t new := by
  have ht : w.there g i cells.toArray.size := by
    intro j hj
    refine ⟨?_, hb.frozen _⟩
    rw [hb.cell]
    simp only [List.size_toArray] at hj
    rw [Array.getElem?_eq_getElem (by omega)]
    rfl
  obtain ⟨q1, q2⟩ := put_setCells cells i cs w hb
  rw [hn] at q2
  unfold stepAt execOp
  simp only [ho, hx, hy, Instr.storeAt, Instr.sureAddr, Sem.run_bind, Sem.run_pure, Result.andThen_ok, run_storeVar_mid w g i ty cells.toArray ht (by simpa using hz) (by simpa using h1)]
  exact ⟨rfl, q1, q2⟩
attribute [local go_sem] Oper.semAt_some
end Go.Proofs.YtficeebbbkmhcaaGreatDoor
namespace Go.Proofs.YtficeebbbkmhcaaGreatDoor
open Go.RowKit

attribute [local irreducible] wpRg
end Go.Proofs.YtficeebbbkmhcaaGreatDoor
namespace Go.Proofs.YtficeebbbkmhcaaGreatDoor
open Go.RowKit

theorem wpIn_seqT1 {α : Type} {n : Nat} {P : Program} {g : Operand} {p1 : Tmp} {assign body : Code} {Q : Exit → Act → World → Prop} {a : Act} {w : World} {gf : Nat} {lb : Array Value} {e1 : α → Value} {S : Nat → Prop} {xs : List α} {N : Nat}
    (hseq : SeqStopsK .wide (n - 1) P gf lb (fun x => #[e1 x]) (Keeps S) (fun ys => ys = xs) (fun _ => True) N w) (h1 : 1 ≤ n) (hg : a.eval g = .func (.func gf) #[] lb) (eg : ∀ args w, (callFunc gf args).run P w = .ok (.enter gf args) w)
    (hS : ∀ g, S g → g < w.heap.size) (I : List α → World → Prop) (hI : OwnFrom w.heap.size I) (hIs : ∀ pre W, I pre W → w.heap.size ≤ W.heap.size) (h0 : I [] w) (Ax : α → Act → World → Prop) (hAx : ∀ x a', OwnFrom w.heap.size (fun (_ : List α) W => Ax x a' W))
    (hassign : ∀ (l : Nat) (x : α) (W : World) (K : Act → World → Prop), w.heap.size ≤ W.heap.size → (∀ a' W', Below W.heap.size W W' → Ax x a' W' → K a' W') →
      assign.wpIn (Fence.wide.inRound l) (n - 1 - 1) P (Exit.then K (fun _ _ _ => False)) { tmps := a.tmps.setIfInBounds p1 (e1 x), defers := [] } W)
    (hbody : ∀ (l : Nat) (pre : List α) (x : α) (W : World) (a' : Act), Ax x a' W → I pre W → pre.length < N →
      body.wpIn (Fence.wide.inRound l) (n - 1 - 1) P (fun e _ W' => e = .normal ∧ KeepsOthers W W' ∧ Keeps S W W' ∧ I (pre ++ [x]) W') a' W)
    (hdone : ∀ (D : Nat) (W : World), w.heap.size ≤ D → I xs W → W.heap[D]? = some (.deferred (some [])) → Q .normal { a with defers := { target := .collected D, args := #[] } :: a.defers } W) :
    (Code.rangeFunc g #[p1] assign body).wpIn .wide n P Q a w := by
  refine wpIn_rangeFunc_ownH rfl h1 hg trivial eg hseq (fun h k => h.trans k) ?_ (Below.refl _ _) (fun _ => rfl) I (fun _ _ _ => False) hI (fun _ _ _ _ _ h _ _ => h) h0 Ax ?_ ?_ ?_ ?_ ?_
  · intro W l o o' hl h _ _
    exact ⟨by simp, fun g hg _ => World.putObj_heap_other (by have := hS g hg; omega)⟩
  · rintro x a' s W W' row h hg hr
    exact hAx x a' [] W W' row h hg hr
  · intro l pre x W K hi hK
    rw [show ((#[p1] : Array Tmp).zip (#[e1 x] : Array Value)).foldl (fun t (p, v) => t.setIfInBounds p v) a.tmps = a.tmps.setIfInBounds p1 (e1 x) by simp]
    refine hassign l x W K (hIs _ _ hi) ?_
    intro a' W' hb ha
    exact hK a' _ ((keepsOthers_of_below hb).from _) (Keeps.of_below hb) (hI _ _ _ none hi (grown_of_below hb) (fun r e => by cases e)) ha
  · rintro l pre x a' W _ _ hi ha hlt
    refine wpIn_mono (hbody l pre x W a' ha hi hlt) ?_
    rintro e a2 W2 ⟨rfl, hk, hk2, hi2⟩
    exact ⟨hk.from _, hk2, hi2⟩
  · rintro D ys W hD rfl hi hK
    exact hdone D W hD hi hK
  · rintro D c pre W _ _ h _
    exact h.elim
attribute [local go_sem] Oper.semAt_some
end Go.Proofs.YtficeebbbkmhcaaGreatDoor
namespace Go.Proofs.YtficeebbbkmhcaaGreatDoor
open Go.RowKit

attribute [local go_sem] Oper.semAt_some
end Go.Proofs.YtficeebbbkmhcaaGreatDoor
namespace Go.Proofs.YtficeebbbkmhcaaGreatDoor
open Go.RowKit

theorem own_ownF {β : Type} {B base n size : Nat} {e : TypeId} {v : Value} {xs : List Value} : OwnFrom B (fun (_ : β) W => W.ownsRow base e size v n xs) := fun s W W' row hs hg hr => by
  obtain ⟨h1, h2⟩ := hs
  refine ⟨h1, h2.imp id ?_⟩
  rintro ⟨b, cap, cur, q1, q2, q3, q4⟩
  exact ⟨b, cap, cur, q1, q2, (hg.block b (Array.getElem?_eq_some_iff.1 q3).1 (fun e => by
    obtain ⟨_, o, ho, hc⟩ := hr b e.symm
    rw [q3] at ho; cases ho; cases hc)).trans q3, q4⟩
attribute [local go_sem] Oper.semAt_some
end Go.Proofs.YtficeebbbkmhcaaGreatDoor
namespace Go.Proofs.YtficeebbbkmhcaaGreatDoor
open Go.RowKit

theorem leB_len (x n : Nat) : (leB x n).length = n := by simp [leB]
end Go.Proofs.YtficeebbbkmhcaaGreatDoor
