/-
  Slices that read as lists: of cells, of elements of the extension field, of raw pairs of words.
  The reference of package mle: equality of points, vertices.
  The reference of package mle, further: vertices, the equality of a vertex and a point; the polynomial of a gate.
  Gates: slices of them, as they come in and as they are made; slice literals and new blocks in a region.
  The gates that the reference makes.
  The coefficients of the wiring polynomials: what they are, and the reference that reckons them.
  The reference's coefficients: the walk.
  The reference's Point: the polynomial with the coefficients.
  The iterator over the weights of a point's coordinates.
  Slices of the arguments as their reading gives them; a query of a statement of chapter 17; the variable that holds one.
  SHA-256 in mathematics, and what the machine's operations on 32 bits say in it.
  The padded message in two parts, as the program yields it; transcripts in mathematics.
  Arrays of words and of bytes that are filled from the front; bytes in memory.
-/
import Derived.Test.YtoiampgfnidfdaaGreatDoorExt2
import Derived.Maps.AppendAt
import Derived.Deep.AppendLies
import Derived.OwnWalk
import Derived.Laws.MakeOwn
import Derived.Great.BuildSlice
import Derived.Deep.MidRow
import Derived.RangeFuncNested
import Derived.RangeFuncBound
import Derived.RangeFuncCalls
import Derived.RangeFuncLeaves
import Derived.Shelf.Abstract
import Derived.Shelf.RegionOpen
import Derived.WalkKit
import Derived.OwnWalkIn
import Derived.TacticsInMore
import Derived.LoopNIn
import Derived.LoopIn
import Derived.Deep.Slices
import Derived.Test.YtoiampgfnidfdaaGreatDoorProg
import Derived.Laws.BitsAllLaws
namespace Go.Proofs.YtoiampgfnidfdaaGreatDoor
open Go.RowKit

theorem Blk.keep {w w' : World} {g : Nat} {t : TypeId} {cs : Array Value} (h : Blk w g t cs) (hb : Below w.heap.size w w') : Blk w' g t cs := h.below hb h.lt
theorem blk_set2 {w : World} {g : Nat} {t : TypeId} {a b c d : Value} (h : Blk w g t #[a, b]) : Blk ((w.setCell ⟨g, 0, none⟩ c).setCell ⟨g, 1, none⟩ d) g t #[c, d] := (h.set_ 0 c).set_ 1 d
theorem blk_far2 {w : World} {g g' : Nat} {t : TypeId} {cs : Array Value} {c d : Value} (h : Blk w g t cs) (hne : g ≠ g') : Blk ((w.setCell ⟨g', 0, none⟩ c).setCell ⟨g', 1, none⟩ d) g t cs := (h.far (p := ⟨g', 0, none⟩) hne c).far (p := ⟨g', 1, none⟩) hne d
theorem below_set2 {N : Nat} {a w : World} {g : Nat} {c d : Value} (h : Below N a w) (hN : N ≤ g) : Below N a ((w.setCell ⟨g, 0, none⟩ c).setCell ⟨g, 1, none⟩ d) := (h.setCell (p := ⟨g, 0, none⟩) hN c).setCell (p := ⟨g, 1, none⟩) hN d
def Rd (lo hi size : Nat) (w : World) (v : Value) (n : Nat) (cs : List Value) : Prop :=
  cs.length = n * size ∧ n ≤ 140737488355327 ∧ ∃ A cap, v = .slice A n cap ∧ n ≤ cap ∧ (0 < n → ∃ g off, A = some ⟨g, off, none⟩ ∧ lo ≤ g ∧ g < hi ∧ g < w.heap.size ∧ ∀ j u, cs[j]? = some u → w.cell? ⟨g, off + j, none⟩ = some u)
theorem Rd.below {lo hi size n N : Nat} {w w' : World} {v : Value} {cs : List Value} (h : Rd lo hi size w v n cs) (hb : Below N w w') (hN : hi ≤ N) : Rd lo hi size w' v n cs := by
  obtain ⟨h1, h2, A, cap, h3, h4, h5⟩ := h
  refine ⟨h1, h2, A, cap, h3, h4, fun h0 => ?_⟩
  obtain ⟨g, off, q1, q2, q3, q4, q5⟩ := h5 h0
  exact ⟨g, off, q1, q2, q3, Nat.lt_of_lt_of_le q4 hb.size, fun j u hu => (hb.cell (p := ⟨g, off + j, none⟩) (Nat.lt_of_lt_of_le q3 hN)).trans (q5 j u hu)⟩
theorem Rd.wide {lo hi lo' hi' size n : Nat} {w : World} {v : Value} {cs : List Value} (h : Rd lo hi size w v n cs) (h1 : lo' ≤ lo) (h2 : hi ≤ hi') : Rd lo' hi' size w v n cs := by
  obtain ⟨q1, q2, A, cap, q3, q4, q5⟩ := h
  refine ⟨q1, q2, A, cap, q3, q4, fun h0 => ?_⟩
  obtain ⟨g, off, r1, r2, r3, r4, r5⟩ := q5 h0
  exact ⟨g, off, r1, by omega, by omega, r4, r5⟩
theorem Rd.keep {lo hi size n : Nat} {w w' : World} {v : Value} {cs : List Value} (h : Rd lo hi size w v n cs) (hb : Below w.heap.size w w') : Rd lo hi size w' v n cs := by
  obtain ⟨h1, h2, A, cap, h3, h4, h5⟩ := h
  refine ⟨h1, h2, A, cap, h3, h4, fun h0 => ?_⟩
  obtain ⟨g, off, q1, q2, q3, q4, q5⟩ := h5 h0
  exact ⟨g, off, q1, q2, q3, Nat.lt_of_lt_of_le q4 hb.size, fun j u hu => (hb.cell (p := ⟨g, off + j, none⟩) q4).trans (q5 j u hu)⟩
theorem Rd.other {lo hi size n : Nat} {w w' : World} {v : Value} {cs : List Value} (h : Rd lo hi size w v n cs) (hs : w.heap.size ≤ w'.heap.size) (hb : ∀ g, lo ≤ g → g < hi → g < w.heap.size → w'.heap[g]? = w.heap[g]?) : Rd lo hi size w' v n cs := by
  obtain ⟨h1, h2, A, cap, h3, h4, h5⟩ := h
  refine ⟨h1, h2, A, cap, h3, h4, fun h0 => ?_⟩
  obtain ⟨g, off, q1, q2, q3, q4, q5⟩ := h5 h0
  exact ⟨g, off, q1, q2, q3, by omega, fun j u hu => (World.cell?_of_block (w := w) (a := ⟨g, off + j, none⟩) (hb g q2 q3 q4)).trans (q5 j u hu)⟩
theorem Rd.form {lo hi size n : Nat} {w : World} {v : Value} {cs : List Value} (h : Rd lo hi size w v n cs) (h0 : 0 < n) : ∃ g off cap, v = .slice (some ⟨g, off, none⟩) n cap ∧ n ≤ cap ∧ lo ≤ g ∧ g < hi ∧ g < w.heap.size ∧ ∀ j u, cs[j]? = some u → w.cell? ⟨g, off + j, none⟩ = some u := by
  obtain ⟨_, _, A, cap, h3, h4, h5⟩ := h
  obtain ⟨g, off, rfl, q⟩ := h5 h0
  exact ⟨g, off, cap, h3, h4, q⟩
theorem Rd.len {lo hi size n : Nat} {w : World} {v : Value} {cs : List Value} (h : Rd lo hi size w v n cs) : ∃ A cap, v = .slice A n cap := by
  obtain ⟨_, _, A, cap, h3, _⟩ := h
  exact ⟨A, cap, h3⟩
theorem rd_nil (lo hi size : Nat) (w : World) (A : Option Addr) (cap : Nat) : Rd lo hi size w (.slice A 0 cap) 0 [] :=
  ⟨by simp, by omega, A, cap, rfl, Nat.zero_le _, fun h => absurd h (by omega)⟩
theorem Rd.of_own {base hi size n : Nat} {e : TypeId} {w : World} {v : Value} {cs : List Value} (h : w.ownsRow base e size v n cs) (hn : n ≤ 140737488355327) (hh : w.heap.size ≤ hi) : Rd base hi size w v n cs := by
  obtain ⟨h1, h2⟩ := h
  rcases h2 with ⟨rfl, rfl⟩ | ⟨g, cap, cur, rfl, hb, hc, hnc, _, hcur, rfl⟩
  · exact ⟨h1, by omega, none, 0, rfl, Nat.le_refl _, fun h => absurd h (by omega)⟩
  · have hg : g < w.heap.size := (Array.getElem?_eq_some_iff.1 hc).1
    refine ⟨h1, hn, some ⟨g, 0, none⟩, cap, rfl, hnc, fun _ => ⟨g, 0, rfl, hb, by omega, hg, fun j u hu => ?_⟩⟩
    rw [Nat.zero_add, cell_of_row w g j cur e (0, 0) hc]
    rw [List.getElem?_take] at hu
    split at hu
    · simpa using hu
    · cases hu

/-! ### Elements, each of some cells -/
theorem flat_length {α : Type} {f : α → List Value} {size : Nat} (hf : ∀ x, (f x).length = size) : ∀ xs : List α, (xs.flatMap f).length = xs.length * size
  | [] => by simp
  | x :: xs => by rw [List.flatMap_cons, List.length_append, hf, flat_length hf xs, List.length_cons, Nat.succ_mul]; omega
theorem flat_get {α : Type} {f : α → List Value} {size : Nat} (hf : ∀ x, (f x).length = size) : ∀ (xs : List α) (k j : Nat) (x : α) (u : Value), xs[k]? = some x → (f x)[j]? = some u → (xs.flatMap f)[k * size + j]? = some u
  | [], k, j, x, u, h, _ => by simp at h
  | y :: xs, 0, j, x, u, h, hu => by
    simp only [List.getElem?_cons_zero, Option.some.injEq] at h
    subst h
    have hj : j < (f y).length := (List.getElem?_eq_some_iff.1 hu).1
    rw [List.flatMap_cons, Nat.zero_mul, Nat.zero_add, List.getElem?_append_left hj]
    exact hu
  | y :: xs, k + 1, j, x, u, h, hu => by
    rw [List.flatMap_cons, List.getElem?_append_right (by rw [hf, Nat.succ_mul]; omega), hf]
    have : (k + 1) * size + j - size = k * size + j := by rw [Nat.succ_mul]; omega
    rw [this]
    exact flat_get hf xs k j x u (by simpa using h) hu

def ec (x : E) : List Value := [.int .u64 (fv x.a), .int .u64 (fv x.b)]
theorem ec_len (x : E) : (ec x).length = 2 := rfl
def ExtS (lo hi : Nat) (w : World) (v : Value) (xs : List E) : Prop := Rd lo hi 2 w v xs.length (xs.flatMap ec)
theorem exts_cells {lo hi : Nat} {w : World} {v : Value} {xs : List E} (h : ExtS lo hi w v xs) (h0 : 0 < xs.length) : ∃ g off cap, v = .slice (some ⟨g, off, none⟩) xs.length cap ∧ xs.length ≤ cap ∧ lo ≤ g ∧ g < hi ∧ g < w.heap.size ∧
    ∀ k x, xs[k]? = some x → w.cell? ⟨g, off + k * 2, none⟩ = some (.int .u64 (fv x.a)) ∧ w.cell? ⟨g, off + k * 2 + 1, none⟩ = some (.int .u64 (fv x.b)) := by
  obtain ⟨g, off, cap, q1, q2, q3, q4, q5, q6⟩ := Rd.form h h0
  refine ⟨g, off, cap, q1, q2, q3, q4, q5, fun k x hx => ⟨?_, ?_⟩⟩
  · exact q6 (k * 2) _ (by simpa using flat_get ec_len xs k 0 x _ hx rfl)
  · have := q6 (k * 2 + 1) _ (flat_get ec_len xs k 1 x _ hx rfl)
    rwa [← Nat.add_assoc] at this
abbrev Raw := Int × Int
def rc (p : Raw) : List Value := [.int .u64 p.1, .int .u64 p.2]
def Word (a : Int) : Prop := 0 ≤ a ∧ a < 18446744073709551616
theorem ext_info : (Tryz.prog.info? 86).map (fun i => (i.zero, i.size, i.bytes)) = some (some (.agg #[.int .u64 0, .int .u64 0]), 2, 16) := by kernel_rfl

theorem own_below {w w' : World} {base n size N : Nat} {e : TypeId} {v : Value} {xs : List Value} (h : w.ownsRow base e size v n xs) (hN : w.heap.size ≤ N) (hb : Below N w w') : w'.ownsRow base e size v n xs := by
  obtain ⟨h1, h2⟩ := h
  refine ⟨h1, h2.imp id ?_⟩
  rintro ⟨g, cap, cur, q1, q2, q3, q4⟩
  have hg : g < w.heap.size := (Array.getElem?_eq_some_iff.1 q3).1
  exact ⟨g, cap, cur, q1, q2, (hb.block g (by omega)).trans q3, q4⟩
theorem own_block {w : World} {base n size g : Nat} {e : TypeId} {v : Value} {xs : List Value} (h : w.ownsRow base e size v n xs) (hg : v.ownBlock = some g) : base ≤ g ∧ g < w.heap.size := by
  rcases h.2 with ⟨rfl, _⟩ | ⟨g', cap, cur, rfl, q1, q3, _⟩
  · cases hg
  · simp only [Value.ownBlock, Option.some.injEq] at hg
    subst hg
    exact ⟨q1, (Array.getElem?_eq_some_iff.1 q3).1⟩
theorem blk_news {X : World} {n : Nat} {e : TypeId} {cl : List Value} (h : Blk X n e cl.toArray) : ∀ j u, cl[j]? = some u → X.cell? (Addr.add ⟨n, 0, none⟩ j) = some u := fun j u hu => by
  have : Addr.add ⟨n, 0, none⟩ j = ⟨n, j, none⟩ := by
    unfold Addr.add
    by_cases hj : j = 0
    · subst hj; simp
    · simp [hj]
  rw [this, h.cell]
  simpa using hu
theorem wpList_app1 {P : Program} {ops : Array Oper} {rest : List Oper} {o : Oper} {a : Act} {Q : Exit → Act → World → Prop} {X : World} {n base k size bytes : Nat} {t e : TypeId} {i : TypeInfo} {z : Value} {cl cs : List Value} {u : Value} (hgd : o.guard = none) (s x : Operand)
    (ho : o.op = .call { callee := .builtin .append, args := #[s, x], argTypes := #[t, t] }) (ht : P.underlying t = some (.slice e)) (hi : P.info? e = some i) (hz : i.zero = some z) (hsize : i.size = size) (hby : i.bytes = bytes) (hzs : z.cells.size = size) (hsz : 0 < size)
    (hcl : cl.length = 1 * size) (h1 : ∀ u ∈ cl, u.oneCell' = true) (hs : a.eval s = u) (hx : a.eval x = .slice (some ⟨n, 0, none⟩) 1 1) (hown : X.ownsRow base e size u k cs) (hsrc : Blk X n e cl.toArray) (hk : k + 1 ≤ maxLen) (hk2 : (k + 1) * bytes ≤ 140737488355328) (hbase : base ≤ X.heap.size)
    (h : ∀ v' w', w'.ownsRow base e size v' (k + 1) (cs ++ cl) → X.grownBy w' u.ownBlock → Below base X w' → wpList P ops Q rest (a.put o.dst v') w') : wpList P ops Q (o :: rest) a X := by
  refine wpList_append_own _ hgd s x t ho base e i z size bytes ht hi hz hsize hby hzs hsz u k cs hs hown ⟨n, 0, none⟩ 1 1 cl hx hcl (blk_news hsrc) h1 hk hk2 hbase ?_
  intro v' w' hown' hgrow _
  exact h v' w' hown' hgrow ((Below.refl _ _).grown hgrow hbase (fun g hg => (own_block hown hg).1))
theorem ec_one (x : E) : ∀ u ∈ ec x, u.oneCell' = true := by
  intro u hu
  simp only [ec, List.mem_cons, List.not_mem_nil, or_false] at hu
  rcases hu with rfl | rfl <;> rfl

theorem exts_of_own {base hi n : Nat} {e : TypeId} {w : World} {v : Value} {xs : List E} (h : w.ownsRow base e 2 v n (xs.flatMap ec)) (hl : xs.length = n) (hn : n ≤ 140737488355327) (hh : w.heap.size ≤ hi) : ExtS base hi w v xs := by
  have := Rd.of_own h hn hh
  unfold ExtS
  rw [hl]
  exact this
end Go.Proofs.YtoiampgfnidfdaaGreatDoor
namespace Go.Proofs.YtoiampgfnidfdaaGreatDoor
open Go.RowKit

end Go.Proofs.YtoiampgfnidfdaaGreatDoor
namespace Go.Proofs.YtoiampgfnidfdaaGreatDoor
open Go.RowKit

theorem ofInt_i64 (a : Nat) (ha : a < 9223372036854775808) : (BitVec.ofInt 64 (a : Int)).toNat = a := by
  rw [BitVec.ofInt_natCast, BitVec.toNat_ofNat]; exact Nat.mod_eq_of_lt (by omega)
theorem i64_and_nat (a b : Nat) (ha : a < 9223372036854775808) (hb : b < 9223372036854775808) : bits .and .i64 (a : Int) (b : Int) = ((a &&& b : Nat) : Int) := by
  have hx : a &&& b < 2 ^ 63 := Nat.and_lt_two_pow _ (by omega)
  show IntKind.i64.wrap ((BitVec.ofInt 64 (a : Int) &&& BitVec.ofInt 64 (b : Int)).toNat : Int) = _
  rw [BitVec.toNat_and, ofInt_i64 a ha, ofInt_i64 b hb, IntKind.wrap_i64]
  omega
end Go.Proofs.YtoiampgfnidfdaaGreatDoor
namespace Go.Proofs.YtoiampgfnidfdaaGreatDoor
open Go.RowKit

/-! ### New blocks in a region -/
def Lit (e : TypeId) (len : Nat) (cs : Array Value) (n m : Nat) (v : Value) (w : World) : Prop := v = .slice (some ⟨n, 0, none⟩) len len ∧ n < m ∧ Blk w n e cs
theorem stable_lit {e : TypeId} {len : Nat} {cs : Array Value} : Stable (Lit e len cs) := fun _ _ _ _ _ ⟨h1, h2, h3⟩ hb => ⟨h1, h2, h3.below hb h2⟩
def New (e : TypeId) (cs : Array Value) (n m : Nat) (v : Value) (w : World) : Prop := v = .pointer (some ⟨n, 0, none⟩) ∧ n < m ∧ Blk w n e cs
theorem stable_new {e : TypeId} {cs : Array Value} : Stable (New e cs) := fun _ _ _ _ _ ⟨h1, h2, h3⟩ hb => ⟨h1, h2, h3.below hb h2⟩
def LitF (len n : Nat) (v : Value) : Prop := v = .slice (some ⟨n, 0, none⟩) len len
def NewF (n : Nat) (v : Value) : Prop := v = .pointer (some ⟨n, 0, none⟩)
theorem fit_lit {e : TypeId} {len : Nat} {cs : Array Value} : Fit (Lit e len cs) (LitF len) := ⟨stable_lit, fun _ => ⟨_, rfl⟩, fun _ _ _ _ h => h.1⟩
theorem fit_new {e : TypeId} {cs : Array Value} : Fit (New e cs) NewF := ⟨stable_new, fun _ => ⟨_, rfl⟩, fun _ _ _ _ h => h.1⟩
def SlF (len : Nat) (_ : Nat) (v : Value) : Prop := ∃ A cap, v = .slice A len cap
def ExtA (xs : List E) (lo hi : Nat) (v : Value) (w : World) : Prop := ExtS lo hi w v xs
theorem fit_ext {xs : List E} : Fit (ExtA xs) (SlF xs.length) := ⟨fun _ _ _ _ _ h hb => h.below hb (Nat.le_refl _), fun _ => ⟨.slice none xs.length 0, none, 0, rfl⟩, fun _ _ _ _ h => h.len⟩
theorem step_loadR {P : Program} {o : Oper} {a : Act} {w : World} {t : TypeId} {x : Operand} {g i : Nat} {cs : List Value} {d : TypeDesc} (hu : P.underlying t = some d) (hd : d.isRow = true) (hi : (P.info? t).map (·.size) = some cs.length) (ho : o.op = .load t x) (hx : a.eval x = .pointer (some ⟨g, i, none⟩)) (hc : w.rangeAt g i cs) :
    stepAt P o a w (fun v' w' => v' = .agg cs.toArray ∧ Below w.heap.size w w') := by
  have h2 := run_loadAt_mid (P := P) w g i t cs d hc hu hd hi
  unfold stepAt execOp
  simp only [ho, hx, Sem.run_bind, h2, Result.andThen_ok]
  exact ⟨rfl, Below.refl _ _⟩
theorem step_lit {P : Program} {o : Oper} {a : Act} {w : World} {t e : TypeId} {len : Nat} {parts : Array (Nat × Operand)} {cells : Array Value} {ie : TypeInfo} {z : Value} (hu : P.underlying t = some (.slice e)) (hie : P.info? e = some ie) (hz : ie.zero = some z) (hsmall : ¬ len * ie.size > 2 ^ 24) (hpos : ¬ len * ie.size = 0)
    (ho : o.op = .buildSlice t len parts)
    (hf : Instr.fill (fun i => some (i * ie.size, ie.size)) ((Array.range (len * ie.size)).map (z.cells[· % z.cells.size]!)) (parts.map fun (i, x) => (i, a.eval x)).toList = some cells) :
    stepAt P o a w (fun v w' => Lit e len cells w.heap.size w'.heap.size v w' ∧ Below w.heap.size w w') := by
  unfold stepAt execOp
  simp only [ho, Sem.run_bind, run_buildSlice w t e len _ cells ie z hu hie hz hsmall hpos hf, Result.andThen_ok]
  exact ⟨⟨rfl, by simp only [World.size_alloc]; omega, Blk.new _ _ _⟩, (Below.refl _ _).alloc (Nat.le_refl _) _⟩
theorem fill_one {z v : Value} {size : Nat} {cs : Array Value} (hs : 0 < size) (hv : v.cells = cs) (hc : cs.size = size) :
    Instr.fill (fun i => some (i * size, size)) ((Array.range (1 * size)).map (z.cells[· % z.cells.size]!)) [(0, v)] = some cs := by
  obtain ⟨r, h1, h2, h3⟩ := Great.fill_dense hs [v] 0 ((Array.range (1 * size)).map (z.cells[· % z.cells.size]!)) (fun u hu => by rw [List.mem_singleton.1 hu, hv, hc]) (by simp)
  have h1' : Instr.fill (fun i => some (i * size, size)) ((Array.range (1 * size)).map (z.cells[· % z.cells.size]!)) [(0, v)] = some r := h1
  rw [h1']
  congr 1
  apply Array.ext_getElem?
  intro k
  rw [h3 k]
  by_cases hk : k < size
  · rw [if_pos (by simp; omega)]
    simp [Nat.div_eq_of_lt hk, Nat.mod_eq_of_lt hk, hv]
  · rw [if_neg (by simp; omega), Array.getElem?_eq_none (by simp; omega), Array.getElem?_eq_none (by omega)]
theorem step_lit1 {P : Program} {o : Oper} {a : Act} {w : World} {t e : TypeId} {x : Operand} {cs : Array Value} {ie : TypeInfo} {z : Value} {size : Nat} (hu : P.underlying t = some (.slice e)) (hie : P.info? e = some ie) (hz : ie.zero = some z) (hi : ie.size = size) (hp : 0 < size) (hsmall : size ≤ 16777216)
    (ho : o.op = .buildSlice t 1 #[(0, x)]) (hv : (a.eval x).cells = cs) (hc : cs.size = size) :
    stepAt P o a w (fun v w' => Lit e 1 cs w.heap.size w'.heap.size v w' ∧ Below w.heap.size w w') := by
  subst hi
  refine step_lit hu hie hz (by omega) (by omega) ho ?_
  simpa using fill_one hp hv hc
theorem step_litF {P : Program} {o : Oper} {a : Act} {w : World} {t e : TypeId} {len : Nat} {parts : List (Nat × Operand)} {vs : List Value} {ie : TypeInfo} {z : Value} (hu : P.underlying t = some (.slice e)) (hie : P.info? e = some ie) (hz : ie.zero = some z) (hi : ie.size = 1) (hlen : vs.length = len) (hpos : 0 < len) (hsmall : len ≤ 16777216)
    (ho : o.op = .buildSlice t len parts.toArray) (hv : (parts.map fun x => (x.1, a.eval x.2)) = (vs.zipIdx 0).map fun x => (x.2, x.1)) (h1 : ∀ v ∈ vs, v.cells = #[v]) :
    stepAt P o a w (fun v w' => Lit e len vs.toArray w.heap.size w'.heap.size v w' ∧ Below w.heap.size w w') := by
  refine step_lit hu hie hz (by rw [hi]; omega) (by rw [hi]; omega) ho ?_
  have hm : (parts.toArray.map fun (i, x) => (i, a.eval x)).toList = (vs.zipIdx 0).map fun x => (x.2, x.1) := by rw [← hv]; simp
  rw [hm, hi]
  obtain ⟨r, h1', h2, h3⟩ := Great.fill_dense (s := 1) (by decide) vs 0 ((Array.range (len * 1)).map (z.cells[· % z.cells.size]!)) (fun u hu => by rw [h1 u hu]; rfl) (by simp; omega)
  rw [h1']
  congr 1
  apply Array.ext_getElem?
  intro k
  rw [h3 k]
  by_cases hk : k < len
  · rw [if_pos (by simp; omega)]
    simp only [Nat.div_one, Nat.sub_zero, Nat.mod_one, List.getElem?_toArray]
    obtain ⟨u, hu⟩ : ∃ u, vs[k]? = some u := ⟨vs[k]'(by omega), List.getElem?_eq_getElem (by omega)⟩
    rw [hu]
    simp [h1 u (List.mem_of_getElem? hu)]
  · rw [if_neg (by simp; omega), Array.getElem?_eq_none (by simp; omega), Array.getElem?_eq_none (by simp; omega)]
theorem step_new {P : Program} {o : Oper} {a : Act} {w : World} {e : TypeId} {ie : TypeInfo} {z : Value} (hie : P.info? e = some ie) (hz : ie.zero = some z) (ho : o.op = .alloc e) :
    stepAt P o a w (fun v w' => New e z.cells w.heap.size w'.heap.size v w' ∧ Below w.heap.size w w') := by
  unfold stepAt execOp
  simp [ho, Instr.alloc, zeroValue, typeInfo, hie, hz, newVar, newRow, newObj]
  exact ⟨⟨rfl, by simp, Blk.new _ _ _⟩, (Below.refl _ _).alloc (Nat.le_refl _) _⟩

/-! ### Gates -/
structure Gt where
  L : Nat
  R : Nat
  c : Fp
  a : Fp
  b : Fp
  d : Fp
def gc (g : Gt) : List Value := [.int .i64 g.L, .int .i64 g.R, .int .u64 (fv g.c), .int .u64 (fv g.a), .int .u64 (fv g.b), .int .u64 (fv g.d)]
theorem rRedF (x : Int) (h : Word x) (w : World) : Calls Tryz.prog 89 #[.int .u64 x] w (Ret (.int .u64 (fv (fz x))) w) := by
  rw [fv_fz]
  exact ret_of_same (rRed x h.1 h.2 w)
end Go.Proofs.YtoiampgfnidfdaaGreatDoor
namespace Go.Proofs.YtoiampgfnidfdaaGreatDoor
open Go.RowKit

end Go.Proofs.YtoiampgfnidfdaaGreatDoor
namespace Go.Proofs.YtoiampgfnidfdaaGreatDoor
open Go.RowKit

/-! ### Sums -/
def esum : List E → E
  | [] => 0
  | x :: l => x + esum l
theorem esum_append : ∀ l l' : List E, esum (l ++ l') = esum l + esum l'
  | [], l' => (E.zero_add _).symm
  | x :: l, l' => by rw [List.cons_append, esum, esum, esum_append l l', E.add_assoc]
def gk (g : Gt) : Nat → Fp
  | 0 => g.c
  | 1 => g.a
  | 2 => g.b
  | _ => g.d
/-! ### Lists that are turned one by one -/
theorem set_flat (x : E) : ∀ (cs : List E) (k : Nat), k < cs.length → ((cs.flatMap ec).set (k * 2) (.int .u64 (fv x.a))).set (k * 2 + 1) (.int .u64 (fv x.b)) = (cs.set k x).flatMap ec
  | [], k, h => absurd h (by simp)
  | y :: cs, 0, _ => rfl
  | y :: cs, k + 1, h => by
    have e1 : (k + 1) * 2 = k * 2 + 1 + 1 := by omega
    have ih := set_flat x cs k (by simpa using h)
    rw [List.flatMap_cons, List.set_cons_succ, List.flatMap_cons, ← ih, e1]
    rfl
section
variable {w : World} {g : Nat} {t : TypeId} {cs : List E}
theorem blk_setE (h : Blk w g t (cs.flatMap ec).toArray) (k : Nat) (x : E) (hk : k < cs.length) : Blk ((w.setCell ⟨g, k * 2, none⟩ (.int .u64 (fv x.a))).setCell ⟨g, k * 2 + 1, none⟩ (.int .u64 (fv x.b))) g t ((cs.set k x).flatMap ec).toArray := by
  have := (h.set_ (k * 2) (.int .u64 (fv x.a))).set_ (k * 2 + 1) (.int .u64 (fv x.b))
  rw [← set_flat x cs k hk]
  simpa using this
theorem blk_cellE (h : Blk w g t (cs.flatMap ec).toArray) {k : Nat} {x : E} (hk : cs[k]? = some x) : w.cell? ⟨g, k * 2, none⟩ = some (.int .u64 (fv x.a)) ∧ w.cell? ⟨g, k * 2 + 1, none⟩ = some (.int .u64 (fv x.b)) := by
  have e0 := flat_get ec_len cs k 0 x _ hk rfl
  have e1 := flat_get ec_len cs k 1 x _ hk rfl
  refine ⟨?_, ?_⟩
  · rw [h.cell]; simpa using e0
  · rw [h.cell]; simpa using e1
end

theorem blk_farE {w : World} {g g' i j : Nat} {t : TypeId} {cs : Array Value} {c d : Value} (h : Blk w g t cs) (hne : g ≠ g') : Blk ((w.setCell ⟨g', i, none⟩ c).setCell ⟨g', j, none⟩ d) g t cs := (h.far (p := ⟨g', i, none⟩) hne c).far (p := ⟨g', j, none⟩) hne d
theorem below_setE {N : Nat} {a w : World} {g i j : Nat} {c d : Value} (h : Below N a w) (hN : N ≤ g) : Below N a ((w.setCell ⟨g, i, none⟩ c).setCell ⟨g, j, none⟩ d) := (h.setCell (p := ⟨g, i, none⟩) hN c).setCell (p := ⟨g, j, none⟩) hN d

/-! ### make -/
set_option maxRecDepth 100000 in
theorem ec_getD (n k : Nat) (h : k < n * 2) : ((List.replicate n (0 : E)).flatMap ec)[k]? = some (.int .u64 0) := by
  have hk : k / 2 < n := by omega
  have h1 : (List.replicate n (0 : E))[k / 2]? = some 0 := by simp [hk]
  have e : k = k / 2 * 2 + k % 2 := by omega
  rw [e]
  have : k % 2 = 0 ∨ k % 2 = 1 := by omega
  rcases this with h2 | h2 <;> rw [h2] <;> exact flat_get ec_len _ _ _ _ _ h1 rfl
set_option maxRecDepth 100000 in
theorem mk_ext (n : Nat) (hn : n ≤ 1000000) (w : World) : (Instr.makeSlice 78 (.int .i64 (n : Int)) (.int .i64 (n : Int))).run Tryz.prog w = .ok (.slice (some ⟨w.heap.size, 0, none⟩) n n) (w.alloc (.cells ((List.replicate n (0 : E)).flatMap ec).toArray 86)) := by
  obtain ⟨i0, hi0, hz0, hz1, hz2⟩ := info_parts ext_info
  have h := run_make (P := Tryz.prog) w _ _ i0 _ Tryz.underlying78 hi0 hz0 .i64 .i64 (n : Int) (n : Int) (by omega) (Int.le_refl _) (by rw [hz2]; omega) (by omega)
  rw [h, Int.toNat_natCast, hz1]
  congr 4
  apply Array.ext_getElem?
  intro k
  unfold madeCells
  by_cases hk : k < n * 2
  · have : k % 2 = 0 ∨ k % 2 = 1 := by omega
    simp only [List.getElem?_toArray, ec_getD n k hk, Array.getElem?_map, Value.cells]
    rw [Array.getElem?_range]
    simp only [hk, if_true, Option.map_some]
    rcases this with h2 | h2 <;> simp [h2]
  · rw [Array.getElem?_eq_none (by simp; omega), Array.getElem?_eq_none (by have := flat_length ec_len (List.replicate n (0 : E)); simp only [List.length_replicate] at this; simp only [List.size_toArray, this]; omega)]

/-! ### The reference -/
def gv (g : Gt) : Value := .agg #[.int .i64 g.L, .int .i64 g.R, .int .u64 (fv g.c), .int .u64 (fv g.a), .int .u64 (fv g.b), .int .u64 (fv g.d)]
end Go.Proofs.YtoiampgfnidfdaaGreatDoor
namespace Go.Proofs.YtoiampgfnidfdaaGreatDoor
open Go.RowKit

end Go.Proofs.YtoiampgfnidfdaaGreatDoor
namespace Go.Proofs.YtoiampgfnidfdaaGreatDoor
open Go.RowKit

end Go.Proofs.YtoiampgfnidfdaaGreatDoor
namespace Go.Proofs.YtoiampgfnidfdaaGreatDoor
open Go.RowKit
attribute [local go_sem] Oper.semAt_some

structure Keeps (S : Nat → Prop) (W W' : World) : Prop where
  size : W.heap.size ≤ W'.heap.size
  same : ∀ g, S g → g < W.heap.size → W'.heap[g]? = W.heap[g]?
theorem Keeps.refl {S : Nat → Prop} (W : World) : Keeps S W W := ⟨Nat.le_refl _, fun _ _ _ => rfl⟩
theorem Keeps.trans {S : Nat → Prop} {A B C : World} (h : Keeps S A B) (k : Keeps S B C) : Keeps S A C := ⟨Nat.le_trans h.size k.size, fun g hg hl => (k.same g hg (Nat.lt_of_lt_of_le hl h.size)).trans (h.same g hg hl)⟩
theorem Keeps.of_below {S : Nat → Prop} {A B : World} (h : Below A.heap.size A B) : Keeps S A B := ⟨h.size, fun g _ hl => h.block g hl⟩
theorem Keeps.cell {S : Nat → Prop} {A B : World} (h : Keeps S A B) {g i : Nat} {v : Value} (hg : S g) (hc : A.cell? ⟨g, i, none⟩ = some v) : B.cell? ⟨g, i, none⟩ = some v := by
  rcases Nat.lt_or_ge g A.heap.size with hl | hl
  · exact (World.cell?_of_block (w := A) (a := ⟨g, i, none⟩) (h.same g hg hl)).trans hc
  · simp only [World.cell?] at hc; rw [Array.getElem?_eq_none hl] at hc; cases hc
theorem Keeps.rd {S : Nat → Prop} {lo hi size n : Nat} {w w' : World} {v : Value} {cs : List Value} (h : Rd lo hi size w v n cs) (hk : Keeps S w w') (hS : ∀ g, lo ≤ g → g < hi → S g) : Rd lo hi size w' v n cs :=
  h.other hk.size fun g h1 h2 h3 => hk.same g (hS g h1 h2) h3
theorem grown_of_below {w w' : World} (h : Below w.heap.size w w') : w.grownBy w' none := ⟨h.os, h.tape, h.output, h.size, fun k hk _ => h.block k hk⟩
theorem below_of_grown {w w' : World} (h : w.grownBy w' none) : Below w.heap.size w w' := ⟨h.os, h.tape, h.output, h.size, fun k hk => h.block k hk (by simp)⟩
theorem abides {β : Type} {B : Nat} {J : β → World → Prop} (h : AbidesFrom B J) {s : β} {w w' : World} (hJ : J s w) (hb : Below w.heap.size w w') : J s w' := h s w w' none hJ (grown_of_below hb) (fun r e => by cases e)

theorem wpIn_stk1 {F : Fence} {n : Nat} {P : Program} {c : Code} {Q : Exit → Act → World → Prop} {a : Act} {w : World} {c1 : Array Value} {t1 : TypeId} (h : ∀ W, Below w.heap.size w W → Hid (W.heap.size = w.heap.size + 1) → Blk W (w.heap.size) t1 c1 → Code.wpIn F n P c Q a W) : Code.wpIn F n P c Q a (w.alloc (.cells c1 t1)) := stk1 (M := fun W => Code.wpIn F n P c Q a W) h
def Laid (w : World) : Prop := w.cell? ⟨1, 0, none⟩ = some (.int .u64 (fv (1 : E).a)) ∧ w.cell? ⟨1, 1, none⟩ = some (.int .u64 (fv (1 : E).b)) ∧ 1 < w.heap.size
theorem Laid.below {N : Nat} {w w' : World} (h : Laid w) (hb : Below N w w') (hN : 1 < N) : Laid w' := ⟨(hb.cell (p := ⟨1, 0, none⟩) hN).trans h.1, (hb.cell (p := ⟨1, 1, none⟩) hN).trans h.2.1, Nat.lt_of_lt_of_le h.2.2 hb.size⟩
theorem Laid.keep {w w' : World} (h : Laid w) (hb : Below w.heap.size w w') : Laid w' := h.below hb h.2.2

set_option maxRecDepth 100000 in
set_option maxHeartbeats 2000000 in
theorem wIter (p : List E) (v : Value) (n lo n0 Bs : Nat) (hn : 1 ≤ n) (w : World) (hp : ExtS lo n0 w v p) (hBs : w.cell? ⟨Bs, 0, none⟩ = some v) (h1 : Laid w) (hn0 : 1 < n0) (hw : n0 ≤ w.heap.size) (hB : Bs < w.heap.size) :
    SeqStopsK .wide n Tryz.prog 163 #[.pointer (some ⟨Bs, 0, none⟩)] (fun x : E => #[ev (1 - x), ev x]) (Keeps (fun g => g < n0)) (fun ys => ys = p) (fun _ => True) p.length w := fun l J Jx W hW hJ hJx hY h0 => by
  obtain ⟨A, cap, rfl⟩ := hp.len
  have hl0 := hp.2.1
  have hBs' := (hW.cell (p := ⟨Bs, 0, none⟩) hB).trans hBs
  have hp' := hp.below hW hw
  have h1' := h1.keep hW
  have hop := open_wide Tryz.prog
  refine callsIn_of_wp Tryz.func163 rfl trivial ?_ rfl
  simp only [Tryz.ntmps163, List.size_toArray, List.length_cons, List.length_nil, Nat.reduceAdd, Nat.reduceSub, Array.replicate_succ, Array.replicate_zero, List.push_toArray, List.append_toArray, List.nil_append, List.cons_append]
  gi_wp2
  gi_loopw [7] (fun i wr => ∃ k : Nat, k ≤ p.length ∧ i = .int .i64 k ∧ J (p.take k) wr ∧ Keeps (fun g => g < n0) W wr) (fun i _ => p.length - (intOf i).toNat)
  case atStart => exact ⟨0, Nat.zero_le _, rfl, by simpa using h0, Keeps.refl _⟩
  case round =>
    obtain ⟨k, hk, rfl, hJs, hnx⟩ := hrel
    by_cases hlt : k < p.length
    · obtain ⟨g, off, cap', hv, q1, q2, q3, q4, q5⟩ := exts_cells hp' (by omega)
      cases hv
      obtain ⟨x, hx⟩ : ∃ x, p[k]? = some x := ⟨p[k], List.getElem?_eq_getElem hlt⟩
      have d1 := hnx.cell q3 (q5 k x hx).1
      have d2 := hnx.cell q3 (q5 k x hx).2
      have o1 := hnx.cell hn0 h1'.1
      have o2 := hnx.cell hn0 h1'.2.1
      have hgz : 1 < wr.heap.size := Nat.lt_of_lt_of_le h1'.2.2 hnx.size
      have htk : p.take (k + 1) = p.take k ++ [x] := by rw [List.take_add_one, hx]; rfl
      have HT := Lib.hid htk
      have HY := Lib.hid hY
      have HJ := Lib.hid hJ
      clear q5 hx htk hY hJ hJx
      gi_wp2_with fail
      refine wpIn_stk1 fun W2 hBW hzW b1 => ?_
      have c1 := gw_blk b1
      have r1 := gw_cell (W := W2) (Nat.lt_of_lt_of_le hgz hBW.size) ((hBW.cell (p := ⟨1, 0, none⟩) hgz).trans o1)
      have r2 := gw_cell (W := W2) (Nat.lt_of_lt_of_le hgz hBW.size) ((hBW.cell (p := ⟨1, 1, none⟩) hgz).trans o2)
      refine wpIn_region_rg hop 5 [(3, Spec.val (.agg #[.int .u64 (fv (1 - x).a), .int .u64 (fv (1 - x).b)]))] (by kernel_rfl) (by kernel_rfl) (by kernel_rfl) trivial ?_
      iterate 3 (refine rg_det rfl rfl rfl (fun K hK => ?_); go_big_quiet_op; refine hK _ ?_; clear hK K)
      refine rg_val rfl rfl (fun W1 hW1 hF => step_callv en_attestor_ext_Sub (eSub 1 x W1) rfl rfl) ?_
      intro a' ha
      simp only [Act.put, List.setIfInBounds_toArray, List.set_cons_succ, List.set_cons_zero] at ha
      subst ha
      refine rg_det rfl rfl rfl (fun K hK => ?_)
      go_big_quiet_op
      refine hK _ ?_; clear hK K
      refine rg_nil (fun w' hw' hF => ?_)
      obtain ⟨z, rfl⟩ := hw'
      simp only [List.drop_succ_cons, List.drop_zero]
      have hBz : Below wr.heap.size wr z.w := hBW.trans (z.h.mono hBW.size)
      have hJz := abides HJ.out hJs hBz
      obtain ⟨fn, tmps, assign, body, hy, hR⟩ := HY.out (p.take k) x z.w hJz (by rw [List.length_take]; omega)
      unfold ev at hy
      clear c1 r1 r2 o1 o2 d1 d2 hF
      gi_wp2
      refine hR.mono ?_
      rintro e W3 (⟨rfl, hJ3, hk3⟩ | ⟨rfl, hJx3⟩)
      · gi_wp2
        go_roundw
        case rel => exact ⟨k + 1, by omega, by go_num, by rw [HT.out]; exact hJ3, (hnx.trans (Keeps.of_below hBz)).trans hk3⟩
        case measure => simp [intOf]; omega
      · gi_wp2
        refine bodyPost_ret (results_none rfl _ _ _) rfl ?_
        exact ⟨⟨_, rfl⟩, .inr ⟨_, trivial, hJx3⟩⟩
    · obtain rfl : k = p.length := by omega
      gi_wp2
      go_end0
      exact ⟨⟨_, rfl⟩, .inl ⟨_, rfl, by simpa using hJs⟩⟩
end Go.Proofs.YtoiampgfnidfdaaGreatDoor
namespace Go.Proofs.YtoiampgfnidfdaaGreatDoor
open Go.ChangeShapes Go.WideShapes Go.RowKit

theorem wf_u8 {z : Int} (h : (Lit.int .u8 z).wf = true) : 0 ≤ z ∧ z < 256 := by
  simp only [Lit.wf, Bool.and_eq_true, decide_eq_true_eq] at h
  have e1 : IntKind.u8.min = 0 := rfl
  have e2 : IntKind.u8.max = 255 := rfl
  rw [e1, e2] at h
  exact ⟨h.1, by omega⟩

theorem okd_int {P : Program} {W : World} {n : Nat} {t : TypeId} {k : IntKind} {cs : List Value} (ht : P.underlying t = some (.int k)) (h : Okd P W n t cs) : ∃ z, cs = [.int k z] ∧ (Lit.int k z).wf = true := by
  cases n with
  | zero => exact h.elim
  | succ n => unfold Okd at h; rw [ht] at h; exact h
def FParts (P : Program) (W : World) (m : Nat) (cs : List Value) : List Field → Prop
  | [] => True
  | f :: fs => Okd P W m f.type ((cs.drop f.offset).take (P.cellsOf f.type)) ∧ FParts P W m cs fs
theorem fparts_of {P : Program} {W : World} {m : Nat} {cs : List Value} : ∀ {fs : List Field}, (∀ (i : Nat) (f : Field), fs[i]? = some f → Okd P W m f.type ((cs.drop f.offset).take (P.cellsOf f.type))) → FParts P W m cs fs
  | [], _ => trivial
  | f :: _, h => ⟨h 0 f rfl, fparts_of fun i g hg => h (i + 1) g (by simpa using hg)⟩
theorem okd_struct {P : Program} {W : World} {n : Nat} {t : TypeId} {fs : List Field} {cs : List Value} (ht : P.underlying t = some (.struct fs.toArray)) (h : Okd P W n t cs) :
    cs.length = P.cellsOf t ∧ ∃ m, FParts P W m cs fs := by
  cases n with
  | zero => exact h.elim
  | succ n => unfold Okd at h; rw [ht] at h; exact ⟨h.1, n, fparts_of fun i f hf => h.2 i f (by simpa using hf)⟩
theorem okd_array {P : Program} {W : World} {n : Nat} {t e : TypeId} {m : Nat} {cs : List Value} (ht : P.underlying t = some (.array m e)) (h : Okd P W n t cs) :
    cs.length = P.cellsOf t ∧ ∃ q, ∀ i, i < m → Okd P W q e ((cs.drop (i * P.cellsOf e)).take (P.cellsOf e)) := by
  cases n with
  | zero => exact h.elim
  | succ n => unfold Okd at h; rw [ht] at h; exact ⟨h.1, n, h.2⟩
theorem okd_slice {P : Program} {W : World} {α : Type} (f : α → List Value) (Pp : α → Prop) {size : Nat} (h0 : 0 < size) (hf : ∀ x, (f x).length = size) {n : Nat} {t e : TypeId} {cs : List Value} (ht : P.underlying t = some (.slice e)) (hc : P.cellsOf e = size)
    (hb : 1 ≤ P.bytesOf e) (he : ∀ n cs, Okd P W n e cs → ∃ x, Pp x ∧ cs = f x) (h : Okd P W n t cs) : ∃ v, cs = [v] ∧ ∃ xs : List α, Rd 0 W.heap.size size W v xs.length (xs.flatMap f) ∧ ∀ x ∈ xs, Pp x := by
  cases n with
  | zero => exact h.elim
  | succ n =>
    unfold Okd at h
    rw [ht] at h
    rcases h with rfl | ⟨a, len, cap, rfl, hl, hcap, hel⟩
    · exact ⟨_, rfl, ([] : List α), by simpa using rd_nil 0 W.heap.size size W none 0, fun x hx => absurd hx (by simp)⟩
    · have key : ∀ k, k ≤ len → ∃ xs : List α, xs.length = k ∧ (∀ x ∈ xs, Pp x) ∧ ∀ i x, xs[i]? = some x → W.cells? 0 (a.add (i * size)) size = some (f x) := by
        intro k
        induction k with
        | zero => exact fun _ => ⟨[], rfl, fun x hx => absurd hx (by simp), fun i x hx => absurd hx (by simp)⟩
        | succ k ih =>
          intro hk
          obtain ⟨xs, q1, q2, q3⟩ := ih (by omega)
          obtain ⟨cs', r1, r2⟩ := hel k (by omega)
          obtain ⟨x, r3, rfl⟩ := he _ _ r2
          rw [hc] at r1
          refine ⟨xs ++ [x], by simp [q1], fun y hy => ?_, fun i y hy => ?_⟩
          · rcases List.mem_append.1 hy with h | h
            · exact q2 y h
            · rw [List.mem_singleton.1 h]; exact r3
          · rcases Nat.lt_or_ge i xs.length with hi | hi
            · rw [List.getElem?_append_left hi] at hy; exact q3 i y hy
            · rw [List.getElem?_append_right hi] at hy
              have : i - xs.length = 0 := by
                rcases Nat.eq_zero_or_pos (i - xs.length) with h | h
                · exact h
                · rw [List.getElem?_eq_none (by simp; omega)] at hy; cases hy
              rw [this] at hy
              simp only [List.getElem?_cons_zero, Option.some.injEq] at hy
              subst hy
              rw [show i = k by omega]
              exact r1
      obtain ⟨xs, q1, q2, q3⟩ := key len (Nat.le_refl _)
      refine ⟨_, rfl, xs, ⟨flat_length hf xs, ?_, some a, cap, by rw [q1], by omega, fun hp => ?_⟩, q2⟩
      · have h1 : cap * 1 ≤ cap * P.bytesOf e := Nat.mul_le_mul_left _ hb
        have : reachBytes = 140737488351232 := rfl
        omega
      · obtain ⟨g, off, spot⟩ := a
        have cell : ∀ i x, xs[i]? = some x → ∀ r, r < size → W.cell? (Addr.add ⟨g, off, spot⟩ (i * size + r)) = (f x)[r]? := by
          intro i x hx r hr
          have := (World.cells?_some (q3 i x hx)).2.2 r hr
          rwa [Go.Deep.add_add] at this
        obtain ⟨x0, hx0⟩ : ∃ x, xs[0]? = some x := ⟨xs[0], List.getElem?_eq_getElem hp⟩
        have c0 := cell 0 x0 hx0 0 h0
        rw [List.getElem?_eq_getElem (by rw [hf]; exact h0)] at c0
        simp only [Nat.zero_mul, Nat.add_zero, Addr.add, if_true] at c0
        have hs : spot = none := by
          cases spot with
          | none => rfl
          | some s => simp only [World.cell?] at c0; split at c0 <;> simp at c0
        subst hs
        have hg : g < W.heap.size := by
          rcases Nat.lt_or_ge g W.heap.size with h | h
          · exact h
          · simp only [World.cell?] at c0; rw [Array.getElem?_eq_none h] at c0; cases c0
        refine ⟨g, off, rfl, Nat.zero_le _, hg, hg, fun j u hu => ?_⟩
        have hj : j < xs.length * size := by rw [← flat_length hf xs]; exact (List.getElem?_eq_some_iff.1 hu).1
        have hi : j / size < xs.length := by rw [Nat.div_lt_iff_lt_mul h0]; exact hj
        obtain ⟨x, hx⟩ : ∃ x, xs[j / size]? = some x := ⟨xs[j / size], List.getElem?_eq_getElem hi⟩
        have hr := Nat.mod_lt j h0
        have c1 := cell _ x hx (j % size) hr
        have hjj : j / size * size + j % size = j := Nat.div_add_mod' j size
        rw [hjj] at c1
        have hu2 := flat_get hf xs (j / size) (j % size) x _ hx (List.getElem?_eq_getElem (by rw [hf]; exact hr))
        rw [hjj, hu] at hu2
        rw [List.getElem?_eq_getElem (by rw [hf]; exact hr), ← hu2] at c1
        rw [← c1]
        unfold Addr.add
        by_cases hj0 : j = 0
        · subst hj0; simp
        · simp [hj0]

theorem gOneV : Tryz.prog.globalNamed "attestor/mle.one" = some 1 := by kernel_rfl
theorem tOneV : (Tryz.prog.globals[1]?).map (·.type) = some 86 := by kernel_rfl
set_option maxRecDepth 100000 in
theorem laid_of1 {W : World} {g0 t0 : Nat} {cs0 : Array Value} {f0 : Nat} {p0 : List MemPlace} (hg0 : Tryz.prog.globalNamed "attestor/mle.one" = some g0) (ht0 : (Tryz.prog.globals[g0]?).map (·.type) = some t0) (hv0 : W.var? Tryz.prog "attestor/mle.one" = some cs0)
    (hd0 : DataW.trod (fun _ => ()) Tryz.prog W 0 (fun _ => true) false f0 t0 cs0.toList = some (Rows.laid_attestor_mle_one, p0)) : Laid W := by
  obtain rfl := Option.some.inj (gOneV.symm.trans hg0)
  obtain rfl := Option.some.inj (tOneV.symm.trans ht0)
  obtain ⟨xs, m, _, hx, h1, h2, h3⟩ := DataW.trod_struct Tryz.underlying86 hd0
  have c1 : Tryz.prog.cellsOf 86 = 2 := by kernel_rfl
  have c2 : Tryz.prog.cellsOf 32 = 1 := by kernel_rfl
  rw [c1] at h1
  obtain ⟨l⟩ := cs0
  simp only at h1 h3
  match l, h1, xs, h2, hx, h3 with
  | [a, b], _, [y0, y1], _, hx, h3 =>
    have k0 : DataW.trod (fun _ => ()) Tryz.prog W 0 (fun _ => true) false m 32 (List.take (Tryz.prog.cellsOf 32) (List.drop 0 [a, b])) = some y0 := h3 0 _ rfl
    have k1 : DataW.trod (fun _ => ()) Tryz.prog W 0 (fun _ => true) false m 32 (List.take (Tryz.prog.cellsOf 32) (List.drop 1 [a, b])) = some y1 := h3 1 _ rfl
    rw [c2] at k0 k1
    simp only [List.drop_zero, List.take_succ_cons, List.take_zero, List.drop_succ_cons] at k0 k1
    obtain ⟨x, e1, e2, _⟩ := DataW.trod_int Tryz.underlying32 k0
    obtain ⟨y, e3, e4, _⟩ := DataW.trod_int Tryz.underlying32 k1
    simp only [List.cons.injEq, and_true] at e1 e3
    subst e1; subst e3
    rw [e2, e4] at hx
    simp only [Rows.laid_attestor_mle_one, List.map_cons, List.map_nil, Prod.mk.injEq, DataW.agg.injEq, List.cons.injEq, DataW.lit.injEq, Lit.int.injEq, true_and, and_true] at hx
    obtain ⟨⟨hx1, hx2⟩, _⟩ := hx
    have q1 := World.var?_cell gOneV hv0 0
    have q2 := World.var?_cell gOneV hv0 1
    simp only [List.getElem?_toArray, List.getElem?_cons_zero, List.getElem?_cons_succ] at q1 q2
    refine ⟨by rw [q1, ← hx1]; rfl, by rw [q2, ← hx2]; rfl, ?_⟩
    rcases Nat.lt_or_ge 1 W.heap.size with h | h
    · exact h
    · simp only [World.cell?] at q1; rw [Array.getElem?_eq_none h] at q1; cases q1
end Go.Proofs.YtoiampgfnidfdaaGreatDoor
namespace Go.Proofs.YtoiampgfnidfdaaGreatDoor

abbrev B32 := BitVec 32
def bv (x : B32) : Int := (x.toNat : Int)
theorem bv_lt (x : B32) : 0 ≤ bv x ∧ bv x < 4294967296 := ⟨Int.natCast_nonneg _, by unfold bv; have := x.isLt; omega⟩
theorem bv_ofNat (n : Nat) (h : n < 4294967296) : bv (BitVec.ofNat 32 n) = (n : Int) := by
  unfold bv
  rw [BitVec.toNat_ofNat, Nat.mod_eq_of_lt (by omega)]
theorem bv_and (x y : B32) : bits .and .u32 (bv x) (bv y) = bv (x &&& y) := by
  unfold bv
  rw [u32_and_nat _ _ (by have := x.isLt; omega) (by have := y.isLt; omega), BitVec.toNat_and]
theorem bv_or (x y : B32) : bits .or .u32 (bv x) (bv y) = bv (x ||| y) := by
  unfold bv
  rw [u32_or_nat _ _ (by have := x.isLt; omega) (by have := y.isLt; omega), BitVec.toNat_or]
theorem bv_xor (x y : B32) : bits .xor .u32 (bv x) (bv y) = bv (x ^^^ y) := by
  unfold bv
  rw [u32_xor_nat _ _ (by have := x.isLt; omega) (by have := y.isLt; omega), BitVec.toNat_xor]
theorem bv_add (x y : B32) : IntKind.u32.wrap (bv x + bv y) = bv (x + y) := by
  unfold bv
  rw [IntKind.wrap_u32', BitVec.toNat_add]
  omega
theorem bv_not (x : B32) : IntKind.u32.wrap (4294967295 - bv x) = bv (~~~x) := by
  unfold bv
  rw [IntKind.wrap_u32', BitVec.toNat_not]
  have := x.isLt
  omega
theorem bv_shr (x : B32) (n : Nat) : bv x / 2 ^ n = bv (x >>> n) := by
  unfold bv
  rw [BitVec.toNat_ushiftRight, Nat.shiftRight_eq_div_pow]
  simp
theorem bv_shl (x : B32) (n : Nat) : IntKind.u32.wrap (bv x * 2 ^ n) = bv (x <<< n) := by
  unfold bv
  rw [IntKind.wrap_u32', BitVec.toNat_shiftLeft, Nat.shiftLeft_eq]
  have : ((x.toNat : Int) * 2 ^ n) = ((x.toNat * 2 ^ n : Nat) : Int) := by simp
  rw [this]
  omega
def rotr (x : B32) (n : Nat) : B32 := x >>> n ||| x <<< (32 - n)
def sg0 (x : B32) : B32 := rotr x 7 ^^^ rotr x 18 ^^^ x >>> 3
def sg1 (x : B32) : B32 := rotr x 17 ^^^ rotr x 19 ^^^ x >>> 10
def schN (m : List B32) : Nat → List B32
  | 0 => m
  | k + 1 => schN m k ++ [(schN m k).getD k 0 + sg0 ((schN m k).getD (k + 1) 0) + (schN m k).getD (k + 9) 0 + sg1 ((schN m k).getD (k + 14) 0)]
theorem schN_length (m : List B32) : ∀ k, (schN m k).length = m.length + k
  | 0 => rfl
  | k + 1 => by rw [schN, List.length_append, schN_length m k]; rfl
def word4 (b : List Nat) (i : Nat) : B32 := BitVec.ofNat 32 (b.getD (4 * i) 0 * 16777216 + b.getD (4 * i + 1) 0 * 65536 + b.getD (4 * i + 2) 0 * 256 + b.getD (4 * i + 3) 0)
def words16 (b : List Nat) (k : Nat) : List B32 := (List.range k).map (word4 b)
theorem words16_length (b : List Nat) (k : Nat) : (words16 b k).length = k := by simp [words16]
theorem words16_succ (b : List Nat) (k : Nat) : words16 b (k + 1) = words16 b k ++ [word4 b k] := by simp [words16, List.range_succ]
def sched (b : List Nat) : List B32 := schN (words16 b 16) 48
theorem sched_length (b : List Nat) : (sched b).length = 64 := by unfold sched; rw [schN_length, words16_length]
def kTab : List Nat := [0x428a2f98, 0x71374491, 0xb5c0fbcf, 0xe9b5dba5, 0x3956c25b, 0x59f111f1, 0x923f82a4, 0xab1c5ed5,
  0xd807aa98, 0x12835b01, 0x243185be, 0x550c7dc3, 0x72be5d74, 0x80deb1fe, 0x9bdc06a7, 0xc19bf174,
  0xe49b69c1, 0xefbe4786, 0x0fc19dc6, 0x240ca1cc, 0x2de92c6f, 0x4a7484aa, 0x5cb0a9dc, 0x76f988da,
  0x983e5152, 0xa831c66d, 0xb00327c8, 0xbf597fc7, 0xc6e00bf3, 0xd5a79147, 0x06ca6351, 0x14292967,
  0x27b70a85, 0x2e1b2138, 0x4d2c6dfc, 0x53380d13, 0x650a7354, 0x766a0abb, 0x81c2c92e, 0x92722c85,
  0xa2bfe8a1, 0xa81a664b, 0xc24b8b70, 0xc76c51a3, 0xd192e819, 0xd6990624, 0xf40e3585, 0x106aa070,
  0x19a4c116, 0x1e376c08, 0x2748774c, 0x34b0bcb5, 0x391c0cb3, 0x4ed8aa4a, 0x5b9cca4f, 0x682e6ff3,
  0x748f82ee, 0x78a5636f, 0x84c87814, 0x8cc70208, 0x90befffa, 0xa4506ceb, 0xbef9a3f7, 0xc67178f2]
def kTabB : List B32 := kTab.map (BitVec.ofNat 32)
theorem kTab_length : kTab.length = 64 := by decide
structure S8 where
  a : B32
  b : B32
  c : B32
  d : B32
  e : B32
  f : B32
  g : B32
  h : B32
def S8.cells (s : S8) : List Value := [.int .u32 (bv s.a), .int .u32 (bv s.b), .int .u32 (bv s.c), .int .u32 (bv s.d), .int .u32 (bv s.e), .int .u32 (bv s.f), .int .u32 (bv s.g), .int .u32 (bv s.h)]
def bs1 (e : B32) : B32 := rotr e 6 ^^^ rotr e 11 ^^^ rotr e 25
def bs0 (a : B32) : B32 := rotr a 2 ^^^ rotr a 13 ^^^ rotr a 22
def chE (e f g : B32) : B32 := e &&& f ^^^ ~~~e &&& g
def maj (a b c : B32) : B32 := a &&& b ||| a &&& c ||| b &&& c
def tOne (k w : B32) (s : S8) : B32 := s.h + bs1 s.e + chE s.e s.f s.g + k + w
def rnd (k w : B32) (s : S8) : S8 := ⟨tOne k w s + (bs0 s.a + maj s.a s.b s.c), s.a, s.b, s.c, s.d + tOne k w s, s.e, s.f, s.g⟩
theorem maj_xor (a b c : B32) : a &&& b ^^^ a &&& c ^^^ b &&& c = maj a b c := by
  unfold maj
  ext i hi
  simp only [BitVec.getElem_xor, BitVec.getElem_and, BitVec.getElem_or]
  cases a[i] <;> cases b[i] <;> cases c[i] <;> rfl
def rndK (b : List Nat) (s : S8) : Nat → S8
  | 0 => s
  | k + 1 => rnd (kTabB.getD k 0) ((sched b).getD k 0) (rndK b s k)
def S8.add (s v : S8) : S8 := ⟨s.a + v.a, s.b + v.b, s.c + v.c, s.d + v.d, s.e + v.e, s.f + v.f, s.g + v.g, s.h + v.h⟩
def comp (s : S8) (b : List Nat) : S8 := s.add (rndK b s 64)
def init8 : S8 := ⟨0x6a09e667, 0xbb67ae85, 0x3c6ef372, 0xa54ff53a, 0x510e527f, 0x9b05688c, 0x1f83d9ab, 0x5be0cd19⟩
def padZ (n : Nat) : Nat := (119 - n % 64) % 64
def lenB (n : Nat) : List Nat := (List.range 8).map fun i => n * 8 / 2 ^ (56 - 8 * i) % 256
def pad (b : List Nat) : List Nat := b ++ 128 :: List.replicate (padZ b.length) 0 ++ lenB b.length
theorem pad_length (b : List Nat) : (pad b).length = b.length + 1 + padZ b.length + 8 := by
  unfold pad lenB
  simp only [List.length_append, List.length_cons, List.length_replicate, List.length_map, List.length_range]
  omega
theorem pad_64 (b : List Nat) : (pad b).length % 64 = 0 := by
  rw [pad_length]
  unfold padZ
  omega
def blk64 (p : List Nat) (i : Nat) : List Nat := (p.drop (64 * i)).take 64
def shaK (p : List Nat) : Nat → S8
  | 0 => init8
  | k + 1 => comp (shaK p k) (blk64 p k)
def digK (s : S8) (i : Nat) : Nat := ([s.a, s.b, s.c, s.d, s.e, s.f, s.g, s.h].getD (i / 4) 0).toNat / 2 ^ (24 - 8 * (i % 4)) % 256
def digL (s : S8) : List Nat := (List.range 32).map (digK s)
theorem digL_length (s : S8) : (digL s).length = 32 := by simp [digL]
theorem digL_lt (s : S8) : ∀ x ∈ digL s, x < 256 := fun x hx => by
  obtain ⟨i, _, rfl⟩ := List.mem_map.1 hx
  unfold digK
  omega
def sha (b : List Nat) : List Nat := digL (shaK (pad b) ((pad b).length / 64))
theorem sha_length (b : List Nat) : (sha b).length = 32 := digL_length _
theorem sha_lt (b : List Nat) : ∀ x ∈ sha b, x < 256 := digL_lt _
def byc (l : List Nat) : List Value := l.map fun x : Nat => Value.int .u8 (x : Int)
theorem byc_length (l : List Nat) : (byc l).length = l.length := by simp [byc]
theorem byc_app (l m : List Nat) : byc (l ++ m) = byc l ++ byc m := by simp [byc]
theorem byc_one (l : List Nat) : ∀ u ∈ byc l, u.oneCell' = true := fun u hu => by
  obtain ⟨x, _, rfl⟩ := List.mem_map.1 hu
  rfl
end Go.Proofs.YtoiampgfnidfdaaGreatDoor
namespace Go.Proofs.YtoiampgfnidfdaaGreatDoor

theorem padZ_lt (n : Nat) : padZ n < 64 := Nat.mod_lt _ (by decide)
theorem padZ_iff (n z : Nat) (h : z ≤ padZ n) : (n + 1 + z) % 64 = 56 ↔ z = padZ n := by
  have := padZ_lt n
  unfold padZ at *
  omega
def lastB (b : List Nat) : List Nat := b.drop (b.length / 64 * 64) ++ 128 :: List.replicate (padZ b.length) 0 ++ lenB b.length
theorem lenB_length (n : Nat) : (lenB n).length = 8 := by simp [lenB]
theorem pad_split (b : List Nat) : pad b = b.take (b.length / 64 * 64) ++ lastB b := by
  unfold pad lastB
  rw [← List.append_assoc, ← List.append_assoc, List.take_append_drop]
theorem lastB_length (b : List Nat) : (lastB b).length = b.length % 64 + 1 + padZ b.length + 8 := by
  unfold lastB
  simp only [List.length_append, List.length_cons, List.length_replicate, List.length_drop, lenB_length]
  omega
theorem lastB_64 (b : List Nat) : (lastB b).length % 64 = 0 ∧ 64 ≤ (lastB b).length ∧ (lastB b).length ≤ 136 := by
  rw [lastB_length]
  unfold padZ
  omega
theorem take_len (b : List Nat) : (b.take (b.length / 64 * 64)).length = 64 * (b.length / 64) := by
  rw [List.length_take]
  omega
theorem blk_low (b : List Nat) (i : Nat) (h : i < b.length / 64) : blk64 (pad b) i = (b.drop (64 * i)).take 64 := by
  unfold blk64
  rw [pad_split]
  apply List.ext_getElem?
  intro j
  by_cases hj : j < 64
  · rw [List.getElem?_take, if_pos hj, List.getElem?_take, if_pos hj, List.getElem?_drop, List.getElem?_drop, List.getElem?_append_left (by rw [take_len]; omega), List.getElem?_take, if_pos (by omega)]
  · rw [List.getElem?_take, if_neg hj, List.getElem?_take, if_neg hj]
theorem blk_high (b : List Nat) (i : Nat) : blk64 (pad b) (b.length / 64 + i) = blk64 (lastB b) i := by
  unfold blk64
  rw [pad_split, List.drop_append, take_len, List.drop_eq_nil_of_le (by rw [take_len]; omega), List.nil_append]
  congr 2
  omega
theorem blk_count (b : List Nat) : (pad b).length / 64 = b.length / 64 + (lastB b).length / 64 := by
  rw [pad_length, lastB_length]
  unfold padZ
  omega
theorem lenB_lt (n : Nat) : ∀ x ∈ lenB n, x < 256 := fun x hx => by
  obtain ⟨i, _, rfl⟩ := List.mem_map.1 hx
  exact Nat.mod_lt _ (by decide)
theorem lastB_lt (b : List Nat) (h : ∀ x ∈ b, x < 256) : ∀ x ∈ lastB b, x < 256 := fun x hx => by
  unfold lastB at hx
  simp only [List.mem_append, List.mem_cons] at hx
  rcases hx with (hx | hx | hx) | hx
  · exact h x (List.mem_of_mem_drop hx)
  · omega
  · rw [List.eq_of_mem_replicate hx]; decide
  · exact lenB_lt _ x hx
theorem pad_lt (b : List Nat) (h : ∀ x ∈ b, x < 256) : ∀ x ∈ pad b, x < 256 := fun x hx => by
  rw [pad_split] at hx
  rcases List.mem_append.1 hx with hx | hx
  · exact h x (List.mem_of_mem_take hx)
  · exact lastB_lt b h x hx
/-! ### Transcripts -/
def w8 (x : Nat) : List Nat := (List.range 8).map fun i => x / 2 ^ (8 * i) % 256
def le8 (b : List Nat) (o : Nat) : Nat → Nat
  | 0 => 0
  | k + 1 => le8 b o k * 256 + b.getD (o + (7 - k)) 0
theorem le8_lt (b : List Nat) (h : ∀ x ∈ b, x < 256) (o : Nat) : ∀ k, le8 b o k < 256 ^ k
  | 0 => Nat.one_pos
  | k + 1 => by
    have h1 := le8_lt b h o k
    have h2 : b.getD (o + (7 - k)) 0 < 256 := by
      rw [List.getD_eq_getElem?_getD]
      cases hx : b[o + (7 - k)]? with
      | none => decide
      | some x => exact h x (List.mem_of_getElem? hx)
    rw [le8, Nat.pow_succ]
    omega
end Go.Proofs.YtoiampgfnidfdaaGreatDoor
namespace Go.Proofs.YtoiampgfnidfdaaGreatDoor
open Go.RowKit

def u32c (l : List B32) : List Value := l.map fun x : B32 => Value.int .u32 (bv x)
def arrN (n : Nat) (l : List B32) : List Value := u32c (l ++ List.replicate (n - l.length) 0)
theorem arrN_get (n : Nat) (l : List B32) (i : Nat) (x : B32) (h : l[i]? = some x) : (arrN n l)[i]? = some (.int .u32 (bv x)) := by
  have hi := (List.getElem?_eq_some_iff.1 h).1
  unfold arrN u32c
  rw [List.getElem?_map, List.getElem?_append_left hi, h]
  rfl
theorem arrN_next (n : Nat) (l : List B32) (h : l.length < n) : (arrN n l)[l.length]? = some (.int .u32 0) := by
  unfold arrN u32c
  rw [List.getElem?_map, List.getElem?_append_right (Nat.le_refl _), Nat.sub_self, List.getElem?_replicate, if_pos (by omega)]
  rfl
theorem arrN_set (n : Nat) (l : List B32) (x : B32) (h : l.length < n) : (arrN n l).set l.length (.int .u32 (bv x)) = arrN n (l ++ [x]) := by
  unfold arrN u32c
  rw [← List.map_set, List.set_append_right _ _ (Nat.le_refl _), Nat.sub_self]
  obtain ⟨k, hk⟩ : ∃ k, n - l.length = k + 1 := ⟨n - l.length - 1, by omega⟩
  rw [hk, List.replicate_succ, List.set_cons_zero, List.length_append, List.append_assoc]
  rw [show n - (l.length + [x].length) = k by simp; omega]
  rfl
theorem arrN_full (n : Nat) (l : List B32) (h : l.length = n) : arrN n l = u32c l := by
  unfold arrN
  rw [h, Nat.sub_self, List.replicate_zero, List.append_nil]
def arrB (n : Nat) (l : List Nat) : List Value := byc (l ++ List.replicate (n - l.length) 0)
theorem arrB_next (n : Nat) (l : List Nat) (h : l.length < n) : (arrB n l)[l.length]? = some (.int .u8 0) := by
  unfold arrB byc
  rw [List.getElem?_map, List.getElem?_append_right (Nat.le_refl _), Nat.sub_self, List.getElem?_replicate, if_pos (by omega)]
  rfl
theorem arrB_set (n : Nat) (l : List Nat) (x : Nat) (h : l.length < n) : (arrB n l).set l.length (.int .u8 (x : Int)) = arrB n (l ++ [x]) := by
  unfold arrB byc
  rw [show (Value.int .u8 (x : Int)) = (fun x : Nat => Value.int .u8 (x : Int)) x from rfl, ← List.map_set, List.set_append_right _ _ (Nat.le_refl _), Nat.sub_self]
  obtain ⟨k, hk⟩ : ∃ k, n - l.length = k + 1 := ⟨n - l.length - 1, by omega⟩
  rw [hk, List.replicate_succ, List.set_cons_zero, List.length_append, List.append_assoc]
  rw [show n - (l.length + [x].length) = k by simp; omega]
  rfl
theorem arrB_full (n : Nat) (l : List Nat) (h : l.length = n) : arrB n l = byc l := by
  unfold arrB
  rw [h, Nat.sub_self, List.replicate_zero, List.append_nil]
def dgv (l : List Nat) : Value := .agg (byc l).toArray
def ByS (lo hi : Nat) (w : World) (v : Value) (l : List Nat) : Prop := Rd lo hi 1 w v l.length (byc l)
theorem ByS.len {lo hi : Nat} {w : World} {v : Value} {l : List Nat} (h : ByS lo hi w v l) : ∃ A cap, v = .slice A l.length cap := Rd.len h
theorem ByS.keep {lo hi : Nat} {w X : World} {v : Value} {l : List Nat} (h : ByS lo hi w v l) (hb : Below w.heap.size w X) : ByS lo hi X v l := Rd.keep h hb
theorem bys_cells {lo hi : Nat} {w : World} {v : Value} {l : List Nat} (h : ByS lo hi w v l) (h0 : 0 < l.length) : ∃ g off cap, v = .slice (some ⟨g, off, none⟩) l.length cap ∧ l.length ≤ cap ∧ lo ≤ g ∧ g < hi ∧ g < w.heap.size ∧ ∀ (k : Nat) (x : Nat), l[k]? = some x → w.cell? ⟨g, off + k, none⟩ = some (.int .u8 (x : Int)) := by
  obtain ⟨g, off, cap, q1, q2, q3, q4, q5, q6⟩ := Rd.form h h0
  exact ⟨g, off, cap, q1, q2, q3, q4, q5, fun k x hx => q6 k _ (by unfold byc; rw [List.getElem?_map, hx]; rfl)⟩
theorem bys_cut {lo hi : Nat} {w : World} {g off cap : Nat} {l : List Nat} (h : ByS lo hi w (.slice (some ⟨g, off, none⟩) l.length cap) l) (i k cap' : Nat) (hi' : i + k ≤ l.length) (hk : 0 < k) (hc : k ≤ cap') : ByS lo hi w (.slice (some ⟨g, off + i, none⟩) k cap') ((l.drop i).take k) := by
  obtain ⟨g', off', c', hv, q2, q3, q4, q5, q6⟩ := bys_cells h (by omega)
  cases hv
  have hl : ((l.drop i).take k).length = k := by rw [List.length_take, List.length_drop]; omega
  have hsm := h.2.1
  unfold ByS
  refine ⟨by rw [byc_length, hl, Nat.mul_one], by omega, some ⟨g, off + i, none⟩, cap', by rw [hl], by omega, fun _ => ⟨g, off + i, rfl, q3, q4, q5, fun j u hu => ?_⟩⟩
  unfold byc at hu
  rw [List.getElem?_map] at hu
  cases hx : ((l.drop i).take k)[j]? with
  | none => rw [hx] at hu; cases hu
  | some x =>
    rw [hx, Option.map_some, Option.some.injEq] at hu
    subst hu
    have hj := (List.getElem?_eq_some_iff.1 hx).1
    rw [hl] at hj
    rw [List.getElem?_take, if_pos hj, List.getElem?_drop] at hx
    rw [Nat.add_assoc]
    exact q6 (i + j) x hx
end Go.Proofs.YtoiampgfnidfdaaGreatDoor
