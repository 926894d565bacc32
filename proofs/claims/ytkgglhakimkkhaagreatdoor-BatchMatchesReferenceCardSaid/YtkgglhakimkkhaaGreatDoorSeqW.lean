/-
  A block that is written, and what stays: stores of whole values, in the walk's steps.
  The table of weights: what it is, and how it is made coordinate by coordinate.
  The table of weights: the walk.
  The sums of the wiring polynomials: a gate added.
  Worlds that have grown but for one row; append onto a slice of one's own, with what its new row is not; an empty slice literal in a region.
  A range over an iterator that keeps a variable of its own in a box and stores into it between the rounds; the rounds all go on.
-/
import Derived.Test.YtkgglhakimkkhaaGreatDoorWt2
import Derived.Test.YtkgglhakimkkhaaGreatDoorRgL
import Derived.Deep.Upon
import Derived.Deep.AppendSrc
namespace Go.Proofs.YtkgglhakimkkhaaGreatDoor
open Go.RowKit

structure Put (w X : World) (g : Nat) : Prop where
  os : X.os = w.os
  tape : X.tape = w.tape
  output : X.output = w.output
  size : X.heap.size = w.heap.size
  other : ∀ k, k ≠ g → X.heap[k]? = w.heap[k]?
theorem Put.refl (w : World) (g : Nat) : Put w w g := ⟨rfl, rfl, rfl, rfl, fun _ _ => rfl⟩
theorem Put.trans {a b c : World} {g : Nat} (h : Put a b g) (k : Put b c g) : Put a c g := ⟨k.os.trans h.os, k.tape.trans h.tape, k.output.trans h.output, k.size.trans h.size, fun i hi => (k.other i hi).trans (h.other i hi)⟩
theorem Put.set (w : World) (g i : Nat) (v : Value) : Put w (w.setCell ⟨g, i, none⟩ v) g := ⟨rfl, rfl, rfl, by simp [World.setCell], fun k hk => Below.heap_setCell w ⟨g, i, none⟩ v k hk⟩
theorem Put.below {w X : World} {g N : Nat} (h : Put w X g) (hN : N ≤ g) : Below N w X := ⟨h.os, h.tape, h.output, by rw [h.size]; exact Nat.le_refl _, fun k hk => h.other k (by omega)⟩
theorem Put.blk {w X : World} {g b : Nat} {t : TypeId} {cs : Array Value} (h : Put w X g) (hb : Blk w b t cs) (hne : b ≠ g) : Blk X b t cs := (h.other b hne).trans hb
theorem Put.rd {w X : World} {g lo hi size n : Nat} {v : Value} {cs : List Value} (h : Put w X g) (hr : Rd lo hi size w v n cs) (hne : g < lo ∨ hi ≤ g) : Rd lo hi size X v n cs :=
  hr.other (by rw [h.size]; exact Nat.le_refl _) fun k h1 h2 _ => h.other k (by omega)
theorem below_put {N : Nat} {a w X : World} {g : Nat} (h : Below N a w) (p : Put w X g) (hN : N ≤ g) : Below N a X := h.trans (p.below hN)

def spl (cs : Array Value) : Nat → List Value → Array Value
  | _, [] => cs
  | i, v :: vs => spl (cs.setIfInBounds i v) (i + 1) vs
theorem put_setCells {g : Nat} {t : TypeId} : ∀ (vs : List Value) (i : Nat) (cs : Array Value) (w : World), Blk w g t cs → Put w (w.setCells g i vs) g ∧ Blk (w.setCells g i vs) g t (spl cs i vs)
  | [], i, cs, w, h => ⟨Put.refl _ _, h⟩
  | v :: vs, i, cs, w, h => by
    obtain ⟨h1, h2⟩ := put_setCells vs (i + 1) (cs.setIfInBounds i v) (w.setCell ⟨g, i, none⟩ v) (h.set_ i v)
    exact ⟨(Put.set w g i v).trans h1, h2⟩
theorem wpList_put {P : Program} {ops : Array Oper} {rest : List Oper} {o : Oper} {a : Act} {w : World} {Q : Exit → Act → World → Prop} {g i : Nat} {t : TypeId} {cs new : Array Value} {cells : List Value} (hgd : o.guard = none) (ty : TypeId) (x y : Operand) (ho : o.op = .store ty x y)
    (hx : a.eval x = .pointer (some ⟨g, i, none⟩)) (hy : a.eval y = .agg cells.toArray) (hb : Blk w g t cs) (hi : i + cells.length ≤ cs.size) (hz : (P.info? ty).map (·.size) = some cells.length) (h1 : cells.all (·.oneCell') = true) (hn : spl cs i cells = new)
    (h : ∀ X, Put w X g → Blk X g t new → wpList P ops Q rest (a.put o.dst undef) X) : wpList P ops Q (o :: rest) a w := by
  refine wpList_store_mid hgd ty x y ho g i cells.toArray hx hy ?_ (by simpa using hz) (by simpa using h1) ?_
  · intro j hj
    refine ⟨?_, hb.frozen _⟩
    rw [hb.cell]
    simp only [List.size_toArray] at hj
    rw [Array.getElem?_eq_getElem (by omega)]
    rfl
  · obtain ⟨q1, q2⟩ := put_setCells cells i cs w hb
    rw [hn] at q2
    exact h _ q1 q2
section
variable {M : World → Prop} {w : World} {g : Nat} {t : TypeId} {cs : Array Value}
theorem set1 {i : Nat} {v : Value} (b : Blk w g t cs) (h : ∀ X, Put w X g → Blk X g t (cs.setIfInBounds i v) → M X) : M (w.setCell ⟨g, i, none⟩ v) := h _ (Put.set w g i v) (b.set_ i v)
theorem set2 {i j : Nat} {v u : Value} (b : Blk w g t cs) (h : ∀ X, Put w X g → Blk X g t ((cs.setIfInBounds i v).setIfInBounds j u) → M X) : M ((w.setCell ⟨g, i, none⟩ v).setCell ⟨g, j, none⟩ u) :=
  h _ ((Put.set w g i v).trans (Put.set _ g j u)) ((b.set_ i v).set_ j u)
end
end Go.Proofs.YtkgglhakimkkhaaGreatDoor
namespace Go.Proofs.YtkgglhakimkkhaaGreatDoor
open Go.RowKit

theorem getD_append_left (p : List E) (x : E) (k : Nat) (h : k < p.length) : (p ++ [x]).getD k 0 = p.getD k 0 := by simp [List.getD, List.getElem?_append_left h]
theorem getD_append_last (p : List E) (x : E) : (p ++ [x]).getD p.length 0 = x := by simp [List.getD]
theorem wt_append (p : List E) (x : E) (i : Nat) : ∀ k, k ≤ p.length → wt (p ++ [x]) i k = wt p i k
  | 0, _ => rfl
  | k + 1, h => by rw [wt, wt, wt_append p x i k (by omega), getD_append_left p x k (by omega)]
theorem wt_low (p : List E) (x : E) (i : Nat) (h : i < 2 ^ p.length) : wt (p ++ [x]) i (p.length + 1) = wt p i p.length * (1 - x) := by
  rw [wt, wt_append p x i _ (Nat.le_refl _), getD_append_last]
  unfold sel
  rw [Nat.div_eq_of_lt h]; rfl
theorem wt_high (p : List E) (x : E) (i : Nat) (h : i < 2 ^ p.length) : wt (p ++ [x]) (2 ^ p.length + i) (p.length + 1) = wt p i p.length * x := by
  rw [wt, wt_append p x _ _ (Nat.le_refl _), getD_append_last]
  unfold sel
  have e : (2 ^ p.length + i) / 2 ^ p.length = 1 := by
    rw [Nat.add_comm, Nat.add_div_right _ (Nat.two_pow_pos _), Nat.div_eq_of_lt h]
  rw [e]
  have : wt p (2 ^ p.length + i) p.length = wt p i p.length := wt_mod p (by rw [Nat.add_mod_left])
  rw [this]; rfl
def tabE (p : List E) : List E := (List.range (2 ^ p.length)).map fun i => wt p i p.length
theorem tabE_len (p : List E) : (tabE p).length = 2 ^ p.length := by simp [tabE]
theorem tabE_get (p : List E) (i : Nat) (h : i < 2 ^ p.length) : (tabE p)[i]? = some (eqi i p) := by simp [tabE, h, eqi]
def halfE (p : List E) (x : E) (i : Nat) : List E := (List.range (2 ^ p.length + i)).map fun j => if j < i then wt (p ++ [x]) j (p.length + 1) else if j < 2 ^ p.length then wt p j p.length else wt (p ++ [x]) j (p.length + 1)
theorem halfE_len (p : List E) (x : E) (i : Nat) : (halfE p x i).length = 2 ^ p.length + i := by simp [halfE]
theorem halfE_zero (p : List E) (x : E) : halfE p x 0 = tabE p := by
  unfold halfE tabE
  rw [Nat.add_zero]
  refine List.map_congr_left fun j hj => ?_
  rw [if_neg (by omega), if_pos (by simpa using hj)]
theorem halfE_all (p : List E) (x : E) : halfE p x (2 ^ p.length) = tabE (p ++ [x]) := by
  unfold halfE tabE
  rw [List.length_append, List.length_singleton, Nat.pow_succ, Nat.mul_two]
  refine List.map_congr_left fun j hj => ?_
  by_cases h : j < 2 ^ p.length
  · rw [if_pos h]
  · rw [if_neg h, if_neg h]
theorem halfE_get (p : List E) (x : E) (i : Nat) (h : i < 2 ^ p.length) : (halfE p x i)[i]? = some (wt p i p.length) := by
  unfold halfE
  rw [List.getElem?_map, List.getElem?_range (by omega)]
  simp [h]
theorem halfE_step (p : List E) (x : E) (i : Nat) (h : i < 2 ^ p.length) : (halfE p x i ++ [wt p i p.length * x]).set i (wt p i p.length - wt p i p.length * x) = halfE p x (i + 1) := by
  have e : wt p i p.length - wt p i p.length * x = wt (p ++ [x]) i (p.length + 1) := by rw [wt_low p x i h, E.mul_sub, E.mul_one]
  rw [e, ← wt_high p x i h]
  apply List.ext_getElem?
  intro j
  rw [List.getElem?_set]
  by_cases hji : i = j
  · subst hji
    rw [if_pos rfl, if_pos (by rw [List.length_append, halfE_len]; omega)]
    unfold halfE
    rw [List.getElem?_map, List.getElem?_range (by omega)]
    simp
  · rw [if_neg hji]
    by_cases hj : j < 2 ^ p.length + i
    · rw [List.getElem?_append_left (by rw [halfE_len]; exact hj)]
      unfold halfE
      rw [List.getElem?_map, List.getElem?_range hj, List.getElem?_map, List.getElem?_range (by omega)]
      simp only [Option.map_some]
      by_cases h1 : j < i
      · simp only [if_pos h1, if_pos (show j < i + 1 by omega)]
      · simp only [if_neg h1, if_neg (show ¬ j < i + 1 by omega)]
    · rw [List.getElem?_append_right (by rw [halfE_len]; omega), halfE_len]
      by_cases hj2 : j = 2 ^ p.length + i
      · subst hj2
        unfold halfE
        rw [List.getElem?_map, List.getElem?_range (by omega)]
        simp [show ¬ (2 ^ p.length + i < i + 1) by have := Nat.two_pow_pos p.length; omega, show ¬ (2 ^ p.length + i < 2 ^ p.length) by omega]
      · unfold halfE
        rw [List.getElem?_eq_none (by simp; omega), List.getElem?_eq_none (by simp; omega)]

/-! ### Rows of the call's own -/
theorem Blk.kept {w w' : World} {g : Nat} {t : TypeId} {cs : Array Value} {row : Option Nat} (h : Blk w g t cs) (hg : w.grownBy w' row) (hne : some g ≠ row) : Blk w' g t cs := (hg.block g h.lt hne).trans h
theorem blk_ne_row {w : World} {base e n cap g Bx : Nat} {xs : List Value} {a b : Value} (h : w.ownsRow base e 2 (.slice (some ⟨g, 0, none⟩) n cap) n xs) (hc : 2 ≤ cap) (hb : Blk w Bx e #[a, b]) : Bx ≠ g := by
  rintro rfl
  rcases h.2 with ⟨h', _⟩ | ⟨g', cap', cur, h', _, hg, _, _, hs, _⟩
  · simp at h'
  · simp only [Value.slice.injEq, Option.some.injEq, Addr.mk.injEq, and_true, true_and] at h'
    obtain ⟨rfl, rfl⟩ := h'
    rw [show w.heap[Bx]? = _ from hb] at hg
    simp only [Option.some.injEq, Obj.cells.injEq] at hg
    rw [← hg.1] at hs
    simp at hs
    omega
theorem blk_ne_row' {w : World} {base e t n cap g Bx size : Nat} {xs : List Value} {cs : Array Value} (h : w.ownsRow base e size (.slice (some ⟨g, 0, none⟩) n cap) n xs) (ht : t ≠ e) (hb : Blk w Bx t cs) : Bx ≠ g := by
  rintro rfl
  rcases h.2 with ⟨h', _⟩ | ⟨g', cap', cur, h', _, hg, _, _, hs, _⟩
  · simp at h'
  · simp only [Value.slice.injEq, Option.some.injEq, Addr.mk.injEq, and_true, true_and] at h'
    obtain ⟨rfl, rfl⟩ := h'
    rw [show w.heap[Bx]? = _ from hb] at hg
    simp only [Option.some.injEq, Obj.cells.injEq] at hg
    exact ht hg.2.1
theorem row_cap {w : World} {base e n cap g size : Nat} {xs : List Value} (h : w.ownsRow base e size (.slice (some ⟨g, 0, none⟩) n cap) n xs) : n ≤ cap ∧ base ≤ g ∧ g < w.heap.size := by
  rcases h.2 with ⟨h', _⟩ | ⟨g', cap', cur, h', h1, hg, h2, _, hs, _⟩
  · simp at h'
  · simp only [Value.slice.injEq, Option.some.injEq, Addr.mk.injEq, and_true, true_and] at h'
    obtain ⟨rfl, rfl⟩ := h'
    exact ⟨h2, h1, (Array.getElem?_eq_some_iff.1 hg).1⟩
theorem row_cells {w : World} {base e n cap g size : Nat} {xs : List Value} (h : w.ownsRow base e size (.slice (some ⟨g, 0, none⟩) n cap) n xs) : ∀ o, w.heap[g]? = some o → o.isCells = true := by
  rcases h.2 with ⟨h', _⟩ | ⟨g', cap', cur, h', h1, hg, h2, _, hs, _⟩
  · simp at h'
  · simp only [Value.slice.injEq, Option.some.injEq, Addr.mk.injEq, and_true, true_and] at h'
    obtain ⟨rfl, rfl⟩ := h'
    intro o ho
    rw [hg] at ho; cases ho; rfl
theorem row_setE {w : World} {base e n cap g : Nat} {l : List E} (h : w.ownsRow base e 2 (.slice (some ⟨g, 0, none⟩) n cap) n (l.flatMap ec)) (k : Nat) (x : E) (hk : k < l.length) :
    ((w.setCell ⟨g, k * 2, none⟩ (.int .u64 (fv x.a))).setCell ⟨g, k * 2 + 1, none⟩ (.int .u64 (fv x.b))).ownsRow base e 2 (.slice (some ⟨g, 0, none⟩) n cap) n ((l.set k x).flatMap ec) := by
  have h1 := (h.stored (k * 2) (.int .u64 (fv x.a))).1
  have h2 := (h1.stored (k * 2 + 1) (.int .u64 (fv x.b))).1
  rw [set_flat x l k hk] at h2
  exact h2
theorem row_cellE {w : World} {base e n cap g : Nat} {l : List E} (h : w.ownsRow base e 2 (.slice (some ⟨g, 0, none⟩) n cap) n (l.flatMap ec)) {k : Nat} {x : E} (hk : l[k]? = some x) : w.cell? ⟨g, k * 2, none⟩ = some (.int .u64 (fv x.a)) ∧ w.cell? ⟨g, k * 2 + 1, none⟩ = some (.int .u64 (fv x.b)) := by
  have hl := h.1
  rw [flat_length ec_len] at hl
  have hkl : k < l.length := (List.getElem?_eq_some_iff.1 hk).1
  have e0 := flat_get ec_len l k 0 x _ hk rfl
  have e1 := flat_get ec_len l k 1 x _ hk rfl
  refine ⟨?_, ?_⟩
  · rw [h.cellAt (k * 2) (by omega)]; simpa using e0
  · rw [h.cellAt (k * 2 + 1) (by omega)]; simpa using e1
theorem wpListIn_app1 {F : Fence} {m : Nat} {P : Program} {ops : Array Oper} {rest : List Oper} {o : Oper} {a : Act} {Q : Exit → Act → World → Prop} {X : World} {n base k size bytes : Nat} {t e : TypeId} {i : TypeInfo} {z : Value} {cl cs : List Value} {u : Value} (hgd : o.guard = none) (s x : Operand)
    (ho : o.op = .call { callee := .builtin .append, args := #[s, x], argTypes := #[t, t] }) (ht : P.underlying t = some (.slice e)) (hi : P.info? e = some i) (hz : i.zero = some z) (hsize : i.size = size) (hby : i.bytes = bytes) (hzs : z.cells.size = size) (hsz : 0 < size)
    (hcl : cl.length = 1 * size) (h1 : ∀ u ∈ cl, u.oneCell' = true) (hs : a.eval s = u) (hx : a.eval x = .slice (some ⟨n, 0, none⟩) 1 1) (hown : X.ownsRow base e size u k cs) (hsrc : Blk X n e cl.toArray) (hk : k + 1 ≤ maxLen) (hk2 : (k + 1) * bytes ≤ 140737488355328) (hbase : base ≤ X.heap.size)
    (h : ∀ v' w', w'.ownsRow base e size v' (k + 1) (cs ++ cl) → X.grownBy w' u.ownBlock → Below base X w' → wpListIn F m P ops Q rest (a.put o.dst v') w') : wpListIn F m P ops Q (o :: rest) a X := by
  refine wpListIn_append_own _ hgd s x t ho base e i z size bytes ht hi hz hsize hby hzs hsz u k cs hs hown ⟨n, 0, none⟩ 1 1 cl hx hcl (blk_news hsrc) h1 hk hk2 hbase ?_
  intro v' w' hown' hgrow _
  exact h v' w' hown' hgrow ((Below.refl _ _).grown hgrow hbase (fun g hg => (own_block hown hg).1))
end Go.Proofs.YtkgglhakimkkhaaGreatDoor
namespace Go.Proofs.YtkgglhakimkkhaaGreatDoor
open Go.RowKit
attribute [local go_sem] Oper.semAt_some

set_option maxRecDepth 100000 in
theorem mk_ext2 (l n : Nat) (hl : l ≤ n) (hn : n ≤ 1000000) (w : World) : (Instr.makeSlice 22 (.int .i64 (l : Int)) (.int .i64 (n : Int))).run Tryz.prog w = .ok (.slice (some ⟨w.heap.size, 0, none⟩) l n) (w.alloc (.cells ((List.replicate n (0 : E)).flatMap ec).toArray 26)) := by
  obtain ⟨i0, hi0, hz0, hz1, hz2⟩ := info_parts ext_info
  have h := run_make (P := Tryz.prog) w _ _ i0 _ Tryz.underlying22 hi0 hz0 .i64 .i64 (l : Int) (n : Int) (by omega) (by omega) (by rw [hz2]; omega) (by omega)
  have h' := mk_ext n hn w
  have h2 := run_make (P := Tryz.prog) w _ _ i0 _ Tryz.underlying22 hi0 hz0 .i64 .i64 (n : Int) (n : Int) (by omega) (Int.le_refl _) (by rw [hz2]; omega) (by omega)
  rw [h'] at h2
  rw [h]
  simp only [Int.toNat_natCast, Result.ok.injEq] at h2 ⊢
  exact ⟨trivial, h2.2.symm⟩

set_option maxRecDepth 100000 in
set_option maxHeartbeats 4000000 in
theorem wEqTable (p : List E) (v : Value) (lo hi : Nat) (w : World) (hp : ExtS lo hi w v p) (hhi : hi ≤ w.heap.size) (h1 : Laid w) (hpl : p.length ≤ 18) :
    Calls Tryz.prog 30 #[v] w (RetR (ExtA (tabE p)) w) := by
  obtain ⟨A, cap, rfl⟩ := hp.len
  have h2p : 2 ^ p.length ≤ 2 ^ 18 := Nat.pow_le_pow_right (by decide) hpl
  have h2i : ((2 ^ p.length : Nat) : Int) = (2 : Int) ^ p.length := by simp
  have h2q : 0 < 2 ^ p.length := Nat.two_pow_pos _
  refine (callsIn_wide (n := 3)).1 ?_
  refine callsIn_of_wp_marks Tryz.func30 rfl trivial ?_ rfl
  simp only [Tryz.ntmps30, List.size_toArray, List.length_cons, List.length_nil, Nat.reduceAdd, Nat.reduceSub, Array.replicate_succ, Array.replicate_zero, List.push_toArray, List.append_toArray, List.nil_append, List.cons_append]
  have mk := mk_ext2 1 (2 ^ p.length) (by omega) (by omega) w
  rw [h2i, show ((1 : Nat) : Int) = 1 from rfl] at mk
  obtain ⟨W1, hW1⟩ : ∃ W1, w.alloc (.cells ((List.replicate (2 ^ p.length) (0 : E)).flatMap ec).toArray 26) = W1 := ⟨_, rfl⟩
  have hBW : Below w.heap.size w W1 := by rw [← hW1]; exact (Below.refl _ _).alloc (Nat.le_refl _) _
  have bW : Blk W1 w.heap.size 26 ((List.replicate (2 ^ p.length) (0 : E)).flatMap ec).toArray := by rw [← hW1]; exact Blk.new _ _ _
  have hsW : W1.heap.size = w.heap.size + 1 := by rw [← hW1]; simp
  have hlW := h1.keep hBW
  rw [hW1] at mk
  have f1 := hlW.1
  have f2 := hlW.2.1
  have f3 := hlW.2.2
  have e1 := (blk_cellE bW (k := 0) (x := 0) (by simp [h2q])).1
  have e2 := (blk_cellE bW (k := 0) (x := 0) (by simp [h2q])).2
  have e3 := bW.frozen
  simp only [Nat.zero_mul, Nat.zero_add] at e1 e2
  gi_wp2_with fail
  refine ⟨trivial, (callsIn_wide.2 (wWeights _ _ _ _)).mono ?_⟩
  rintro e w2 ⟨rfl, rfl⟩
  have hrow1 : W1.ownsRow w.heap.size 26 2 (.slice (some ⟨w.heap.size, 0, none⟩) 1 (2 ^ p.length)) 1 (([0] : List E).flatMap ec) := by
    refine ⟨rfl, .inr ⟨w.heap.size, 2 ^ p.length, _, rfl, Nat.le_refl _, bW, h2q, by unfold maxLen; omega, by rw [List.size_toArray, flat_length ec_len, List.length_replicate], ?_⟩⟩
    obtain ⟨m, hm⟩ : ∃ m, 2 ^ p.length = m + 1 := ⟨2 ^ p.length - 1, by omega⟩
    rw [hm, List.replicate_succ, List.flatMap_cons]
    rfl
  have hrow2 := (row_setE hrow1 0 1 (by decide))
  obtain ⟨W2, hW2⟩ : ∃ W2, (((W1.setCell ⟨w.heap.size, 0, none⟩ (.int .u64 (fv (1 : E).a))).setCell ⟨w.heap.size, 1, none⟩ (.int .u64 (fv (1 : E).b))).alloc (.cells #[.slice (some ⟨w.heap.size, 0, none⟩) 1 (2 ^ p.length)] 22)).alloc (.cells #[.slice A p.length cap] 22) = W2 := ⟨_, rfl⟩
  have hrow3 : W2.ownsRow w.heap.size 26 2 (.slice (some ⟨w.heap.size, 0, none⟩) 1 (2 ^ p.length)) 1 ((tabE []).flatMap ec) := by rw [← hW2]; exact (hrow2.alloc _).alloc _
  have hB2 : Below w.heap.size w W2 := by
    rw [← hW2]
    exact ((below_set2 hBW (Nat.le_refl _)).alloc (by simp; omega) _).alloc (by simp; omega) _
  have hs2 : W2.heap.size = w.heap.size + 3 := by rw [← hW2]; simp; omega
  have bB1 : Blk W2 (w.heap.size + 1) 22 #[.slice (some ⟨w.heap.size, 0, none⟩) 1 (2 ^ p.length)] := by
    rw [← hW2]
    exact (Blk.new_at _ _ _ (by simp; omega)).alloc _
  have bB2 : Blk W2 (w.heap.size + 2) 22 #[.slice A p.length cap] := by
    rw [← hW2]
    exact Blk.new_at _ _ _ (by simp; omega)
  have hsz1 : (((W1.setCell ⟨w.heap.size, 0, none⟩ (.int .u64 (fv (1 : E).a))).setCell ⟨w.heap.size, 1, none⟩ (.int .u64 (fv (1 : E).b))).alloc (.cells #[.slice (some ⟨w.heap.size, 0, none⟩) 1 (2 ^ p.length)] 22)).heap.size = w.heap.size + 2 := by simp; omega
  rw [hW2, hsz1]
  clear hW2 hrow1 hrow2 bW e1 e2 e3 f1 f2 f3 mk hW1 hsz1
  gi_wp2_with fail
  have hp2 : ExtS lo w.heap.size W2 (.slice A p.length cap) p := (hp.below hB2 hhi).wide (Nat.le_refl _) hhi
  refine wpIn_seq1 (wIter p (.slice A p.length cap) 2 lo w.heap.size (w.heap.size + 2) (by decide) W2 hp2 (bB2.cell 0) (h1.keep hB2) h1.2.2 (by omega) (by omega)) (by decide) rfl (enters_of Tryz.func101 (by kernel_rfl) rfl) (fun g hg => by show g < W2.heap.size; have : g < w.heap.size := hg; omega)
    (fun pre W => (∃ g cap2, Blk W (w.heap.size + 1) 22 #[.slice (some ⟨g, 0, none⟩) (2 ^ pre.length) cap2] ∧ W.ownsRow w.heap.size 26 2 (.slice (some ⟨g, 0, none⟩) (2 ^ pre.length) cap2) (2 ^ pre.length) ((tabE pre).flatMap ec) ∧ (2 ≤ cap2 ∨ p.length = 0)) ∧ Below w.heap.size w W ∧ W2.heap.size ≤ W.heap.size)
    ?hI (fun pre W h => h.2.2) ?h0 5 26 (fun x => #[.int .u64 (fv x.a), .int .u64 (fv x.b)]) ?assign ?body ?done
  case hI =>
    rintro pre W W' row ⟨⟨g, cap2, q1, q2, q3⟩, q4, q5⟩ hg hr
    refine ⟨⟨g, cap2, blk_own (β := Unit) () W W' row q1 hg hr, q2.kept hg (.inr fun e => ?_), q3⟩, ownFrom_below (β := Unit) (Nat.le_refl _) (by omega) () W W' row q4 hg hr, Nat.le_trans q5 hg.size⟩
    obtain ⟨_, o, ho, hc⟩ := hr g e.symm
    rw [row_cells q2 o ho] at hc
    cases hc
  case h0 =>
    refine ⟨⟨w.heap.size, 2 ^ p.length, bB1, hrow3, ?_⟩, hB2, Nat.le_refl _⟩
    rcases Nat.eq_zero_or_pos p.length with h | h
    · exact .inr h
    · refine .inl ?_
      calc 2 = 2 ^ 1 := rfl
        _ ≤ 2 ^ p.length := Nat.pow_le_pow_right (by decide) h
  case assign =>
    intro l x W K hK
    simp only [boxAct, ev, List.setIfInBounds_toArray, List.set_cons_succ, List.set_cons_zero] at hK ⊢
    gi_wp2_with fail
    exact hK _ _ rfl rfl
  case body =>
    rintro l pre x Bx W a' rfl ⟨⟨g, cap2, q1, q2, q3⟩, q4, q5⟩ hBx bX hlt
    simp only [boxAct, ev, List.setIfInBounds_toArray, List.set_cons_succ, List.set_cons_zero]
    obtain ⟨m, hm⟩ : ∃ m, 2 ^ pre.length = m := ⟨_, rfl⟩
    rw [hm] at q1 q2
    have c1 := q1.cell
    gi_wp2_with fail
    have hm0 : 0 < m := by rw [← hm]; exact Nat.two_pow_pos _
    have hmb : m ≤ 2 ^ 18 := by rw [← hm]; exact Nat.pow_le_pow_right (by decide) (by omega)
    have hc2 : 2 ≤ cap2 := q3.resolve_right (by omega)
    obtain ⟨i0, hi0, hz0, hz1, hz2⟩ := info_parts ext_info
    have hop := open_round (open_wide Tryz.prog) l
    clear c1 q3
    gi_loopw [23] (fun i wr => ∃ k g cap, k ≤ m ∧ i = .int .i64 (k : Nat) ∧ Blk wr (w.heap.size + 1) 22 #[.slice (some ⟨g, 0, none⟩) (m + k) cap] ∧ wr.ownsRow w.heap.size 26 2 (.slice (some ⟨g, 0, none⟩) (m + k) cap) (m + k) ((halfE pre x k).flatMap ec) ∧ 2 ≤ cap ∧ Blk wr Bx 26 #[.int .u64 (fv x.a), .int .u64 (fv x.b)] ∧ Below w.heap.size W wr ∧ KeepsOthers W wr) (fun i _ => m - (intOf i).toNat)
    case atStart =>
      exact ⟨0, g, cap2, Nat.zero_le _, rfl, q1, by rw [halfE_zero]; exact q2, hc2, bX, Below.refl _ _, KeepsOthers.refl _⟩
    case round =>
      obtain ⟨k, g', cap', hk, rfl, f1, f2, f3, f4, f5, f6⟩ := hrel
      by_cases hkm : k < m
      · obtain ⟨m1, m2⟩ := row_cellE f2 (halfE_get pre x k (by rw [hm]; exact hkm))
        have hg1 := (row_cap f2).2.2
        have HG := Lib.hid (halfE_step pre x k (by rw [hm]; exact hkm))
        have HO := Lib.hid (halfE_get pre x k (by rw [hm]; exact hkm))
        have m1' := gw_cell hg1 m1
        have m2' := gw_cell hg1 m2
        have c1 := gw_blk f1
        have c2 := gw_blk f4
        clear m1 m2
        generalize wt pre k pre.length = o at *
        gi_wp2_with fail
        refine wpIn_region_rg hop 7 [(5, Spec.val (.agg #[.int .u64 (fv (o * x).a), .int .u64 (fv (o * x).b)])), (6, Spec.rel (New 26 #[.int .u64 0, .int .u64 0]) (NewF))] (by kernel_rfl) (by kernel_rfl) (by kernel_rfl) ⟨fit_new, trivial⟩ ?_
        iterate 5 (refine rg_det rfl rfl rfl (fun K hK => ?_); go_big_quiet_op; refine hK _ ?_; clear hK K)
        refine rg_val rfl rfl (fun W1 hW1 hF => step_callv en_attestor_ext_Mul (eMul o x W1) rfl rfl) ?_
        intro a' ha
        simp only [Act.put, List.setIfInBounds_toArray, List.set_cons_succ, List.set_cons_zero] at ha
        subst ha
        refine rg_rel rfl rfl (fun W1 hW1 hF => step_new hi0 hz0 rfl) ?_
        intro n6 m6 v6 hn6 hm6 hd6 hf6 a' ha
        simp only [Act.put, List.setIfInBounds_toArray, List.set_cons_succ, List.set_cons_zero] at ha
        subst ha
        obtain rfl := hf6
        refine rg_nil (fun w' hw' hF => ?_)
        obtain ⟨z, rfl⟩ := hw'
        simp only [List.drop_succ_cons, List.drop_zero]
        obtain ⟨hm6, -, hlt6, b6⟩ := end_last hF
        have hne1 := f1.lt
        have hne2 := f4.lt
        have f1z := f1.gw z
        have f4z := f4.gw z
        have f2z := own_below f2 (Nat.le_refl _) z.h
        have hsw : w.heap.size + 1 < wr.heap.size := hne1
        have hBz : Below w.heap.size wr z.w := z.h.mono (by omega)
        clear hF m1' m2' c1 c2 hd6
        have e1 := b6.cell
        have e2 := b6.frozen
        have e3 := f1z.cell 0
        have e4 := f4z.cell
        have e5 := f1z.frozen 0
        have hX : ∀ o, Below wr.heap.size wr (((z.w.setCell ⟨n6, 0, none⟩ (.int .u64 (fv (o * x).a))).setCell ⟨n6, 1, none⟩ (.int .u64 (fv (o * x).b))).alloc (.cells #[.int .u64 (fv (o * x).a), .int .u64 (fv (o * x).b)] 26)) := fun o => (below_set2 z.h hn6).alloc (by have := z.h.size; simp; omega) _
        have HX := Lib.hid hX
        clear hX
        gi_wp2_with (gi_at_builtin; refine wpListIn_app1 rfl _ _ rfl Tryz.underlying22 hi0 hz0 hz1 hz2 rfl (by decide) (cl := ec (o * x)) rfl (ec_one _) rfl rfl (own_below f2 (Nat.le_refl _) (HX.out o)) ?hsrc ?h63 ?hby ?hbase ?_)
        case hsrc => exact Blk.new_at _ _ _ (by simp)
        case h63 => unfold maxLen; omega
        case hby => omega
        case hbase => have := hBz.size; simp; omega
        intro v1 w3 hown3 hgrow hB3
        obtain ⟨g3, cap3, rfl⟩ := ownsRow_succ hown3
        obtain ⟨X, hXX⟩ : ∃ X, ((z.w.setCell ⟨n6, 0, none⟩ (.int .u64 (fv (o * x).a))).setCell ⟨n6, 1, none⟩ (.int .u64 (fv (o * x).b))).alloc (.cells #[.int .u64 (fv (o * x).a), .int .u64 (fv (o * x).b)] 26) = X := ⟨_, rfl⟩
        have f1X : Blk X (w.heap.size + 1) 22 #[.slice (some ⟨g', 0, none⟩) (m + k) cap'] := by rw [← hXX]; exact (blk_far2 f1z (by omega)).alloc _
        have f4X : Blk X Bx 26 #[.int .u64 (fv x.a), .int .u64 (fv x.b)] := by rw [← hXX]; exact (blk_far2 f4z (by omega)).alloc _
        have b6X : Blk X n6 26 #[.int .u64 (fv (o * x).a), .int .u64 (fv (o * x).b)] := by rw [← hXX]; exact (blk_set2 b6).alloc _
        have hBX : Below wr.heap.size wr X := by rw [← hXX]; exact HX.out o
        have hKX : KeepsOthers wr X := by rw [← hXX]; exact (((keepsOthers_of_below z.h).trans (KeepsOthers.setCell _ _ _)).trans (KeepsOthers.setCell _ _ _)).trans (KeepsOthers.alloc _ _)
        have f2X : X.ownsRow w.heap.size 26 2 (.slice (some ⟨g', 0, none⟩) (m + k) cap') (m + k) ((halfE pre x k).flatMap ec) := own_below f2 (Nat.le_refl _) hBX
        rw [hXX] at hgrow hB3
        have hne3 : Bx ≠ g' := blk_ne_row f2 f3 f4
        have hne4 : w.heap.size + 1 ≠ g' := blk_ne_row' f2 (by decide) f1
        have hne5 : n6 ≠ g' := by have := (row_cap f2).2.2; omega
        have f1w := f1X.kept hgrow (by show some _ ≠ some _; simpa using hne4)
        have f4w := f4X.kept hgrow (by show some _ ≠ some _; simpa using hne3)
        have b6w := b6X.kept hgrow (by show some _ ≠ some _; simpa using hne5)
        have hKw : KeepsOthers wr w3 := hKX.trans (keepsOthers_of_grown hgrow fun q o' e ho => by
          have : g' = q := by simpa [Value.ownBlock] using e
          subst this; exact row_cells f2X o' ho)
        have hBw : Below w.heap.size wr w3 := (hBX.mono (by omega)).trans hB3
        rw [show (halfE pre x k).flatMap ec ++ ec (o * x) = (halfE pre x k ++ [o * x]).flatMap ec by rw [List.flatMap_append]; simp] at hown3
        have hne6 : w.heap.size + 1 ≠ g3 := blk_ne_row' hown3 (by decide) f1w
        have hc3 : 2 ≤ cap3 := by have := (row_cap hown3).1; omega
        have hne7 : Bx ≠ g3 := blk_ne_row hown3 hc3 f4w
        clear hXX e1 e2 e3 e4 e5 HX b6 b6X f1X f4X f2X f1z f4z f2z hBX hKX hgrow hB3
        have e1 := f1w.cell 0
        have e2 := f1w.frozen 0
        gi_wp2_with fail
        obtain ⟨Y, hY⟩ : ∃ Y, w3.setCell ⟨w.heap.size + 1, 0, none⟩ (.slice (some ⟨g3, 0, none⟩) (m + k + 1) cap3) = Y := ⟨_, rfl⟩
        rw [hY]
        have rY : Y.ownsRow w.heap.size 26 2 (.slice (some ⟨g3, 0, none⟩) (m + k + 1) cap3) (m + k + 1) ((halfE pre x k ++ [o * x]).flatMap ec) := by
          rw [← hY]; exact ownsRow_setCell_other hown3 (by show some _ ≠ some _; simpa using Ne.symm hne6) _
        have f1Y : Blk Y (w.heap.size + 1) 22 #[.slice (some ⟨g3, 0, none⟩) (m + k + 1) cap3] := by rw [← hY]; exact f1w.set_ 0 _
        have f4Y : Blk Y Bx 26 #[.int .u64 (fv x.a), .int .u64 (fv x.b)] := by rw [← hY]; exact f4w.far (p := ⟨w.heap.size + 1, 0, none⟩) (by show Bx ≠ w.heap.size + 1; omega) _
        have b6Y : Blk Y n6 26 #[.int .u64 (fv (o * x).a), .int .u64 (fv (o * x).b)] := by rw [← hY]; exact b6w.far (p := ⟨w.heap.size + 1, 0, none⟩) (by show n6 ≠ w.heap.size + 1; omega) _
        have hKY : KeepsOthers wr Y := by rw [← hY]; exact hKw.trans (KeepsOthers.setCell _ _ _)
        have hBY : Below w.heap.size wr Y := by rw [← hY]; exact hBw.setCell (p := ⟨w.heap.size + 1, 0, none⟩) (by show w.heap.size ≤ w.heap.size + 1; omega) _
        clear hY e1 e2 f1w f4w b6w hKw hBw hown3
        have hgo : (halfE pre x k ++ [o * x])[k]? = some o := by rw [List.getElem?_append_left (by rw [halfE_len, hm]; omega)]; exact HO.out
        have hgl : k < (halfE pre x k ++ [o * x]).length := by rw [List.length_append, halfE_len, hm]; simp; omega
        have hg3 := (row_cap rY).2.2
        obtain ⟨m1, m2⟩ := row_cellE rY hgo
        have m1' := gw_cell hg3 m1
        have m2' := gw_cell hg3 m2
        have c1 := gw_blk f1Y
        have c2 := gw_blk b6Y
        clear hgo m1 m2
        refine wpIn_region_rg hop 9 [(7, Spec.val (.agg #[.int .u64 (fv (o - o * x).a), .int .u64 (fv (o - o * x).b)]))] (by kernel_rfl) (by kernel_rfl) (by kernel_rfl) trivial ?_
        iterate 7 (refine rg_det rfl rfl rfl (fun K hK => ?_); go_big_quiet_op; refine hK _ ?_; clear hK K)
        refine rg_val rfl rfl (fun W1 hW1 hF => step_callv en_attestor_ext_Sub (eSub o (o * x) W1) rfl rfl) ?_
        intro a' ha
        simp only [Act.put, List.setIfInBounds_toArray, List.set_cons_succ, List.set_cons_zero] at ha
        subst ha
        refine rg_det rfl rfl rfl (fun K hK => ?_)
        go_big_quiet_op
        refine hK _ ?_; clear hK K
        refine rg_nil (fun w' hw' hF => ?_)
        obtain ⟨z2, rfl⟩ := hw'
        simp only [List.drop_succ_cons, List.drop_zero]
        have rZ := own_below rY (Nat.le_refl _) z2.h
        have f1Z := f1Y.gw z2
        have f4Z := f4Y.gw z2
        have e1 := m1' z2
        have e2 := m2' z2
        have e3 := rZ.frozenAt
        clear m1' m2' c1 c2 hF
        gi_wp2_with fail
        go_roundw
        case rel =>
          refine ⟨k + 1, g3, cap3, by omega, by go_num, blk_farE f1Z hne6, ?_, hc3, blk_farE f4Z hne7, f5.trans (below_setE (hBY.trans (z2.h.mono (Nat.le_trans (by omega) hBY.size))) (row_cap rY).2.1), f6.trans (((hKY.trans (keepsOthers_of_below z2.h)).trans (KeepsOthers.setCell _ _ _)).trans (KeepsOthers.setCell _ _ _))⟩
          rw [← HG.out]
          exact row_setE rZ k _ hgl
        case measure => simp [intOf]; omega
      · have hkk : k = m := by omega
        subst hkk
        gi_wp2_with fail
        refine ⟨⟨f5.size, fun g hg _ => f5.block g hg⟩, ⟨g', cap', ?_, ?_, .inl f3⟩, q4.trans f5, ?_⟩
        · simp only [Nat.pow_succ, hm, Nat.mul_two]; exact f1
        · have h := halfE_all pre x
          rw [hm] at h
          rw [← h]
          simp only [Nat.pow_succ, hm, Nat.mul_two]
          exact f2
        · have := f5.size; omega
  case done =>
    intro D W' hD ⟨⟨g, cap2, q1, q2, q3⟩, q4, q5⟩ hK
    have c1 := q1.cell
    gi_wp2_with fail
    refine ⟨by simp, .inl ⟨_, _, rfl, run_takeDeferred hK, ?_⟩⟩
    refine ⟨_, results_tmp rfl _ _ _, _, rfl, ?_, q4.trans (belowK_b (w := w) (Nat.le_refl _) W' D _ _ (by omega) hK rfl rfl)⟩
    have h := Rd.of_own (ownsRow_putObj q2 (.deferred none) hK rfl) (by omega) (Nat.le_refl _)
    unfold ExtA ExtS
    rw [tabE_len]
    exact h
end Go.Proofs.YtkgglhakimkkhaaGreatDoor
namespace Go.Proofs.YtkgglhakimkkhaaGreatDoor
open Go.RowKit

theorem grown_below {w a b : World} {row : Option Nat} (h : w.grownBy a row) (k : Below a.heap.size a b) : w.grownBy b row :=
  ⟨k.os.trans h.os, k.tape.trans h.tape, k.output.trans h.output, Nat.le_trans h.size k.size, fun i hi hr => (k.block i (Nat.lt_of_lt_of_le hi h.size)).trans (h.block i hi hr)⟩
theorem grown_set {w a : World} {B i : Nat} {v : Value} (h : w.grownBy a (some B)) : w.grownBy (a.setCell ⟨B, i, none⟩ v) (some B) :=
  ⟨h.os, h.tape, h.output, by simpa using h.size, fun k hk hr => (Below.heap_setCell a ⟨B, i, none⟩ v k (fun e => hr (by rw [e]))).trans (h.block k hk hr)⟩
end Go.Proofs.YtkgglhakimkkhaaGreatDoor
namespace Go.Proofs.YtkgglhakimkkhaaGreatDoor
open Go.RowKit

def Stop (p : Prop) : Prop := p
theorem stop_in {p : Prop} (h : Stop p) : p := h
theorem stop_out {p : Prop} (h : p) : Stop p := h
theorem grown_blk {X W : World} {row : Option Nat} {b : Nat} {t : TypeId} {cs : Array Value} (h : X.grownBy W row) (hb : Blk X b t cs) (hne : some b ≠ row) : Blk W b t cs := (h.block b hb.lt hne).trans hb
theorem grown_refl (X : World) (row : Option Nat) : X.grownBy X row := ⟨rfl, rfl, rfl, Nat.le_refl _, fun _ _ _ => rfl⟩
theorem grown_step {X a b : World} {g0 : Nat} {row : Option Nat} (h : X.grownBy a (some g0)) (k : a.grownBy b row) (hr : ∀ g, row = some g → g = g0 ∨ X.heap.size ≤ g) : X.grownBy b (some g0) :=
  ⟨k.os.trans h.os, k.tape.trans h.tape, k.output.trans h.output, Nat.le_trans h.size k.size, fun i hi hne =>
    (k.block i (Nat.lt_of_lt_of_le hi h.size) (fun e => by
      rcases hr i e.symm with h1 | h1
      · exact hne (by rw [h1])
      · omega)).trans (h.block i hi hne)⟩
theorem grown_b {B g : Nat} {A X W : World} (h : Below B A X) (k : X.grownBy W (some g)) (hB : B ≤ X.heap.size) (hg : B ≤ g) : Below B A W := h.grown k hB (fun i e => by cases e; exact hg)
def OwnAt (X : World) (g0 : Nat) (v : Value) : Prop := ∀ g, v.ownBlock = some g → g = g0 ∨ X.heap.size ≤ g
theorem OwnAt.ne {X : World} {g0 : Nat} {v : Value} {b : Nat} (h : OwnAt X g0 v) (hb : b < X.heap.size) (hne : b ≠ g0) : some b ≠ v.ownBlock := fun e => by
  rcases h b e.symm with h | h
  · exact hne h
  · omega
theorem wpList_app2 {P : Program} {ops : Array Oper} {rest : List Oper} {o : Oper} {a : Act} {Q : Exit → Act → World → Prop} {X0 X : World} {n g0 base k size bytes : Nat} {t e : TypeId} {i : TypeInfo} {z : Value} {cl cs : List Value} {u : Value} (hgd : o.guard = none) (s x : Operand)
    (ho : o.op = .call { callee := .builtin .append, args := #[s, x], argTypes := #[t, t] }) (ht : P.underlying t = some (.slice e)) (hi : P.info? e = some i) (hz : i.zero = some z) (hsize : i.size = size) (hby : i.bytes = bytes) (hzs : z.cells.size = size) (hsz : 0 < size)
    (hcl : cl.length = 1 * size) (h1 : ∀ u ∈ cl, u.oneCell' = true) (hs : a.eval s = u) (hx : a.eval x = .slice (some ⟨n, 0, none⟩) 1 1) (hown : X.ownsRow base e size u k cs) (hat : OwnAt X0 g0 u) (hgr : X0.grownBy X (some g0)) (hsrc : Blk X n e cl.toArray) (hk : k + 1 ≤ maxLen) (hk2 : (k + 1) * bytes ≤ 140737488355328) (hbase : base ≤ X.heap.size)
    (h : ∀ v' w', w'.ownsRow base e size v' (k + 1) (cs ++ cl) → OwnAt X0 g0 v' → X0.grownBy w' (some g0) → wpList P ops Q rest (a.put o.dst v') w') : wpList P ops Q (o :: rest) a X := by
  refine wpList_append_own_at X hgd s x t ho base e i z size bytes ht hi hz hsize hby hzs hsz u k cs hs hown ⟨n, 0, none⟩ 1 1 cl hx hcl (blk_news hsrc) h1 hk hk2 hbase ?_
  intro v' w' hown' hgrow _ hat'
  refine h v' w' hown' (fun g hg => ?_) (grown_step hgr hgrow hat)
  rcases hat' with h2 | h2
  · exact hat g (by rw [← h2]; exact hg)
  · rw [h2] at hg
    cases hg
    exact .inr hgr.size
theorem step_lit0 {P : Program} {o : Oper} {a : Act} {w : World} {t e : TypeId} {ie : TypeInfo} {z : Value} (hu : P.underlying t = some (.slice e)) (hie : P.info? e = some ie) (_hz : ie.zero = some z)
    (ho : o.op = .buildSlice t 0 #[]) : stepAt P o a w (fun v w' => Lit e 0 #[] w.heap.size w'.heap.size v w' ∧ Below w.heap.size w w') := by
  have hr : (Instr.buildSlice t 0 #[]).run P w = .ok (.slice (some ⟨w.heap.size, 0, none⟩) 0 0) (w.alloc (.cells #[] e)) := by
    simp [Instr.buildSlice, run_underlying hu, sizeOf, typeInfo, hie, newRow, Instr.fill]
    rw [show Array.map (fun (_ : Nat) => (default : Value)) (Array.range 0) = #[] from Array.eq_empty_of_size_eq_zero (by simp)]
  unfold stepAt execOp
  simp only [ho, Sem.run_bind, List.map_toArray, List.map_nil, hr, Result.andThen_ok]
  exact ⟨⟨rfl, by simp only [World.size_alloc]; omega, Blk.new _ _ _⟩, (Below.refl _ _).alloc (Nat.le_refl _) _⟩
theorem wpList_appB {P : Program} {ops : Array Oper} {rest : List Oper} {o : Oper} {a : Act} {Q : Exit → Act → World → Prop} {X : World} {base k m lo hi2 size bytes : Nat} {t e : TypeId} {i : TypeInfo} {z : Value} {cl cs : List Value} {u v2 : Value} (hgd : o.guard = none) (s x : Operand)
    (ho : o.op = .call { callee := .builtin .append, args := #[s, x], argTypes := #[t, t] }) (ht : P.underlying t = some (.slice e)) (hi : P.info? e = some i) (hz : i.zero = some z) (hsize : i.size = size) (hby : i.bytes = bytes) (hzs : z.cells.size = size) (hsz : 0 < size)
    (h1 : ∀ u ∈ cl, u.oneCell' = true) (hs : a.eval s = u) (hx : a.eval x = v2) (hr : Rd lo hi2 size X v2 m cl) (hown : X.ownsRow base e size u k cs) (hk : k + m ≤ maxLen) (hk2 : (k + m) * bytes ≤ 140737488355328) (hbase : base ≤ X.heap.size)
    (h : ∀ v' w', w'.ownsRow base e size v' (k + m) (cs ++ cl) → X.grownBy w' u.ownBlock → Below base X w' → wpList P ops Q rest (a.put o.dst v') w') : wpList P ops Q (o :: rest) a X := by
  by_cases hm : m = 0
  · subst hm
    have hcl : cl = [] := List.eq_nil_of_length_eq_zero (by rw [hr.1]; omega)
    subst hcl
    obtain ⟨A2, cap2, rfl⟩ := hr.len
    obtain ⟨A, cap, hu, hc⟩ : ∃ A cap, u = .slice A k cap ∧ k ≤ cap := by
      rcases hown.2 with ⟨rfl, rfl⟩ | ⟨g, cap, cur, rfl, _, _, q, _⟩
      · exact ⟨none, 0, rfl, Nat.le_refl _⟩
      · exact ⟨_, cap, rfl, q⟩
    have hlc : ∀ (b : Addr) (W : World), (loadCells b 0).run P W = .ok #[] W := fun b W => run_loadCells_list (P := P) W b [] (fun j v hv => by simp at hv)
    have src : Src P i.size t (.slice A2 0 cap2) 0 [] X := ⟨.inl ⟨e, ht⟩, fun w' => by simp [Builtin.lenOf], by cases A2 <;> simp [Builtin.firstCells, hlc], by cases A2 <;> simp [Builtin.firstCells, hlc], by simp, fun u hu => by cases hu⟩
    have hrun := run_append_nothing (P := P) X t t o.type e i ht hi A k cap hc (.slice A2 0 cap2) src
    refine wpList_plain hgd fun K hK => ?_
    unfold Oper.wp execOp
    rw [hu] at hs
    simp only [ho, resolve, invoke, builtin, Sem.run_bind, Sem.run_pure, Result.andThen_ok, List.map_toArray, List.map_cons, List.map_nil, hs, hx, hrun]
    rw [← hu]
    exact hK _ _ (h u X (by simpa using hown) (grown_refl _ _) (Below.refl _ _))
  · obtain ⟨g, off, cap2, rfl, _, _, _, _, hcells⟩ := hr.form (by omega)
    refine wpList_append_own _ hgd s x t ho base e i z size bytes ht hi hz hsize hby hzs hsz u k cs hs hown ⟨g, off, none⟩ m cap2 cl hx hr.1 (fun j v hv => by rw [Addr.add_mid]; exact hcells j v hv) h1 hk hk2 hbase ?_
    intro v' w' hown' hgrow _
    exact h v' w' hown' hgrow ((Below.refl _ _).grown hgrow hbase (fun g hg => (own_block hown hg).1))
def Kept (lo hi : Nat) (w w' : World) : Prop := ∀ k, lo ≤ k → k < hi → w'.heap[k]? = w.heap[k]?
theorem Kept.refl (lo hi : Nat) (w : World) : Kept lo hi w w := fun _ _ _ => rfl
theorem Kept.trans {lo hi : Nat} {a b c : World} (h : Kept lo hi a b) (k : Kept lo hi b c) : Kept lo hi a c := fun i h1 h2 => (k i h1 h2).trans (h i h1 h2)
theorem Kept.of_below {lo hi : Nat} {a b : World} (h : Below a.heap.size a b) (hh : hi ≤ a.heap.size) : Kept lo hi a b := fun i _ h2 => h.block i (Nat.lt_of_lt_of_le h2 hh)
def Outside (lo hi : Nat) (v : Value) : Prop := ∀ b, v.ownBlock = some b → b < lo ∨ hi ≤ b
theorem Kept.of_grown {lo hi : Nat} {a b : World} {v : Value} (h : a.grownBy b v.ownBlock) (ho : Outside lo hi v) (hh : hi ≤ a.heap.size) : Kept lo hi a b := fun i h1 h2 => h.block i (Nat.lt_of_lt_of_le h2 hh) (fun e => by
  rcases ho i e.symm with h | h <;> omega)
theorem Outside.next {lo hi : Nat} {u v : Value} {X : World} (ho : Outside lo hi u) (h : v.ownBlock = u.ownBlock ∨ v.ownBlock = some X.heap.size) (hh : hi ≤ X.heap.size) : Outside lo hi v := fun b hb => by
  rcases h with h | h
  · exact ho b (by rw [← h]; exact hb)
  · rw [h] at hb; cases hb; exact .inr hh
theorem rd_kept {lo hi size n : Nat} {v : Value} {cs : List Value} {a b : World} (h : Rd lo hi size a v n cs) (k : Kept lo hi a b) (hs : a.heap.size ≤ b.heap.size) : Rd lo hi size b v n cs := h.other hs fun g h1 h2 _ => k g h1 h2
theorem wpList_app3 {P : Program} {ops : Array Oper} {rest : List Oper} {o : Oper} {a : Act} {Q : Exit → Act → World → Prop} {X : World} {n base k size bytes : Nat} {t e : TypeId} {i : TypeInfo} {z : Value} {cl cs : List Value} {u : Value} (hgd : o.guard = none) (s x : Operand)
    (ho : o.op = .call { callee := .builtin .append, args := #[s, x], argTypes := #[t, t] }) (ht : P.underlying t = some (.slice e)) (hi : P.info? e = some i) (hz : i.zero = some z) (hsize : i.size = size) (hby : i.bytes = bytes) (hzs : z.cells.size = size) (hsz : 0 < size)
    (hcl : cl.length = 1 * size) (h1 : ∀ u ∈ cl, u.oneCell' = true) (hs : a.eval s = u) (hx : a.eval x = .slice (some ⟨n, 0, none⟩) 1 1) (hown : X.ownsRow base e size u k cs) (hsrc : Blk X n e cl.toArray) (hk : k + 1 ≤ maxLen) (hk2 : (k + 1) * bytes ≤ 140737488355328) (hbase : base ≤ X.heap.size)
    (h : ∀ v' w', w'.ownsRow base e size v' (k + 1) (cs ++ cl) → X.grownBy w' u.ownBlock → Below base X w' → (v'.ownBlock = u.ownBlock ∨ v'.ownBlock = some X.heap.size) → wpList P ops Q rest (a.put o.dst v') w') : wpList P ops Q (o :: rest) a X := by
  refine wpList_append_own_at X hgd s x t ho base e i z size bytes ht hi hz hsize hby hzs hsz u k cs hs hown ⟨n, 0, none⟩ 1 1 cl hx hcl (blk_news hsrc) h1 hk hk2 hbase ?_
  intro v' w' hown' hgrow _ hat'
  exact h v' w' hown' hgrow ((Below.refl _ _).grown hgrow hbase (fun g hg => (own_block hown hg).1)) hat'
end Go.Proofs.YtkgglhakimkkhaaGreatDoor
namespace Go.Proofs.YtkgglhakimkkhaaGreatDoor
open Go.RowKit

def SeqCell {α : Type} (n : Nat) (P : Program) (gf : Nat) (lb : Array Value) (enc : α → Array Value) (Bv : Nat) (S : Nat → Prop) (xs : List α) (w : World) : Prop :=
  ∀ (l : Nat) (J : List α → World → Prop) (W : World), Below w.heap.size w W → (∀ s A B, J s A → Below A.heap.size A B → J s B) → (∀ s A B, J s A → Put A B Bv → J s B) →
    (∀ pre x W1, J pre W1 → pre.length < xs.length → YieldAt .wide (n - 1) P l (enc x) W1 fun e W' => e = .returned (.bool true) ∧ J (pre ++ [x]) W' ∧ Keeps S W1 W') → J [] W →
    CallsIn .wide n P gf (#[.func (.yield l) #[] #[]] ++ lb) W fun e W' => (∃ v, e = .returned v) ∧ J xs W'
theorem put_same {A B : World} {g k : Nat} (h : Put A B g) (hk : k ≠ g) {o : Obj} (ho : A.heap[k]? = some o) : B.heap[k]? = some o := (h.other k hk).trans ho
theorem below_same {A B : World} {k : Nat} (h : Below A.heap.size A B) {o : Obj} (ho : A.heap[k]? = some o) : B.heap[k]? = some o := (h.block k (Array.getElem?_eq_some_iff.1 ho).1).trans ho
theorem wpIn_seqW {α : Type} {n : Nat} {P : Program} {g : Operand} {p1 : Tmp} {assign body : Code} {Q : Exit → Act → World → Prop} {a : Act} {w w0 : World} {gf Bv : Nat} {lb : Array Value} {e1 : α → Value} {S : Nat → Prop} {xs : List α}
    (hseq : SeqCell (n - 1) P gf lb (fun x => #[e1 x]) Bv S xs w0) (hb0 : Below w0.heap.size w0 w) (h1 : 1 ≤ n) (hg : a.eval g = .func (.func gf) #[] lb) (eg : ∀ args w, (callFunc gf args).run P w = .ok (.enter gf args) w)
    (hBv : Bv < w.heap.size) (hS : ∀ g, S g → g < w.heap.size)
    (I : List α → World → Prop) (hI1 : ∀ s A B, I s A → Below A.heap.size A B → I s B) (hI2 : ∀ s A B, I s A → Put A B Bv → I s B) (hI3 : ∀ s (W : World) (l : Nat) (o : Obj), w.heap.size ≤ l → I s W → I s (W.putObj l o)) (h0 : I [] w) (slot : Tmp) (t : TypeId) (cx : α → Array Value)
    (hassign : ∀ (l : Nat) (x : α) (W : World) (K : Act → World → Prop), (∀ a' W', a' = { tmps := (a.tmps.setIfInBounds p1 (e1 x)).setIfInBounds slot (.pointer (some ⟨W.heap.size, 0, none⟩)), defers := [] } → W' = W.alloc (.cells (cx x) t) → K a' W') →
      assign.wpIn (Fence.wide.inRound l) (n - 1 - 1) P (Exit.then K (fun _ _ _ => False)) { tmps := a.tmps.setIfInBounds p1 (e1 x), defers := [] } W)
    (hbody : ∀ (l : Nat) (pre : List α) (x : α) (Bx : Nat) (W : World) (a' : Act), a' = { tmps := (a.tmps.setIfInBounds p1 (e1 x)).setIfInBounds slot (.pointer (some ⟨Bx, 0, none⟩)), defers := [] } → I pre W → w.heap.size ≤ Bx → Blk W Bx t (cx x) → pre.length < xs.length →
      body.wpIn (Fence.wide.inRound l) (n - 1 - 1) P (fun e _ W' => e = .normal ∧ KeepsOthers W W' ∧ Keeps S W W' ∧ I (pre ++ [x]) W') a' W)
    (hdone : ∀ (D : Nat) (W : World), w.heap.size ≤ D → I xs W → W.heap[D]? = some (.deferred (some [])) → Q .normal { a with defers := { target := .collected D, args := #[] } :: a.defers } W) :
    (Code.rangeFunc g #[p1] assign body).wpIn .wide n P Q a w := by
  refine wpIn_rangeFunc fun fn hfn => ?_
  obtain ⟨rec, hrec⟩ : ∃ rec : LoopState → Loop, rec = fun st => { state := st, pending := none, fn, tmps := a.tmps, params := #[p1], assign, body, defers := w.heap.size } := ⟨_, rfl⟩
  obtain ⟨W1, hW1⟩ : ∃ W1, (w.alloc (.deferred (some []))).alloc (.loop (rec .ready)) = W1 := ⟨_, rfl⟩
  have hb1 : Below w.heap.size w W1 := by rw [← hW1]; exact ((Below.refl _ w).alloc (Nat.le_refl _) _).alloc (by simp) _
  have hL1 : W1.heap[w.heap.size + 1]? = some (.loop (rec .ready)) := by
    rw [← hW1]; have := World.alloc_heap_new (w.alloc (.deferred (some []))) (.loop (rec .ready)); rwa [World.size_alloc] at this
  have hK1 : W1.heap[w.heap.size]? = some (.deferred (some [])) := by
    rw [← hW1]; exact (Below.heap_alloc _ _ _ (by simp)).trans (World.alloc_heap_new w _)
  refine ⟨w.heap.size + 1, [{ target := .collected w.heap.size, args := #[] }], W1, { target := .fn (.func gf) lb, args := #[.func (.yield (w.heap.size + 1)) #[] #[]] }, W1, gf,
    #[.func (.yield (w.heap.size + 1)) #[] #[]] ++ lb, W1, ?_, ?_, ?_, ?_, fun _ => h1, ?_⟩
  · rw [← hW1, hrec]; exact run_enterLoop_outer _ _ _ _ _
  · simp only [resolve, hg]
    simp [go_sem]
  · intro f' hf'; trivial
  · simp [invoke, go_sem, eg]
  refine (hseq (w.heap.size + 1) (fun pre W => I pre W ∧ W.heap[w.heap.size + 1]? = some (.loop (rec .ready)) ∧ W.heap[w.heap.size]? = some (.deferred (some []))) W1 (hb0.trans (hb1.mono hb0.size))
    (fun s A B hs hb => ⟨hI1 s A B hs.1 hb, below_same hb hs.2.1, below_same hb hs.2.2⟩) (fun s A B hs hp => ⟨hI2 s A B hs.1 hp, put_same hp (by omega) hs.2.1, put_same hp (by omega) hs.2.2⟩) ?_ ⟨hI1 _ _ _ h0 hb1, hL1, hK1⟩).mono ?_
  · rintro pre x W ⟨hi, hl, hk⟩ hlen
    have hy := run_yield (P := P) (args := #[e1 x]) hl (by rw [hrec]; rfl)
    rw [hrec] at hy
    refine ⟨fn, _, assign, body, hy, roundIn_of_wpIn hfn ?_⟩
    have ha0 : ((#[p1] : Array Tmp).zip (#[e1 x] : Array Value)).foldl (fun t (p, v) => t.setIfInBounds p v) a.tmps = a.tmps.setIfInBounds p1 (e1 x) := by simp
    simp only [ha0]
    refine hassign _ x W _ ?_
    rintro a' Wa ha rfl
    have hba : Below W.heap.size W (W.alloc (.cells (cx x) t)) := (Below.refl _ _).alloc (Nat.le_refl _) _
    have hla := below_same hba hl
    have hka := below_same hba hk
    have hlt := (Array.getElem?_eq_some_iff.1 hla).1
    have hwW : w.heap.size + 1 < W.heap.size := (Array.getElem?_eq_some_iff.1 hl).1
    refine ⟨_, run_beginRound hla (by rw [hrec]), ?_⟩
    obtain ⟨Wb, hWb⟩ : ∃ Wb, Wb = (W.alloc (.cells (cx x) t)).putObj (w.heap.size + 1) (.loop { rec .ready with state := .busy }) := ⟨_, rfl⟩
    have hl2 : Wb.heap[w.heap.size + 1]? = some (.loop { rec .ready with state := .busy }) := by rw [hWb]; exact World.putObj_heap_same hlt
    have hk2 : Wb.heap[w.heap.size]? = some (.deferred (some [])) := by rw [hWb]; exact (World.putObj_heap_other (by omega)).trans hka
    have hi2 : I pre Wb := by rw [hWb]; exact hI3 _ _ _ _ (by omega) (hI1 _ _ _ hi hba)
    have hx2 : Blk Wb W.heap.size t (cx x) := by rw [hWb]; exact (World.putObj_heap_other (by omega)).trans (Blk.new _ _ _)
    have hkS : Keeps S W Wb := by
      rw [hWb]
      refine (Keeps.of_below hba).trans ⟨by simp, fun g hg _ => World.putObj_heap_other (by have := hS g hg; omega)⟩
    rw [← hWb]
    refine wpIn_mono (hbody _ pre x W.heap.size Wb a' ha hi2 (by omega) hx2 hlen) ?_
    rintro e a3 W3 ⟨rfl, hk3, hkp3, hi3⟩
    have hl3 := hk3.same _ _ hl2 rfl
    have hkk3 := hk3.same _ _ hk2 rfl
    have hend := run_endRound (P := P) none hl3
    have hl4 : (W3.putObj (w.heap.size + 1) (.loop (rec .ready))).heap[w.heap.size + 1]? = some (.loop (rec .ready)) := World.putObj_heap_same (Array.getElem?_eq_some_iff.1 hl3).1
    have hk4 : (W3.putObj (w.heap.size + 1) (.loop (rec .ready))).heap[w.heap.size]? = some (.deferred (some [])) := (World.putObj_heap_other (by omega)).trans hkk3
    refine ⟨_, W3.putObj (w.heap.size + 1) (.loop (rec .ready)), ?_, rfl, ⟨hI3 _ _ _ _ (by omega) hi3, hl4, hk4⟩, (hkS.trans hkp3).trans ⟨by simp, fun g hg _ => World.putObj_heap_other (by have := hS g hg; omega)⟩⟩
    rw [hrec] at hend ⊢
    exact hend
  · rintro e W2 ⟨⟨v, rfl⟩, hi, hl, hk⟩
    exact ⟨none, _, by have := run_endLoop (P := P) hl (by rw [hrec]; simp); rw [hrec] at this; exact this, hdone _ _ (Nat.le_refl _) (hI3 _ _ _ _ (by omega) hi) ((World.putObj_heap_other (by omega)).trans hk)⟩
end Go.Proofs.YtkgglhakimkkhaaGreatDoor
