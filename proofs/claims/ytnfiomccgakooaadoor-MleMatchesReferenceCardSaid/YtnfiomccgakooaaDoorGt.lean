/-
  Gates: slices of them, as they come in and as they are made; slice literals and new blocks in a region.
-/
import Derived.Test.YtnfiomccgakooaaDoorEq2
import Derived.Great.BuildSlice
import Derived.Deep.MidRow
namespace Go.Proofs.YtnfiomccgakooaaDoor
open Go.RowKit

/-! ### New blocks in a region -/
def Lit (e : TypeId) (len : Nat) (cs : Array Value) (n m : Nat) (v : Value) (w : World) : Prop := v = .slice (some ⟨n, 0, none⟩) len len ∧ n < m ∧ Blk w n e cs
theorem stable_lit {e : TypeId} {len : Nat} {cs : Array Value} : Stable (Lit e len cs) := fun _ _ _ _ _ ⟨h1, h2, h3⟩ hb => ⟨h1, h2, h3.below hb h2⟩
def New (e : TypeId) (cs : Array Value) (n m : Nat) (v : Value) (w : World) : Prop := v = .pointer (some ⟨n, 0, none⟩) ∧ n < m ∧ Blk w n e cs
theorem stable_new {e : TypeId} {cs : Array Value} : Stable (New e cs) := fun _ _ _ _ _ ⟨h1, h2, h3⟩ hb => ⟨h1, h2, h3.below hb h2⟩
def LitF (len n : Nat) (v : Value) : Prop := v = .slice (some ⟨n, 0, none⟩) len len
def NewF (n : Nat) (v : Value) : Prop := v = .pointer (some ⟨n, 0, none⟩)
theorem fit_lit {e : TypeId} {len : Nat} {cs : Array Value} : Fit (Lit e len cs) (LitF len) := ⟨stable_lit, fun _ => ⟨_, rfl⟩, fun _ _ _ _ h => h.1⟩
theorem fit_new {e : TypeId} {cs : Array Value} : Fit (New e cs) NewF := ⟨stable_new, fun _ => ⟨_, rfl⟩, fun _ _ _ _ h => h.1⟩
/-- The form of a slice of which the length is known. -/
def SlF (len : Nat) (_ : Nat) (v : Value) : Prop := ∃ A cap, v = .slice A len cap
def ExtA (xs : List E) (lo hi : Nat) (v : Value) (w : World) : Prop := ExtS lo hi w v xs
theorem fit_own {xs : List E} : Fit (OwnX xs) (SlF xs.length) := ⟨fun _ _ _ _ _ h hb => ⟨h.1.below hb (Nat.le_refl _), fun h0 => stable_clone xs _ _ _ _ _ (h.2 h0) hb⟩, fun _ => ⟨.slice none xs.length 0, none, 0, rfl⟩, fun _ _ _ _ h => h.1.len⟩
theorem fit_ext {xs : List E} : Fit (ExtA xs) (SlF xs.length) := ⟨fun _ _ _ _ _ h hb => h.below hb (Nat.le_refl _), fun _ => ⟨.slice none xs.length 0, none, 0, rfl⟩, fun _ _ _ _ h => h.len⟩
/-- A load of one cell; of a row of cells. -/
theorem step_load1 {P : Program} {o : Oper} {a : Act} {w : World} {t : TypeId} {x : Operand} {g i : Nat} {v : Value} {d : TypeDesc} (hu : P.underlying t = some d) (hd : d.isRow = false) (ho : o.op = .load t x) (hx : a.eval x = .pointer (some ⟨g, i, none⟩)) (hc : w.cell? ⟨g, i, none⟩ = some v) :
    stepAt P o a w (fun v' w' => v' = v ∧ Below w.heap.size w w') := by
  have h1 : (isAgg t).run P w = .ok false w := by
    unfold isAgg
    rw [Sem.run_bind, run_underlying hu w]
    cases d <;> simp_all [TypeDesc.isRow]
  have h2 : (Instr.loadAt t (.pointer (some ⟨g, i, none⟩))).run P w = .ok v w := by
    simp [Instr.loadAt, Instr.sureAddr, loadVar, Sem.run_bind, h1, run_load, hc]
  unfold stepAt execOp
  simp only [ho, hx, Sem.run_bind, h2, Result.andThen_ok]
  exact ⟨rfl, Below.refl _ _⟩
theorem step_loadR {P : Program} {o : Oper} {a : Act} {w : World} {t : TypeId} {x : Operand} {g i : Nat} {cs : List Value} {d : TypeDesc} (hu : P.underlying t = some d) (hd : d.isRow = true) (hi : (P.info? t).map (·.size) = some cs.length) (ho : o.op = .load t x) (hx : a.eval x = .pointer (some ⟨g, i, none⟩)) (hc : w.rangeAt g i cs) :
    stepAt P o a w (fun v' w' => v' = .agg cs.toArray ∧ Below w.heap.size w w') := by
  have h2 := run_loadAt_mid (P := P) w g i t cs d hc hu hd hi
  unfold stepAt execOp
  simp only [ho, hx, Sem.run_bind, h2, Result.andThen_ok]
  exact ⟨rfl, Below.refl _ _⟩
theorem step_lit {P : Program} {o : Oper} {a : Act} {w : World} {t e : TypeId} {len : Nat} {parts : Array (Nat × Operand)} {cells : Array Value} {ie : TypeInfo} {z : Value} (hu : P.underlying t = some (.slice e)) (hie : P.info? e = some ie) (hz : ie.zero = some z) (hsmall : ¬ len * ie.size > 2 ^ 24) (hpos : ¬ len * ie.size = 0)
    (ho : o.op = .buildSlice t len parts)
    (hf : Instr.fill (fun i => some (i * ie.size, ie.size)) ((Array.range (len * ie.size)).map (z.cells[· % z.cells.size]!)) (parts.map fun (i, x) => (i, a.eval x)).toList = some cells) :
    stepAt P o a w (fun v w' => Lit e len cells w.heap.size w'.heap.size v w' ∧ Below w.heap.size w w') := by
  unfold stepAt execOp
  simp only [ho, Sem.run_bind, run_buildSlice w t e len _ cells ie z hu hie hz hsmall hpos hf, Result.andThen_ok]
  exact ⟨⟨rfl, by simp only [World.size_alloc]; omega, Blk.new _ _ _⟩, (Below.refl _ _).alloc (Nat.le_refl _) _⟩
theorem fill_one {z v : Value} {size : Nat} {cs : Array Value} (hs : 0 < size) (hv : v.cells = cs) (hc : cs.size = size) :
    Instr.fill (fun i => some (i * size, size)) ((Array.range (1 * size)).map (z.cells[· % z.cells.size]!)) [(0, v)] = some cs := by
  obtain ⟨r, h1, h2, h3⟩ := Great.fill_dense hs [v] 0 ((Array.range (1 * size)).map (z.cells[· % z.cells.size]!)) (fun u hu => by rw [List.mem_singleton.1 hu, hv, hc]) (by simp)
  have h1' : Instr.fill (fun i => some (i * size, size)) ((Array.range (1 * size)).map (z.cells[· % z.cells.size]!)) [(0, v)] = some r := h1
  rw [h1']
  congr 1
  apply Array.ext_getElem?
  intro k
  rw [h3 k]
  by_cases hk : k < size
  · rw [if_pos (by simp; omega)]
    simp [Nat.div_eq_of_lt hk, Nat.mod_eq_of_lt hk, hv]
  · rw [if_neg (by simp; omega), Array.getElem?_eq_none (by simp; omega), Array.getElem?_eq_none (by omega)]
/-- A slice literal of one element. -/
theorem step_lit1 {P : Program} {o : Oper} {a : Act} {w : World} {t e : TypeId} {x : Operand} {cs : Array Value} {ie : TypeInfo} {z : Value} {size : Nat} (hu : P.underlying t = some (.slice e)) (hie : P.info? e = some ie) (hz : ie.zero = some z) (hi : ie.size = size) (hp : 0 < size) (hsmall : size ≤ 16777216)
    (ho : o.op = .buildSlice t 1 #[(0, x)]) (hv : (a.eval x).cells = cs) (hc : cs.size = size) :
    stepAt P o a w (fun v w' => Lit e 1 cs w.heap.size w'.heap.size v w' ∧ Below w.heap.size w w') := by
  subst hi
  refine step_lit hu hie hz (by omega) (by omega) ho ?_
  simpa using fill_one hp hv hc
/-- A slice literal of some numbers. -/
theorem step_litF {P : Program} {o : Oper} {a : Act} {w : World} {t e : TypeId} {len : Nat} {parts : List (Nat × Operand)} {vs : List Value} {ie : TypeInfo} {z : Value} (hu : P.underlying t = some (.slice e)) (hie : P.info? e = some ie) (hz : ie.zero = some z) (hi : ie.size = 1) (hlen : vs.length = len) (hpos : 0 < len) (hsmall : len ≤ 16777216)
    (ho : o.op = .buildSlice t len parts.toArray) (hv : (parts.map fun x => (x.1, a.eval x.2)) = (vs.zipIdx 0).map fun x => (x.2, x.1)) (h1 : ∀ v ∈ vs, v.cells = #[v]) :
    stepAt P o a w (fun v w' => Lit e len vs.toArray w.heap.size w'.heap.size v w' ∧ Below w.heap.size w w') := by
  refine step_lit hu hie hz (by rw [hi]; omega) (by rw [hi]; omega) ho ?_
  have hm : (parts.toArray.map fun (i, x) => (i, a.eval x)).toList = (vs.zipIdx 0).map fun x => (x.2, x.1) := by rw [← hv]; simp
  rw [hm, hi]
  obtain ⟨r, h1', h2, h3⟩ := Great.fill_dense (s := 1) (by decide) vs 0 ((Array.range (len * 1)).map (z.cells[· % z.cells.size]!)) (fun u hu => by rw [h1 u hu]; rfl) (by simp; omega)
  rw [h1']
  congr 1
  apply Array.ext_getElem?
  intro k
  rw [h3 k]
  by_cases hk : k < len
  · rw [if_pos (by simp; omega)]
    simp only [Nat.div_one, Nat.sub_zero, Nat.mod_one, List.getElem?_toArray]
    obtain ⟨u, hu⟩ : ∃ u, vs[k]? = some u := ⟨vs[k]'(by omega), List.getElem?_eq_getElem (by omega)⟩
    rw [hu]
    simp [h1 u (List.mem_of_getElem? hu)]
  · rw [if_neg (by simp; omega), Array.getElem?_eq_none (by simp; omega), Array.getElem?_eq_none (by simp; omega)]
theorem step_new {P : Program} {o : Oper} {a : Act} {w : World} {e : TypeId} {ie : TypeInfo} {z : Value} (hie : P.info? e = some ie) (hz : ie.zero = some z) (ho : o.op = .alloc e) :
    stepAt P o a w (fun v w' => New e z.cells w.heap.size w'.heap.size v w' ∧ Below w.heap.size w w') := by
  unfold stepAt execOp
  simp [ho, Instr.alloc, zeroValue, typeInfo, hie, hz, newVar, newRow, newObj]
  exact ⟨⟨rfl, by simp, Blk.new _ _ _⟩, (Below.refl _ _).alloc (Nat.le_refl _) _⟩

/-! ### Gates -/
structure Gt where
  L : Nat
  R : Nat
  c : Fp
  a : Fp
  b : Fp
  d : Fp
def gc (g : Gt) : List Value := [.int .i64 g.L, .int .i64 g.R, .int .u64 (fv g.c), .int .u64 (fv g.a), .int .u64 (fv g.b), .int .u64 (fv g.d)]
theorem gc_len (g : Gt) : (gc g).length = 6 := rfl
def GateS (lo hi : Nat) (w : World) (v : Value) (gs : List Gt) : Prop := Rd lo hi 6 w v gs.length (gs.flatMap gc)
theorem gates_cells {lo hi : Nat} {w : World} {v : Value} {xs : List Gt} (h : GateS lo hi w v xs) (h0 : 0 < xs.length) : ∃ g off cap, v = .slice (some ⟨g, off, none⟩) xs.length cap ∧ xs.length ≤ cap ∧ lo ≤ g ∧ g < hi ∧ g < w.heap.size ∧
    ∀ k x, xs[k]? = some x → w.cell? ⟨g, off + k * 6, none⟩ = some (.int .i64 x.L) ∧ w.cell? ⟨g, off + k * 6 + 1, none⟩ = some (.int .i64 x.R) ∧ w.cell? ⟨g, off + k * 6 + 2, none⟩ = some (.int .u64 (fv x.c)) ∧
      w.cell? ⟨g, off + k * 6 + 3, none⟩ = some (.int .u64 (fv x.a)) ∧ w.cell? ⟨g, off + k * 6 + 4, none⟩ = some (.int .u64 (fv x.b)) ∧ w.cell? ⟨g, off + k * 6 + 5, none⟩ = some (.int .u64 (fv x.d)) := by
  obtain ⟨g, off, cap, q1, q2, q3, q4, q5, q6⟩ := Rd.form h h0
  refine ⟨g, off, cap, q1, q2, q3, q4, q5, fun k x hx => ?_⟩
  have e : ∀ j u, (gc x)[j]? = some u → w.cell? ⟨g, off + k * 6 + j, none⟩ = some u := fun j u hu => by
    have := q6 (k * 6 + j) _ (flat_get gc_len xs k j x _ hx hu)
    rwa [← Nat.add_assoc] at this
  exact ⟨e 0 _ rfl, e 1 _ rfl, e 2 _ rfl, e 3 _ rfl, e 4 _ rfl, e 5 _ rfl⟩
theorem gc_one (g : Gt) : ∀ u ∈ gc g, u.oneCell' = true := by
  intro u hu
  simp only [gc, List.mem_cons, List.not_mem_nil, or_false] at hu
  rcases hu with rfl | rfl | rfl | rfl | rfl | rfl <;> rfl

/-- A gate as it may come in. -/
structure Rg where
  L : Int
  R : Int
  c : Int
  a : Int
  b : Int
  d : Int
def Num (a : Int) : Prop := -9223372036854775808 ≤ a ∧ a < 9223372036854775808
def Rg.Ok (g : Rg) : Prop := Num g.L ∧ Num g.R ∧ Word g.c ∧ Word g.a ∧ Word g.b ∧ Word g.d
def rgc (g : Rg) : List Value := [.int .i64 g.L, .int .i64 g.R, .int .u64 g.c, .int .u64 g.a, .int .u64 g.b, .int .u64 g.d]
theorem rgc_len (g : Rg) : (rgc g).length = 6 := rfl
def RawG (lo hi : Nat) (w : World) (v : Value) (gs : List Rg) : Prop := Rd lo hi 6 w v gs.length (gs.flatMap rgc) ∧ ∀ g ∈ gs, g.Ok
theorem rawg_cells {lo hi : Nat} {w : World} {v : Value} {xs : List Rg} (h : RawG lo hi w v xs) (h0 : 0 < xs.length) : ∃ g off cap, v = .slice (some ⟨g, off, none⟩) xs.length cap ∧ xs.length ≤ cap ∧ lo ≤ g ∧ g < hi ∧ g < w.heap.size ∧
    ∀ k x, xs[k]? = some x → w.cell? ⟨g, off + k * 6, none⟩ = some (.int .i64 x.L) ∧ w.cell? ⟨g, off + k * 6 + 1, none⟩ = some (.int .i64 x.R) ∧ w.cell? ⟨g, off + k * 6 + 2, none⟩ = some (.int .u64 x.c) ∧
      w.cell? ⟨g, off + k * 6 + 3, none⟩ = some (.int .u64 x.a) ∧ w.cell? ⟨g, off + k * 6 + 4, none⟩ = some (.int .u64 x.b) ∧ w.cell? ⟨g, off + k * 6 + 5, none⟩ = some (.int .u64 x.d) := by
  obtain ⟨g, off, cap, q1, q2, q3, q4, q5, q6⟩ := Rd.form h.1 h0
  refine ⟨g, off, cap, q1, q2, q3, q4, q5, fun k x hx => ?_⟩
  have e : ∀ j u, (rgc x)[j]? = some u → w.cell? ⟨g, off + k * 6 + j, none⟩ = some u := fun j u hu => by
    have := q6 (k * 6 + j) _ (flat_get rgc_len xs k j x _ hx hu)
    rwa [← Nat.add_assoc] at this
  exact ⟨e 0 _ rfl, e 1 _ rfl, e 2 _ rfl, e 3 _ rfl, e 4 _ rfl, e 5 _ rfl⟩
/-- The gate that is made of it, its operands below 2^k. -/
def gm (k : Nat) (r : Rg) : Gt := ⟨(r.L % 2 ^ k).toNat, (r.R % 2 ^ k).toNat, fz r.c, fz r.a, fz r.b, fz r.d⟩
def madeG (l : List Rg) (k n : Nat) : List Gt := (l.take n).map (gm k)
theorem madeG_succ (l : List Rg) (k n : Nat) (x : Rg) (h : l[n]? = some x) : madeG l k (n + 1) = madeG l k n ++ [gm k x] := by
  unfold madeG
  rw [List.take_add_one, h]
  simp
theorem madeG_length (l : List Rg) (k n : Nat) (h : n ≤ l.length) : (madeG l k n).length = n := by simp [madeG]; omega
theorem i64_mask (x : Int) (_h : Num x) (k : Nat) (hk : k ≤ 3) : bits .and .i64 x (2 ^ k - 1) = ((x % 2 ^ k).toNat : Int) := by
  have key : (BitVec.ofInt 64 x).toNat % 2 ^ k = (x % 2 ^ k).toNat := by
    rw [BitVec.toNat_ofInt]
    have : k = 0 ∨ k = 1 ∨ k = 2 ∨ k = 3 := by omega
    rcases this with rfl | rfl | rfl | rfl <;> simp <;> omega
  have hm : (BitVec.ofInt 64 ((2 : Int) ^ k - 1)).toNat = 2 ^ k - 1 := by
    have : k = 0 ∨ k = 1 ∨ k = 2 ∨ k = 3 := by omega
    rcases this with rfl | rfl | rfl | rfl <;> rfl
  show IntKind.i64.wrap ((BitVec.ofInt 64 x &&& BitVec.ofInt 64 ((2 : Int) ^ k - 1)).toNat : Int) = _
  rw [BitVec.toNat_and, hm, Nat.and_two_pow_sub_one_eq_mod, key, IntKind.wrap_i64]
  have : x % 2 ^ k < 8 ∧ 0 ≤ x % 2 ^ k := by
    have : k = 0 ∨ k = 1 ∨ k = 2 ∨ k = 3 := by omega
    rcases this with rfl | rfl | rfl | rfl <;> simp <;> omega
  omega
theorem rRedF (x : Int) (h : Word x) (w : World) : Calls Tryd.prog 35 #[.int .u64 x] w (Ret (.int .u64 (fv (fz x))) w) := by
  rw [fv_fz]
  exact ret_of_same (rRed x h.1 h.2 w)
end Go.Proofs.YtnfiomccgakooaaDoor
