/-
  SHA-256 of the reference: the constants, the beginning, one block.
-/
import Derived.Test.YtoiampgfnidfdaaGreatDoorCo3
import Derived.Test.YtoiampgfnidfdaaGreatDoorSeq
import Derived.Deep.Upon
import Derived.Deep.AppendSrc
import Derived.WalkMore
import Derived.Deep.Cut
import Derived.Deep.MidRow
set_option maxRecDepth 100000
set_option maxHeartbeats 8000000
namespace Go.Proofs.YtoiampgfnidfdaaGreatDoor
open Go.RowKit
section
open Go.RowKit

structure Put (w X : World) (g : Nat) : Prop where
 os : X.os = w.os
 tape : X.tape = w.tape
 output : X.output = w.output
 size : X.heap.size = w.heap.size
 other : ∀ k, k ≠ g → X.heap[k]? = w.heap[k]?
theorem Put.refl (w : World) (g : Nat) : Put w w g := ⟨rfl, rfl, rfl, rfl, fun _ _ => rfl⟩
theorem Put.trans {a b c : World} {g : Nat} (h : Put a b g) (k : Put b c g) : Put a c g := ⟨k.os.trans h.os, k.tape.trans h.tape, k.output.trans h.output, k.size.trans h.size, fun i hi => (k.other i hi).trans (h.other i hi)⟩
theorem Put.set (w : World) (g i : Nat) (v : Value) : Put w (w.setCell ⟨g, i, none⟩ v) g := ⟨rfl, rfl, rfl, by simp [World.setCell], fun k hk => Below.heap_setCell w ⟨g, i, none⟩ v k hk⟩
theorem Put.below {w X : World} {g N : Nat} (h : Put w X g) (hN : N ≤ g) : Below N w X := ⟨h.os, h.tape, h.output, by rw [h.size]; exact Nat.le_refl _, fun k hk => h.other k (by omega)⟩
theorem Put.blk {w X : World} {g b : Nat} {t : TypeId} {cs : Array Value} (h : Put w X g) (hb : Blk w b t cs) (hne : b ≠ g) : Blk X b t cs := (h.other b hne).trans hb
theorem Put.rd {w X : World} {g lo hi size n : Nat} {v : Value} {cs : List Value} (h : Put w X g) (hr : Rd lo hi size w v n cs) (hne : g < lo ∨ hi ≤ g) : Rd lo hi size X v n cs :=
 hr.other (by rw [h.size]; exact Nat.le_refl _) fun k h1 h2 _ => h.other k (by omega)
theorem J2 {N : Nat} {a w X : World} {g : Nat} (h : Below N a w) (p : Put w X g) (hN : N ≤ g) : Below N a X := h.trans (p.below hN)

def spl (cs : Array Value) : Nat → List Value → Array Value
 | _, [] => cs
 | i, v :: vs => spl (cs.setIfInBounds i v) (i + 1) vs
theorem J7w {g : Nat} {t : TypeId} : ∀ (vs : List Value) (i : Nat) (cs : Array Value) (w : World), Blk w g t cs → Put w (w.setCells g i vs) g ∧ Blk (w.setCells g i vs) g t (spl cs i vs)
 | [], i, cs, w, h => ⟨Put.refl _ _, h⟩
 | v :: vs, i, cs, w, h => by
  obtain ⟨h1, h2⟩ := J7w vs (i + 1) (cs.setIfInBounds i v) (w.setCell ⟨g, i, none⟩ v) (h.set_ i v)
  exact ⟨(Put.set w g i v).trans h1, h2⟩
theorem J6 {P : Program} {ops : Array Oper} {rest : List Oper} {o : Oper} {a : Act} {w : World} {Q : Exit → Act → World → Prop} {g i : Nat} {t : TypeId} {cs new : Array Value} {cells : List Value} (hgd : o.guard = none) (ty : TypeId) (x y : Operand) (ho : o.op = .store ty x y)
  (hx : a.eval x = .pointer (some ⟨g, i, none⟩)) (hy : a.eval y = .agg cells.toArray) (hb : Blk w g t cs) (hi : i + cells.length ≤ cs.size) (hz : (P.info? ty).map (·.size) = some cells.length) (h1 : cells.all (·.oneCell') = true) (hn : spl cs i cells = new)
  (h : ∀ X, Put w X g → Blk X g t new → wpList P ops Q rest (a.put o.dst undef) X) : wpList P ops Q (o :: rest) a w := by
 refine wpList_store_mid hgd ty x y ho g i cells.toArray hx hy ?_ (by simpa using hz) (by simpa using h1) ?_
 ·
  intro j hj
  refine ⟨?_, hb.frozen _⟩
  rw [hb.cell]
  simp only [List.size_toArray] at hj
  rw [Array.getElem?_eq_getElem (by omega)]
  rfl
 ·
  obtain ⟨q1, q2⟩ := J7w cells i cs w hb
  rw [hn] at q2
  exact h _ q1 q2
section
variable {M : World → Prop} {w : World} {g : Nat} {t : TypeId} {cs : Array Value}
theorem set1 {i : Nat} {v : Value} (b : Blk w g t cs) (h : ∀ X, Put w X g → Blk X g t (cs.setIfInBounds i v) → M X) : M (w.setCell ⟨g, i, none⟩ v) := h _ (Put.set w g i v) (b.set_ i v)
end
end
section
open Go.RowKit

theorem Jb8 (p : List E) (x : E) (k : Nat) (h : k < p.length) : (p ++ [x]).getD k 0 = p.getD k 0 := by simp [List.getD, List.getElem?_append_left h]
theorem Jb9 (p : List E) (x : E) : (p ++ [x]).getD p.length 0 = x := by simp [List.getD]
theorem Jck (p : List E) (x : E) (i : Nat) : ∀ k, k ≤ p.length → wt (p ++ [x]) i k = wt p i k
 | 0, _ => rfl
 | k + 1, h => by rw [wt, wt, Jck p x i k (by omega), Jb8 p x k (by omega)]
/-! ### Rows of the call's own -/
end
section
open Go.RowKit
attribute [local go_sem] Oper.semAt_some

end
section
open Go.RowKit

theorem Jf6 {w a b : World} {row : Option Nat} (h : w.grownBy a row) (k : Below a.heap.size a b) : w.grownBy b row :=
 ⟨k.os.trans h.os, k.tape.trans h.tape, k.output.trans h.output, Nat.le_trans h.size k.size, fun i hi hr => (k.block i (Nat.lt_of_lt_of_le hi h.size)).trans (h.block i hi hr)⟩
end
section
open Go.RowKit

theorem Ja4 {X W : World} {row : Option Nat} {b : Nat} {t : TypeId} {cs : Array Value} (h : X.grownBy W row) (hb : Blk X b t cs) (hne : some b ≠ row) : Blk W b t cs := (h.block b hb.lt hne).trans hb
theorem Jbm (X : World) (row : Option Nat) : X.grownBy X row := ⟨rfl, rfl, rfl, Nat.le_refl _, fun _ _ _ => rfl⟩
theorem Jbn {X a b : World} {g0 : Nat} {row : Option Nat} (h : X.grownBy a (some g0)) (k : a.grownBy b row) (hr : ∀ g, row = some g → g = g0 ∨ X.heap.size ≤ g) : X.grownBy b (some g0) :=
 ⟨k.os.trans h.os, k.tape.trans h.tape, k.output.trans h.output, Nat.le_trans h.size k.size, fun i hi hne =>
  (k.block i (Nat.lt_of_lt_of_le hi h.size) (fun e => by
   rcases hr i e.symm with h1 | h1
   · exact hne (by rw [h1])
   · omega)).trans (h.block i hi hne)⟩
def OwnAt (X : World) (g0 : Nat) (v : Value) : Prop := ∀ g, v.ownBlock = some g → g = g0 ∨ X.heap.size ≤ g
theorem Jf7 {P : Program} {ops : Array Oper} {rest : List Oper} {o : Oper} {a : Act} {Q : Exit → Act → World → Prop} {X0 X : World} {n g0 base k size bytes : Nat} {t e : TypeId} {i : TypeInfo} {z : Value} {cl cs : List Value} {u : Value} (hgd : o.guard = none) (s x : Operand)
  (ho : o.op = .call { callee := .builtin .append, args := #[s, x], argTypes := #[t, t] }) (ht : P.underlying t = some (.slice e)) (hi : P.info? e = some i) (hz : i.zero = some z) (hsize : i.size = size) (hby : i.bytes = bytes) (hzs : z.cells.size = size) (hsz : 0 < size)
  (hcl : cl.length = 1 * size) (h1 : ∀ u ∈ cl, u.oneCell' = true) (hs : a.eval s = u) (hx : a.eval x = .slice (some ⟨n, 0, none⟩) 1 1) (hown : X.ownsRow base e size u k cs) (hat : OwnAt X0 g0 u) (hgr : X0.grownBy X (some g0)) (hsrc : Blk X n e cl.toArray) (hk : k + 1 ≤ maxLen) (hk2 : (k + 1) * bytes ≤ 140737488355328) (hbase : base ≤ X.heap.size)
  (h : ∀ v' w', w'.ownsRow base e size v' (k + 1) (cs ++ cl) → OwnAt X0 g0 v' → X0.grownBy w' (some g0) → wpList P ops Q rest (a.put o.dst v') w') : wpList P ops Q (o :: rest) a X := by
 refine wpList_append_own_at X hgd s x t ho base e i z size bytes ht hi hz hsize hby hzs hsz u k cs hs hown ⟨n, 0, none⟩ 1 1 cl hx hcl (J7u hsrc) h1 hk hk2 hbase ?_
 intro v' w' hown' hgrow _ hat'
 refine h v' w' hown' (fun g hg => ?_) (Jbn hgr hgrow hat)
 rcases hat' with h2 | h2
 · exact hat g (by rw [← h2]; exact hg)
 ·
  rw [h2] at hg
  cases hg
  exact .inr hgr.size
theorem J2w {P : Program} {o : Oper} {a : Act} {w : World} {t e : TypeId} {ie : TypeInfo} {z : Value} (hu : P.underlying t = some (.slice e)) (hie : P.info? e = some ie) (_hz : ie.zero = some z)
  (ho : o.op = .buildSlice t 0 #[]) : stepAt P o a w (fun v w' => Lit e 0 #[] w.heap.size w'.heap.size v w' ∧ Below w.heap.size w w') := by
 have hr : (Instr.buildSlice t 0 #[]).run P w = .ok (.slice (some ⟨w.heap.size, 0, none⟩) 0 0) (w.alloc (.cells #[] e)) := by
  simp [Instr.buildSlice, run_underlying hu, sizeOf, typeInfo, hie, newRow, Instr.fill]
  rw [show Array.map (fun (_ : Nat) => (default : Value)) (Array.range 0) = #[] from Array.eq_empty_of_size_eq_zero (by simp)]
 unfold stepAt execOp
 simp only [ho, Sem.run_bind, List.map_toArray, List.map_nil, hr, Result.andThen_ok]
 exact ⟨⟨rfl, by simp only [World.size_alloc]; omega, Blk.new _ _ _⟩, (Below.refl _ _).alloc (Nat.le_refl _) _⟩
theorem Jn5 {P : Program} {ops : Array Oper} {rest : List Oper} {o : Oper} {a : Act} {Q : Exit → Act → World → Prop} {X0 X : World} {g0 base k m lo hi2 size bytes : Nat} {t e : TypeId} {i : TypeInfo} {z : Value} {cl cs : List Value} {u v2 : Value} (hgd : o.guard = none) (s x : Operand)
  (ho : o.op = .call { callee := .builtin .append, args := #[s, x], argTypes := #[t, t] }) (ht : P.underlying t = some (.slice e)) (hi : P.info? e = some i) (hz : i.zero = some z) (hsize : i.size = size) (hby : i.bytes = bytes) (hzs : z.cells.size = size) (hsz : 0 < size)
  (h1 : ∀ u ∈ cl, u.oneCell' = true) (hs : a.eval s = u) (hx : a.eval x = v2) (hr : Rd lo hi2 size X v2 m cl) (hown : X.ownsRow base e size u k cs) (hat : OwnAt X0 g0 u) (hgr : X0.grownBy X (some g0)) (hk : k + m ≤ maxLen) (hk2 : (k + m) * bytes ≤ 140737488355328) (hbase : base ≤ X.heap.size)
  (h : ∀ v' w', w'.ownsRow base e size v' (k + m) (cs ++ cl) → OwnAt X0 g0 v' → X0.grownBy w' (some g0) → wpList P ops Q rest (a.put o.dst v') w') : wpList P ops Q (o :: rest) a X := by
 by_cases hm : m = 0
 ·
  subst hm
  have hcl : cl = [] := List.eq_nil_of_length_eq_zero (by rw [hr.1]; omega)
  subst hcl
  obtain ⟨A2, cap2, rfl⟩ := hr.len
  obtain ⟨A, cap, hu, hc⟩ : ∃ A cap, u = .slice A k cap ∧ k ≤ cap := by
   rcases hown.2 with ⟨rfl, rfl⟩ | ⟨g, cap, cur, rfl, _, _, q, _⟩
   · exact ⟨none, 0, rfl, Nat.le_refl _⟩
   · exact ⟨_, cap, rfl, q⟩
  have hlc : ∀ (b : Addr) (W : World), (loadCells b 0).run P W = .ok #[] W := fun b W => run_loadCells_list (P := P) W b [] (fun j v hv => by simp at hv)
  have src : Src P i.size t (.slice A2 0 cap2) 0 [] X := ⟨.inl ⟨e, ht⟩, fun w' => by simp [Builtin.lenOf], by cases A2 <;> simp [Builtin.firstCells, hlc], by cases A2 <;> simp [Builtin.firstCells, hlc], by simp, fun u hu => by cases hu⟩
  have hrun := run_append_nothing (P := P) X t t o.type e i ht hi A k cap hc (.slice A2 0 cap2) src
  refine wpList_plain hgd fun K hK => ?_
  unfold Oper.wp execOp
  rw [hu] at hs
  simp only [ho, resolve, invoke, builtin, Sem.run_bind, Sem.run_pure, Result.andThen_ok, List.map_toArray, List.map_cons, List.map_nil, hs, hx, hrun]
  rw [← hu]
  exact hK _ _ (h u X (by simpa using hown) hat hgr)
 ·
  obtain ⟨g, off, cap2, rfl, _, _, _, _, hcells⟩ := hr.form (by omega)
  refine wpList_append_own_at X hgd s x t ho base e i z size bytes ht hi hz hsize hby hzs hsz u k cs hs hown ⟨g, off, none⟩ m cap2 cl hx hr.1 (fun j v hv => by rw [Addr.add_mid]; exact hcells j v hv) h1 hk hk2 hbase ?_
  intro v' w' hown' hgrow _ hat'
  refine h v' w' hown' (fun g hg => ?_) (Jbn hgr hgrow hat)
  rcases hat' with h2 | h2
  · exact hat g (by rw [← h2]; exact hg)
  ·
   rw [h2] at hg
   cases hg
   exact .inr hgr.size
theorem J21 {P : Program} {ops : Array Oper} {rest : List Oper} {o : Oper} {a : Act} {Q : Exit → Act → World → Prop} {X : World} {base k m lo hi2 size bytes : Nat} {t e : TypeId} {i : TypeInfo} {z : Value} {cl cs : List Value} {u v2 : Value} (hgd : o.guard = none) (s x : Operand)
  (ho : o.op = .call { callee := .builtin .append, args := #[s, x], argTypes := #[t, t] }) (ht : P.underlying t = some (.slice e)) (hi : P.info? e = some i) (hz : i.zero = some z) (hsize : i.size = size) (hby : i.bytes = bytes) (hzs : z.cells.size = size) (hsz : 0 < size)
  (h1 : ∀ u ∈ cl, u.oneCell' = true) (hs : a.eval s = u) (hx : a.eval x = v2) (hr : Rd lo hi2 size X v2 m cl) (hown : X.ownsRow base e size u k cs) (hk : k + m ≤ maxLen) (hk2 : (k + m) * bytes ≤ 140737488355328) (hbase : base ≤ X.heap.size)
  (h : ∀ v' w', w'.ownsRow base e size v' (k + m) (cs ++ cl) → X.grownBy w' u.ownBlock → Below base X w' → wpList P ops Q rest (a.put o.dst v') w') : wpList P ops Q (o :: rest) a X := by
 by_cases hm : m = 0
 ·
  subst hm
  have hcl : cl = [] := List.eq_nil_of_length_eq_zero (by rw [hr.1]; omega)
  subst hcl
  obtain ⟨A2, cap2, rfl⟩ := hr.len
  obtain ⟨A, cap, hu, hc⟩ : ∃ A cap, u = .slice A k cap ∧ k ≤ cap := by
   rcases hown.2 with ⟨rfl, rfl⟩ | ⟨g, cap, cur, rfl, _, _, q, _⟩
   · exact ⟨none, 0, rfl, Nat.le_refl _⟩
   · exact ⟨_, cap, rfl, q⟩
  have hlc : ∀ (b : Addr) (W : World), (loadCells b 0).run P W = .ok #[] W := fun b W => run_loadCells_list (P := P) W b [] (fun j v hv => by simp at hv)
  have src : Src P i.size t (.slice A2 0 cap2) 0 [] X := ⟨.inl ⟨e, ht⟩, fun w' => by simp [Builtin.lenOf], by cases A2 <;> simp [Builtin.firstCells, hlc], by cases A2 <;> simp [Builtin.firstCells, hlc], by simp, fun u hu => by cases hu⟩
  have hrun := run_append_nothing (P := P) X t t o.type e i ht hi A k cap hc (.slice A2 0 cap2) src
  refine wpList_plain hgd fun K hK => ?_
  unfold Oper.wp execOp
  rw [hu] at hs
  simp only [ho, resolve, invoke, builtin, Sem.run_bind, Sem.run_pure, Result.andThen_ok, List.map_toArray, List.map_cons, List.map_nil, hs, hx, hrun]
  rw [← hu]
  exact hK _ _ (h u X (by simpa using hown) (Jbm _ _) (Below.refl _ _))
 ·
  obtain ⟨g, off, cap2, rfl, _, _, _, _, hcells⟩ := hr.form (by omega)
  refine wpList_append_own _ hgd s x t ho base e i z size bytes ht hi hz hsize hby hzs hsz u k cs hs hown ⟨g, off, none⟩ m cap2 cl hx hr.1 (fun j v hv => by rw [Addr.add_mid]; exact hcells j v hv) h1 hk hk2 hbase ?_
  intro v' w' hown' hgrow _
  exact h v' w' hown' hgrow ((Below.refl _ _).grown hgrow hbase (fun g hg => (Jk hown hg).1))
theorem J29 {P : Program} {ops : Array Oper} {rest : List Oper} {o : Oper} {a : Act} {Q : Exit → Act → World → Prop} {X : World} {n base k size bytes : Nat} {t e : TypeId} {i : TypeInfo} {z : Value} {cl cs : List Value} {u : Value} (hgd : o.guard = none) (s x : Operand)
  (ho : o.op = .call { callee := .builtin .append, args := #[s, x], argTypes := #[t, t] }) (ht : P.underlying t = some (.slice e)) (hi : P.info? e = some i) (hz : i.zero = some z) (hsize : i.size = size) (hby : i.bytes = bytes) (hzs : z.cells.size = size) (hsz : 0 < size)
  (hcl : cl.length = 1 * size) (h1 : ∀ u ∈ cl, u.oneCell' = true) (hs : a.eval s = u) (hx : a.eval x = .slice (some ⟨n, 0, none⟩) 1 1) (hown : X.ownsRow base e size u k cs) (hsrc : Blk X n e cl.toArray) (hk : k + 1 ≤ maxLen) (hk2 : (k + 1) * bytes ≤ 140737488355328) (hbase : base ≤ X.heap.size)
  (h : ∀ v' w', w'.ownsRow base e size v' (k + 1) (cs ++ cl) → X.grownBy w' u.ownBlock → Below base X w' → (v'.ownBlock = u.ownBlock ∨ v'.ownBlock = some X.heap.size) → wpList P ops Q rest (a.put o.dst v') w') : wpList P ops Q (o :: rest) a X := by
 refine wpList_append_own_at X hgd s x t ho base e i z size bytes ht hi hz hsize hby hzs hsz u k cs hs hown ⟨n, 0, none⟩ 1 1 cl hx hcl (J7u hsrc) h1 hk hk2 hbase ?_
 intro v' w' hown' hgrow _ hat'
 exact h v' w' hown' hgrow ((Below.refl _ _).grown hgrow hbase (fun g hg => (Jk hown hg).1)) hat'
end
section

structure Trm where
 c : E
 t : List Nat
/-! ### The two ends of a round -/
/-! ### Polynomials -/
end
section

def intE (z : Int) : E := eb (fz z)
/-! ### Inverses of products -/
/-! ### The reference's product -/
/-! ### Interpolation, for at most four values -/
end
section
open Go.RowKit

theorem fNeg (a : Fp) (w : World) : Calls Tryz.prog 149 #[.int .u64 (fv a)] w fun e w' => e = .returned (.int .u64 (fv (0 - a))) ∧ w = w' := by
 have c1 := fun w => fSub 0 a w
 rw [Jag] at c1
 have C1 := Lib.hid c1
 clear c1
 go_enter Tryz.func149, Tryz.ntmps149
 go_wp2_with fail
 refine (C1.out _).mono ?_
 rintro e w' ⟨rfl, rfl⟩
 go_wp2_with fail
 go_ret
 exact ⟨rfl, rfl⟩
end
section
open Go.RowKit

end
section
open Go.RowKit

end
section
open Go.RowKit

end

theorem fFromInt (x : Int) (h1 : -9223372036854775808 ≤ x) (h2 : x ≤ 9223372036854775807) (w : World) : Calls Tryz.prog 131 #[.int .i64 x] w (Ret (.int .u64 (fv (fz x))) w) := by
 by_cases h : x < 0
 ·
  have e1 : fv (fz (-x)) = -x := by rw [fv_fz]; omega
  have e2 : 0 - fz (-x) = fz x := by apply fv_inj; rw [fv_sub, fv_fz, fv_fz, Jag]; omega
  have c1 := fun w => fRed (-x) (by omega) (by omega) w
  have c2 := fun w => fNeg (fz (-x)) w
  rw [show (-x) % 18446744069414584321 = -x by omega] at c1
  rw [e1, e2] at c2
  have C1 := Lib.hid c1
  have C2 := Lib.hid c2
  have hw1 : IntKind.u64.wrap x = x + 18446744073709551616 := by rw [IntKind.wrap_u64]; omega
  have hw2 : IntKind.u64.wrap (-(x + 18446744073709551616)) = -x := by rw [IntKind.wrap_u64]; omega
  clear c1 c2 e1 e2
  go_enter Tryz.func131, Tryz.ntmps131
  go_wp2_with fail
  refine (C1.out _).mono ?_
  rintro e w' ⟨rfl, rfl⟩
  go_wp2_with fail
  refine (C2.out _).mono ?_
  rintro e w' ⟨rfl, rfl⟩
  go_wp2_with fail
  go_ret
  exact ⟨rfl, Below.refl _ _⟩
 ·
  have e1 : fv (fz x) = x := by rw [fv_fz]; omega
  rw [e1]
  have hw1 : IntKind.u64.wrap x = x := by rw [IntKind.wrap_u64]; omega
  clear e1
  go_enter Tryz.func131, Tryz.ntmps131
  go_wp2_with fail
  go_ret
  exact ⟨rfl, Below.refl _ _⟩
theorem eFromBase (c : Fp) (w : World) : Calls Tryz.prog 87 #[.int .u64 (fv c)] w (Ret (ev (eb c)) w) := by
 unfold ev eb
 go_enter Tryz.func87, Tryz.ntmps87
 go_wp2
 refine bodyPost_ret (v := .agg #[.int .u64 (fv c), .int .u64 (fv 0)]) (by simp [results, Tryz.results87, go_sem, fv0]) rfl ⟨rfl, ?_⟩
 exact (Below.refl _ _).alloc (Nat.le_refl _) _
theorem eFromInt (x : Int) (h1 : -9223372036854775808 ≤ x) (h2 : x ≤ 9223372036854775807) (w : World) : Calls Tryz.prog 104 #[.int .i64 x] w (Ret (ev (intE x)) w) := by
 unfold ev
 go_enter Tryz.func104, Tryz.ntmps104
 go_wp2_with fail
 refine J98 fun W hB hz b1 => ?_
 refine (fFromInt x h1 h2 W).mono ?_
 rintro e w2 ⟨rfl, hb⟩
 go_wp2_with fail
 refine (eFromBase (fz x) w2).mono ?_
 rintro e w3 ⟨he, hb3⟩
 unfold ev at he
 subst he
 have b3 := (b1.keep hb).keep hb3
 have e1 := b3.cell
 have e2 := b3.frozen
 go_wp2_with fail
 refine bodyPost_ret (v := .agg #[.int .u64 (fv (intE x).a), .int .u64 (fv (intE x).b)]) (by simp [results, Tryz.results104, go_sem, e1]; exact ⟨rfl, rfl⟩) rfl ⟨rfl, ?_⟩
 have hB2 := hB.trans (hb.mono hB.size)
 exact J4c (hB2.trans (hb3.mono hB2.size)) (Nat.le_refl _)
section
open Go.RowKit

theorem Jdy {o : Oper} {a : Act} {w : World} {x y : Operand} (n : Nat) (hn : n ≤ 1000000) (ho : o.op = .makeSlice 78 x y) (hx : a.eval x = .int .i64 (n : Int)) (hy : a.eval y = .int .i64 (n : Int)) :
  stepAt Tryz.prog o a w (fun v w' => Lit 86 n ((List.replicate n (0 : E)).flatMap ec).toArray w.heap.size w'.heap.size v w' ∧ Below w.heap.size w w') := by
 unfold stepAt execOp
 simp only [ho, hx, hy, Sem.run_bind, mk_ext n hn w, Result.andThen_ok]
 exact ⟨⟨rfl, by simp only [World.size_alloc]; omega, Blk.new _ _ _⟩, (Below.refl _ _).alloc (Nat.le_refl _) _⟩
section
variable {w wr X : World} {n gb ga : Nat} {x : E} {fb fa f' : Nat → E}
end
end
section
open Go.RowKit

section
variable {w : World} {g : Nat} {t : TypeId} {cs : List E} {rest : List Value}
theorem Jdz (x : E) (rest : List Value) (cs : List E) (k : Nat) (hk : k < cs.length) : ((cs.flatMap ec ++ rest).set (k * 2) (.int .u64 (fv x.a))).set (k * 2 + 1) (.int .u64 (fv x.b)) = (cs.set k x).flatMap ec ++ rest := by
 have hl := Jz ec_len cs
 rw [List.set_append_left _ _ (by omega), List.set_append_left _ _ (by rw [List.length_set]; omega), Jb3 x cs k hk]
theorem Jj2 (h : Blk w g t (cs.flatMap ec ++ rest).toArray) (k : Nat) (x : E) (hk : k < cs.length) : Blk ((w.setCell ⟨g, k * 2, none⟩ (.int .u64 (fv x.a))).setCell ⟨g, k * 2 + 1, none⟩ (.int .u64 (fv x.b))) g t ((cs.set k x).flatMap ec ++ rest).toArray := by
 have := (h.set_ (k * 2) (.int .u64 (fv x.a))).set_ (k * 2 + 1) (.int .u64 (fv x.b))
 rw [← Jdz x rest cs k hk]
 simpa using this
theorem Jcl (h : Blk w g t (cs.flatMap ec ++ rest).toArray) {k : Nat} {x : E} (hk : cs[k]? = some x) : w.cell? ⟨g, k * 2, none⟩ = some (.int .u64 (fv x.a)) ∧ w.cell? ⟨g, k * 2 + 1, none⟩ = some (.int .u64 (fv x.b)) := by
 have e0 := J1l ec_len cs k 0 x _ hk rfl
 have e1 := J1l ec_len cs k 1 x _ hk rfl
 have hl := Jz ec_len cs
 have hkl : k < cs.length := (List.getElem?_eq_some_iff.1 hk).1
 refine ⟨?_, ?_⟩
 · rw [h.cell, List.getElem?_toArray, List.getElem?_append_left (by omega)]; simpa using e0
 · rw [h.cell, List.getElem?_toArray, List.getElem?_append_left (by omega)]; simpa using e1
end
theorem Jj3 {w : World} {g : Nat} {t : TypeId} {cs : List E} {rest : List Value} (h : Blk w g t (cs.flatMap ec ++ rest).toArray) {lo hi n cap : Nat} (hn : cs.length = n) (hb : n ≤ 1000000) (hlo : lo ≤ g) (hhi : g < hi) (hc : n ≤ cap) : ExtS lo hi w (.slice (some ⟨g, 0, none⟩) n cap) cs := by
 subst hn
 have hl := Jz ec_len cs
 refine ⟨hl, by omega, _, _, rfl, hc, fun h0 => ⟨g, 0, rfl, hlo, hhi, h.lt, fun j u hj => ?_⟩⟩
 have hjl : j < (cs.flatMap ec).length := (List.getElem?_eq_some_iff.1 hj).1
 rw [Nat.zero_add, h.cell, List.getElem?_toArray, List.getElem?_append_left hjl]
 exact hj
end
section
open Go.RowKit

end
section
open Go.RowKit

theorem Jlj {w w' : World} {base n size g : Nat} {e : TypeId} {v : Value} {xs : List Value} (h : w.ownsRow base e size v n xs) (hp : Put w w' g) (hg : g < base) : w'.ownsRow base e size v n xs := by
 obtain ⟨h1, h2⟩ := h
 refine ⟨h1, h2.imp id ?_⟩
 rintro ⟨b, cap, cur, q1, q2, q3, q4⟩
 exact ⟨b, cap, cur, q1, q2, (hp.other b (by omega)).trans q3, q4⟩
end

theorem Je0 : ∀ (vs : List Value) (pre : List Value), spl (pre ++ vs).toArray pre.length vs = (pre ++ vs).toArray
 | [], pre => rfl
 | v :: vs, pre => by
  have e : ((pre ++ v :: vs).toArray.setIfInBounds pre.length v) = ((pre ++ [v]) ++ vs).toArray := by simp
  rw [spl, e]
  have := Je0 vs (pre ++ [v])
  rw [List.length_append, List.length_singleton] at this
  rw [this]
  simp
theorem Jl {P : Program} {o : Oper} {a : Act} {w : World} {e : TypeId} {ie : TypeInfo} {z : Value} (hie : P.info? e = some ie) (hz : ie.zero = some z) (ho : o.op = .alloc e) :
  stepAt P o a w (fun v w' => v = .pointer (some ⟨w.heap.size, 0, none⟩) ∧ w' = w.alloc (.cells z.cells e)) := by
 unfold stepAt execOp
 simp [ho, Instr.alloc, zeroValue, typeInfo, hie, hz, newVar, newRow, newObj]
 exact ⟨rfl, rfl⟩
theorem J1 {P : Program} {o : Oper} {a : Act} {w : World} {t : TypeId} {x : Operand} {g i : Nat} {cs : List Value} {d : TypeDesc} (hu : P.underlying t = some d) (hd : d.isRow = true) (hi : (P.info? t).map (·.size) = some cs.length) (ho : o.op = .load t x) (hx : a.eval x = .pointer (some ⟨g, i, none⟩)) (hc : w.rangeAt g i cs) :
  stepAt P o a w (fun v' w' => v' = .agg cs.toArray ∧ w' = w) := by
 have h2 := run_loadAt_mid (P := P) w g i t cs d hc hu hd hi
 unfold stepAt execOp
 simp only [ho, hx, Sem.run_bind, h2, Result.andThen_ok]
 exact ⟨rfl, rfl⟩
theorem Jfr : ∀ (vs pre c2 : List Value), c2.length = vs.length → spl (pre ++ c2).toArray pre.length vs = (pre ++ vs).toArray
 | [], pre, c2, h => by
  rw [List.eq_nil_of_length_eq_zero h]
  rfl
 | v :: vs, pre, c :: c2, h => by
  have e : ((pre ++ c :: c2).toArray.setIfInBounds pre.length v) = ((pre ++ [v]) ++ c2).toArray := by simp
  rw [spl, e]
  have := Jfr vs (pre ++ [v]) c2 (by simpa using h)
  rw [List.length_append, List.length_singleton] at this
  rw [this]
  simp
theorem Ja (c2 : Array Value) (cs : List Value) (h : c2.size = cs.length) : spl c2 0 cs = cs.toArray := by
 have := Jfr cs [] c2.toList (by simpa using h)
 simpa using this
theorem Jfs {P : Program} {id : Nat} {o1 o2 o3 : Oper} {Q : Exit → Act → World → Prop} {a : Act} {w : World} (t : TypeId) (i : TypeInfo) (cs : List Value) (x y : Operand)
  (g1 : o1.guard = none) (g2 : o2.guard = none) (g3 : o3.guard = none) (h1 : o1.op = .build t #[]) (h2 : o2.op = .alloc t) (h3 : o3.op = .store t x y)
  (hi : P.info? t = some i) (hz : i.zero = some (.agg cs.toArray)) (hs : i.size = cs.length) (hone : cs.all (·.oneCell') = true) (hb : P.built t [] = some cs.toArray)
  (hx : ∀ u v, ((a.put o1.dst u).put o2.dst v).eval x = v) (hy : ∀ u v, ((a.put o1.dst u).put o2.dst v).eval y = u)
  (H : ∀ X v, Below w.heap.size w X → X.heap.size = w.heap.size + 1 → Blk X w.heap.size t cs.toArray → Q .normal (((a.put o1.dst v).put o2.dst (.pointer (some ⟨w.heap.size, 0, none⟩))).put o3.dst undef) X) :
  (Code.region id #[o1, o2, o3] false).wp P Q a w := by
 refine wp_region_lit (l := [o1, o2, o3]) ?_
 refine wpList_plain g1 fun K hK => wp_build t #[] h1 (by simp [hb]) (hK _ _ ?_)
 refine wpList_plain g2 fun K2 hK2 => Jn (Jb (fun v w' hh => ?_) (Jl hi hz h2))
 obtain ⟨rfl, rfl⟩ := hh
 refine hK2 _ _ ?_
 have hb1 : Blk (w.alloc (.cells (Value.agg cs.toArray).cells t)) w.heap.size t cs.toArray := World.alloc_heap_new w _
 simp only [List.map_toArray, List.map_nil, hb, Option.getD_some]
 have e := Je0 cs []
 simp only [List.nil_append, List.length_nil] at e
 refine J6 g3 t x y h3 (g := w.heap.size) (i := 0) (hx _ _) (hy _ _) hb1 (by simp) (by rw [hi]; simp [hs]) hone e fun X hX bX => ?_
 exact H X _ (J2 ((Below.refl _ _).alloc (Nat.le_refl _) _) hX (Nat.le_refl _)) (by rw [hX.size]; simp) bX
theorem J4 {w : World} {g : Nat} {t : TypeId} {cs : List Value} (hb : Blk w g t cs.toArray) : w.rangeAt g 0 cs := fun j v hv => by
 rw [Nat.zero_add, hb.cell]
 simpa using hv
theorem J9e {P : Program} {id : Nat} {o1 o2 : Oper} {Q : Exit → Act → World → Prop} {a : Act} {w : World} (t : TypeId) (cs : List Value) (x y z : Operand) (d : TypeDesc) {g1 g2 : Nat} {t1 t2 : TypeId} {c2 : Array Value}
  (k1 : o1.guard = none) (k2 : o2.guard = none) (h1 : o1.op = .load t x) (h2 : o2.op = .store t y z) (hu : P.underlying t = some d) (hd : d.isRow = true) (hi : (P.info? t).map (·.size) = some cs.length) (hone : cs.all (·.oneCell') = true)
  (hx : a.eval x = .pointer (some ⟨g1, 0, none⟩)) (hy : ∀ u, (a.put o1.dst u).eval y = .pointer (some ⟨g2, 0, none⟩)) (hz : ∀ u, (a.put o1.dst u).eval z = u) (hb1 : Blk w g1 t1 cs.toArray) (hb2 : Blk w g2 t2 c2) (hs : c2.size = cs.length)
  (H : ∀ X v, Put w X g2 → Blk X g2 t2 cs.toArray → Q .normal ((a.put o1.dst v).put o2.dst undef) X) :
  (Code.region id #[o1, o2] false).wp P Q a w := by
 refine wp_region_lit (l := [o1, o2]) ?_
 refine wpList_plain k1 fun K hK => Jn (Jb (fun v w' hh => ?_) (J1 hu hd hi h1 hx (J4 hb1)))
 obtain ⟨rfl, rfl⟩ := hh
 refine hK _ _ ?_
 have e : spl c2 0 cs = cs.toArray := Ja c2 cs hs
 refine J6 k2 t y z h2 (hy _) (hz _) hb2 (by omega) hi hone e fun X hX bX => ?_
 exact H X _ hX bX
theorem Jv {P : Program} {fn : Func} {a : Act} {w : World} {s : Tmp} {t : TypeId} {g : Nat} {t1 : TypeId} {cs : List Value} {d : TypeDesc} (hres : fn.results = #[.cell s t]) (hp : a.tmps[s]? = some (.pointer (some ⟨g, 0, none⟩)))
  (hu : P.underlying t = some d) (hd : d.isRow = true) (hi : (P.info? t).map (·.size) = some cs.length) (hb : Blk w g t1 cs.toArray) : (results fn a.tmps).run P w = .ok (.agg cs.toArray) w := by
 simp [results, hres, hp, Sem.run_bind, asAddr, run_loadVar_mid w g 0 t cs d (J4 hb) hu hd hi]
section
open Go.RowKit

theorem J14 : En Tryz.prog 158 := enters_of Tryz.func158 (by kernel_rfl) rfl
theorem rRot (x : B32) (n : Nat) (h0 : 0 < n) (hn : n < 32) (w : World) : Calls Tryz.prog 158 #[.int .u32 (bv x), .int .i64 (n : Int)] w (Ret (.int .u32 (bv (rotr x n))) w) := by
 obtain ⟨m, hm⟩ : ∃ m, m = 32 - n := ⟨_, rfl⟩
 have hmi : (32 : Int) - (n : Int) = (m : Int) := by omega
 have hm32 : m < 32 := by omega
 obtain ⟨b0, b1⟩ := bv_lt x
 have HR := Lib.hid (show bits .or .u32 (bv x / 2 ^ n) (IntKind.u32.wrap (bv x * 2 ^ m)) = bv (rotr x n) by rw [bv_shr, bv_shl, bv_or, hm]; rfl)
 clear hm
 go_enter Tryz.func158, Tryz.ntmps158
 go_wp2_with fail
 refine Jd 8 [] (by kernel_rfl) (by kernel_rfl) (by kernel_rfl) trivial ?_
 iterate 8 (refine rg_det rfl rfl rfl (fun K hK => ?_); go_big_quiet_op; refine hK _ ?_; clear hK K)
 refine rg_nil (fun w' hw' hF => ?_)
 obtain ⟨z, rfl⟩ := hw'
 simp only [List.drop_succ_cons, List.drop_zero]
 clear hF
 go_wp2_with fail
 rw [← IntKind.wrap_u32', HR.out]
 go_ret
 exact ⟨rfl, z.h⟩
theorem J7n (x y : B32) : (bv x + bv y) % 4294967296 = bv (x + y) := by rw [← IntKind.wrap_u32', bv_add]
theorem Jlk (x : B32) : (4294967295 - bv x) % 4294967296 = bv (~~~x) := by rw [← IntKind.wrap_u32', bv_not]
def schK (b : List Nat) (k : Nat) : List B32 := if k ≤ 16 then words16 b k else schN (words16 b 16) (k - 16)
theorem J1e (b : List Nat) (k : Nat) : (schK b k).length = k := by
 unfold schK
 split
 · exact J6o b k
 · rw [J8r, J6o]; omega
theorem Je1 (b : List Nat) (k : Nat) (h : k < 16) : schK b (k + 1) = schK b k ++ [word4 b k] := by
 unfold schK
 rw [if_pos (by omega), if_pos (by omega), Jdt]
theorem Jcm (b : List Nat) (k : Nat) (h : 16 ≤ k) : schK b (k + 1) = schK b k ++ [(schK b k).getD (k - 16) 0 + sg0 ((schK b k).getD (k - 15) 0) + (schK b k).getD (k - 7) 0 + sg1 ((schK b k).getD (k - 2) 0)] := by
 obtain ⟨j, rfl⟩ : ∃ j, k = 16 + j := ⟨k - 16, by omega⟩
 have e : schK b (16 + j) = schN (words16 b 16) j := by
  unfold schK
  split
  ·
   obtain rfl : j = 0 := by omega
   rfl
  · rw [Nat.add_sub_cancel_left]
 rw [e]
 unfold schK
 rw [if_neg (by omega), show 16 + j + 1 - 16 = j + 1 by omega, schN]
 rw [show 16 + j - 16 = j by omega, show 16 + j - 15 = j + 1 by omega, show 16 + j - 7 = j + 9 by omega, show 16 + j - 2 = j + 14 by omega]
theorem Je2 (b : List Nat) : schK b 64 = sched b := by
 unfold schK sched
 rw [if_neg (by decide)]
theorem Jll : bv 0 = 0 := rfl
def zl (n : Nat) : List Value := List.replicate n (.int .u32 0)
theorem Jcn (n : Nat) : arrN n [] = zl n := by
 unfold arrN u32c zl
 rw [List.length_nil, List.nil_append, Nat.sub_zero, List.map_replicate, Jll]
theorem Jba : (Tryz.prog.info? 188).map (fun i => (i.zero, i.size, i.bytes)) = some (some (.agg (zl 64).toArray), 64, 256) := by kernel_rfl
theorem Jhp : Tryz.prog.built 188 [] = some (zl 64).toArray := by kernel_rfl
theorem zl_len (n : Nat) : (zl n).length = n := by simp [zl]
theorem zl_one (n : Nat) : (zl n).all (·.oneCell') = true := by simp [zl]; exact .inr rfl
theorem Jco (b : List Nat) : schK b 0 = [] := by
 unfold schK
 rw [if_pos (by decide)]
 rfl
theorem J55 : En Tryz.prog 156 := enters_of Tryz.func156 (by kernel_rfl) rfl
theorem J6q (l : List B32) : (u32c l).all (·.oneCell') = true := by
 unfold u32c
 rw [List.all_map]
 exact List.all_eq_true.2 fun _ _ => rfl
theorem J2h (l : List B32) : (u32c l).length = l.length := by unfold u32c; rw [List.length_map]
theorem J5j : (Tryz.prog.info? 188).map (·.size) = some 64 := by kernel_rfl
theorem J73 : Tryz.prog.underlying 188 = some (.array 64 169) := by kernel_rfl
def arrV (l : List B32) : Value := .agg (u32c l).toArray
theorem Jc0 (a b c d : B32) : (bv a + bv b + bv c + bv d) % 4294967296 = bv (a + b + c + d) := by
 unfold bv
 rw [BitVec.toNat_add, BitVec.toNat_add, BitVec.toNat_add]
 omega
theorem Jlm (v16 v15 v7 v2 : B32) : (bv v16 + bits .xor .u32 (bits .xor .u32 (bv (rotr v15 7)) (bv (rotr v15 18))) (bv v15 / 8) + bv v7 + bits .xor .u32 (bits .xor .u32 (bv (rotr v2 17)) (bv (rotr v2 19))) (bv v2 / 1024)) % 4294967296 = bv (v16 + sg0 v15 + v7 + sg1 v2) := by
 have h3 := bv_shr v15 3
 have h10 := bv_shr v2 10
 rw [show (2 : Int) ^ 3 = 8 by decide] at h3
 rw [show (2 : Int) ^ 10 = 1024 by decide] at h10
 rw [h3, h10, bv_xor, bv_xor, bv_xor, bv_xor, Jc0]
 rfl
attribute [local irreducible] wpRg
theorem rSched (b : List Nat) (hb : b.length = 64) (hb8 : ∀ x ∈ b, x < 256) (v : Value) (lo hi : Nat) (w : World) (h : ByS lo hi w v b) : Calls Tryz.prog 156 #[v] w (Ret (arrV (sched b)) w) := by
 obtain ⟨g, off, cap, rfl, -, -, -, lg, qg⟩ := J4n h (by omega)
 rw [hb]
 have HQ := Lib.hid qg
 have HB := Lib.hid hb
 have H8 := Lib.hid hb8
 clear h hb hb8 qg
 go_enter Tryz.func156, Tryz.ntmps156
 obtain ⟨i64', hi64, iz0, iz1, iz2⟩ := info_parts Jba
 go_upto_region 1 with (fail)
 refine J13 fun W hB hz b2 => ?_
 obtain ⟨cs0, hcs0, b2'⟩ : ∃ cs : Array Value, cs.size = 64 ∧ Blk W w.heap.size 188 cs := ⟨_, rfl, b2⟩
 have hWs : W.heap.size = w.heap.size + 1 := hz.out
 clear b2 hz
 refine Jfs 188 i64' (zl 64) _ _ rfl rfl rfl rfl rfl rfl hi64 iz0 (by rw [iz1, zl_len]) (zl_one 64) Jhp (fun _ _ => rfl) (fun _ _ => rfl) fun X v7 hX hXs b3 => ?_
 have hB3 := hB.trans (hX.mono hB.size)
 have b3' : Blk X W.heap.size 188 (arrN 64 (schK b 0)).toArray := by rw [Jco, Jcn]; exact b3
 have b2X := b2'.keep hX
 obtain ⟨g3, hg3⟩ : ∃ g, g = W.heap.size := ⟨_, rfl⟩
 rw [← hg3] at b3' ⊢
 have hg3a : w.heap.size < g3 := by omega
 clear b3 b2' hg3 hWs hXs hB hX
 go_wp2_with fail
 go_loopw [4] (fun i wr => ∃ k : Nat, k ≤ 64 ∧ i = .int .i64 k ∧ Blk wr g3 188 (arrN 64 (schK b k)).toArray ∧ (∃ cs, Blk wr w.heap.size 188 cs ∧ cs.size = 64) ∧ Below w.heap.size w wr) (fun i _ => 64 - (intOf i).toNat)
 case atStart => exact ⟨0, Nat.zero_le _, rfl, b3', ⟨cs0, b2X, hcs0⟩, hB3⟩
 case round =>
  obtain ⟨k, hk, rfl, b3, ⟨cs, b2, hcs⟩, hBr⟩ := hrel
  by_cases hlt : k < 64
  ·
   by_cases h16 : k < 16
   ·
    have q : ∀ j, j < 4 → ∃ x : Nat, b[4 * k + j]? = some x ∧ x < 256 ∧ wr.cell? ⟨g, off + (4 * k + j), none⟩ = some (.int .u8 (x : Int)) := fun j hj => by
     obtain ⟨x, hx⟩ : ∃ x, b[4 * k + j]? = some x := ⟨_, List.getElem?_eq_getElem (by rw [HB.out]; omega)⟩
     exact ⟨x, hx, H8.out x (List.mem_of_getElem? hx), (hBr.cell (p := ⟨g, off + (4 * k + j), none⟩) lg).trans (HQ.out _ x hx)⟩
    obtain ⟨x0, hx0, l0, d0⟩ := q 0 (by decide)
    obtain ⟨x1, hx1, l1, d1⟩ := q 1 (by decide)
    obtain ⟨x2, hx2, l2, d2⟩ := q 2 (by decide)
    obtain ⟨x3, hx3, l3, d3⟩ := q 3 (by decide)
    rw [Nat.add_zero] at hx0 d0
    have lgr := Nat.lt_of_lt_of_le lg hBr.size
    have f0 := Je lgr d0
    have f1 := Je lgr d1
    have f2 := Je lgr d2
    have f3 := Je lgr d3
    have HW := Lib.hid (show word4 b k = BitVec.ofNat 32 (x0 * 16777216 + x1 * 65536 + x2 * 256 + x3) by
     unfold word4
     simp only [List.getD_eq_getElem?_getD, hx0, hx1, hx2, hx3, Option.getD_some])
    clear q hx0 hx1 hx2 hx3 d0 d1 d2 d3
    go_wp2_with fail
    refine Jd 35 [] (by kernel_rfl) (by kernel_rfl) (by kernel_rfl) trivial ?_
    iterate 35 (refine rg_det rfl rfl rfl (fun K hK => ?_); go_big_quiet_op; refine hK _ ?_; clear hK K)
    refine rg_nil (fun w' hw' hF => ?_)
    obtain ⟨z, rfl⟩ := hw'
    simp only [List.drop_succ_cons, List.drop_zero]
    have b3z := b3.gw z
    have b2z := b2.gw z
    have hBz := hBr.trans (z.h.mono hBr.size)
    have e1 := b3z.frozen
    have e2 : z.w.cell? ⟨g3, k, none⟩ = some (.int .u32 0) := (b3z.cell k).trans (by have := Ja2 64 (schK b k) (by rw [J1e]; exact hlt); rw [J1e] at this; simpa using this)
    have hv : (x0 : Int) * 16777216 + (x1 : Int) * 65536 + (x2 : Int) * 256 + (x3 : Int) = bv (word4 b k) := by
     rw [HW.out, Jb4 _ (by omega)]
     omega
    have HV := Lib.hid hv
    clear hF f0 f1 f2 f3 hv
    go_upto_region 4 with (fail)
    refine set1 (M := fun W => Code.wp _ _ _ _ W) b3z fun X hX bX => ?_
    have b3X : Blk X g3 188 (arrN 64 (schK b (k + 1))).toArray := by
     rw [Je1 b k h16, ← Jb7 64 (schK b k) (word4 b k) (by rw [J1e]; exact hlt), J1e, ← HV.out]
     rw [← List.setIfInBounds_toArray]
     exact bX
    have b2X := hX.blk b2z (by omega)
    have hBX := J2 hBz hX (by omega)
    clear e1 e2 bX b3z b2z
    go_wp2_with fail
    exact ⟨⟨k + 1, by omega, by go_num, b3X, ⟨cs, b2X, hcs⟩, hBX⟩, by simp [intOf]; omega⟩
   ·
    have q : ∀ j, j < k → wr.cell? ⟨g3, j, none⟩ = some (.int .u32 (bv ((schK b k).getD j 0))) := fun j hj => by
     rw [b3.cell]
     have := Jb6 64 (schK b k) j ((schK b k).getD j 0) (by rw [List.getD_eq_getElem?_getD, List.getElem?_eq_getElem (by rw [J1e]; exact hj)]; rfl)
     simpa using this
    have hS := Jcm b k (by omega)
    obtain ⟨v16, e16⟩ : ∃ x, x = (schK b k).getD (k - 16) 0 := ⟨_, rfl⟩
    obtain ⟨v15, e15⟩ : ∃ x, x = (schK b k).getD (k - 15) 0 := ⟨_, rfl⟩
    obtain ⟨v7', e7⟩ : ∃ x, x = (schK b k).getD (k - 7) 0 := ⟨_, rfl⟩
    obtain ⟨v2, e2'⟩ : ∃ x, x = (schK b k).getD (k - 2) 0 := ⟨_, rfl⟩
    have q16 := q (k - 16) (by omega)
    have q15 := q (k - 15) (by omega)
    have q7 := q (k - 7) (by omega)
    have q2 := q (k - 2) (by omega)
    rw [← e16, ← e15, ← e7, ← e2'] at hS
    rw [← e16] at q16
    rw [← e15] at q15
    rw [← e7] at q7
    rw [← e2'] at q2
    have HS := Lib.hid hS
    have l3 := b3.lt
    have f16 := Je l3 q16
    have f15 := Je l3 q15
    have f7 := Je l3 q7
    have f2 := Je l3 q2
    clear q hS e16 e15 e7 e2' q16 q15 q7 q2
    go_wp2_with fail
    refine Jd 9 [] (by kernel_rfl) (by kernel_rfl) (by kernel_rfl) trivial ?_
    iterate 9 (refine rg_det rfl rfl rfl (fun K hK => ?_); go_big_quiet_op; refine hK _ ?_; clear hK K)
    refine rg_nil (fun w' hw' hF => ?_)
    obtain ⟨z, rfl⟩ := hw'
    simp only [List.drop_succ_cons, List.drop_zero]
    have b3z := b3.gw z
    have b2z := b2.gw z
    have hBz := hBr.trans (z.h.mono hBr.size)
    have l3z := b3z.lt
    have y16 := Je (W := z.w) l3z (f16 z)
    have y7 := Je (W := z.w) l3z (f7 z)
    clear hF f16 f15 f7 f2
    go_wp2_with fail
    refine Jd 29 [(6, Spec.val (.int .u32 (bv (rotr v15 7)))), (8, Spec.val (.int .u32 (bv (rotr v15 18)))), (20, Spec.val (.int .u32 (bv (rotr v2 17)))), (22, Spec.val (.int .u32 (bv (rotr v2 19))))] (by kernel_rfl) (by kernel_rfl) (by kernel_rfl) trivial ?_
    iterate 6 (refine rg_det rfl rfl rfl (fun K hK => ?_); go_big_quiet_op; refine hK _ ?_; clear hK K)
    refine rg_val rfl rfl (fun W1 hW1 hF => J7 J14 (rRot v15 7 (by decide) (by decide) W1) rfl rfl) ?_
    intro a' ha
    simp only [PutS] at ha
    subst ha
    refine rg_det rfl rfl rfl (fun K hK => ?_)
    go_big_quiet_op
    refine hK _ ?_; clear hK K
    refine rg_val rfl rfl (fun W1 hW1 hF => J7 J14 (rRot v15 18 (by decide) (by decide) W1) rfl rfl) ?_
    intro a' ha
    simp only [PutS] at ha
    subst ha
    iterate 11 (refine rg_det rfl rfl rfl (fun K hK => ?_); go_big_quiet_op; refine hK _ ?_; clear hK K)
    refine rg_val rfl rfl (fun W1 hW1 hF => J7 J14 (rRot v2 17 (by decide) (by decide) W1) rfl rfl) ?_
    intro a' ha
    simp only [PutS] at ha
    subst ha
    refine rg_det rfl rfl rfl (fun K hK => ?_)
    go_big_quiet_op
    refine hK _ ?_; clear hK K
    refine rg_val rfl rfl (fun W1 hW1 hF => J7 J14 (rRot v2 19 (by decide) (by decide) W1) rfl rfl) ?_
    intro a' ha
    simp only [PutS] at ha
    subst ha
    iterate 6 (refine rg_det rfl rfl rfl (fun K hK => ?_); go_big_quiet_op; refine hK _ ?_; clear hK K)
    refine rg_nil (fun w' hw' hF => ?_)
    obtain ⟨z2, rfl⟩ := hw'
    simp only [List.drop_succ_cons, List.drop_zero]
    have b3y := b3z.gw z2
    have b2y := b2z.gw z2
    have hBy := hBz.trans (z2.h.mono hBz.size)
    have e1 := b3y.frozen
    have e2 : z2.w.cell? ⟨g3, k, none⟩ = some (.int .u32 0) := (b3y.cell k).trans (by have := Ja2 64 (schK b k) (by rw [J1e]; exact hlt); rw [J1e] at this; simpa using this)
    clear hF y16 y7
    go_upto_region 4 with (fail)
    rw [Jlm]
    refine set1 (M := fun W => Code.wp _ _ _ _ W) b3y fun X hX bX => ?_
    have b3X : Blk X g3 188 (arrN 64 (schK b (k + 1))).toArray := by
     rw [HS.out, ← Jb7 64 (schK b k) _ (by rw [J1e]; exact hlt), J1e]
     rw [← List.setIfInBounds_toArray]
     exact bX
    have b2X := hX.blk b2y (by omega)
    have hBX := J2 hBy hX (by omega)
    clear e1 e2 bX b3y b2y b3z b2z
    go_wp2_with fail
    exact ⟨⟨k + 1, by omega, by go_num, b3X, ⟨cs, b2X, hcs⟩, hBX⟩, by simp [intOf]; omega⟩
  ·
   obtain rfl : k = 64 := by omega
   rw [Je2, Jch 64 _ (J1i b)] at b3
   have l9 := b2.lt
   clear HQ HB H8
   go_upto_region 9 with (fail)
   refine J9e 188 (u32c (sched b)) _ _ _ _ rfl rfl rfl rfl J73 rfl (by rw [J5j, J2h, J1i]) (J6q _) rfl (fun _ => rfl) (fun _ => rfl) b3 b2 (by rw [hcs, J2h, J1i]) fun X v hX bX => ?_
   have hBX : Below w.heap.size w X := J2 hBr hX (by omega)
   go_wp2_with fail
   exact bodyPost_ret (v := arrV (sched b)) (Jv (g := w.heap.size) rfl rfl J73 rfl (by rw [J5j, J2h, J1i]) bX) rfl ⟨rfl, hBX⟩
end
section
open Go.RowKit

theorem Jft {P : Program} {id : Nat} {o1 o2 : Oper} {Q : Exit → Act → World → Prop} {a : Act} {w : World} (t : TypeId) (fs : Array (Nat × Operand)) (cs : List Value) (y z : Operand) {g2 : Nat} {t2 : TypeId} {c2 : Array Value}
  (k1 : o1.guard = none) (k2 : o2.guard = none) (h1 : o1.op = .build t fs) (h2 : o2.op = .store t y z) (hb : P.built t (fs.map fun (i, x) => (i, a.eval x)).toList = some cs.toArray) (hi : (P.info? t).map (·.size) = some cs.length) (hone : cs.all (·.oneCell') = true)
  (hy : ∀ u, (a.put o1.dst u).eval y = .pointer (some ⟨g2, 0, none⟩)) (hz : ∀ u, (a.put o1.dst u).eval z = u) (hb2 : Blk w g2 t2 c2) (hs : c2.size = cs.length)
  (H : ∀ X v, Put w X g2 → Blk X g2 t2 cs.toArray → Q .normal ((a.put o1.dst v).put o2.dst undef) X) :
  (Code.region id #[o1, o2] false).wp P Q a w := by
 refine wp_region_lit (l := [o1, o2]) ?_
 refine wpList_plain k1 fun K hK => wp_build t fs h1 (by rw [hb]; rfl) (hK _ _ ?_)
 rw [hb, Option.getD_some]
 have e : spl c2 0 cs = cs.toArray := Ja c2 cs hs
 refine J6 k2 t y z h2 (hy _) (hz _) hb2 (by omega) hi hone e fun X hX bX => ?_
 exact H X _ hX bX
theorem J46 : kTabB.length = 64 := by unfold kTabB; rw [List.length_map]; exact Jf3
theorem J4x : En Tryz.prog 157 := enters_of Tryz.func157 (by kernel_rfl) rfl
attribute [local irreducible] wpRg
theorem rConst (w : World) : Calls Tryz.prog 157 #[] w (Ret (arrV kTabB) w) := by
 go_enter Tryz.func157, Tryz.ntmps157
 go_upto_region 1 with (fail)
 refine J13 fun W hB hz b2 => ?_
 obtain ⟨cs0, hcs0, b2'⟩ : ∃ cs : Array Value, cs.size = 64 ∧ Blk W w.heap.size 188 cs := ⟨_, rfl, b2⟩
 clear b2
 refine Jft 188 _ (u32c kTabB) _ _ rfl rfl rfl rfl (by kernel_rfl) (by rw [J5j, J2h, J46]) (J6q _) (fun _ => rfl) (fun _ => rfl) b2' (by rw [hcs0, J2h, J46]) fun X v hX bX => ?_
 have hBX : Below w.heap.size w X := J2 hB hX (Nat.le_refl _)
 go_wp2_with fail
 exact bodyPost_ret (v := arrV kTabB) (Jv (g := w.heap.size) rfl rfl J73 rfl (by rw [J5j, J2h, J46]) bX) rfl ⟨rfl, hBX⟩
def s8v (s : S8) : Value := .agg s.cells.toArray
theorem J4y : (Tryz.prog.info? 172).map (·.size) = some 8 := by kernel_rfl
theorem J7x : Tryz.prog.underlying 172 = some (.array 8 169) := by kernel_rfl
theorem s8_one (s : S8) : s.cells.all (·.oneCell') = true := rfl
theorem J5b : En Tryz.prog 139 := enters_of Tryz.func139 (by kernel_rfl) rfl
theorem rInit (w : World) : Calls Tryz.prog 139 #[] w (Ret (s8v init8) w) := by
 go_enter Tryz.func139, Tryz.ntmps139
 go_upto_region 1 with (fail)
 refine J13 fun W hB hz b2 => ?_
 obtain ⟨cs0, hcs0, b2'⟩ : ∃ cs : Array Value, cs.size = 8 ∧ Blk W w.heap.size 172 cs := ⟨_, rfl, b2⟩
 clear b2
 refine Jft 172 _ init8.cells _ _ rfl rfl rfl rfl (by kernel_rfl) J4y (s8_one _) (fun _ => rfl) (fun _ => rfl) b2' hcs0 fun X v hX bX => ?_
 have hBX : Below w.heap.size w X := J2 hB hX (Nat.le_refl _)
 go_wp2_with fail
 exact bodyPost_ret (v := s8v init8) (Jv (g := w.heap.size) rfl rfl J7x rfl J4y bX) rfl ⟨rfl, hBX⟩
theorem Jln {P : Program} {id : Nat} {o1 o2 o3 o4 o5 o6 o7 : Oper} {Q : Exit → Act → World → Prop} {a : Act} {w : World} (t : TypeId) (i : TypeInfo) (z cs1 cs2 : List Value) (x6 y6 x7 y7 : Operand) {u1 : Value}
  (g1 : o1.guard = none) (g2 : o2.guard = none) (g3 : o3.guard = none) (g4 : o4.guard = none) (g5 : o5.guard = none) (g6 : o6.guard = none) (g7 : o7.guard = none)
  (s1 : stepAt P o1 a w fun v w' => v = u1 ∧ w' = w)
  (s2 : stepAt P o2 (a.put o1.dst u1) w fun v w' => v = .agg cs1.toArray ∧ Below w.heap.size w w')
  (s3 : ∀ W, Below w.heap.size w W → stepAt P o3 ((a.put o1.dst u1).put o2.dst (.agg cs1.toArray)) W fun v w' => v = .agg cs2.toArray ∧ Below W.heap.size W w')
  (h4 : o4.op = .alloc t) (h5 : o5.op = .alloc t) (h6 : o6.op = .store t x6 y6) (h7 : o7.op = .store t x7 y7)
  (hi : P.info? t = some i) (hz : i.zero = some (.agg z.toArray)) (hs0 : i.size = z.length) (hs1 : cs1.length = z.length) (hs2 : cs2.length = z.length) (one1 : cs1.all (·.oneCell') = true) (one2 : cs2.all (·.oneCell') = true)
  (e6 : ∀ u v, (((((a.put o1.dst u1).put o2.dst (.agg cs1.toArray)).put o3.dst (.agg cs2.toArray)).put o4.dst u).put o5.dst v).eval x6 = u)
  (f6 : ∀ u v, (((((a.put o1.dst u1).put o2.dst (.agg cs1.toArray)).put o3.dst (.agg cs2.toArray)).put o4.dst u).put o5.dst v).eval y6 = .agg cs1.toArray)
  (e7 : ∀ u v, ((((((a.put o1.dst u1).put o2.dst (.agg cs1.toArray)).put o3.dst (.agg cs2.toArray)).put o4.dst u).put o5.dst v).put o6.dst undef).eval x7 = v)
  (f7 : ∀ u v, ((((((a.put o1.dst u1).put o2.dst (.agg cs1.toArray)).put o3.dst (.agg cs2.toArray)).put o4.dst u).put o5.dst v).put o6.dst undef).eval y7 = .agg cs2.toArray)
  (H : ∀ X n, Below w.heap.size w X → w.heap.size ≤ n → Blk X n t cs1.toArray → Blk X (n + 1) t cs2.toArray → Q .normal (((((((a.put o1.dst u1).put o2.dst (.agg cs1.toArray)).put o3.dst (.agg cs2.toArray)).put o4.dst (.pointer (some ⟨n, 0, none⟩))).put o5.dst (.pointer (some ⟨n + 1, 0, none⟩))).put o6.dst undef).put o7.dst undef) X) :
  (Code.region id #[o1, o2, o3, o4, o5, o6, o7] false).wp P Q a w := by
 refine wp_region_lit (l := [o1, o2, o3, o4, o5, o6, o7]) ?_
 refine wpList_plain g1 fun K hK => Jn (Jb (fun v w' hh => ?_) s1)
 obtain ⟨rfl, hw'⟩ := hh
 rw [hw']
 refine hK _ _ (wpList_plain g2 fun K2 hK2 => Jn (Jb (fun v w' hh => ?_) s2))
 obtain ⟨rfl, hB2⟩ := hh
 refine hK2 _ _ (wpList_plain g3 fun K3 hK3 => Jn (Jb (fun v w3 hh => ?_) (s3 _ hB2)))
 obtain ⟨rfl, hB3⟩ := hh
 refine hK3 _ _ (wpList_plain g4 fun K4 hK4 => Jn (Jb (fun v w' hh => ?_) (Jl hi hz h4)))
 obtain ⟨rfl, rfl⟩ := hh
 refine hK4 _ _ (wpList_plain g5 fun K5 hK5 => Jn (Jb (fun v w' hh => ?_) (Jl hi hz h5)))
 obtain ⟨rfl, rfl⟩ := hh
 refine hK5 _ _ ?_
 have hBa := hB2.trans (hB3.mono hB2.size)
 have hn : w3.heap.size + 1 = (w3.alloc (.cells (Value.agg z.toArray).cells t)).heap.size := by simp
 rw [← hn]
 have b1 : Blk (w3.alloc (.cells (Value.agg z.toArray).cells t)) w3.heap.size t z.toArray := World.alloc_heap_new w3 _
 have hBb : Below w.heap.size w (w3.alloc (.cells (Value.agg z.toArray).cells t)) := hBa.alloc hBa.size _
 obtain ⟨W4, hW4⟩ : ∃ W, W = w3.alloc (.cells (Value.agg z.toArray).cells t) := ⟨_, rfl⟩
 rw [← hW4] at b1 hBb hn ⊢
 have b2 : Blk (W4.alloc (.cells (Value.agg z.toArray).cells t)) (w3.heap.size + 1) t z.toArray := by rw [hn]; exact World.alloc_heap_new W4 _
 have b1' : Blk (W4.alloc (.cells (Value.agg z.toArray).cells t)) w3.heap.size t z.toArray := b1.alloc _
 have hBc : Below w.heap.size w (W4.alloc (.cells (Value.agg z.toArray).cells t)) := hBb.alloc hBb.size _
 obtain ⟨W5, hW5⟩ : ∃ W, W = W4.alloc (.cells (Value.agg z.toArray).cells t) := ⟨_, rfl⟩
 rw [← hW5] at b2 b1' hBc ⊢
 have sp1 : spl z.toArray 0 cs1 = cs1.toArray := Ja _ cs1 (by simp [hs1])
 have sp2 : spl z.toArray 0 cs2 = cs2.toArray := Ja _ cs2 (by simp [hs2])
 refine J6 g6 t x6 y6 h6 (e6 _ _) (f6 _ _) b1' (by simp [hs1]) (by rw [hi]; simp [hs0, hs1]) one1 sp1 fun X hX bX => ?_
 have b2X := hX.blk b2 (by omega)
 have hBX := J2 hBc hX hBa.size
 refine J6 g7 t x7 y7 h7 (e7 _ _) (f7 _ _) b2X (by simp [hs2]) (by rw [hi]; simp [hs0, hs2]) one2 sp2 fun Y hY bY => ?_
 exact H Y _ (J2 hBX hY (by have := hBa.size; omega)) hBa.size (hY.blk bX (by omega)) bY
end
end Go.Proofs.YtoiampgfnidfdaaGreatDoor
