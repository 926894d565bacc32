/-
  Worlds that have grown but for one row; append onto a slice of one's own, with what its new row is not; an empty slice literal in a region.
-/
import Derived.Test.YtnfiomccgakooaaDoorPut
import Derived.Test.YtnfiomccgakooaaDoorAdd
import Derived.Deep.Upon
import Derived.Deep.AppendSrc
namespace Go.Proofs.YtnfiomccgakooaaDoor
open Go.RowKit

/-- A walk halts before a goal that bears this mark. -/
def Stop (p : Prop) : Prop := p
theorem stop_in {p : Prop} (h : Stop p) : p := h
theorem stop_out {p : Prop} (h : p) : Stop p := h
theorem grown_blk {X W : World} {row : Option Nat} {b : Nat} {t : TypeId} {cs : Array Value} (h : X.grownBy W row) (hb : Blk X b t cs) (hne : some b ≠ row) : Blk W b t cs := (h.block b hb.lt hne).trans hb
theorem grown_rd {X W : World} {g lo hi size n : Nat} {v : Value} {cs : List Value} (h : X.grownBy W (some g)) (hr : Rd lo hi size X v n cs) (hne : g < lo ∨ hi ≤ g) : Rd lo hi size W v n cs :=
  hr.other h.size fun k h1 h2 h3 => h.block k h3 (fun e => by cases e; omega)
theorem grown_refl (X : World) (row : Option Nat) : X.grownBy X row := ⟨rfl, rfl, rfl, Nat.le_refl _, fun _ _ _ => rfl⟩
theorem grown_step {X a b : World} {g0 : Nat} {row : Option Nat} (h : X.grownBy a (some g0)) (k : a.grownBy b row) (hr : ∀ g, row = some g → g = g0 ∨ X.heap.size ≤ g) : X.grownBy b (some g0) :=
  ⟨k.os.trans h.os, k.tape.trans h.tape, k.output.trans h.output, Nat.le_trans h.size k.size, fun i hi hne =>
    (k.block i (Nat.lt_of_lt_of_le hi h.size) (fun e => by
      rcases hr i e.symm with h1 | h1
      · exact hne (by rw [h1])
      · omega)).trans (h.block i hi hne)⟩
theorem grown_b {B g : Nat} {A X W : World} (h : Below B A X) (k : X.grownBy W (some g)) (hB : B ≤ X.heap.size) (hg : B ≤ g) : Below B A W := h.grown k hB (fun i e => by cases e; exact hg)
/-- The row of an own slice is the one that it began in, or a new one. -/
def OwnAt (X : World) (g0 : Nat) (v : Value) : Prop := ∀ g, v.ownBlock = some g → g = g0 ∨ X.heap.size ≤ g
theorem ownAt_first {X : World} {g0 n cap : Nat} : OwnAt X g0 (.slice (some ⟨g0, 0, none⟩) n cap) := fun g h => by cases h; exact .inl rfl
theorem OwnAt.ne {X : World} {g0 : Nat} {v : Value} {b : Nat} (h : OwnAt X g0 v) (hb : b < X.heap.size) (hne : b ≠ g0) : some b ≠ v.ownBlock := fun e => by
  rcases h b e.symm with h | h
  · exact hne h
  · omega
/-- append of one element to a slice of the call's own that lies in the row where it began, or in a newer one. -/
theorem wpList_app2 {P : Program} {ops : Array Oper} {rest : List Oper} {o : Oper} {a : Act} {Q : Exit → Act → World → Prop} {X0 X : World} {n g0 base k size bytes : Nat} {t e : TypeId} {i : TypeInfo} {z : Value} {cl cs : List Value} {u : Value} (hgd : o.guard = none) (s x : Operand)
    (ho : o.op = .call { callee := .builtin .append, args := #[s, x], argTypes := #[t, t] }) (ht : P.underlying t = some (.slice e)) (hi : P.info? e = some i) (hz : i.zero = some z) (hsize : i.size = size) (hby : i.bytes = bytes) (hzs : z.cells.size = size) (hsz : 0 < size)
    (hcl : cl.length = 1 * size) (h1 : ∀ u ∈ cl, u.oneCell' = true) (hs : a.eval s = u) (hx : a.eval x = .slice (some ⟨n, 0, none⟩) 1 1) (hown : X.ownsRow base e size u k cs) (hat : OwnAt X0 g0 u) (hgr : X0.grownBy X (some g0)) (hsrc : Blk X n e cl.toArray) (hk : k + 1 ≤ maxLen) (hk2 : (k + 1) * bytes ≤ 140737488355328) (hbase : base ≤ X.heap.size)
    (h : ∀ v' w', w'.ownsRow base e size v' (k + 1) (cs ++ cl) → OwnAt X0 g0 v' → X0.grownBy w' (some g0) → wpList P ops Q rest (a.put o.dst v') w') : wpList P ops Q (o :: rest) a X := by
  refine wpList_append_own_at X hgd s x t ho base e i z size bytes ht hi hz hsize hby hzs hsz u k cs hs hown ⟨n, 0, none⟩ 1 1 cl hx hcl (blk_news hsrc) h1 hk hk2 hbase ?_
  intro v' w' hown' hgrow _ hat'
  refine h v' w' hown' (fun g hg => ?_) (grown_step hgr hgrow hat)
  rcases hat' with h2 | h2
  · exact hat g (by rw [← h2]; exact hg)
  · rw [h2] at hg
    cases hg
    exact .inr hgr.size
theorem step_lit0 {P : Program} {o : Oper} {a : Act} {w : World} {t e : TypeId} {ie : TypeInfo} {z : Value} (hu : P.underlying t = some (.slice e)) (hie : P.info? e = some ie) (_hz : ie.zero = some z)
    (ho : o.op = .buildSlice t 0 #[]) : stepAt P o a w (fun v w' => Lit e 0 #[] w.heap.size w'.heap.size v w' ∧ Below w.heap.size w w') := by
  have hr : (Instr.buildSlice t 0 #[]).run P w = .ok (.slice (some ⟨w.heap.size, 0, none⟩) 0 0) (w.alloc (.cells #[] e)) := by
    simp [Instr.buildSlice, run_underlying hu, sizeOf, typeInfo, hie, newRow, Instr.fill]
    rw [show Array.map (fun (_ : Nat) => (default : Value)) (Array.range 0) = #[] from Array.eq_empty_of_size_eq_zero (by simp)]
  unfold stepAt execOp
  simp only [ho, Sem.run_bind, List.map_toArray, List.map_nil, hr, Result.andThen_ok]
  exact ⟨⟨rfl, by simp only [World.size_alloc]; omega, Blk.new _ _ _⟩, (Below.refl _ _).alloc (Nat.le_refl _) _⟩
/-- append of a whole row that reads as the cells say. -/
theorem wpList_appR {P : Program} {ops : Array Oper} {rest : List Oper} {o : Oper} {a : Act} {Q : Exit → Act → World → Prop} {X0 X : World} {g0 base k m lo hi2 size bytes : Nat} {t e : TypeId} {i : TypeInfo} {z : Value} {cl cs : List Value} {u v2 : Value} (hgd : o.guard = none) (s x : Operand)
    (ho : o.op = .call { callee := .builtin .append, args := #[s, x], argTypes := #[t, t] }) (ht : P.underlying t = some (.slice e)) (hi : P.info? e = some i) (hz : i.zero = some z) (hsize : i.size = size) (hby : i.bytes = bytes) (hzs : z.cells.size = size) (hsz : 0 < size)
    (h1 : ∀ u ∈ cl, u.oneCell' = true) (hs : a.eval s = u) (hx : a.eval x = v2) (hr : Rd lo hi2 size X v2 m cl) (hown : X.ownsRow base e size u k cs) (hat : OwnAt X0 g0 u) (hgr : X0.grownBy X (some g0)) (hk : k + m ≤ maxLen) (hk2 : (k + m) * bytes ≤ 140737488355328) (hbase : base ≤ X.heap.size)
    (h : ∀ v' w', w'.ownsRow base e size v' (k + m) (cs ++ cl) → OwnAt X0 g0 v' → X0.grownBy w' (some g0) → wpList P ops Q rest (a.put o.dst v') w') : wpList P ops Q (o :: rest) a X := by
  by_cases hm : m = 0
  · subst hm
    have hcl : cl = [] := List.eq_nil_of_length_eq_zero (by rw [hr.1]; omega)
    subst hcl
    obtain ⟨A2, cap2, rfl⟩ := hr.len
    obtain ⟨A, cap, hu, hc⟩ : ∃ A cap, u = .slice A k cap ∧ k ≤ cap := by
      rcases hown.2 with ⟨rfl, rfl⟩ | ⟨g, cap, cur, rfl, _, _, q, _⟩
      · exact ⟨none, 0, rfl, Nat.le_refl _⟩
      · exact ⟨_, cap, rfl, q⟩
    have hlc : ∀ (b : Addr) (W : World), (loadCells b 0).run P W = .ok #[] W := fun b W => run_loadCells_list (P := P) W b [] (fun j v hv => by simp at hv)
    have src : Src P i.size t (.slice A2 0 cap2) 0 [] X := ⟨.inl ⟨e, ht⟩, fun w' => by simp [Builtin.lenOf], by cases A2 <;> simp [Builtin.firstCells, hlc], by cases A2 <;> simp [Builtin.firstCells, hlc], by simp, fun u hu => by cases hu⟩
    have hrun := run_append_nothing (P := P) X t t o.type e i ht hi A k cap hc (.slice A2 0 cap2) src
    refine wpList_plain hgd fun K hK => ?_
    unfold Oper.wp execOp
    rw [hu] at hs
    simp only [ho, resolve, invoke, builtin, Sem.run_bind, Sem.run_pure, Result.andThen_ok, List.map_toArray, List.map_cons, List.map_nil, hs, hx, hrun]
    rw [← hu]
    exact hK _ _ (h u X (by simpa using hown) hat hgr)
  · obtain ⟨g, off, cap2, rfl, _, _, _, _, hcells⟩ := hr.form (by omega)
    refine wpList_append_own_at X hgd s x t ho base e i z size bytes ht hi hz hsize hby hzs hsz u k cs hs hown ⟨g, off, none⟩ m cap2 cl hx hr.1 (fun j v hv => by rw [Addr.add_mid]; exact hcells j v hv) h1 hk hk2 hbase ?_
    intro v' w' hown' hgrow _ hat'
    refine h v' w' hown' (fun g hg => ?_) (grown_step hgr hgrow hat)
    rcases hat' with h2 | h2
    · exact hat g (by rw [← h2]; exact hg)
    · rw [h2] at hg
      cases hg
      exact .inr hgr.size
/-- append of a whole row that reads as the cells say, onto a slice of one's own. -/
theorem wpList_appB {P : Program} {ops : Array Oper} {rest : List Oper} {o : Oper} {a : Act} {Q : Exit → Act → World → Prop} {X : World} {base k m lo hi2 size bytes : Nat} {t e : TypeId} {i : TypeInfo} {z : Value} {cl cs : List Value} {u v2 : Value} (hgd : o.guard = none) (s x : Operand)
    (ho : o.op = .call { callee := .builtin .append, args := #[s, x], argTypes := #[t, t] }) (ht : P.underlying t = some (.slice e)) (hi : P.info? e = some i) (hz : i.zero = some z) (hsize : i.size = size) (hby : i.bytes = bytes) (hzs : z.cells.size = size) (hsz : 0 < size)
    (h1 : ∀ u ∈ cl, u.oneCell' = true) (hs : a.eval s = u) (hx : a.eval x = v2) (hr : Rd lo hi2 size X v2 m cl) (hown : X.ownsRow base e size u k cs) (hk : k + m ≤ maxLen) (hk2 : (k + m) * bytes ≤ 140737488355328) (hbase : base ≤ X.heap.size)
    (h : ∀ v' w', w'.ownsRow base e size v' (k + m) (cs ++ cl) → X.grownBy w' u.ownBlock → Below base X w' → wpList P ops Q rest (a.put o.dst v') w') : wpList P ops Q (o :: rest) a X := by
  by_cases hm : m = 0
  · subst hm
    have hcl : cl = [] := List.eq_nil_of_length_eq_zero (by rw [hr.1]; omega)
    subst hcl
    obtain ⟨A2, cap2, rfl⟩ := hr.len
    obtain ⟨A, cap, hu, hc⟩ : ∃ A cap, u = .slice A k cap ∧ k ≤ cap := by
      rcases hown.2 with ⟨rfl, rfl⟩ | ⟨g, cap, cur, rfl, _, _, q, _⟩
      · exact ⟨none, 0, rfl, Nat.le_refl _⟩
      · exact ⟨_, cap, rfl, q⟩
    have hlc : ∀ (b : Addr) (W : World), (loadCells b 0).run P W = .ok #[] W := fun b W => run_loadCells_list (P := P) W b [] (fun j v hv => by simp at hv)
    have src : Src P i.size t (.slice A2 0 cap2) 0 [] X := ⟨.inl ⟨e, ht⟩, fun w' => by simp [Builtin.lenOf], by cases A2 <;> simp [Builtin.firstCells, hlc], by cases A2 <;> simp [Builtin.firstCells, hlc], by simp, fun u hu => by cases hu⟩
    have hrun := run_append_nothing (P := P) X t t o.type e i ht hi A k cap hc (.slice A2 0 cap2) src
    refine wpList_plain hgd fun K hK => ?_
    unfold Oper.wp execOp
    rw [hu] at hs
    simp only [ho, resolve, invoke, builtin, Sem.run_bind, Sem.run_pure, Result.andThen_ok, List.map_toArray, List.map_cons, List.map_nil, hs, hx, hrun]
    rw [← hu]
    exact hK _ _ (h u X (by simpa using hown) (grown_refl _ _) (Below.refl _ _))
  · obtain ⟨g, off, cap2, rfl, _, _, _, _, hcells⟩ := hr.form (by omega)
    refine wpList_append_own _ hgd s x t ho base e i z size bytes ht hi hz hsize hby hzs hsz u k cs hs hown ⟨g, off, none⟩ m cap2 cl hx hr.1 (fun j v hv => by rw [Addr.add_mid]; exact hcells j v hv) h1 hk hk2 hbase ?_
    intro v' w' hown' hgrow _
    exact h v' w' hown' hgrow ((Below.refl _ _).grown hgrow hbase (fun g hg => (own_block hown hg).1))
/-- Rows of a stretch of blocks that stay. -/
def Kept (lo hi : Nat) (w w' : World) : Prop := ∀ k, lo ≤ k → k < hi → w'.heap[k]? = w.heap[k]?
theorem Kept.refl (lo hi : Nat) (w : World) : Kept lo hi w w := fun _ _ _ => rfl
theorem Kept.trans {lo hi : Nat} {a b c : World} (h : Kept lo hi a b) (k : Kept lo hi b c) : Kept lo hi a c := fun i h1 h2 => (k i h1 h2).trans (h i h1 h2)
theorem Kept.of_below {lo hi : Nat} {a b : World} (h : Below a.heap.size a b) (hh : hi ≤ a.heap.size) : Kept lo hi a b := fun i _ h2 => h.block i (Nat.lt_of_lt_of_le h2 hh)
def Outside (lo hi : Nat) (v : Value) : Prop := ∀ b, v.ownBlock = some b → b < lo ∨ hi ≤ b
theorem Kept.of_grown {lo hi : Nat} {a b : World} {v : Value} (h : a.grownBy b v.ownBlock) (ho : Outside lo hi v) (hh : hi ≤ a.heap.size) : Kept lo hi a b := fun i h1 h2 => h.block i (Nat.lt_of_lt_of_le h2 hh) (fun e => by
  rcases ho i e.symm with h | h <;> omega)
theorem Outside.next {lo hi : Nat} {u v : Value} {X : World} (ho : Outside lo hi u) (h : v.ownBlock = u.ownBlock ∨ v.ownBlock = some X.heap.size) (hh : hi ≤ X.heap.size) : Outside lo hi v := fun b hb => by
  rcases h with h | h
  · exact ho b (by rw [← h]; exact hb)
  · rw [h] at hb; cases hb; exact .inr hh
theorem rd_kept {lo hi size n : Nat} {v : Value} {cs : List Value} {a b : World} (h : Rd lo hi size a v n cs) (k : Kept lo hi a b) (hs : a.heap.size ≤ b.heap.size) : Rd lo hi size b v n cs := h.other hs fun g h1 h2 _ => k g h1 h2
/-- append of one element, with what becomes of the row. -/
theorem wpList_app3 {P : Program} {ops : Array Oper} {rest : List Oper} {o : Oper} {a : Act} {Q : Exit → Act → World → Prop} {X : World} {n base k size bytes : Nat} {t e : TypeId} {i : TypeInfo} {z : Value} {cl cs : List Value} {u : Value} (hgd : o.guard = none) (s x : Operand)
    (ho : o.op = .call { callee := .builtin .append, args := #[s, x], argTypes := #[t, t] }) (ht : P.underlying t = some (.slice e)) (hi : P.info? e = some i) (hz : i.zero = some z) (hsize : i.size = size) (hby : i.bytes = bytes) (hzs : z.cells.size = size) (hsz : 0 < size)
    (hcl : cl.length = 1 * size) (h1 : ∀ u ∈ cl, u.oneCell' = true) (hs : a.eval s = u) (hx : a.eval x = .slice (some ⟨n, 0, none⟩) 1 1) (hown : X.ownsRow base e size u k cs) (hsrc : Blk X n e cl.toArray) (hk : k + 1 ≤ maxLen) (hk2 : (k + 1) * bytes ≤ 140737488355328) (hbase : base ≤ X.heap.size)
    (h : ∀ v' w', w'.ownsRow base e size v' (k + 1) (cs ++ cl) → X.grownBy w' u.ownBlock → Below base X w' → (v'.ownBlock = u.ownBlock ∨ v'.ownBlock = some X.heap.size) → wpList P ops Q rest (a.put o.dst v') w') : wpList P ops Q (o :: rest) a X := by
  refine wpList_append_own_at X hgd s x t ho base e i z size bytes ht hi hz hsize hby hzs hsz u k cs hs hown ⟨n, 0, none⟩ 1 1 cl hx hcl (blk_news hsrc) h1 hk hk2 hbase ?_
  intro v' w' hown' hgrow _ hat'
  exact h v' w' hown' hgrow ((Below.refl _ _).grown hgrow hbase (fun g hg => (own_block hown hg).1)) hat'
end Go.Proofs.YtnfiomccgakooaaDoor
