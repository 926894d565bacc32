/-
  A law of our own for a region that draws its order: one walk in the order of the text serves every order, where the operations of the region's head only read, call or make memory, and its tail is forced.
  Each operation of the head is run in whatever world has grown out of the region's first one; of the operations before it only those are known that must have come before it.
-/
import Derived.Still
import Derived.StillTail
import Derived.OrdersIn
import Derived.Below
import Derived.CallsIn
import Derived.RangeFuncCalls
import Derived.OwnWalkIn
import Derived.Deep.Quiet
namespace Go.Proofs.YtficeebbbkmhcaaGreatDoor
open Go Go.RowKit

inductive Spec where
  | val (v : Value)
  | rel (A : Nat → Nat → Value → World → Prop) (F : Nat → Value → Prop)
  | skip (v : Value)

def specOf : List (Nat × Spec) → Nat → Option Spec
  | [], _ => none
  | (j, s) :: l, i => if i = j then some s else specOf l i

def befores : List Oper → List Nat → List Nat
  | [], acc => acc
  | o :: l, acc => befores l (acc ++ [o.after.toList.foldl (fun s e => if Region.binds .any e then s ||| 2 ^ e.on ||| acc.getD e.on 0 else s) 0])

def isBefore (B : List Nat) (j i : Nat) : Bool := (B.getD i 0).testBit j

def calm (o : Oper) : Bool :=
  match o.op with
  | .move _ => true | .assign _ => true | .pick .. => true | .load .. => true | .binOp .. => true | .unOp .. => true | .convert .. => true
  | .fieldAddr .. => true | .field .. => true | .indexAddr .. => true | .index .. => true | .extract .. => true | .slice .. => true | .build .. => true
  | .nilCheck _ => true
  | .call { callee := .builtin .len, .. } => true
  | _ => false

def noDefer (o : Oper) : Bool := match o.op with | .defer _ => false | .select .. => false | _ => true

def stepUpon (P : Program) (R : Value → World → Prop) : Result Next → Prop
  | .ok (.value u) w' => R u w'
  | .ok .skip w' => R undef w'
  | .ok (.enter f args) w' => Calls P f args w' (fun e w'' => ∃ v, e = .returned v ∧ R v w'')
  | _ => False
def stepAt (P : Program) (o : Oper) (a : Act) (w : World) (R : Value → World → Prop) : Prop := stepUpon P R ((execOp a.eval o).run P w)

theorem stepUpon_mono {P : Program} {R R' : Value → World → Prop} {r : Result Next} (h : ∀ v w, R v w → R' v w) (hh : stepUpon P R r) : stepUpon P R' r := by
  cases r with
  | ok n w' =>
    cases n <;> simp only [stepUpon] at hh ⊢
    case value u => exact h _ _ hh
    case skip => exact h _ _ hh
    case enter f args => exact hh.mono fun e w'' ⟨v, he, hv⟩ => ⟨v, he, h _ _ hv⟩
  | halt x w' => simp only [stepUpon] at hh
theorem stepAt_mono {P : Program} {o : Oper} {a : Act} {w : World} {R R' : Value → World → Prop} (h : ∀ v w, R v w → R' v w) (hh : stepAt P o a w R) : stepAt P o a w R' := stepUpon_mono h hh
theorem stepAt_congr {P : Program} {o : Oper} {a b : Act} {w : World} {R : Value → World → Prop} (h : execOp a.eval o = execOp b.eval o) (hh : stepAt P o a w R) : stepAt P o b w R := by
  unfold stepAt at *
  rw [← h]; exact hh

theorem wp_of_step {P : Program} {o : Oper} {a : Act} {w : World} {K : Act → World → Prop} {Q : Exit → Act → World → Prop} (h : stepAt P o a w fun v w' => K (a.put o.dst v) w') : o.wp P a w K Q := by
  unfold stepAt at h
  unfold Oper.wp
  generalize (execOp a.eval o).run P w = r at *
  cases r with
  | ok n w' =>
    cases n <;> simp only [stepUpon] at h <;> simp only [Oper.upon]
    case value u => exact h
    case skip => exact h
    case enter f args => exact h.mono fun e w'' ⟨v, he, hv⟩ => by subst he; exact hv
  | halt x w' => simp only [stepUpon] at h

theorem callsIn_of_calls {F : Fence} {n : Nat} {P : Program} {f : FuncId} {args : Array Value} {w : World} {R : Ending → World → Prop} (hF : ∀ m, Machine.fenced P F m) (hf : F.fn f) (h : Calls P f args w R) : CallsIn F n P f args w R := by
  refine ⟨hf, fun cs _ => ?_⟩
  obtain ⟨e, w', fr, r, s, x⟩ := h cs
  refine ⟨e, w', fr, r, ?_, x⟩
  cases e with
  | returned v => exact (StepsIn.of_steps s).mono fun m _ => hF m
  | panicked c => exact (StepsIn.of_steps s).mono fun m _ => hF m
  | outgrown => exact s

structure Open (P : Program) (F : Fence) : Prop where
  fn : ∀ f, F.fn f
  depth : F.depth = none
  all : ∀ m, Machine.fenced P F m
theorem open_wide (P : Program) : Open P Fence.wide := ⟨fun _ => trivial, rfl, fenced_wide P⟩
theorem open_round {P : Program} {F : Fence} (h : Open P F) (l : Nat) : Open P (F.inRound l) := ⟨h.fn, h.depth, h.all⟩

theorem wpIn_of_step {F : Fence} {n : Nat} {P : Program} (hF : Open P F) {o : Oper} {a : Act} {w : World} {K : Act → World → Prop} {Q : Exit → Act → World → Prop} (hd : noDefer o = true) (h : stepAt P o a w fun v w' => K (a.put o.dst v) w') : o.wpIn F n P a w K Q := by
  refine ⟨fun f _ => hF.fn f, ?_⟩
  have hnd : ∀ c, o.op ≠ .defer c := fun c hc => by simp [noDefer, hc] at hd
  rw [Oper.semAt_plain F _ _ hnd]
  unfold stepAt at h
  generalize (execOp a.eval o).run P w = r at *
  cases r with
  | ok m w' =>
    cases m <;> simp only [stepUpon] at h <;> simp only [Oper.uponIn]
    case value u => exact h
    case skip => exact h
    case enter f args =>
      refine ⟨fun hh => by simp [hF.depth] at hh, ?_⟩
      exact (callsIn_of_calls hF.all (hF.fn f) h).mono fun e w'' ⟨v, he, hv⟩ => by subst he; exact hv
  | halt x w' => simp only [stepUpon] at h

theorem bind_noEnter {P : Program} {w w' : World} {f : FuncId} {args : Array Value} (s : Sem Value) : (do pure (Next.value (← s)) : Sem Next).run P w ≠ .ok (.enter f args) w' := by
  simp only [Sem.run_bind]
  cases s.run P w <;> simp [Result.andThen]
theorem calm_noEnter {P : Program} {o : Oper} {ρ : Operand → Value} {w w' : World} {f : FuncId} {args : Array Value} (h : calm o = true) : (execOp ρ o).run P w ≠ .ok (.enter f args) w' := by
  obtain ⟨dst, op, type, pos, after, guard⟩ := o
  cases op <;> simp only [calm, Bool.false_eq_true] at h
  case move x => simp [execOp]
  case assign x => simp [execOp]
  case pick c a b =>
    simp only [execOp, Sem.run_bind]
    cases (asBool (ρ c)).run P w <;> simp [Result.andThen]
  case nilCheck x =>
    intro he
    simp only [execOp] at he
    split at he
    · simp [runtimePanic] at he
    · simp [runtimePanic] at he
    · simp [runtimePanic] at he
    · split at he
      · simp [runtimePanic] at he
      · simp only [Sem.run_bind] at he
        generalize (Sem.run P program w) = r1 at he
        cases r1 with
        | halt => simp [Result.andThen] at he
        | ok p w1 =>
          simp only [Result.andThen] at he
          generalize (Sem.run P (nilAhead _ _ _ _) w1) = r2 at he
          cases r2 with
          | halt => simp at he
          | ok p2 w2 =>
            simp only at he
            split at he <;> simp [unsupported] at he
      · simp at he
    · simp at he
  case call c =>
    obtain ⟨cal, ags, ats⟩ := c
    cases cal with
    | value f => simp at h
    | invoke r m => simp at h
    | builtin b =>
      cases b <;> simp only [Bool.false_eq_true] at h
      simp only [execOp, resolve, Sem.run_bind, Sem.run_pure, Result.andThen, invoke, builtin]
      cases (Sem.run P (Builtin.len_ ats type (Array.map ρ ags)) w) <;> simp
  all_goals exact bind_noEnter _


/-! ### The bits -/
def foldB (B : List Nat) (L : List Edge) (s : Nat) : Nat := L.foldl (fun s e => if Region.binds .any e then s ||| 2 ^ e.on ||| B.getD e.on 0 else s) s
theorem foldB_bit (B : List Nat) (j : Nat) : ∀ (L : List Edge) (s : Nat), (foldB B L s).testBit j = true ↔ s.testBit j = true ∨ ∃ e ∈ L, Region.binds .any e = true ∧ (j = e.on ∨ (B.getD e.on 0).testBit j = true)
  | [], s => by simp [foldB]
  | e :: L, s => by
    have ih := foldB_bit B j L
    unfold foldB at *
    rw [List.foldl_cons]
    by_cases hb : Region.binds .any e = true
    · rw [if_pos hb, ih]
      simp only [Nat.testBit_or, Nat.testBit_two_pow, Bool.or_eq_true, decide_eq_true_eq, List.mem_cons, exists_eq_or_imp, hb, true_and]
      constructor
      · rintro (((h | h) | h) | h)
        · exact .inl h
        · exact .inr (.inl (.inl h.symm))
        · exact .inr (.inl (.inr h))
        · exact .inr (.inr h)
      · rintro (h | (h | h) | h)
        · exact .inl (.inl (.inl h))
        · exact .inl (.inl (.inr h.symm))
        · exact .inl (.inr h)
        · exact .inr h
    · rw [if_neg hb, ih]
      simp [hb]

def dstOf (ops : Array Oper) (k : Nat) : Option Tmp := (ops[k]?).bind (·.dst)

def headB (ops : Array Oper) (n : Nat) (B : List Nat) (i : Nat) : Bool :=
  match ops[i]? with
  | none => false
  | some o =>
    o.after.toList.all (fun e => !Region.binds .any e || decide (e.on < i)) && (B.getD i 0 == foldB B o.after.toList 0) &&
    (match o.dst with | some d => (List.range n).all (fun j => j == i || dstOf ops j != some d) | none => false) &&
    (o.looksAt ops).all (fun t => (List.range n).all fun j => dstOf ops j != some t || isBefore B j i)
def firstN (n size : Nat) : Array Bool := ((List.range size).map fun i => decide (i < n)).toArray
def rgB (ops : Array Oper) (n : Nat) : Bool :=
  let B := befores ops.toList []
  ops.toList.all noDefer && decide (n ≤ ops.size) && (List.range n).all (headB ops n B) && (n == ops.size || (Region.sinkB .any ops n && Region.chainB .any ops n)) &&
    Region.seqB .any ops (ops.size - n) n (firstN n ops.size)

structure HeadOk (ops : Array Oper) (n : Nat) (B : List Nat) (k : Nat) (o : Oper) (d : Tmp) : Prop where
  op : ops[k]? = some o
  dst : o.dst = some d
  lt : ∀ e ∈ o.after.toList, Region.binds .any e = true → e.on < k
  bit : B.getD k 0 = foldB B o.after.toList 0
  own : ∀ j, j < n → j ≠ k → dstOf ops j ≠ some d
  wr : ∀ t ∈ o.looksAt ops, ∀ j, j < n → dstOf ops j = some t → isBefore B j k = true

theorem headOk_of {ops : Array Oper} {n : Nat} {B : List Nat} {i : Nat} (h : headB ops n B i = true) : ∃ o d, HeadOk ops n B i o d := by
  unfold headB at h
  cases ho : ops[i]? with
  | none => simp [ho] at h
  | some o =>
    rw [ho] at h
    simp only [Bool.and_eq_true] at h
    obtain ⟨⟨⟨h1, h2⟩, h3⟩, h4⟩ := h
    cases hd : o.dst with
    | none => simp [hd] at h3
    | some d =>
      rw [hd] at h3
      refine ⟨o, d, ho, hd, fun e he hb => ?_, by simpa using h2, fun j hj hne hd' => ?_, fun t ht j hj hd' => ?_⟩
      · have := List.all_eq_true.1 h1 e he
        simpa [hb] using this
      · have := List.all_eq_true.1 h3 j (List.mem_range.2 hj)
        simp [hne, hd'] at this
      · have := List.all_eq_true.1 (List.all_eq_true.1 h4 t ht) j (List.mem_range.2 hj)
        simpa [hd'] using this

section
variable {ops : Array Oper} {n : Nat} {B : List Nat} (H : ∀ k, k < n → ∃ o d, HeadOk ops n B k o d)
include H

theorem before_lt {k : Nat} : k < n → ∀ j, isBefore B j k = true → j < k := by
  induction k using Nat.strongRecOn with
  | _ k ih =>
    intro hk j hj
    obtain ⟨o, d, h⟩ := H k hk
    unfold isBefore at hj
    rw [h.bit, foldB_bit] at hj
    rcases hj with hj | ⟨e, he, hb, hj | hj⟩
    · simp at hj
    · rw [hj]; exact h.lt e he hb
    · have hl := h.lt e he hb
      have := ih e.on hl (by omega) j hj
      omega

theorem before_trans {i : Nat} : i < n → ∀ k j, isBefore B k i = true → isBefore B j k = true → isBefore B j i = true := by
  induction i using Nat.strongRecOn with
  | _ i ih =>
    intro hi k j hk hj
    obtain ⟨o, d, h⟩ := H i hi
    have hk' := hk
    unfold isBefore at hk ⊢
    rw [h.bit, foldB_bit] at hk ⊢
    rcases hk with hk | ⟨e, he, hb, hk | hk⟩
    · simp at hk
    · subst hk; exact .inr ⟨e, he, hb, .inr hj⟩
    · have hl := h.lt e he hb
      exact .inr ⟨e, he, hb, .inr (ih e.on hl (by omega) k j hk hj)⟩

theorem before_listed {listed : Array Bool} (inv : HeadInv .any ops n listed) {k : Nat} : k < n → (∀ o, ops[k]? = some o → ∀ e ∈ o.after, Region.binds .any e = true → listed.getD e.on false = true) →
    ∀ j, isBefore B j k = true → listed.getD j false = true := by
  induction k using Nat.strongRecOn with
  | _ k ih =>
    intro hk hall j hj
    obtain ⟨o, d, h⟩ := H k hk
    unfold isBefore at hj
    rw [h.bit, foldB_bit] at hj
    rcases hj with hj | ⟨e, he, hb, hj | hj⟩
    · simp at hj
    · rw [hj]; exact hall o h.op e (by simpa using he) hb
    · have hl := h.lt e he hb
      have hon := hall o h.op e (by simpa using he) hb
      exact ih e.on hl (by omega) (fun o' ho' e' he' hb' => inv.closed e.on o' ho' hon e' he' hb') j hj
end


/-! ### The walk in the order of the text -/
def wpRg (P : Program) (ops : Array Oper) (B : List Nat) (Sp : List (Nat × Spec)) (C : World → Prop) (N0 : Nat) (Fin : Act → World → Prop) : List Oper → Nat → Act → List (Nat × (World → Prop)) → List (Nat × Nat) → Prop
  | [], _, a, G, _ => ∀ w, C w → (∀ φ ∈ G, φ.2 w) → Fin a w
  | o :: l, i, a, G, rs =>
    if Region.wanted o (yielded ops a.tmps) = true then
      match specOf Sp i with
      | none => calm o = true ∧ o.quiet P a C (fun a' => wpRg P ops B Sp C N0 Fin l (i + 1) a' G rs)
      | some (.skip u) => wpRg P ops B Sp C N0 Fin l (i + 1) (a.put o.dst u) G rs
      | some (.val u) => (∀ w, C w → (∀ φ ∈ G, isBefore B φ.1 i = true → φ.2 w) → stepAt P o a w (fun v w' => v = u ∧ Below w.heap.size w w')) ∧ wpRg P ops B Sp C N0 Fin l (i + 1) (a.put o.dst u) G rs
      | some (.rel A F) => (∀ w, C w → (∀ φ ∈ G, isBefore B φ.1 i = true → φ.2 w) → stepAt P o a w (fun v w' => A w.heap.size w'.heap.size v w' ∧ Below w.heap.size w w')) ∧
          ∀ n m v, N0 ≤ n → n ≤ m → (∀ r ∈ rs, m ≤ r.1 ∨ r.2 ≤ n) → F n v → wpRg P ops B Sp C N0 Fin l (i + 1) (a.put o.dst v) (G ++ [(i, fun w => m ≤ w.heap.size ∧ A n m v w)]) (rs ++ [(n, m)])
    else wpRg P ops B Sp C N0 Fin l (i + 1) (a.put o.dst undef) G rs

def Stable (A : Nat → Nat → Value → World → Prop) : Prop := ∀ n m v w w', A n m v w → Below m w w' → A n m v w'
structure Fit (A : Nat → Nat → Value → World → Prop) (F : Nat → Value → Prop) : Prop where
  st : Stable A
  some_ : ∀ n, ∃ v, F n v
  form : ∀ n m v w, A n m v w → F n v
def AnyV (_ : Nat) (_ : Value) : Prop := True
theorem fit_of {A : Nat → Nat → Value → World → Prop} (h : Stable A) : Fit A AnyV := ⟨h, fun _ => ⟨undef, trivial⟩, fun _ _ _ _ _ => trivial⟩

structure OkAt (P : Program) (ops : Array Oper) (Sp : List (Nat × Spec)) (C : World → Prop) (N0 : Nat) (o : Oper) (d : Tmp) (k : Nat) (a : Act) (w : World) (r : Nat × Nat) : Prop where
  w0 : Region.wanted o (yielded ops a.tmps) = false → a.tmps.getD d undef = undef
  wn : Region.wanted o (yielded ops a.tmps) = true → specOf Sp k = none → calm o = true ∧ ∃ w0, C w0 ∧ o.quietAt P a C w0 (a.tmps.getD d undef)
  wv : Region.wanted o (yielded ops a.tmps) = true → ∀ u, specOf Sp k = some (.val u) → a.tmps.getD d undef = u
  wr : Region.wanted o (yielded ops a.tmps) = true → ∀ A F, specOf Sp k = some (.rel A F) → N0 ≤ r.1 ∧ r.1 ≤ r.2 ∧ r.2 ≤ w.heap.size ∧ A r.1 r.2 (a.tmps.getD d undef) w

def isRel (ops : Array Oper) (Sp : List (Nat × Spec)) (a : Act) (k : Nat) : Prop := ∃ o A F, ops[k]? = some o ∧ Region.wanted o (yielded ops a.tmps) = true ∧ specOf Sp k = some (.rel A F)

structure Good (P : Program) (ops : Array Oper) (n : Nat) (Sp : List (Nat × Spec)) (C : World → Prop) (N0 : Nat) (a0 : Act) (listed : Array Bool) (a : Act) (w : World) (r : Nat → Nat × Nat) : Prop where
  c : C w
  defs : a.defers = a0.defers
  size : a.tmps.size = a0.tmps.size
  old : ∀ t, (∀ k, k < n → listed.getD k false = true → dstOf ops k ≠ some t) → a.tmps[t]? = a0.tmps[t]?
  ok : ∀ k o d, k < n → ops[k]? = some o → o.dst = some d → listed.getD k false = true → OkAt P ops Sp C N0 o d k a w (r k)
  apart : ∀ k j, k < n → j < n → k ≠ j → listed.getD k false = true → listed.getD j false = true → isRel ops Sp a k → isRel ops Sp a j → (r k).2 ≤ (r j).1 ∨ (r j).2 ≤ (r k).1

theorem eval_agree {ops : Array Oper} {o : Oper} {a b : Act} (h : ∀ t ∈ o.looksAt ops, b.tmps[t]? = a.tmps[t]?) : ∀ x ∈ o.op.operands, b.eval x = a.eval x := by
  intro x hx
  cases x with
  | tmp t =>
    have := h t (List.mem_append_left _ (List.mem_filterMap.2 ⟨.tmp t, by simpa using hx, rfl⟩))
    simp [Act.eval, this]
  | _ => rfl
theorem noDefer_sel {o : Oper} (h : noDefer o = true) : ∀ cs b, o.op ≠ .select cs b := fun cs b e => by simp [noDefer, e] at h
theorem exec_agree {ops : Array Oper} {o : Oper} (hs : noDefer o = true) {a b : Act} (h : ∀ t ∈ o.looksAt ops, b.tmps[t]? = a.tmps[t]?) : execOp b.eval o = execOp a.eval o :=
  execOp_congr o (noDefer_sel hs) (eval_agree h)
theorem wanted_agree {ops : Array Oper} {o : Oper} {a b : Act} (h : ∀ t ∈ o.looksAt ops, b.tmps[t]? = a.tmps[t]?) : Region.wanted o (yielded ops b.tmps) = Region.wanted o (yielded ops a.tmps) := by
  unfold Region.wanted
  cases hg : o.guard with
  | none => rfl
  | some gw =>
    obtain ⟨g, want⟩ := gw
    have hy : yielded ops b.tmps g = yielded ops a.tmps g := by
      unfold yielded
      cases ht : (ops[g]?).bind (·.dst) with
      | none => rfl
      | some t =>
        have := h t (by simp [Oper.looksAt, hg, ht])
        simp [this]
    simp only [hy]

theorem put_ne {a : Act} {d t : Tmp} {v : Value} (h : t ≠ d) : (a.put (some d) v).tmps[t]? = a.tmps[t]? := by
  simp [Act.put, Array.getElem?_setIfInBounds_ne (Ne.symm h)]
theorem put_eq {a : Act} {d : Tmp} {v : Value} (h : d < a.tmps.size) : (a.put (some d) v).tmps[d]? = some v := by
  simp [Act.put, h]
theorem put_getD {a : Act} {d : Tmp} {v : Value} (h : d < a.tmps.size) : (a.put (some d) v).tmps.getD d undef = v := by
  simp [Act.put, h]
theorem some_getD {a : Act} {d : Tmp} (h : d < a.tmps.size) : a.tmps[d]? = some (a.tmps.getD d undef) := by
  simp [h]

theorem quietAt_same {P : Program} {o : Oper} {a b : Act} {C : World → Prop} {w : World} {v : Value} (h : execOp b.eval o = execOp a.eval o) (hh : o.quietAt P a C w v) : o.quietAt P b C w v := by
  unfold Oper.quietAt at *
  rw [h]; exact hh
theorem quietAt_unique {P : Program} {o : Oper} {a : Act} {C : World → Prop} {w : World} {v u : Value} (hc : calm o = true) (h1 : o.quietAt P a C w v) (h2 : o.quietAt P a C w u) : v = u := by
  unfold Oper.quietAt at *
  have hn := fun f args w' => calm_noEnter (P := P) (ρ := a.eval) (w := w) (f := f) (args := args) (w' := w') hc
  generalize (execOp a.eval o).run P w = r at *
  cases r with
  | ok x w' =>
    cases x <;> simp only [Oper.quietUpon] at h1 h2
    case value z => exact h1.2.symm.trans h2.2
    case skip => exact h1.2.trans h2.2.symm
    case enter f args => exact absurd rfl (hn f args w')
  | halt x w' => simp only [Oper.quietUpon] at h1
theorem quietAt_step {P : Program} {o : Oper} {a : Act} {C : World → Prop} {w : World} {v : Value} (hc : calm o = true) (h : o.quietAt P a C w v) : stepAt P o a w fun u w' => w' = w ∧ u = v := by
  unfold Oper.quietAt at h
  unfold stepAt
  have hn := fun f args w' => calm_noEnter (P := P) (ρ := a.eval) (w := w) (f := f) (args := args) (w' := w') hc
  generalize (execOp a.eval o).run P w = r at *
  cases r with
  | ok x w' =>
    cases x <;> simp only [Oper.quietUpon] at h <;> simp only [stepUpon]
    case value z => exact h
    case skip => exact ⟨h.1, h.2.symm⟩
    case enter f args => exact absurd rfl (hn f args w')
  | halt x w' => simp only [Oper.quietUpon] at h

section
variable {P : Program} {ops : Array Oper} {n : Nat} {B : List Nat} {Sp : List (Nat × Spec)} {C : World → Prop} {N0 : Nat} {a0 : Act} {Fin : Act → World → Prop}

structure Rel (ops : Array Oper) (N0 : Nat) (n : Nat) (Sp : List (Nat × Spec)) (a0 a : Act) (w : World) (r : Nat → Nat × Nat) (Pi : Nat → Prop) (k : Nat) (b : Act) (G : List (Nat × (World → Prop))) (rs : List (Nat × Nat)) : Prop where
  defs : b.defers = a0.defers
  size : b.tmps.size = a0.tmps.size
  old : ∀ t, (∀ j, j < k → dstOf ops j ≠ some t) → b.tmps[t]? = a0.tmps[t]?
  new : ∀ j, j < k → Pi j → ∀ d, dstOf ops j = some d → b.tmps[d]? = a.tmps[d]?
  g : ∀ φ ∈ G, Pi φ.1 → φ.2 w
  rs : ∀ ρ ∈ rs, N0 ≤ ρ.1 ∧ (ρ = (N0, N0) ∨ ∃ j, j < k ∧ Pi j ∧ isRel ops Sp a j ∧ ρ = r j)
  gi : ∀ φ ∈ G, ∃ A F, specOf Sp φ.1 = some (.rel A F)

variable (hnd : ∀ (k : Nat) (o : Oper), ops[k]? = some o → noDefer o = true) (H : ∀ k, k < n → ∃ o d, HeadOk ops n B k o d) (hsz : ∀ (k : Nat) (d : Tmp), k < n → dstOf ops k = some d → d < a0.tmps.size)
  {listed : Array Bool} {a : Act} {w : World} {r : Nat → Nat × Nat} (hG : Good P ops n Sp C N0 a0 listed a w r)
  {Pi : Nat → Prop} (hPl : ∀ k, k < n → Pi k → listed.getD k false = true) (hPb : ∀ k j, k < n → Pi k → isBefore B j k = true → Pi j)
include hnd H hsz hG hPl hPb

omit hnd hsz hPl hPb in
theorem rel_agree {k : Nat} {o : Oper} {d : Tmp} {b : Act} {G : List (Nat × (World → Prop))} {rs : List (Nat × Nat)} (hk : k < n) (hP : ∀ j, isBefore B j k = true → Pi j) (h : HeadOk ops n B k o d)
    (R : Rel ops N0 n Sp a0 a w r Pi k b G rs) : ∀ t ∈ o.looksAt ops, b.tmps[t]? = a.tmps[t]? := by
  intro t ht
  by_cases hj : ∃ j, j < n ∧ dstOf ops j = some t
  · obtain ⟨j, hjn, hjd⟩ := hj
    have hb := h.wr t ht j hjn hjd
    exact R.new j (before_lt H hk j hb) (hP j hb) t hjd
  · have h1 : ∀ j, j < n → dstOf ops j ≠ some t := fun j hj' e => hj ⟨j, hj', e⟩
    rw [R.old t fun j hj' => h1 j (by omega), hG.old t fun j hj' _ => h1 j hj']

omit hnd H hPl hPb in
theorem rel_next {k : Nat} {o : Oper} {d : Tmp} {b : Act} {G G' : List (Nat × (World → Prop))} {rs rs' : List (Nat × Nat)} {v : Value} (hk : k < n) (h : HeadOk ops n B k o d)
    (R : Rel ops N0 n Sp a0 a w r Pi k b G rs) (hv : Pi k → a.tmps.getD d undef = v) (hg' : ∀ φ ∈ G', φ ∈ G ∨ ((∃ A F, specOf Sp φ.1 = some (.rel A F)) ∧ (Pi φ.1 → φ.2 w)))
    (hr' : ∀ ρ ∈ rs', ρ ∈ rs ∨ (N0 ≤ ρ.1 ∧ (ρ = (N0, N0) ∨ (Pi k ∧ isRel ops Sp a k ∧ ρ = r k)))) : Rel ops N0 n Sp a0 a w r Pi (k + 1) (b.put o.dst v) G' rs' := by
  have hdk : dstOf ops k = some d := by unfold dstOf; rw [h.op]; exact h.dst
  have hlt : d < b.tmps.size := by rw [R.size]; exact hsz k d hk hdk
  have hlta : d < a.tmps.size := by rw [hG.size]; exact hsz k d hk hdk
  rw [h.dst]
  refine ⟨R.defs, by rw [← R.size]; simp [Act.put], fun t ht => ?_, fun j hj hP d' hd' => ?_, fun φ hφ hP => ?_, fun ρ hρ => ?_, fun φ hφ => (hg' φ hφ).elim (R.gi φ) (fun h => h.1)⟩
  · have hne : t ≠ d := fun e => ht k (by omega) (by rw [hdk, e])
    rw [put_ne hne]
    exact R.old t fun j hj => ht j (by omega)
  · by_cases hjk : j = k
    · subst hjk
      obtain rfl : d = d' := Option.some.inj (hdk.symm.trans hd')
      rw [put_eq hlt, some_getD hlta, hv hP]
    · have hne : d' ≠ d := fun e => h.own j (by omega) hjk (by rw [hd', e])
      rw [put_ne hne]
      exact R.new j (by omega) hP d' hd'
  · rcases hg' φ hφ with h1 | h1
    · exact R.g φ h1 hP
    · exact h1.2 hP
  · rcases hr' ρ hρ with h1 | ⟨h1, h2⟩
    · obtain ⟨h2, h3⟩ := R.rs ρ h1
      refine ⟨h2, h3.imp id ?_⟩
      rintro ⟨j, hj, h4⟩
      exact ⟨j, by omega, h4⟩
    · refine ⟨h1, h2.imp id ?_⟩
      rintro ⟨h3, h4⟩
      exact ⟨k, by omega, h3, h4⟩

theorem descend (hst : ∀ i A F, specOf Sp i = some (.rel A F) → Fit A F) (hns : ∀ k u, specOf Sp k = some (.skip u) → ¬ Pi k) (_hN : ∀ w, C w → N0 ≤ w.heap.size) {i : Nat} (hi : i ≤ n) : ∀ (l : List Oper) (k : Nat) (b : Act) (G : List (Nat × (World → Prop))) (rs : List (Nat × Nat)), k ≤ i → k + l.length = n → (∀ j, j < l.length → l[j]? = ops[k + j]?) →
    Rel ops N0 n Sp a0 a w r Pi k b G rs → wpRg P ops B Sp C N0 Fin l k b G rs →
    ∃ (l' : List Oper) (b' : Act) (G' : List (Nat × (World → Prop))) (rs' : List (Nat × Nat)), i + l'.length = n ∧ (∀ j, j < l'.length → l'[j]? = ops[i + j]?) ∧ Rel ops N0 n Sp a0 a w r Pi i b' G' rs' ∧ wpRg P ops B Sp C N0 Fin l' i b' G' rs' := by
  intro l
  induction l with
  | nil =>
    intro k b G rs hki hlen _ R hw
    obtain rfl : k = i := by simp only [List.length_nil] at hlen; omega
    exact ⟨[], b, G, rs, hlen, fun j hj => by simp at hj, R, hw⟩
  | cons o l ih =>
    intro k b G rs hki hlen hl R hw
    by_cases hki' : k = i
    · subst hki'
      exact ⟨o :: l, b, G, rs, hlen, hl, R, hw⟩
    · simp only [List.length_cons] at hlen
      have hk : k < n := by omega
      have ho : ops[k]? = some o := by simpa using (hl 0 (by simp)).symm
      obtain ⟨o', d, h⟩ := H k hk
      obtain rfl : o = o' := Option.some.inj (ho.symm.trans h.op)
      have hl' : ∀ j, j < l.length → l[j]? = ops[k + 1 + j]? := fun j hj => by
        have := hl (j + 1) (by simp; omega)
        simpa [Nat.add_assoc, Nat.add_comm 1 j] using this
      have hlen' : k + 1 + l.length = n := by omega
      have hagree : Pi k → ∀ t ∈ o.looksAt ops, b.tmps[t]? = a.tmps[t]? := fun hP => rel_agree H hG hk (fun j hj => hPb k j hk hP hj) h R
      have hok : Pi k → OkAt P ops Sp C N0 o d k a w (r k) := fun hP => hG.ok k o d hk ho h.dst (hPl k hk hP)
      unfold wpRg at hw
      by_cases hwant : Region.wanted o (yielded ops b.tmps) = true
      · rw [if_pos hwant] at hw
        have hwa : Pi k → Region.wanted o (yielded ops a.tmps) = true := fun hP => by rw [← wanted_agree (hagree hP)]; exact hwant
        cases hs : specOf Sp k with
        | none =>
          rw [hs] at hw
          obtain ⟨hcalm, v, hv, hK⟩ := hw
          refine ih (k + 1) _ G rs (by omega) hlen' hl' (rel_next hsz hG hk h R (fun hP => ?_) (fun φ hφ => .inl hφ) (fun ρ hρ => .inl hρ)) hK
          obtain ⟨_, w0, hc0, hq⟩ := (hok hP).wn (hwa hP) hs
          exact quietAt_unique hcalm hq (quietAt_same (exec_agree (hnd k o ho) (hagree hP)).symm (hv w0 hc0))
        | some s =>
          cases s with
          | skip u =>
            rw [hs] at hw
            exact ih (k + 1) _ G rs (by omega) hlen' hl' (rel_next hsz hG hk h R (fun hP => absurd hP (hns k u hs)) (fun φ hφ => .inl hφ) (fun ρ hρ => .inl hρ)) hw
          | val u =>
            rw [hs] at hw
            exact ih (k + 1) _ G rs (by omega) hlen' hl' (rel_next hsz hG hk h R (fun hP => (hok hP).wv (hwa hP) u hs) (fun φ hφ => .inl hφ) (fun ρ hρ => .inl hρ)) hw.2
          | rel A F =>
            rw [hs] at hw
            by_cases hP : Pi k
            · obtain ⟨q1, q2, q3, q4⟩ := (hok hP).wr (hwa hP) A F hs
              have hrel : isRel ops Sp a k := ⟨o, A, F, ho, hwa hP, hs⟩
              refine ih (k + 1) _ _ _ (by omega) hlen' hl' (rel_next hsz hG hk h R (fun _ => rfl) (fun φ hφ => ?_) (fun ρ hρ => ?_)) (hw.2 (r k).1 (r k).2 (a.tmps.getD d undef) q1 q2 (fun ρ hρ => ?_) ((hst k A F hs).form _ _ _ _ q4))
              · rcases List.mem_append.1 hφ with h1 | h1
                · exact .inl h1
                · simp only [List.mem_singleton] at h1
                  subst h1
                  exact .inr ⟨⟨A, F, hs⟩, fun _ => ⟨q3, q4⟩⟩
              · rcases List.mem_append.1 hρ with h1 | h1
                · exact .inl h1
                · simp only [List.mem_singleton] at h1
                  subst h1
                  exact .inr ⟨q1, .inr ⟨hP, hrel, rfl⟩⟩
              · obtain ⟨h1, h2 | ⟨j, hj, hPj, hrj, h2⟩⟩ := R.rs ρ hρ
                · subst h2; exact .inr q1
                · subst h2
                  exact hG.apart k j hk (by omega) (by omega) (hPl k hk hP) (hPl j (by omega) hPj) hrel hrj
            · obtain ⟨v0, hv0⟩ := (hst k A F hs).some_ N0
              refine ih (k + 1) _ _ _ (by omega) hlen' hl' (rel_next hsz hG hk h R (fun hP' => absurd hP' hP) (fun φ hφ => ?_) (fun ρ hρ => ?_)) (hw.2 N0 N0 v0 (Nat.le_refl _) (Nat.le_refl _) (fun ρ hρ => .inl (R.rs ρ hρ).1) hv0)
              · rcases List.mem_append.1 hφ with h1 | h1
                · exact .inl h1
                · simp only [List.mem_singleton] at h1
                  subst h1
                  exact .inr ⟨⟨A, F, hs⟩, fun hP' => absurd hP' hP⟩
              · rcases List.mem_append.1 hρ with h1 | h1
                · exact .inl h1
                · simp only [List.mem_singleton] at h1
                  subst h1
                  exact .inr ⟨Nat.le_refl _, .inl rfl⟩
      · rw [if_neg hwant] at hw
        refine ih (k + 1) _ G rs (by omega) hlen' hl' (rel_next hsz hG hk h R (fun hP => ?_) (fun φ hφ => .inl hφ) (fun ρ hρ => .inl hρ)) hw
        exact (hok hP).w0 (by rw [← wanted_agree (hagree hP)]; simpa using hwant)
end


/-! ### The run keeps the invariant -/
section
variable {P : Program} {ops : Array Oper} {n : Nat} {B : List Nat} {Sp : List (Nat × Spec)} {C : World → Prop} {N0 : Nat} {a0 : Act} {Fin : Act → World → Prop}

theorem getD_set_same {listed : Array Bool} {i : Nat} (h : i < listed.size) : (listed.setIfInBounds i true).getD i false = true := by simp [h]

theorem good_next (hst : ∀ i A F, specOf Sp i = some (.rel A F) → Fit A F) (hC : ∀ w w', C w → Below w.heap.size w w' → C w') (_hN : ∀ w, C w → N0 ≤ w.heap.size)
    (hnd : ∀ (k : Nat) (o : Oper), ops[k]? = some o → noDefer o = true) (H : ∀ k, k < n → ∃ o d, HeadOk ops n B k o d) (hsz : ∀ (k : Nat) (d : Tmp), k < n → dstOf ops k = some d → d < a0.tmps.size)
    {listed : Array Bool} {a : Act} {w : World} {r : Nat → Nat × Nat} (hG : Good P ops n Sp C N0 a0 listed a w r) (inv : HeadInv .any ops n listed)
    {i : Nat} {o : Oper} {d : Tmp} (hi : i < n) (h : HeadOk ops n B i o d) (hun : listed.getD i true = false) {v : Value} {w' : World} (hb : Below w.heap.size w w')
    (hok : ∀ r', r' = (w.heap.size, w'.heap.size) → OkAt P ops Sp C N0 o d i (a.put o.dst v) w' r') :
    Good P ops n Sp C N0 a0 (listed.setIfInBounds i true) (a.put o.dst v) w' (fun k => if k = i then (w.heap.size, w'.heap.size) else r k) := by
  have hdi : dstOf ops i = some d := by unfold dstOf; rw [h.op]; exact h.dst
  have hlt : d < a.tmps.size := by rw [hG.size]; exact hsz i d hi hdi
  have hunf : listed.getD i false = false := getD_both hun
  have hisz : i < listed.size := by rw [inv.size]; exact (Array.getElem?_eq_some_iff.1 h.op).1
  -- nothing that has been carried out looks at the new slot
  have hfar : ∀ k ok dk, k < n → HeadOk ops n B k ok dk → listed.getD k false = true → ∀ t ∈ ok.looksAt ops, (a.put o.dst v).tmps[t]? = a.tmps[t]? := fun k ok dk hk hk' hl t ht => by
    rw [h.dst]
    refine put_ne fun e => ?_
    subst e
    have hbf := hk'.wr t ht i hi hdi
    have := before_listed H inv hk (fun o' ho' e he hb' => inv.closed k o' ho' hl e he hb') i hbf
    rw [hunf] at this
    cases this
  have hrelk : ∀ k, k < n → k ≠ i → (listed.setIfInBounds i true).getD k false = true → isRel ops Sp (a.put o.dst v) k → listed.getD k false = true ∧ isRel ops Sp a k := fun k hk hki hl ⟨ok, A, F, h1, h2, h3⟩ => by
    rw [getD_set_ne false (Ne.symm hki)] at hl
    obtain ⟨ok', dk, hk'⟩ := H k hk
    obtain rfl : ok = ok' := Option.some.inj (h1.symm.trans hk'.op)
    exact ⟨hl, ok, A, F, h1, by rw [← wanted_agree (hfar k ok dk hk hk' hl)]; exact h2, h3⟩
  refine ⟨hC _ _ hG.c hb, ?_, ?_, fun t ht => ?_, fun k ok dk hk hopk hdk hl => ?_, fun k j hk hj hne hlk hlj hrk hrj => ?_⟩
  · rw [← hG.defs, h.dst]; rfl
  · rw [← hG.size, h.dst]; simp [Act.put]
  · have hne : t ≠ d := fun e => ht i hi (getD_set_same hisz) (by rw [hdi, e])
    rw [h.dst, put_ne hne]
    exact hG.old t fun k hk hl => ht k hk (getD_set_true hl)
  · by_cases hki : k = i
    · subst hki
      obtain rfl : o = ok := Option.some.inj (h.op.symm.trans hopk)
      obtain rfl : d = dk := Option.some.inj (h.dst.symm.trans hdk)
      exact hok _ (by simp)
    · rw [getD_set_ne false (Ne.symm hki)] at hl
      obtain ⟨ok', dk', hk'⟩ := H k hk
      obtain rfl : ok = ok' := Option.some.inj (hopk.symm.trans hk'.op)
      obtain rfl : dk = dk' := Option.some.inj (hdk.symm.trans hk'.dst)
      have hf := hfar k ok dk hk hk' hl
      have hw := wanted_agree hf
      have hex := exec_agree (hnd k ok hopk) hf
      have hne : dk ≠ d := fun e => by
        subst e
        have hdk' : dstOf ops k = some dk := by unfold dstOf; rw [hopk]; exact hdk
        exact h.own k hk hki hdk'
      have hsl : (a.put o.dst v).tmps.getD dk undef = a.tmps.getD dk undef := by
        have := put_ne (a := a) (v := v) hne
        rw [h.dst]
        simp only [Array.getD_eq_getD_getElem?, this]
      obtain ⟨o1, o2, o3, o4⟩ := hG.ok k ok dk hk hopk hdk hl
      simp only [if_neg hki]
      refine ⟨fun e => ?_, fun e hs => ?_, fun e u hs => ?_, fun e A F hs => ?_⟩
      · rw [hsl]; exact o1 (by rw [← hw]; exact e)
      · obtain ⟨q1, w0, q2, q3⟩ := o2 (by rw [← hw]; exact e) hs
        exact ⟨q1, w0, q2, by rw [hsl]; exact quietAt_same hex q3⟩
      · rw [hsl]; exact o3 (by rw [← hw]; exact e) u hs
      · obtain ⟨q1, q2, q3, q4⟩ := o4 (by rw [← hw]; exact e) A F hs
        exact ⟨q1, q2, Nat.le_trans q3 hb.size, by rw [hsl]; exact (hst k A F hs).st _ _ _ _ _ q4 (hb.mono q3)⟩
  · have sz : ∀ k, k < n → k ≠ i → (listed.setIfInBounds i true).getD k false = true → isRel ops Sp (a.put o.dst v) k → (r k).2 ≤ w.heap.size := fun k hk hki hl hr => by
      obtain ⟨h1, ok, A, F, h2, h3, h4⟩ := hrelk k hk hki hl hr
      obtain ⟨ok', dk, hk'⟩ := H k hk
      obtain rfl : ok = ok' := Option.some.inj (h2.symm.trans hk'.op)
      exact ((hG.ok k ok dk hk h2 hk'.dst h1).wr h3 A F h4).2.2.1
    by_cases hki : k = i
    · subst hki
      have hjk : j ≠ k := Ne.symm hne
      simp only [if_true, if_neg hjk]
      exact .inr (sz j hj hjk hlj hrj)
    · by_cases hji : j = i
      · subst hji
        simp only [if_true, if_neg hki]
        exact .inl (sz k hk hki hlk hrk)
      · simp only [if_neg hki, if_neg hji]
        obtain ⟨h1, h2⟩ := hrelk k hk hki hlk hrk
        obtain ⟨h3, h4⟩ := hrelk j hj hji hlj hrj
        exact hG.apart k j hk hj hne h1 h3 h2 h4

theorem good_step (hst : ∀ i A F, specOf Sp i = some (.rel A F) → Fit A F) (hns : ∀ i u, specOf Sp i ≠ some (.skip u)) (hC : ∀ w w', C w → Below w.heap.size w w' → C w') (hN : ∀ w, C w → N0 ≤ w.heap.size)
    (hnd : ∀ (k : Nat) (o : Oper), ops[k]? = some o → noDefer o = true) (H : ∀ k, k < n → ∃ o d, HeadOk ops n B k o d) (hsz : ∀ (k : Nat) (d : Tmp), k < n → dstOf ops k = some d → d < a0.tmps.size)
    (hn : n ≤ ops.size) (htree : wpRg P ops B Sp C N0 Fin (ops.toList.take n) 0 a0 [] [])
    {listed : Array Bool} {a : Act} {w : World} {r : Nat → Nat × Nat} (hG : Good P ops n Sp C N0 a0 listed a w r) (inv : HeadInv .any ops n listed)
    {i : Nat} {o : Oper} {d : Tmp} (hi : i < n) (h : HeadOk ops n B i o d) (hr : i ∈ Region.ready .any ops listed) :
    if Region.wanted o (yielded ops a.tmps) = true then stepAt P o a w (fun v w' => ∃ r', Good P ops n Sp C N0 a0 (listed.setIfInBounds i true) (a.put o.dst v) w' r')
    else ∃ r', Good P ops n Sp C N0 a0 (listed.setIfInBounds i true) (a.put o.dst undef) w r' := by
  obtain ⟨hun, o', ho', hall⟩ := mem_ready.1 hr
  obtain rfl : o = o' := Option.some.inj (h.op.symm.trans ho')
  have hdi : dstOf ops i = some d := by unfold dstOf; rw [h.op]; exact h.dst
  have hlt : d < a.tmps.size := by rw [hG.size]; exact hsz i d hi hdi
  have hPl : ∀ k, k < n → isBefore B k i = true → listed.getD k false = true := fun k _ hk =>
    before_listed H inv hi (fun o2 ho2 e he hb => by
      obtain rfl : o = o2 := Option.some.inj (h.op.symm.trans ho2)
      exact hall e he hb) k hk
  have hPb : ∀ k j, k < n → isBefore B k i = true → isBefore B j k = true → isBefore B j i = true := fun k j _ h1 h2 => before_trans H hi k j h1 h2
  have htl : (ops.toList.take n).length = n := by simp; omega
  obtain ⟨l', b, G, rs, hl1, hl2, R, hw⟩ := descend hnd H hsz hG hPl hPb hst (fun k u h => absurd h (hns k u)) hN (Nat.le_of_lt hi) (ops.toList.take n) 0 a0 [] [] (Nat.zero_le _) (by rw [htl]; omega)
    (fun j hj => by rw [htl] at hj; simp [hj]) ⟨rfl, rfl, fun _ _ => rfl, fun j hj => absurd hj (by omega), fun φ hφ => (by cases hφ), fun ρ hρ => (by cases hρ), fun φ hφ => (by cases hφ)⟩ htree
  have hag : ∀ t ∈ o.looksAt ops, b.tmps[t]? = a.tmps[t]? := rel_agree H hG hi (fun j hj => hj) h R
  have hex := exec_agree (hnd i o h.op) hag
  have hwa := wanted_agree hag
  -- the new slot is none that the operation looks at
  have hself : ∀ v, ∀ t ∈ o.looksAt ops, (a.put o.dst v).tmps[t]? = a.tmps[t]? := fun v t ht => by
    rw [h.dst]
    refine put_ne fun e => ?_
    subst e
    have := before_lt H hi i (h.wr t ht i hi hdi)
    omega
  have hself2 : ∀ v, execOp (a.put o.dst v).eval o = execOp a.eval o := fun v => exec_agree (hnd i o h.op) (hself v)
  have hself3 : ∀ v, Region.wanted o (yielded ops (a.put o.dst v).tmps) = Region.wanted o (yielded ops a.tmps) := fun v => wanted_agree (hself v)
  have hval : ∀ v, (a.put o.dst v).tmps.getD d undef = v := fun v => by rw [h.dst]; exact put_getD hlt
  cases l' with
  | nil => simp only [List.length_nil] at hl1; omega
  | cons o2 l' =>
    have : o2 = o := by
      have := hl2 0 (by simp)
      rw [Nat.add_zero, h.op] at this
      simpa using this
    subst this
    unfold wpRg at hw
    have fin : ∀ v w', Below w.heap.size w w' → (∀ r', r' = (w.heap.size, w'.heap.size) → OkAt P ops Sp C N0 o2 d i (a.put o2.dst v) w' r') → ∃ r', Good P ops n Sp C N0 a0 (listed.setIfInBounds i true) (a.put o2.dst v) w' r' :=
      fun v w' hb hok => ⟨_, good_next hst hC hN hnd H hsz hG inv hi h hun hb hok⟩
    by_cases hwant : Region.wanted o2 (yielded ops a.tmps) = true
    · rw [if_pos hwant]
      rw [if_pos (by rw [hwa]; exact hwant)] at hw
      cases hs : specOf Sp i with
      | none =>
        rw [hs] at hw
        obtain ⟨hcalm, v, hv, _⟩ := hw
        have hq : o2.quietAt P a C w v := quietAt_same hex.symm (hv w hG.c)
        refine stepAt_mono ?_ (quietAt_step hcalm hq)
        rintro u w' ⟨rfl, rfl⟩
        refine fin _ _ (Below.refl _ _) fun r' _ => ⟨fun e => ?_, fun _ _ => ⟨hcalm, w', hG.c, ?_⟩, fun _ u' hs' => ?_, fun _ A F hs' => ?_⟩
        · rw [hself3, hwant] at e; cases e
        · rw [hval]; exact quietAt_same (hself2 _) hq
        · rw [hs] at hs'; cases hs'
        · rw [hs] at hs'; cases hs'
      | some s =>
        cases s with
        | skip u => exact absurd hs (hns i u)
        | val u =>
          rw [hs] at hw
          refine stepAt_mono ?_ (stepAt_congr hex (hw.1 w hG.c fun φ hφ hb => R.g φ hφ hb))
          rintro v w' ⟨rfl, hb⟩
          refine fin _ _ hb fun r' _ => ⟨fun e => ?_, fun _ hs' => ?_, fun _ u' hs' => ?_, fun _ A F hs' => ?_⟩
          · rw [hself3, hwant] at e; cases e
          · rw [hs] at hs'; cases hs'
          · rw [hs] at hs'
            rw [hval]
            cases hs'
            rfl
          · rw [hs] at hs'; cases hs'
        | rel A F =>
          rw [hs] at hw
          refine stepAt_mono ?_ (stepAt_congr hex (hw.1 w hG.c fun φ hφ hb => R.g φ hφ hb))
          rintro v w' ⟨hA, hb⟩
          refine fin _ _ hb fun r' hr' => ⟨fun e => ?_, fun _ hs' => ?_, fun _ u' hs' => ?_, fun _ A' F' hs' => ?_⟩
          · rw [hself3, hwant] at e; cases e
          · rw [hs] at hs'; cases hs'
          · rw [hs] at hs'; cases hs'
          · rw [hs] at hs'
            cases hs'
            subst hr'
            rw [hval]
            exact ⟨hN w hG.c, hb.size, Nat.le_refl _, hA⟩
    · rw [if_neg hwant]
      refine fin _ _ (Below.refl _ _) fun r' _ => ⟨fun _ => hval _, fun e => ?_, fun e => ?_, fun e => ?_⟩
      · rw [hself3] at e; exact absurd e hwant
      · rw [hself3] at e; exact absurd e hwant
      · rw [hself3] at e; exact absurd e hwant
end


/-! ### Every order -/
def unl (n : Nat) (listed : Array Bool) : Nat := (List.range n).countP fun i => !listed.getD i true
theorem unl_zero {n : Nat} {listed : Array Bool} (h : unl n listed = 0) : ∀ i, i < n → listed.getD i true = true := fun i hi => by
  have := List.countP_eq_zero.1 h i (List.mem_range.2 hi)
  simpa using this
theorem unl_set {listed : Array Bool} {i : Nat} (hs : i < listed.size) (hun : listed.getD i true = false) : ∀ n, i < n → unl n (listed.setIfInBounds i true) + 1 = unl n listed
  | 0, h => absurd h (by omega)
  | n + 1, h => by
    unfold unl
    rw [List.range_succ, List.countP_append, List.countP_append]
    by_cases hin : i = n
    · subst hin
      have h1 : (List.range i).countP (fun j => !(listed.setIfInBounds i true).getD j true) = (List.range i).countP (fun j => !listed.getD j true) := by
        refine List.countP_congr fun j hj => ?_
        have hj' := List.mem_range.1 hj
        rw [getD_set_ne true (by omega)]
      have h2 : (listed.setIfInBounds i true).getD i true = true := by simp [hs]
      rw [h1]
      simp only [List.countP_cons, List.countP_nil, h2, hun]
      simp
    · have ih := unl_set hs hun n (by omega)
      unfold unl at ih
      rw [← ih]
      have h2 : (listed.setIfInBounds i true).getD n true = listed.getD n true := getD_set_ne true hin
      simp only [List.countP_cons, List.countP_nil, h2]
      omega

theorem ready_head {ops : Array Oper} {n : Nat} {B : List Nat} (H : ∀ k, k < n → ∃ o d, HeadOk ops n B k o d) {listed : Array Bool} (hsz : listed.size = ops.size) (hn : n ≤ ops.size) :
    ∀ i, i < n → listed.getD i true = false → ∃ j, j < n ∧ j ∈ Region.ready .any ops listed := by
  intro i
  induction i using Nat.strongRecOn with
  | _ i ih =>
    intro hi hun
    obtain ⟨o, d, h⟩ := H i hi
    by_cases hall : ∀ e ∈ o.after, Region.binds .any e = true → listed.getD e.on false = true
    · exact ⟨i, hi, mem_ready.2 ⟨hun, o, h.op, hall⟩⟩
    · have hall' : ∃ e, e ∈ o.after ∧ Region.binds .any e = true ∧ listed.getD e.on false ≠ true := by
        refine Classical.byContradiction fun hno => hall fun e he hb => ?_
        exact Classical.byContradiction fun hne => hno ⟨e, he, hb, hne⟩
      obtain ⟨e, he, hb, hne⟩ := hall'
      have hl := h.lt e (by simpa using he) hb
      refine ih e.on hl (by omega) (getD_in (by omega) (by simpa using hne))

theorem firstN_of {n : Nat} {listed : Array Bool} {ops : Array Oper} (hsz : listed.size = ops.size) (h0 : unl n listed = 0) (ht : ∀ t, n ≤ t → t < ops.size → listed.getD t true = false) : listed = firstN n ops.size := by
  have hz := unl_zero h0
  apply Array.ext
  · simp [firstN, hsz]
  · intro j h1 h2
    have e1 : (firstN n ops.size)[j] = decide (j < n) := by simp [firstN]
    rw [e1]
    by_cases hj : j < n
    · have := hz j hj
      simp [h1] at this
      simp [this, hj]
    · have := ht j (by omega) (by omega)
      simp [h1] at this
      simp [this, hj]

section
variable {P : Program} {ops : Array Oper} {n : Nat} {B : List Nat} {Sp : List (Nat × Spec)} {C : World → Prop} {N0 : Nat} {a0 : Act} {Fin : Act → World → Prop}

theorem good_end (hst : ∀ i A F, specOf Sp i = some (.rel A F) → Fit A F) (hns : ∀ i u, specOf Sp i ≠ some (.skip u)) (hN : ∀ w, C w → N0 ≤ w.heap.size)
    (hnd : ∀ (k : Nat) (o : Oper), ops[k]? = some o → noDefer o = true) (H : ∀ k, k < n → ∃ o d, HeadOk ops n B k o d) (hsz : ∀ (k : Nat) (d : Tmp), k < n → dstOf ops k = some d → d < a0.tmps.size)
    (hn : n ≤ ops.size) (htree : wpRg P ops B Sp C N0 Fin (ops.toList.take n) 0 a0 [] [])
    {listed : Array Bool} {a : Act} {w : World} {r : Nat → Nat × Nat} (hG : Good P ops n Sp C N0 a0 listed a w r) (hall : ∀ k, k < n → listed.getD k false = true) : Fin a w := by
  have htl : (ops.toList.take n).length = n := by simp; omega
  obtain ⟨l', b, G, rs, hl1, _, R, hw⟩ := descend (Pi := fun _ => True) hnd H hsz hG (fun k hk _ => hall k hk) (fun _ _ _ _ _ => trivial) hst (fun k u h => absurd h (hns k u)) hN (Nat.le_refl _) (ops.toList.take n) 0 a0 [] [] (Nat.zero_le _) (by rw [htl]; omega)
    (fun j hj => by rw [htl] at hj; simp [hj]) ⟨rfl, rfl, fun _ _ => rfl, fun j hj => absurd hj (by omega), fun φ hφ => (by cases hφ), fun ρ hρ => (by cases hρ), fun φ hφ => (by cases hφ)⟩ htree
  obtain rfl : l' = [] := List.eq_nil_of_length_eq_zero (by omega)
  unfold wpRg at hw
  have hab : b = a := by
    obtain ⟨bt, bd⟩ := b
    obtain ⟨at', ad⟩ := a
    have e1 : bd = ad := R.defs.trans hG.defs.symm
    have e2 : bt = at' := by
      apply Array.ext_getElem?
      intro t
      by_cases hj : ∃ j, j < n ∧ dstOf ops j = some t
      · obtain ⟨j, hjn, hjd⟩ := hj
        exact R.new j hjn trivial t hjd
      · have h1 : ∀ j, j < n → dstOf ops j ≠ some t := fun j hj' e => hj ⟨j, hj', e⟩
        exact (R.old t fun j hj' => h1 j hj').trans (hG.old t fun j hj' _ => h1 j hj').symm
    rw [e1, e2]
  rw [← hab]
  exact hw w hG.c fun φ hφ => R.g φ hφ trivial
end

section
variable {P : Program} {ops : Array Oper} {n : Nat} {B : List Nat} {Sp : List (Nat × Spec)} {C : World → Prop} {N0 : Nat} {a0 : Act}

structure RgB (ops : Array Oper) (n : Nat) (B : List Nat) : Prop where
  nd : ∀ (k : Nat) (o : Oper), ops[k]? = some o → noDefer o = true
  le : n ≤ ops.size
  head : ∀ k, k < n → ∃ o d, HeadOk ops n B k o d
  tail : n = ops.size ∨ (Region.sinkB .any ops n = true ∧ Region.chainB .any ops n = true)
  seq : Region.seqB .any ops (ops.size - n) n (firstN n ops.size) = true
theorem rgB_spec {l : List Oper} {n : Nat} (h : rgB l.toArray n = true) : RgB l.toArray n (befores l []) := by
  unfold rgB at h
  simp only [Bool.and_eq_true, Bool.or_eq_true, decide_eq_true_eq, beq_iff_eq] at h
  obtain ⟨⟨⟨⟨h1, h2⟩, h3⟩, h4⟩, h5⟩ := h
  refine ⟨fun k o ho => List.all_eq_true.1 h1 o ?_, h2, fun k hk => headOk_of (List.all_eq_true.1 h3 k (List.mem_range.2 hk)), h4, h5⟩
  have : l[k]? = some o := by simpa using ho
  exact List.mem_of_getElem? this

theorem any_of_good {Q : Exit → Act → World → Prop} (hst : ∀ i A F, specOf Sp i = some (.rel A F) → Fit A F) (hns : ∀ i u, specOf Sp i ≠ some (.skip u)) (hC : ∀ w w', C w → Below w.heap.size w w' → C w') (hN : ∀ w, C w → N0 ≤ w.heap.size)
    (hB : RgB ops n B) (hsz : ∀ (k : Nat) (d : Tmp), k < n → dstOf ops k = some d → d < a0.tmps.size)
    (htree : wpRg P ops B Sp C N0 (fun a w => wpList P ops Q (ops.toList.drop n) a w) (ops.toList.take n) 0 a0 [] []) :
    ∀ (f : Nat) (listed : Array Bool) (a : Act) (w : World) (r : Nat → Nat × Nat), unl n listed = f → HeadInv .any ops n listed → Good P ops n Sp C N0 a0 listed a w r → wpAny P .any ops Q (f + (ops.size - n)) listed a w := by
  intro f
  induction f with
  | zero =>
    intro listed a w r hf inv hG
    have hall : ∀ k, k < n → listed.getD k false = true := fun k hk => by
      have h1 := unl_zero hf k hk
      have h2 : k < listed.size := by rw [inv.size]; have := hB.le; omega
      simp [h2] at h1 ⊢
      exact h1
    have hfin := good_end hst hns hN hB.nd hB.head hsz hB.le htree hG hall
    have hls := firstN_of inv.size hf inv.tail
    have hdl : (ops.toList.drop n).length = ops.size - n := by simp
    have := wpAny_of_seq (md := .any) (Q' := Q) (ops.toList.drop n) n listed a w (fun j => by simp [List.getElem?_drop]) (by rw [hdl, hls]; exact hB.seq) hfin
    rw [hdl] at this
    rw [Nat.zero_add]
    exact this
  | succ f ih =>
    intro listed a w r hf inv hG
    rw [show f + 1 + (ops.size - n) = (f + (ops.size - n)) + 1 by omega]
    have hex : ∃ i, i < n ∧ listed.getD i true = false := by
      refine Classical.byContradiction fun hno => ?_
      have : unl n listed = 0 := List.countP_eq_zero.2 fun i hi => by
        have hi' := List.mem_range.1 hi
        cases hd : listed.getD i true with
        | true => simp
        | false => exact absurd ⟨i, hi', hd⟩ hno
      omega
    obtain ⟨i0, hi0, hun0⟩ := hex
    obtain ⟨j0, _, hj0⟩ := ready_head hB.head inv.size hB.le i0 hi0 hun0
    refine ⟨fun h0 => (by rw [h0] at hj0; cases hj0), fun i hi => ?_⟩
    obtain ⟨hun, oi, hoi, _⟩ := mem_ready.1 hi
    have hin : i < n := by
      rcases Nat.lt_or_ge i n with h | h
      · exact h
      · have hlt : i < ops.size := (Array.getElem?_eq_some_iff.1 hoi).1
        rcases hB.tail with h1 | ⟨h1, h2⟩
        · omega
        · exact absurd hi (tail_waits h1 h2 (by omega) inv _ i0 rfl hi0 hun0 i h)
    obtain ⟨o, d, h⟩ := hB.head i hin
    have hs := good_step hst hns hC hN hB.nd hB.head hsz hB.le htree hG inv hin h hi
    have hunl := unl_set (by rw [inv.size]; have := hB.le; omega) hun n hin
    have next : ∀ a' w', (∃ r', Good P ops n Sp C N0 a0 (listed.setIfInBounds i true) a' w' r') → wpAny P .any ops Q (f + (ops.size - n)) (listed.setIfInBounds i true) a' w' :=
      fun a' w' ⟨r', hG'⟩ => ih _ a' w' r' (by omega) (inv.set hi hin) hG'
    unfold wpOp
    simp only [h.op]
    by_cases hw : Region.wanted o (yielded ops a.tmps) = true
    · rw [if_pos hw] at hs ⊢
      exact .inl (wp_of_step (stepAt_mono (fun v w' hv => next _ _ hv) hs))
    · rw [if_neg hw] at hs ⊢
      exact next _ _ hs

theorem wpAnyIn_of_seq {F : Fence} {m : Nat} {Q' : Exit → Act → World → Prop} : ∀ (l : List Oper) (k : Nat) (listed : Array Bool) (a : Act) (w : World), (∀ j, l[j]? = ops[k + j]?) →
    Region.seqB .any ops l.length k listed = true → wpListIn F m P ops Q' l a w → wpAnyIn F m P .any ops Q' l.length listed a w
  | [], _, _, _, _, _, hB, h => ⟨by simpa [Region.seqB] using hB, h⟩
  | o :: l, k, listed, a, w, hl, hB, h => by
    have h0 : ops[k]? = some o := by simpa using (hl 0).symm
    simp only [List.length_cons, Region.seqB, Bool.and_eq_true, decide_eq_true_eq] at hB
    refine ⟨fun h1 => (by rw [hB.1] at h1; cases h1), fun i hi => ?_⟩
    rw [hB.1] at hi
    have hik : i = k := by simpa using hi
    subst hik
    have hw : wpOpIn F m P ops Q' i (wpListIn F m P ops Q' l) a w := by unfold wpOpIn; simp only [h0]; exact h
    exact wpOpIn_mono (fun a' w' h' => wpAnyIn_of_seq l (i + 1) _ a' w' (fun j => by have := hl (j + 1); simpa [Nat.add_assoc, Nat.add_comm 1 j] using this) hB.2 h') hw

theorem anyIn_of_good {F : Fence} {m : Nat} (hF : Open P F) {Q : Exit → Act → World → Prop} (hst : ∀ i A F, specOf Sp i = some (.rel A F) → Fit A F) (hns : ∀ i u, specOf Sp i ≠ some (.skip u)) (hC : ∀ w w', C w → Below w.heap.size w w' → C w') (hN : ∀ w, C w → N0 ≤ w.heap.size)
    (hB : RgB ops n B) (hsz : ∀ (k : Nat) (d : Tmp), k < n → dstOf ops k = some d → d < a0.tmps.size)
    (htree : wpRg P ops B Sp C N0 (fun a w => wpListIn F m P ops Q (ops.toList.drop n) a w) (ops.toList.take n) 0 a0 [] []) :
    ∀ (f : Nat) (listed : Array Bool) (a : Act) (w : World) (r : Nat → Nat × Nat), unl n listed = f → HeadInv .any ops n listed → Good P ops n Sp C N0 a0 listed a w r → wpAnyIn F m P .any ops Q (f + (ops.size - n)) listed a w := by
  intro f
  induction f with
  | zero =>
    intro listed a w r hf inv hG
    have hall : ∀ k, k < n → listed.getD k false = true := fun k hk => by
      have h1 := unl_zero hf k hk
      have h2 : k < listed.size := by rw [inv.size]; have := hB.le; omega
      simp [h2] at h1 ⊢
      exact h1
    have hfin := good_end hst hns hN hB.nd hB.head hsz hB.le htree hG hall
    have hls := firstN_of inv.size hf inv.tail
    have hdl : (ops.toList.drop n).length = ops.size - n := by simp
    have := wpAnyIn_of_seq (F := F) (m := m) (Q' := Q) (ops.toList.drop n) n listed a w (fun j => by simp [List.getElem?_drop]) (by rw [hdl, hls]; exact hB.seq) hfin
    rw [hdl] at this
    rw [Nat.zero_add]
    exact this
  | succ f ih =>
    intro listed a w r hf inv hG
    rw [show f + 1 + (ops.size - n) = (f + (ops.size - n)) + 1 by omega]
    have hex : ∃ i, i < n ∧ listed.getD i true = false := by
      refine Classical.byContradiction fun hno => ?_
      have : unl n listed = 0 := List.countP_eq_zero.2 fun i hi => by
        have hi' := List.mem_range.1 hi
        cases hd : listed.getD i true with
        | true => simp
        | false => exact absurd ⟨i, hi', hd⟩ hno
      omega
    obtain ⟨i0, hi0, hun0⟩ := hex
    obtain ⟨j0, _, hj0⟩ := ready_head hB.head inv.size hB.le i0 hi0 hun0
    refine ⟨fun h0 => (by rw [h0] at hj0; cases hj0), fun i hi => ?_⟩
    obtain ⟨hun, oi, hoi, _⟩ := mem_ready.1 hi
    have hin : i < n := by
      rcases Nat.lt_or_ge i n with h | h
      · exact h
      · have hlt : i < ops.size := (Array.getElem?_eq_some_iff.1 hoi).1
        rcases hB.tail with h1 | ⟨h1, h2⟩
        · omega
        · exact absurd hi (tail_waits h1 h2 (by omega) inv _ i0 rfl hi0 hun0 i h)
    obtain ⟨o, d, h⟩ := hB.head i hin
    have hs := good_step hst hns hC hN hB.nd hB.head hsz hB.le htree hG inv hin h hi
    have hunl := unl_set (by rw [inv.size]; have := hB.le; omega) hun n hin
    have next : ∀ a' w', (∃ r', Good P ops n Sp C N0 a0 (listed.setIfInBounds i true) a' w' r') → wpAnyIn F m P .any ops Q (f + (ops.size - n)) (listed.setIfInBounds i true) a' w' :=
      fun a' w' ⟨r', hG'⟩ => ih _ a' w' r' (by omega) (inv.set hi hin) hG'
    unfold wpOpIn
    simp only [h.op]
    by_cases hw : Region.wanted o (yielded ops a.tmps) = true
    · rw [if_pos hw] at hs ⊢
      exact wpIn_of_step hF (hB.nd i o h.op) (stepAt_mono (fun v w' hv => next _ _ hv) hs)
    · rw [if_neg hw] at hs ⊢
      exact ⟨fun f' _ => hF.fn f', next _ _ hs⟩
end

/-! ### The law, as it is used -/
structure GW (W : World) where
  w : World
  h : Below W.heap.size W w
instance (W : World) : Inhabited (GW W) := ⟨⟨W, Below.refl _ _⟩⟩
def Grw (W : World) (w' : World) : Prop := ∃ x : GW W, w' = x.w
theorem grw_of {W w' : World} (h : Below W.heap.size W w') : Grw W w' := ⟨⟨w', h⟩, rfl⟩
theorem grw_below {W w' : World} (h : Grw W w') : Below W.heap.size W w' := by obtain ⟨x, rfl⟩ := h; exact x.h
theorem grw_next {W w w' : World} (h : Grw W w) (hb : Below w.heap.size w w') : Grw W w' := grw_of ((grw_below h).trans (hb.mono (grw_below h).size))
def stables : List (Nat × Spec) → Prop
  | [] => True
  | (_, .val _) :: l => stables l
  | (_, .skip _) :: _ => False
  | (_, .rel A F) :: l => Fit A F ∧ stables l
theorem stables_spec : ∀ {Sp : List (Nat × Spec)}, stables Sp → ∀ i A F, specOf Sp i = some (.rel A F) → Fit A F
  | [], _, i, A, F, h => by simp [specOf] at h
  | (j, .val u) :: l, hs, i, A, F, h => by
    unfold specOf at h
    split at h
    · cases h
    · exact stables_spec (Sp := l) hs i A F h
  | (j, .skip u) :: l, hs, i, A, F, h => False.elim hs
  | (j, .rel A' F') :: l, hs, i, A, F, h => by
    unfold specOf at h
    split at h
    · cases h; exact hs.1
    · exact stables_spec (Sp := l) hs.2 i A F h
theorem stables_ns : ∀ {Sp : List (Nat × Spec)}, stables Sp → ∀ i u, specOf Sp i ≠ some (.skip u)
  | [], _, i, u, h => by simp [specOf] at h
  | (j, .val u) :: l, hs, i, _, h => by
    unfold specOf at h
    split at h
    · cases h
    · exact stables_ns (Sp := l) hs i _ h
  | (j, .skip u) :: l, hs, i, _, h => False.elim hs
  | (j, .rel A' F') :: l, hs, i, _, h => by
    unfold specOf at h
    split at h
    · cases h
    · exact stables_ns (Sp := l) hs.2 i _ h
def sizesB (ops : Array Oper) (n size : Nat) : Bool := (List.range n).all fun k => match dstOf ops k with | some d => decide (d < size) | none => true
theorem sizesB_spec {ops : Array Oper} {n size : Nat} (h : sizesB ops n size = true) : ∀ (k : Nat) (d : Tmp), k < n → dstOf ops k = some d → d < size := fun k d hk hd => by
  have := List.all_eq_true.1 h k (List.mem_range.2 hk)
  simpa [hd] using this

theorem wp_region_rg {P : Program} {id : Nat} {l : List Oper} {Q : Exit → Act → World → Prop} {a : Act} {W : World} (n : Nat) (Sp : List (Nat × Spec)) (hm : P.follows .mixedOrders = true) (hB : rgB l.toArray n = true) (hz : sizesB l.toArray n a.tmps.size = true)
    (st : stables Sp) (walk : wpRg P l.toArray (befores l []) Sp (Grw W) W.heap.size (fun a' w' => wpList P l.toArray Q (l.drop n) a' w') (l.take n) 0 a [] []) : (Code.region id l.toArray true).wp P Q a W := by
  refine wp_region_any hm ?_
  have hb := rgB_spec hB
  have h0 : unl n (Array.replicate l.toArray.size false) = n := by
    unfold unl
    have : (List.range n).countP (fun i => !(Array.replicate l.toArray.size false).getD i true) = (List.range n).length := List.countP_eq_length.2 fun i hi => by
      have hi' := List.mem_range.1 hi
      have := hb.le
      have h1 : i < l.length := by simp only [List.size_toArray] at this; omega
      simp [h1]
    rw [this, List.length_range]
  have inv0 : HeadInv .any l.toArray n (Array.replicate l.toArray.size false) :=
    ⟨by simp, fun j oj _ hl => (by rw [getD_replicate_false] at hl; cases hl), fun t _ ht => getD_in (by simpa using ht) (getD_replicate_false _ _)⟩
  have := any_of_good (P := P) (Q := Q) (stables_spec st) (stables_ns st) (fun w w' h h' => grw_next h h') (fun w h => (grw_below h).size) hb (a0 := a) (sizesB_spec hz) (by simpa using walk) n _ a { W with drawn := W.drawn + 1 } (fun _ => (0, 0)) h0 inv0
    ⟨grw_of (Below.refl _ W).drew, rfl, rfl, fun _ _ => rfl, fun k o d _ _ _ hl => (by rw [getD_replicate_false] at hl; cases hl), fun k j _ _ _ hl => (by rw [getD_replicate_false] at hl; cases hl)⟩
  rw [show n + (l.toArray.size - n) = l.toArray.size by have := hb.le; omega] at this
  exact this

theorem wpIn_region_rg {F : Fence} {m : Nat} {P : Program} {id : Nat} {l : List Oper} {Q : Exit → Act → World → Prop} {a : Act} {W : World} (hF : Open P F) (n : Nat) (Sp : List (Nat × Spec)) (hm : P.follows .mixedOrders = true) (hB : rgB l.toArray n = true) (hz : sizesB l.toArray n a.tmps.size = true)
    (st : stables Sp) (walk : wpRg P l.toArray (befores l []) Sp (Grw W) W.heap.size (fun a' w' => wpListIn F m P l.toArray Q (l.drop n) a' w') (l.take n) 0 a [] []) : (Code.region id l.toArray true).wpIn F m P Q a W := by
  refine wpIn_region_any hm ?_
  have hb := rgB_spec hB
  have h0 : unl n (Array.replicate l.toArray.size false) = n := by
    unfold unl
    have : (List.range n).countP (fun i => !(Array.replicate l.toArray.size false).getD i true) = (List.range n).length := List.countP_eq_length.2 fun i hi => by
      have hi' := List.mem_range.1 hi
      have := hb.le
      have h1 : i < l.length := by simp only [List.size_toArray] at this; omega
      simp [h1]
    rw [this, List.length_range]
  have inv0 : HeadInv .any l.toArray n (Array.replicate l.toArray.size false) :=
    ⟨by simp, fun j oj _ hl => (by rw [getD_replicate_false] at hl; cases hl), fun t _ ht => getD_in (by simpa using ht) (getD_replicate_false _ _)⟩
  have := anyIn_of_good (P := P) (m := m) hF (Q := Q) (stables_spec st) (stables_ns st) (fun w w' h h' => grw_next h h') (fun w h => (grw_below h).size) hb (a0 := a) (sizesB_spec hz) (by simpa using walk) n _ a { W with drawn := W.drawn + 1 } (fun _ => (0, 0)) h0 inv0
    ⟨grw_of (Below.refl _ W).drew, rfl, rfl, fun _ _ => rfl, fun k o d _ _ _ hl => (by rw [getD_replicate_false] at hl; cases hl), fun k j _ _ _ hl => (by rw [getD_replicate_false] at hl; cases hl)⟩
  rw [show n + (l.toArray.size - n) = l.toArray.size by have := hb.le; omega] at this
  exact this


/-! ### The steps -/
section
variable {P : Program} {ops : Array Oper} {B : List Nat} {Sp : List (Nat × Spec)} {W : World} {N0 : Nat} {Fin : Act → World → Prop} {o : Oper} {l : List Oper} {i : Nat} {a : Act} {G : List (Nat × (World → Prop))} {rs : List (Nat × Nat)}
theorem rg_nil (h : ∀ w, Grw W w → (∀ φ ∈ G, φ.2 w) → Fin a w) : wpRg P ops B Sp (Grw W) N0 Fin [] i a G rs := by
  unfold wpRg; exact h
theorem rg_skip (hw : Region.wanted o (yielded ops a.tmps) = false) (h : ∀ a', a' = a.put o.dst undef → wpRg P ops B Sp (Grw W) N0 Fin l (i + 1) a' G rs) : wpRg P ops B Sp (Grw W) N0 Fin (o :: l) i a G rs := by
  unfold wpRg; rw [if_neg (by rw [hw]; decide)]; exact h _ rfl
theorem rg_det (hw : Region.wanted o (yielded ops a.tmps) = true) (hs : specOf Sp i = none) (hc : calm o = true)
    (h : ∀ K : Act → Prop, (∀ a, wpRg P ops B Sp (Grw W) N0 Fin l (i + 1) a G rs → K a) → o.quiet P a (fun w' => ∃ x : GW W, w' = x.w) K) : wpRg P ops B Sp (Grw W) N0 Fin (o :: l) i a G rs := by
  unfold wpRg; rw [if_pos hw, hs]; exact ⟨hc, h _ fun _ h => h⟩
theorem rg_val {u : Value} (hw : Region.wanted o (yielded ops a.tmps) = true) (hs : specOf Sp i = some (.val u))
    (h1 : ∀ w, Grw W w → (∀ φ ∈ G, isBefore B φ.1 i = true → φ.2 w) → stepAt P o a w (fun v w' => v = u ∧ Below w.heap.size w w'))
    (h : ∀ a', a' = a.put o.dst u → wpRg P ops B Sp (Grw W) N0 Fin l (i + 1) a' G rs) : wpRg P ops B Sp (Grw W) N0 Fin (o :: l) i a G rs := by
  unfold wpRg; rw [if_pos hw, hs]; exact ⟨h1, h _ rfl⟩
theorem rg_rel {A : Nat → Nat → Value → World → Prop} {F : Nat → Value → Prop} (hw : Region.wanted o (yielded ops a.tmps) = true) (hs : specOf Sp i = some (.rel A F))
    (h1 : ∀ w, Grw W w → (∀ φ ∈ G, isBefore B φ.1 i = true → φ.2 w) → stepAt P o a w (fun v w' => A w.heap.size w'.heap.size v w' ∧ Below w.heap.size w w'))
    (h : ∀ n m v, N0 ≤ n → n ≤ m → (∀ r ∈ rs, m ≤ r.1 ∨ r.2 ≤ n) → F n v → ∀ a', a' = a.put o.dst v → wpRg P ops B Sp (Grw W) N0 Fin l (i + 1) a' (G ++ [(i, fun w => m ≤ w.heap.size ∧ A n m v w)]) (rs ++ [(n, m)])) : wpRg P ops B Sp (Grw W) N0 Fin (o :: l) i a G rs := by
  unfold wpRg; rw [if_pos hw, hs]; exact ⟨h1, fun n m v q1 q2 q3 q4 => h n m v q1 q2 q3 q4 _ rfl⟩
end

theorem step_call {P : Program} {o : Oper} {a : Act} {w : World} {R : Value → World → Prop} {f : FuncId} {xs : List Operand} {ts : Array TypeId} {args : List Value} (hf : ∀ args w, (callFunc f args).run P w = .ok (.enter f args) w)
    (h : Calls P f args.toArray w fun e w' => ∃ v, e = .returned v ∧ R v w')
    (ho : o.op = .call { callee := .value (.func f), args := xs.toArray, argTypes := ts }) (hx : xs.map a.eval = args) : stepAt P o a w R := by
  unfold stepAt execOp
  simp only [ho, resolve, List.map_toArray, hx]
  have : (do let d ← Deferred.ofValue (a.eval (.func f)) args.toArray; invoke d.target d.args : Sem Next).run P w = .ok (.enter f args.toArray) w := by
    simp [Act.eval, Deferred.ofValue, invoke, hf]
  rw [this]
  exact h
theorem step_call_slot {P : Program} {o : Oper} {a : Act} {w : World} {R : Value → World → Prop} {f : FuncId} {t : Tmp} {xs : List Operand} {ts : Array TypeId} {args args' first cap : List Value} (hf : ∀ args w, (callFunc f args).run P w = .ok (.enter f args) w)
    (h : Calls P f args'.toArray w fun e w' => ∃ v, e = .returned v ∧ R v w')
    (ho : o.op = .call { callee := .value (.tmp t), args := xs.toArray, argTypes := ts }) (hv : a.eval (.tmp t) = .func (.func f) first.toArray cap.toArray) (hx : xs.map a.eval = args) (hx' : first ++ args ++ cap = args') : stepAt P o a w R := by
  unfold stepAt execOp
  simp only [ho, resolve, List.map_toArray, hx, hv]
  have : (do let d ← Deferred.ofValue (.func (.func f) first.toArray cap.toArray) args.toArray; invoke d.target d.args : Sem Next).run P w = .ok (.enter f args'.toArray) w := by
    subst hx'
    simp [Deferred.ofValue, invoke, hf]
  rw [this]
  exact h
theorem pick_last {G : List (Nat × (World → Prop))} {x : Nat × (World → Prop)} {B : List Nat} {i : Nat} {w : World} (h : ∀ φ ∈ G ++ [x], isBefore B φ.1 i = true → φ.2 w) (hb : isBefore B x.1 i = true) : x.2 w :=
  h x (List.mem_append_right _ (List.mem_singleton.2 rfl)) hb
theorem end_last {G : List (Nat × (World → Prop))} {x : Nat × (World → Prop)} {w : World} (h : ∀ φ ∈ G ++ [x], φ.2 w) : x.2 w := h x (List.mem_append_right _ (List.mem_singleton.2 rfl))
theorem end_init {G : List (Nat × (World → Prop))} {x : Nat × (World → Prop)} {w : World} (h : ∀ φ ∈ G ++ [x], φ.2 w) : ∀ φ ∈ G, φ.2 w := fun φ hφ => h φ (List.mem_append_left _ hφ)
def Ret (v : Value) (w : World) (e : Ending) (w' : World) : Prop := e = .returned v ∧ Below w.heap.size w w'
def RetR (A : Nat → Nat → Value → World → Prop) (w : World) (e : Ending) (w' : World) : Prop := ∃ v, e = .returned v ∧ A w.heap.size w'.heap.size v w' ∧ Below w.heap.size w w'
section
variable {P : Program} {o : Oper} {a : Act} {w : World} {f : FuncId} {t : Tmp} {xs : List Operand} {ts : Array TypeId} {args args' first cap : List Value} {u : Value} {A : Nat → Nat → Value → World → Prop}
theorem step_callv (hf : ∀ args w, (callFunc f args).run P w = .ok (.enter f args) w) (h : Calls P f args.toArray w (Ret u w))
    (ho : o.op = .call { callee := .value (.func f), args := xs.toArray, argTypes := ts }) (hx : xs.map a.eval = args) : stepAt P o a w (fun v w' => v = u ∧ Below w.heap.size w w') :=
  step_call hf (h.mono fun _ _ ⟨he, hb⟩ => ⟨u, he, rfl, hb⟩) ho hx
theorem step_callr (hf : ∀ args w, (callFunc f args).run P w = .ok (.enter f args) w) (h : Calls P f args.toArray w (RetR A w))
    (ho : o.op = .call { callee := .value (.func f), args := xs.toArray, argTypes := ts }) (hx : xs.map a.eval = args) : stepAt P o a w (fun v w' => A w.heap.size w'.heap.size v w' ∧ Below w.heap.size w w') :=
  step_call hf (h.mono fun _ _ ⟨v, he, hb⟩ => ⟨v, he, hb⟩) ho hx
theorem step_callvs (hf : ∀ args w, (callFunc f args).run P w = .ok (.enter f args) w) (h : Calls P f args'.toArray w (Ret u w))
    (ho : o.op = .call { callee := .value (.tmp t), args := xs.toArray, argTypes := ts }) (hv : a.eval (.tmp t) = .func (.func f) first.toArray cap.toArray) (hx : xs.map a.eval = args) (hx' : first ++ args ++ cap = args') : stepAt P o a w (fun v w' => v = u ∧ Below w.heap.size w w') :=
  step_call_slot hf (h.mono fun _ _ ⟨he, hb⟩ => ⟨u, he, rfl, hb⟩) ho hv hx hx'
end
theorem ret_of_same {P : Program} {f : FuncId} {args : Array Value} {w : World} {v : Value} (h : Calls P f args w fun e w' => e = .returned v ∧ w = w') : Calls P f args w (Ret v w) :=
  h.mono fun _ _ ⟨he, hw⟩ => ⟨he, by subst hw; exact Below.refl _ _⟩
theorem gw_cell {W : World} {b i : Nat} {v : Value} (hb : b < W.heap.size) (h : W.cell? ⟨b, i, none⟩ = some v) (z : GW W) : z.w.cell? ⟨b, i, none⟩ = some v := (z.h.cell (p := ⟨b, i, none⟩) hb).trans h
/-! ### Blocks that are known whole -/
def Blk (w : World) (g : Nat) (t : TypeId) (cs : Array Value) : Prop := w.heap[g]? = some (.cells cs t (0, 0))
section
variable {w w' : World} {g : Nat} {t : TypeId} {cs : Array Value}
theorem Blk.lt (h : Blk w g t cs) : g < w.heap.size := by
  rcases Nat.lt_or_ge g w.heap.size with hlt | hge
  · exact hlt
  · unfold Blk at h; rw [Array.getElem?_eq_none hge] at h; cases h
theorem Blk.cell (h : Blk w g t cs) (i : Nat) : w.cell? ⟨g, i, none⟩ = cs[i]? := cell_of_row w g i cs t (0, 0) h
theorem Blk.frozen (h : Blk w g t cs) (i : Nat) : w.frozen? ⟨g, i, none⟩ = false := by
  unfold Blk at h
  simp [World.frozen?, h]
theorem Blk.new (w : World) (t : TypeId) (cs : Array Value) : Blk (w.alloc (.cells cs t)) w.heap.size t cs := World.alloc_heap_new w _
theorem Blk.new_at {n : Nat} (w : World) (t : TypeId) (cs : Array Value) (h : n = w.heap.size) : Blk (w.alloc (.cells cs t)) n t cs := by subst h; exact Blk.new w t cs
theorem Blk.alloc (h : Blk w g t cs) (o : Obj) : Blk (w.alloc o) g t cs := (Below.heap_alloc w o g h.lt).trans h
theorem Blk.set_ (h : Blk w g t cs) (i : Nat) (u : Value) : Blk (w.setCell ⟨g, i, none⟩ u) g t (cs.setIfInBounds i u) := by
  unfold Blk at h ⊢
  simp [World.setCell, Array.getElem?_modify, h]
theorem Blk.far (h : Blk w g t cs) {p : Addr} (hp : g ≠ p.block) (u : Value) : Blk (w.setCell p u) g t cs := (Below.heap_setCell w p u g hp).trans h
theorem Blk.below {N : Nat} (h : Blk w g t cs) (hb : Below N w w') (hg : g < N) : Blk w' g t cs := (hb.block g hg).trans h
theorem Blk.gw (h : Blk w g t cs) (z : GW w) : Blk z.w g t cs := h.below z.h h.lt
theorem gw_blk (h : Blk w g t cs) (z : GW w) (i : Nat) : z.w.cell? ⟨g, i, none⟩ = cs[i]? := (h.gw z).cell i
end

/-! ### The blocks that a function lays as it begins, under one name -/
theorem stk1 {M : World → Prop} {w : World} {c1 : Array Value} {t1 : TypeId} (h : ∀ W, Below w.heap.size w W → Hid (W.heap.size = w.heap.size + 1) → Blk W (w.heap.size) t1 c1 → M W) : M (w.alloc (.cells c1 t1)) := by
  refine h _ ((Below.refl _ w).alloc (Nat.le_refl _) _) (by show _ = _; simp only [World.size_alloc]) (Blk.new_at w t1 c1 rfl)
theorem stk2 {M : World → Prop} {w : World} {c1 : Array Value} {t1 : TypeId} {c2 : Array Value} {t2 : TypeId} (h : ∀ W, Below w.heap.size w W → Hid (W.heap.size = w.heap.size + 1 + 1) → Blk W (w.heap.size) t1 c1 → Blk W (w.heap.size + 1) t2 c2 → M W) : M ((w.alloc (.cells c1 t1)).alloc (.cells c2 t2)) := by
  refine h _ (((Below.refl _ w).alloc (Nat.le_refl _) _).alloc (by simp only [World.size_alloc]; omega) _) (by show _ = _; simp only [World.size_alloc]) ((Blk.new_at w t1 c1 rfl).alloc _) (Blk.new_at (w.alloc (.cells c1 t1)) t2 c2 (by simp only [World.size_alloc]))
theorem stk3 {M : World → Prop} {w : World} {c1 : Array Value} {t1 : TypeId} {c2 : Array Value} {t2 : TypeId} {c3 : Array Value} {t3 : TypeId} (h : ∀ W, Below w.heap.size w W → Hid (W.heap.size = w.heap.size + 1 + 1 + 1) → Blk W (w.heap.size) t1 c1 → Blk W (w.heap.size + 1) t2 c2 → Blk W (w.heap.size + 1 + 1) t3 c3 → M W) : M (((w.alloc (.cells c1 t1)).alloc (.cells c2 t2)).alloc (.cells c3 t3)) := by
  refine h _ ((((Below.refl _ w).alloc (Nat.le_refl _) _).alloc (by simp only [World.size_alloc]; omega) _).alloc (by simp only [World.size_alloc]; omega) _) (by show _ = _; simp only [World.size_alloc]) (((Blk.new_at w t1 c1 rfl).alloc _).alloc _) ((Blk.new_at (w.alloc (.cells c1 t1)) t2 c2 (by simp only [World.size_alloc])).alloc _) (Blk.new_at ((w.alloc (.cells c1 t1)).alloc (.cells c2 t2)) t3 c3 (by simp only [World.size_alloc]))
theorem stk4 {M : World → Prop} {w : World} {c1 : Array Value} {t1 : TypeId} {c2 : Array Value} {t2 : TypeId} {c3 : Array Value} {t3 : TypeId} {c4 : Array Value} {t4 : TypeId} (h : ∀ W, Below w.heap.size w W → Hid (W.heap.size = w.heap.size + 1 + 1 + 1 + 1) → Blk W (w.heap.size) t1 c1 → Blk W (w.heap.size + 1) t2 c2 → Blk W (w.heap.size + 1 + 1) t3 c3 → Blk W (w.heap.size + 1 + 1 + 1) t4 c4 → M W) : M ((((w.alloc (.cells c1 t1)).alloc (.cells c2 t2)).alloc (.cells c3 t3)).alloc (.cells c4 t4)) := by
  refine h _ (((((Below.refl _ w).alloc (Nat.le_refl _) _).alloc (by simp only [World.size_alloc]; omega) _).alloc (by simp only [World.size_alloc]; omega) _).alloc (by simp only [World.size_alloc]; omega) _) (by show _ = _; simp only [World.size_alloc]) ((((Blk.new_at w t1 c1 rfl).alloc _).alloc _).alloc _) (((Blk.new_at (w.alloc (.cells c1 t1)) t2 c2 (by simp only [World.size_alloc])).alloc _).alloc _) ((Blk.new_at ((w.alloc (.cells c1 t1)).alloc (.cells c2 t2)) t3 c3 (by simp only [World.size_alloc])).alloc _) (Blk.new_at (((w.alloc (.cells c1 t1)).alloc (.cells c2 t2)).alloc (.cells c3 t3)) t4 c4 (by simp only [World.size_alloc]))
theorem wp_stk1 {P : Program} {c : Code} {Q : Exit → Act → World → Prop} {a : Act} {w : World} {c1 : Array Value} {t1 : TypeId} (h : ∀ W, Below w.heap.size w W → Hid (W.heap.size = w.heap.size + 1) → Blk W (w.heap.size) t1 c1 → Code.wp P c Q a W) : Code.wp P c Q a (w.alloc (.cells c1 t1)) := stk1 (M := fun W => Code.wp P c Q a W) h
theorem wp_stk2 {P : Program} {c : Code} {Q : Exit → Act → World → Prop} {a : Act} {w : World} {c1 : Array Value} {t1 : TypeId} {c2 : Array Value} {t2 : TypeId} (h : ∀ W, Below w.heap.size w W → Hid (W.heap.size = w.heap.size + 1 + 1) → Blk W (w.heap.size) t1 c1 → Blk W (w.heap.size + 1) t2 c2 → Code.wp P c Q a W) : Code.wp P c Q a ((w.alloc (.cells c1 t1)).alloc (.cells c2 t2)) := stk2 (M := fun W => Code.wp P c Q a W) h
theorem wp_stk3 {P : Program} {c : Code} {Q : Exit → Act → World → Prop} {a : Act} {w : World} {c1 : Array Value} {t1 : TypeId} {c2 : Array Value} {t2 : TypeId} {c3 : Array Value} {t3 : TypeId} (h : ∀ W, Below w.heap.size w W → Hid (W.heap.size = w.heap.size + 1 + 1 + 1) → Blk W (w.heap.size) t1 c1 → Blk W (w.heap.size + 1) t2 c2 → Blk W (w.heap.size + 1 + 1) t3 c3 → Code.wp P c Q a W) : Code.wp P c Q a (((w.alloc (.cells c1 t1)).alloc (.cells c2 t2)).alloc (.cells c3 t3)) := stk3 (M := fun W => Code.wp P c Q a W) h
theorem wp_stk4 {P : Program} {c : Code} {Q : Exit → Act → World → Prop} {a : Act} {w : World} {c1 : Array Value} {t1 : TypeId} {c2 : Array Value} {t2 : TypeId} {c3 : Array Value} {t3 : TypeId} {c4 : Array Value} {t4 : TypeId} (h : ∀ W, Below w.heap.size w W → Hid (W.heap.size = w.heap.size + 1 + 1 + 1 + 1) → Blk W (w.heap.size) t1 c1 → Blk W (w.heap.size + 1) t2 c2 → Blk W (w.heap.size + 1 + 1) t3 c3 → Blk W (w.heap.size + 1 + 1 + 1) t4 c4 → Code.wp P c Q a W) : Code.wp P c Q a ((((w.alloc (.cells c1 t1)).alloc (.cells c2 t2)).alloc (.cells c3 t3)).alloc (.cells c4 t4)) := stk4 (M := fun W => Code.wp P c Q a W) h
theorem calls_stk1 {P : Program} {f : FuncId} {args : Array Value} {R : Ending → World → Prop} {w : World} {c1 : Array Value} {t1 : TypeId} (h : ∀ W, Below w.heap.size w W → Hid (W.heap.size = w.heap.size + 1) → Blk W (w.heap.size) t1 c1 → Calls P f args W R) : Calls P f args (w.alloc (.cells c1 t1)) R := stk1 (M := fun W => Calls P f args W R) h
theorem calls_stk2 {P : Program} {f : FuncId} {args : Array Value} {R : Ending → World → Prop} {w : World} {c1 : Array Value} {t1 : TypeId} {c2 : Array Value} {t2 : TypeId} (h : ∀ W, Below w.heap.size w W → Hid (W.heap.size = w.heap.size + 1 + 1) → Blk W (w.heap.size) t1 c1 → Blk W (w.heap.size + 1) t2 c2 → Calls P f args W R) : Calls P f args ((w.alloc (.cells c1 t1)).alloc (.cells c2 t2)) R := stk2 (M := fun W => Calls P f args W R) h
theorem calls_stk3 {P : Program} {f : FuncId} {args : Array Value} {R : Ending → World → Prop} {w : World} {c1 : Array Value} {t1 : TypeId} {c2 : Array Value} {t2 : TypeId} {c3 : Array Value} {t3 : TypeId} (h : ∀ W, Below w.heap.size w W → Hid (W.heap.size = w.heap.size + 1 + 1 + 1) → Blk W (w.heap.size) t1 c1 → Blk W (w.heap.size + 1) t2 c2 → Blk W (w.heap.size + 1 + 1) t3 c3 → Calls P f args W R) : Calls P f args (((w.alloc (.cells c1 t1)).alloc (.cells c2 t2)).alloc (.cells c3 t3)) R := stk3 (M := fun W => Calls P f args W R) h
end Go.Proofs.YtficeebbbkmhcaaGreatDoor
