/-
  A range over an iterator whose rounds all go on: the law of the kit, cut to what the program's loops need; the loop variables lie in blocks of their own.
  The law of a region that draws its order, once more, for a region in which some loads may come late: behind the first of the forced stores. Such a load yields the same value wherever it stands, as long as each operation leaves what was there at the region's start as it was.
-/
import Derived.Test.YtkgglhakimkkhaaGreatDoorWt2
import Derived.Test.YtkgglhakimkkhaaGreatDoorRg
import Derived.OrdersHeld
import Derived.Deep.MidRow
namespace Go.Proofs.YtkgglhakimkkhaaGreatDoor
open Go.RowKit

theorem keepsOthers_of_below {W W' : World} (h : Below W.heap.size W W') : KeepsOthers W W' :=
  ⟨h.size, fun k _ hk _ => (h.block k (Array.getElem?_eq_some_iff.1 hk).1).trans hk⟩
theorem keepsOthers_of_grown {W W' : World} {row : Option Nat} (h : W.grownBy W' row) (hr : ∀ j o, row = some j → W.heap[j]? = some o → o.isCells = true) : KeepsOthers W W' :=
  KeepsOthers.of_grownBy h hr
theorem blk_own {β : Type} {B g : Nat} {t : TypeId} {cs : Array Value} : OwnFrom B (fun (_ : β) W => Blk W g t cs) := fun s W W' row hs hg hr =>
  (hg.block g hs.lt (fun e => by
    obtain ⟨_, o, ho, hc⟩ := hr g e.symm
    rw [show W.heap[g]? = _ from hs] at ho; cases ho; cases hc)).trans hs

def boxAct {α : Type} (p1 p2 : Tmp) (e1 e2 : α → Value) (a : Act) (x : α) : Array Value := (a.tmps.setIfInBounds p1 (e1 x)).setIfInBounds p2 (e2 x)
theorem boxAct_eq {α : Type} (p1 p2 : Tmp) (e1 e2 : α → Value) (a : Act) (x : α) : ((#[p1, p2] : Array Tmp).zip (#[e1 x, e2 x] : Array Value)).foldl (fun t (p, v) => t.setIfInBounds p v) a.tmps = boxAct p1 p2 e1 e2 a x := by
  simp [boxAct]

theorem wpIn_seq1 {α : Type} {n : Nat} {P : Program} {g : Operand} {p1 p2 : Tmp} {assign body : Code} {Q : Exit → Act → World → Prop} {a : Act} {w : World} {gf : Nat} {lb : Array Value} {e1 e2 : α → Value} {S : Nat → Prop} {xs : List α} {N : Nat}
    (hseq : SeqStopsK .wide (n - 1) P gf lb (fun x => #[e1 x, e2 x]) (Keeps S) (fun ys => ys = xs) (fun _ => True) N w) (h1 : 1 ≤ n) (hg : a.eval g = .func (.func gf) #[] lb) (eg : ∀ args w, (callFunc gf args).run P w = .ok (.enter gf args) w)
    (hS : ∀ g, S g → g < w.heap.size) (I : List α → World → Prop) (hI : OwnFrom w.heap.size I) (hIs : ∀ pre W, I pre W → w.heap.size ≤ W.heap.size) (h0 : I [] w) (slot : Tmp) (t : TypeId) (cx : α → Array Value)
    (hassign : ∀ (l : Nat) (x : α) (W : World) (K : Act → World → Prop), (∀ a' W', a' = { tmps := (boxAct p1 p2 e1 e2 a x).setIfInBounds slot (.pointer (some ⟨W.heap.size, 0, none⟩)), defers := [] } → W' = W.alloc (.cells (cx x) t) → K a' W') →
      assign.wpIn (Fence.wide.inRound l) (n - 1 - 1) P (Exit.then K (fun _ _ _ => False)) { tmps := boxAct p1 p2 e1 e2 a x, defers := [] } W)
    (hbody : ∀ (l : Nat) (pre : List α) (x : α) (Bx : Nat) (W : World) (a' : Act), a' = { tmps := (boxAct p1 p2 e1 e2 a x).setIfInBounds slot (.pointer (some ⟨Bx, 0, none⟩)), defers := [] } → I pre W → w.heap.size ≤ Bx → Blk W Bx t (cx x) → pre.length < N →
      body.wpIn (Fence.wide.inRound l) (n - 1 - 1) P (fun e _ W' => e = .normal ∧ KeepsOthers W W' ∧ Keeps S W W' ∧ I (pre ++ [x]) W') a' W)
    (hdone : ∀ (D : Nat) (W : World), w.heap.size ≤ D → I xs W → W.heap[D]? = some (.deferred (some [])) → Q .normal { a with defers := { target := .collected D, args := #[] } :: a.defers } W) :
    (Code.rangeFunc g #[p1, p2] assign body).wpIn .wide n P Q a w := by
  refine wpIn_rangeFunc_ownH rfl h1 hg trivial eg hseq (fun h k => h.trans k) ?_ (Below.refl _ _) (fun _ => rfl) I (fun _ _ _ => False) hI (fun _ _ _ _ _ h _ _ => h) h0
    (fun x a' W => ∃ Bx, w.heap.size ≤ Bx ∧ Blk W Bx t (cx x) ∧ a' = { tmps := (boxAct p1 p2 e1 e2 a x).setIfInBounds slot (.pointer (some ⟨Bx, 0, none⟩)), defers := [] }) ?_ ?_ ?_ ?_ ?_
  · intro W l o o' hl h _ _
    exact ⟨by simp, fun g hg _ => World.putObj_heap_other (by have := hS g hg; omega)⟩
  · rintro x a' s W W' row ⟨Bx, h2, h3, h4⟩ hg hr
    exact ⟨Bx, h2, blk_own (β := Unit) () W W' row h3 hg hr, h4⟩
  · intro l pre x W K hi hK
    rw [boxAct_eq]
    refine hassign l x W K ?_
    rintro a' W' ha rfl
    have hb : Below W.heap.size W (W.alloc (.cells (cx x) t)) := (Below.refl _ _).alloc (Nat.le_refl _) _
    exact hK a' _ ((keepsOthers_of_below hb).from _) (Keeps.of_below hb) (hI _ _ _ none hi (grown_of_below hb) (fun r e => by cases e)) ⟨W.heap.size, hIs _ _ hi, Blk.new _ _ _, ha⟩
  · rintro l pre x a' W _ _ hi ⟨Bx, h2, h3, h4⟩ hlt
    refine wpIn_mono (hbody l pre x Bx W a' h4 hi h2 h3 hlt) ?_
    rintro e a2 W2 ⟨rfl, hk, hk2, hi2⟩
    exact ⟨hk.from _, hk2, hi2⟩
  · rintro D ys W hD rfl hi hK
    exact hdone D W hD hi hK
  · rintro D c pre W _ _ h _
    exact h.elim
end Go.Proofs.YtkgglhakimkkhaaGreatDoor
namespace Go.Proofs.YtkgglhakimkkhaaGreatDoor
open Go Go.RowKit

def wpListC (P : Program) (ops : Array Oper) (Q : Exit → Act → World → Prop) (C : World → Prop) : List Oper → Act → World → Prop
  | [], a, w => Q .normal a w
  | o :: l, a, w => o.guard = none ∧ o.wp P a w (fun a' w' => C w' ∧ wpListC P ops Q C l a' w') Q
def loadish (o : Oper) : Bool := match o.op with | .move _ => true | .load .. => true | .fieldAddr .. => true | .indexAddr .. => true | .convert .. => true | .binOp .. => true | .call { callee := .builtin .len, .. } => true | _ => false
theorem bind_noSkip {P : Program} {w w' : World} (s : Sem Value) : (do pure (Next.value (← s)) : Sem Next).run P w ≠ .ok .skip w' := by
  simp only [Sem.run_bind]
  cases s.run P w <;> simp [Result.andThen]
theorem loadish_noSkip {P : Program} {o : Oper} {ρ : Operand → Value} {w w' : World} (h : loadish o = true) : (execOp ρ o).run P w ≠ .ok .skip w' := by
  obtain ⟨dst, op, type, pos, after, guard⟩ := o
  cases op <;> simp only [loadish, Bool.false_eq_true] at h
  case move x => simp [execOp]
  case call c =>
    obtain ⟨cal, ags, ats⟩ := c
    cases cal with
    | value f => simp at h
    | invoke r m => simp at h
    | builtin b =>
      cases b <;> simp only [Bool.false_eq_true] at h
      simp only [execOp, resolve, Sem.run_bind, Sem.run_pure, Result.andThen, invoke, builtin]
      cases (Sem.run P (Builtin.len_ ats type (Array.map ρ ags)) w) <;> simp
  all_goals exact bind_noSkip _
def sinkL (ops : Array Oper) (n : Nat) (L : List Nat) : Bool := (List.range n).all fun i => L.contains i || (List.range (n + 1)).any fun j => decide (i < j) && Region.waitsFor .any ops j i
def lateB (ops : Array Oper) (n : Nat) : List Nat → Array Bool → Bool
  | [], _ => true
  | i :: L, listed => decide (i < n) && (Region.ready .any ops listed).contains i && Region.free .any ops listed i && (match ops[i]? with | some o => loadish o && o.guard.isNone | none => false) && lateB ops n L (listed.setIfInBounds i true)
def rgLB (ops : Array Oper) (n : Nat) (L : List Nat) : Bool :=
  let B := befores ops.toList []
  ops.toList.all noDefer && Region.noSelect ops && decide (n ≤ ops.size) && (List.range n).all (headB ops n B) && sinkL ops n L && Region.chainB .any ops n &&
    Region.seqB .any ops (ops.size - n) n (firstN n ops.size) && lateB ops n L (Array.replicate ops.size false)

section
variable {P : Program} {ops : Array Oper} {n : Nat} {B : List Nat} {Sp : List (Nat × Spec)} {C : World → Prop} {N0 : Nat} {a0 : Act}
theorem listed_both {listed : Array Bool} {i : Nat} (h : listed.getD i true = false) : listed.getD i false = false := by
  rcases Nat.lt_or_ge i listed.size with h' | h'
  · simp [h'] at h ⊢; exact h
  · simp [Array.getElem?_eq_none h'] at h
theorem tail_waitsL {L : List Nat} {listed : Array Bool} (hs : sinkL ops n L = true) (hc : Region.chainB .any ops n = true) (hn : n < ops.size) (inv : HeadInv .any ops n listed) (hL : ∀ i ∈ L, i < n → listed.getD i true = true) :
    ∀ (d i : Nat), n - i = d → i < n → listed.getD i true = false → ∀ t, n ≤ t → t ∉ Region.ready .any ops listed := by
  intro d
  induction d using Nat.strongRecOn with
  | _ d ih =>
    intro i hd hi hun t ht hr
    obtain ⟨_, ot, hot, hall⟩ := mem_ready.1 hr
    have htlt : t < ops.size := (Array.getElem?_eq_some_iff.1 hot).1
    have h1 := List.all_eq_true.1 hs i (List.mem_range.2 hi)
    have hiL : ¬ i ∈ L := fun h => by have := hL i h hi; rw [this] at hun; cases hun
    simp only [Bool.or_eq_true, List.contains_iff_mem, hiL, false_or, List.any_eq_true, List.mem_range, Bool.and_eq_true, decide_eq_true_eq] at h1
    obtain ⟨j, hj, hij, hw⟩ := h1
    obtain ⟨oj, hoj, e, he, hb, hon⟩ := Region.waitsFor_spec hw
    by_cases hjn : j = n
    · subst hjn
      by_cases htj : t = j
      · subst htj
        obtain rfl : ot = oj := Option.some.inj (hot.symm.trans hoj)
        have := hall e he hb
        rw [hon, listed_both hun] at this
        cases this
      · have h2 := List.all_eq_true.1 hc t (List.mem_range.2 htlt)
        simp only [Bool.or_eq_true, decide_eq_true_eq] at h2
        rcases h2 with h2 | h2
        · omega
        · obtain ⟨o2, ho2, e2, he2, hb2, hon2⟩ := Region.waitsFor_spec h2
          obtain rfl : ot = o2 := Option.some.inj (hot.symm.trans ho2)
          have := hall e2 he2 hb2
          rw [hon2, listed_both (inv.tail (t - 1) (by omega) (by omega))] at this
          cases this
    · have hjun : listed.getD j true = false := by
        cases hjl : listed.getD j false with
        | true =>
          have := inv.closed j oj hoj hjl e he hb
          rw [hon, listed_both hun] at this
          cases this
        | false =>
          have hjs : j < listed.size := by rw [inv.size]; omega
          simp [hjs] at hjl ⊢
          exact hjl
      exact ih (n - j) (by omega) j rfl (by omega) hjun t ht hr
theorem wpAnyH_of_seq {Q : Exit → Act → World → Prop} : ∀ (l : List Oper) (k : Nat) (listed : Array Bool) (a : Act) (w : World), (∀ j, l[j]? = ops[k + j]?) →
    Region.seqB .any ops l.length k listed = true → wpListC P ops Q C l a w → wpAnyH P .any ops Q C l.length listed a w
  | [], _, _, _, _, _, hB, h => ⟨by simpa [Region.seqB] using hB, h⟩
  | o :: l, k, listed, a, w, hl, hB, h => by
    have h0 : ops[k]? = some o := by simpa using (hl 0).symm
    simp only [List.length_cons, Region.seqB, Bool.and_eq_true, decide_eq_true_eq] at hB
    refine ⟨fun h1 => (by rw [hB.1] at h1; cases h1), fun i hi => ?_⟩
    rw [hB.1] at hi
    have hik : i = k := by simpa using hi
    subst hik
    have hwant : Region.wanted o (yielded ops a.tmps) = true := by unfold Region.wanted; rw [h.1]
    unfold wpOp
    simp only [h0, if_pos hwant]
    exact .inl (Oper.wp_mono (fun a' w' h' => ⟨h'.1, wpAnyH_of_seq l (i + 1) _ a' w' (fun j => by have := hl (j + 1); simpa [Nat.add_assoc, Nat.add_comm 1 j] using this) hB.2 h'.2⟩) h.2)

theorem anyH_of_good {Q : Exit → Act → World → Prop} {L : List Nat} (hst : ∀ i A F, specOf Sp i = some (.rel A F) → Fit A F) (hns : ∀ i u, specOf Sp i ≠ some (.skip u)) (hC : ∀ w w', C w → Below w.heap.size w w' → C w') (hN : ∀ w, C w → N0 ≤ w.heap.size)
    (hnd : ∀ (k : Nat) (o : Oper), ops[k]? = some o → noDefer o = true) (hle : n ≤ ops.size) (H : ∀ k, k < n → ∃ o d, HeadOk ops n B k o d) (hsink : sinkL ops n L = true) (hchain : Region.chainB .any ops n = true) (hseq : Region.seqB .any ops (ops.size - n) n (firstN n ops.size) = true)
    (hsz : ∀ (k : Nat) (d : Tmp), k < n → dstOf ops k = some d → d < a0.tmps.size)
    (htree : wpRg P ops B Sp C N0 (fun a w => wpListC P ops Q C (ops.toList.drop n) a w) (ops.toList.take n) 0 a0 [] []) :
    ∀ (f : Nat) (listed : Array Bool) (a : Act) (w : World) (r : Nat → Nat × Nat), unl n listed = f → (∀ i ∈ L, i < n → listed.getD i true = true) → HeadInv .any ops n listed → Good P ops n Sp C N0 a0 listed a w r → wpAnyH P .any ops Q C (f + (ops.size - n)) listed a w := by
  intro f
  induction f with
  | zero =>
    intro listed a w r hf hLl inv hG
    have hall : ∀ k, k < n → listed.getD k false = true := fun k hk => by
      have h1 := unl_zero hf k hk
      have h2 : k < listed.size := by rw [inv.size]; omega
      simp [h2] at h1 ⊢
      exact h1
    have hfin := good_end hst hns hN hnd H hsz hle htree hG hall
    have hls := firstN_of inv.size hf inv.tail
    have hdl : (ops.toList.drop n).length = ops.size - n := by simp
    have := wpAnyH_of_seq (Q := Q) (ops.toList.drop n) n listed a w (fun j => by simp [List.getElem?_drop]) (by rw [hdl, hls]; exact hseq) hfin
    rw [hdl] at this
    rw [Nat.zero_add]
    exact this
  | succ f ih =>
    intro listed a w r hf hLl inv hG
    rw [show f + 1 + (ops.size - n) = (f + (ops.size - n)) + 1 by omega]
    have hex : ∃ i, i < n ∧ listed.getD i true = false := by
      refine Classical.byContradiction fun hno => ?_
      have : unl n listed = 0 := List.countP_eq_zero.2 fun i hi => by
        have hi' := List.mem_range.1 hi
        cases hd : listed.getD i true with
        | true => simp
        | false => exact absurd ⟨i, hi', hd⟩ hno
      omega
    obtain ⟨i0, hi0, hun0⟩ := hex
    obtain ⟨j0, _, hj0⟩ := ready_head H inv.size hle i0 hi0 hun0
    refine ⟨fun h0 => (by rw [h0] at hj0; cases hj0), fun i hi => ?_⟩
    obtain ⟨hun, oi, hoi, _⟩ := mem_ready.1 hi
    have hin : i < n := by
      rcases Nat.lt_or_ge i n with h | h
      · exact h
      · have hlt : i < ops.size := (Array.getElem?_eq_some_iff.1 hoi).1
        exact absurd hi (tail_waitsL hsink hchain (by omega) inv hLl _ i0 rfl hi0 hun0 i h)
    obtain ⟨o, d, h⟩ := H i hin
    have hs := good_step hst hns hC hN hnd H hsz hle htree hG inv hin h hi
    have hisz : i < listed.size := by rw [inv.size]; omega
    have hunl := unl_set hisz hun n hin
    have next : ∀ a' w', (∃ r', Good P ops n Sp C N0 a0 (listed.setIfInBounds i true) a' w' r') → C w' ∧ wpAnyH P .any ops Q C (f + (ops.size - n)) (listed.setIfInBounds i true) a' w' :=
      fun a' w' ⟨r', hG'⟩ => ⟨hG'.c, ih _ a' w' r' (by omega) (fun k hk hkn => by
        by_cases hik : i = k
        · subst hik; simp [hisz]
        · rw [getD_set_ne true hik]; exact hLl k hk hkn) (inv.set hi hin) hG'⟩
    unfold wpOp
    simp only [h.op]
    by_cases hw : Region.wanted o (yielded ops a.tmps) = true
    · rw [if_pos hw] at hs ⊢
      exact .inl (wp_of_step (stepAt_mono (fun v w' hv => next _ _ hv) hs))
    · rw [if_neg hw] at hs ⊢
      exact next _ _ hs

theorem good_late {Fin : Act → World → Prop} (hst : ∀ i A F, specOf Sp i = some (.rel A F) → Fit A F) (hns : ∀ i u, specOf Sp i ≠ some (.skip u)) (hC : ∀ w w', C w → Below w.heap.size w w' → C w') (hN : ∀ w, C w → N0 ≤ w.heap.size)
    (hnd : ∀ (k : Nat) (o : Oper), ops[k]? = some o → noDefer o = true) (H : ∀ k, k < n → ∃ o d, HeadOk ops n B k o d) (hsz : ∀ (k : Nat) (d : Tmp), k < n → dstOf ops k = some d → d < a0.tmps.size)
    (hn : n ≤ ops.size) (htree : wpRg P ops B Sp C N0 Fin (ops.toList.take n) 0 a0 [] [])
    {listed : Array Bool} {a : Act} {w : World} {r : Nat → Nat × Nat} (hG : Good P ops n Sp C N0 a0 listed a w r) (inv : HeadInv .any ops n listed)
    {i : Nat} {o : Oper} {d : Tmp} (hi : i < n) (h : HeadOk ops n B i o d) (hr : i ∈ Region.ready .any ops listed) (hs : specOf Sp i = none) (hlo : loadish o = true) (hg : o.guard = none) :
    ∃ v, YieldsIf P ops C o v a ∧ ∃ r', Good P ops n Sp C N0 a0 (listed.setIfInBounds i true) (a.put o.dst v) w r' := by
  obtain ⟨hun, o', ho', hall⟩ := mem_ready.1 hr
  obtain rfl : o = o' := Option.some.inj (h.op.symm.trans ho')
  have hdi : dstOf ops i = some d := by unfold dstOf; rw [h.op]; exact h.dst
  have hlt : d < a.tmps.size := by rw [hG.size]; exact hsz i d hi hdi
  have hPl : ∀ k, k < n → isBefore B k i = true → listed.getD k false = true := fun k _ hk =>
    before_listed H inv hi (fun o2 ho2 e he hb => by
      obtain rfl : o = o2 := Option.some.inj (h.op.symm.trans ho2)
      exact hall e he hb) k hk
  have hPb : ∀ k j, k < n → isBefore B k i = true → isBefore B j k = true → isBefore B j i = true := fun k j _ h1 h2 => before_trans H hi k j h1 h2
  have htl : (ops.toList.take n).length = n := by simp; omega
  obtain ⟨l', b, G, rs, hl1, hl2, R, hw⟩ := descend hnd H hsz hG hPl hPb hst (fun k u h => absurd h (hns k u)) hN (Nat.le_of_lt hi) (ops.toList.take n) 0 a0 [] [] (Nat.zero_le _) (by rw [htl]; omega)
    (fun j hj => by rw [htl] at hj; simp [hj]) ⟨rfl, rfl, fun _ _ => rfl, fun j hj => absurd hj (by omega), fun φ hφ => (by cases hφ), fun ρ hρ => (by cases hρ), fun φ hφ => (by cases hφ)⟩ htree
  have hag : ∀ t ∈ o.looksAt ops, b.tmps[t]? = a.tmps[t]? := rel_agree H hG hi (fun j hj => hj) h R
  have hex := exec_agree (hnd i o h.op) hag
  have hwa : Region.wanted o (yielded ops b.tmps) = true := by unfold Region.wanted; rw [hg]
  have hwant : Region.wanted o (yielded ops a.tmps) = true := by unfold Region.wanted; rw [hg]
  have hself : ∀ v, ∀ t ∈ o.looksAt ops, (a.put o.dst v).tmps[t]? = a.tmps[t]? := fun v t ht => by
    rw [h.dst]
    refine put_ne fun e => ?_
    subst e
    have := before_lt H hi i (h.wr t ht i hi hdi)
    omega
  have hself2 : ∀ v, execOp (a.put o.dst v).eval o = execOp a.eval o := fun v => exec_agree (hnd i o h.op) (hself v)
  have hself3 : ∀ v, Region.wanted o (yielded ops (a.put o.dst v).tmps) = Region.wanted o (yielded ops a.tmps) := fun v => wanted_agree (hself v)
  have hval : ∀ v, (a.put o.dst v).tmps.getD d undef = v := fun v => by rw [h.dst]; exact put_getD hlt
  cases l' with
  | nil => simp only [List.length_nil] at hl1; omega
  | cons o2 l' =>
    have : o2 = o := by
      have := hl2 0 (by simp)
      rw [Nat.add_zero, h.op] at this
      simpa using this
    subst this
    unfold wpRg at hw
    rw [if_pos hwa, hs] at hw
    obtain ⟨hcalm, v, hv, _⟩ := hw
    have hq : ∀ w, C w → o2.quietAt P a C w v := fun w hw => quietAt_same hex.symm (hv w hw)
    refine ⟨v, .inl ⟨hwant, fun w' hw' => ?_⟩, _, good_next hst hC hN hnd H hsz hG inv hi h hun (Below.refl _ _) (fun r' _ => ⟨fun e => ?_, fun _ _ => ⟨hcalm, w, hG.c, ?_⟩, fun _ u' hs' => ?_, fun _ A F hs' => ?_⟩)⟩
    · have hq' := hq w' hw'
      unfold Oper.quietAt at hq'
      have n1 := fun f args w2 => calm_noEnter (P := P) (ρ := a.eval) (w := w') (f := f) (args := args) (w' := w2) hcalm
      have n2 := fun w2 => loadish_noSkip (P := P) (ρ := a.eval) (w := w') (w' := w2) hlo
      generalize (execOp a.eval o2).run P w' = res at *
      cases res with
      | ok x w2 =>
        cases x <;> simp only [Oper.quietUpon] at hq'
        case value z => obtain ⟨rfl, rfl⟩ := hq'; rfl
        case skip => exact absurd rfl (n2 w2)
        case enter f args => exact absurd rfl (n1 f args w2)
      | halt x w2 => simp only [Oper.quietUpon] at hq'
    · rw [hself3, hwant] at e; cases e
    · rw [hval]; exact quietAt_same (hself2 _) (hq w hG.c)
    · rw [hs] at hs'; cases hs'
    · rw [hs] at hs'; cases hs'

theorem late_take {L0 : List Nat} {Q : Exit → Act → World → Prop} {Fin : Act → World → Prop} (hst : ∀ i A F, specOf Sp i = some (.rel A F) → Fit A F) (hns : ∀ i u, specOf Sp i ≠ some (.skip u)) (hC : ∀ w w', C w → Below w.heap.size w w' → C w') (hN : ∀ w, C w → N0 ≤ w.heap.size)
    (hnd : ∀ (k : Nat) (o : Oper), ops[k]? = some o → noDefer o = true) (hsel : Region.noSelect ops = true) (H : ∀ k, k < n → ∃ o d, HeadOk ops n B k o d) (hsz : ∀ (k : Nat) (d : Tmp), k < n → dstOf ops k = some d → d < a0.tmps.size)
    (hn : n ≤ ops.size) (htree : wpRg P ops B Sp C N0 Fin (ops.toList.take n) 0 a0 [] []) (hQ : ∀ c (a : Act) d v w, Q (.panic c) (a.put d v) w → Q (.panic c) a w)
    (fin : ∀ (listed : Array Bool) (a : Act) (w : World) (r : Nat → Nat × Nat), HeadInv .any ops n listed → Good P ops n Sp C N0 a0 listed a w r → (∀ i, i ∈ L0 → i < n → listed.getD i true = true) → wpAnyH P .any ops Q C (unl n listed + (ops.size - n)) listed a w) :
    ∀ (L : List Nat) (listed : Array Bool) (a : Act) (w : World) (r : Nat → Nat × Nat), HeadInv .any ops n listed → Good P ops n Sp C N0 a0 listed a w r → lateB ops n L listed = true → (∀ i ∈ L, specOf Sp i = none) → (∀ i ∈ L0, i < n → i ∈ L ∨ listed.getD i true = true) →
      wpAnyH P .any ops Q C (unl n listed + (ops.size - n)) listed a w
  | [], listed, a, w, r, inv, hG, _, _, hl => fin listed a w r inv hG fun i hi hin => (hl i hi hin).resolve_left (by simp)
  | i :: L, listed, a, w, r, inv, hG, hB, hs, hl => by
    simp only [lateB, Bool.and_eq_true, decide_eq_true_eq] at hB
    obtain ⟨⟨⟨⟨h1, h2⟩, h3⟩, h4⟩, h5⟩ := hB
    have hr : i ∈ Region.ready .any ops listed := by simpa using h2
    obtain ⟨o, d, h⟩ := H i h1
    rw [h.op] at h4
    simp only [Bool.and_eq_true, Option.isNone_iff_eq_none] at h4
    obtain ⟨v, hy, r', hG'⟩ := good_late hst hns hC hN hnd H hsz hn htree hG inv h1 h hr (hs i (List.mem_cons_self ..)) h4.1 h4.2
    have hun := (mem_ready.1 hr).1
    have hisz : i < listed.size := by rw [inv.size]; omega
    have hunl := unl_set hisz hun n h1
    rw [← hunl, show unl n (listed.setIfInBounds i true) + 1 + (ops.size - n) = (unl n (listed.setIfInBounds i true) + (ops.size - n)) + 1 by omega]
    refine wpAnyH_take h.op hsel h3 h2 (fun c a w => hQ c a _ _ w) hy hG.c ?_
    refine late_take hst hns hC hN hnd hsel H hsz hn htree hQ fin L _ _ w r' (inv.set hr h1) hG' h5 (fun k hk => hs k (List.mem_cons_of_mem _ hk)) fun k hk hkn => ?_
    by_cases hik : i = k
    · subst hik; exact .inr (by simp [hisz])
    · rcases hl k hk hkn with h | h
      · rcases List.mem_cons.1 h with h | h
        · exact absurd h.symm hik
        · exact .inl h
      · exact .inr (by rw [getD_set_ne true hik]; exact h)
end

theorem wp_region_late {P : Program} {id : Nat} {l : List Oper} {Q : Exit → Act → World → Prop} {a : Act} {W : World} (n : Nat) (L : List Nat) (Sp : List (Nat × Spec)) (hm : P.follows .mixedOrders = true) (hB : rgLB l.toArray n L = true) (hz : sizesB l.toArray n a.tmps.size = true) (hs : (L.all fun i => (specOf Sp i).isNone) = true)
    (hQ : ∀ c (a : Act) d v w, Q (.panic c) (a.put d v) w → Q (.panic c) a w)
    (st : stables Sp) (walk : wpRg P l.toArray (befores l []) Sp (Grw W) W.heap.size (fun a' w' => wpListC P l.toArray Q (Grw W) (l.drop n) a' w') (l.take n) 0 a [] []) : (Code.region id l.toArray true).wp P Q a W := by
  refine wp_region_any hm ?_
  unfold rgLB at hB
  simp only [Bool.and_eq_true, decide_eq_true_eq] at hB
  obtain ⟨⟨⟨⟨⟨⟨⟨h1, h2⟩, h3⟩, h4⟩, h5⟩, h6⟩, h7⟩, h8⟩ := hB
  have hnd : ∀ (k : Nat) (o : Oper), l.toArray[k]? = some o → noDefer o = true := fun k o ho => List.all_eq_true.1 h1 o (by
    have : l[k]? = some o := by simpa using ho
    exact List.mem_of_getElem? this)
  have hH : ∀ k, k < n → ∃ o d, HeadOk l.toArray n (befores l []) k o d := fun k hk => headOk_of (List.all_eq_true.1 h4 k (List.mem_range.2 hk))
  have h0 : unl n (Array.replicate l.toArray.size false) = n := by
    unfold unl
    have : (List.range n).countP (fun i => !(Array.replicate l.toArray.size false).getD i true) = (List.range n).length := List.countP_eq_length.2 fun i hi => by
      have hi' := List.mem_range.1 hi
      have h1 : i < l.length := by simp only [List.size_toArray] at h3; omega
      simp [h1]
    rw [this, List.length_range]
  have inv0 : HeadInv .any l.toArray n (Array.replicate l.toArray.size false) :=
    ⟨by simp, fun j oj _ hl => (by rw [getD_replicate_false] at hl; cases hl), fun t _ ht => getD_in (by simpa using ht) (getD_replicate_false _ _)⟩
  have hst := stables_spec st
  have walk' : wpRg P l.toArray (befores l []) Sp (Grw W) W.heap.size (fun a' w' => wpListC P l.toArray Q (Grw W) (l.toArray.toList.drop n) a' w') (l.toArray.toList.take n) 0 a [] [] := by simpa using walk
  have fin := fun (listed : Array Bool) (a' : Act) (w' : World) (r : Nat → Nat × Nat) (inv : HeadInv .any l.toArray n listed) (hG : Good P l.toArray n Sp (Grw W) W.heap.size a listed a' w' r) (hl : ∀ i, i ∈ L → i < n → listed.getD i true = true) =>
    anyH_of_good (P := P) (Q := Q) (L := L) hst (stables_ns st) (fun w w' h h' => grw_next h h') (fun w h => (grw_below h).size) hnd h3 hH h5 h6 h7 (a0 := a) (sizesB_spec hz) walk' (unl n listed) listed a' w' r rfl hl inv hG
  have := late_take (P := P) (Q := Q) (L0 := L) hst (stables_ns st) (fun w w' h h' => grw_next h h') (fun w h => (grw_below h).size) hnd h2 hH (a0 := a) (sizesB_spec hz) h3 walk' hQ fin L _ a { W with drawn := W.drawn + 1 } (fun _ => (0, 0)) inv0
    ⟨grw_of (Below.refl _ W).drew, rfl, rfl, fun _ _ => rfl, fun k o d _ _ _ hl => (by rw [getD_replicate_false] at hl; cases hl), fun k j _ _ _ hl => (by rw [getD_replicate_false] at hl; cases hl)⟩ h8
    (fun i hi => by simpa using List.all_eq_true.1 hs i hi) (fun i hi _ => .inl hi)
  rw [h0, show n + (l.toArray.size - n) = l.toArray.size by omega] at this
  exact wpAny_of_held _ _ _ _ this
theorem wpListC_assign {P : Program} {ops : Array Oper} {rest : List Oper} {o : Oper} {a : Act} {W0 w : World} {Q : Exit → Act → World → Prop} (hgd : o.guard = none) (x : Operand) (ho : o.op = .assign x) (hw : Grw W0 w) (h : wpListC P ops Q (Grw W0) rest (a.put o.dst (a.eval x)) w) : wpListC P ops Q (Grw W0) (o :: rest) a w :=
  ⟨hgd, wp_of_step (by unfold stepAt; rw [BigFrame.run_assign x ho]; exact ⟨hw, h⟩)⟩
theorem wpListC_assignU {P : Program} {ops : Array Oper} {rest : List Oper} {o : Oper} {a : Act} {W0 w : World} {Q : Exit → Act → World → Prop} (u : Value) (hgd : o.guard = none) (x : Operand) (ho : o.op = .assign x) (hw : Grw W0 w) (hx : a.eval x = u) (h : ∀ a', a' = a.put o.dst u → wpListC P ops Q (Grw W0) rest a' w) : wpListC P ops Q (Grw W0) (o :: rest) a w :=
  wpListC_assign hgd x ho hw (by rw [hx]; exact h _ rfl)
theorem wpListC_nil {P : Program} {ops : Array Oper} {a : Act} {W0 w : World} {Q : Exit → Act → World → Prop} (h : wpList P ops Q [] a w) : wpListC P ops Q (Grw W0) [] a w := h
end Go.Proofs.YtkgglhakimkkhaaGreatDoor
