/-
  A range over an iterator that keeps a variable of its own in a box and stores into it between the rounds; the rounds all go on.
  A range over an iterator that keeps variables of its own in blocks that it makes itself; two values a round; the rounds all go on.
  A range over an iterator, told by what it writes and what the rounds must keep; the rounds all go on.
-/
import Derived.Test.YtnddfeidggcplaaGreatSeq
import Derived.Test.YtnddfeidggcplaaGreatGrow
namespace Go.Proofs.YtnddfeidggcplaaGreat
open Go.RowKit

/-- The iterator's contract: its box is block Bv; what the rounds must keep is S; the elements come one by one. -/
def SeqCell {α : Type} (n : Nat) (P : Program) (gf : Nat) (lb : Array Value) (enc : α → Array Value) (Bv : Nat) (S : Nat → Prop) (xs : List α) (w : World) : Prop :=
  ∀ (l : Nat) (J : List α → World → Prop) (W : World), Below w.heap.size w W → (∀ s A B, J s A → Below A.heap.size A B → J s B) → (∀ s A B, J s A → Put A B Bv → J s B) →
    (∀ pre x W1, J pre W1 → pre.length < xs.length → YieldAt .wide (n - 1) P l (enc x) W1 fun e W' => e = .returned (.bool true) ∧ J (pre ++ [x]) W' ∧ Keeps S W1 W') → J [] W →
    CallsIn .wide n P gf (#[.func (.yield l) #[] #[]] ++ lb) W fun e W' => (∃ v, e = .returned v) ∧ J xs W'
theorem put_same {A B : World} {g k : Nat} (h : Put A B g) (hk : k ≠ g) {o : Obj} (ho : A.heap[k]? = some o) : B.heap[k]? = some o := (h.other k hk).trans ho
theorem below_same {A B : World} {k : Nat} (h : Below A.heap.size A B) {o : Obj} (ho : A.heap[k]? = some o) : B.heap[k]? = some o := (h.block k (Array.getElem?_eq_some_iff.1 ho).1).trans ho
theorem wpIn_seqW {α : Type} {n : Nat} {P : Program} {g : Operand} {p1 : Tmp} {assign body : Code} {Q : Exit → Act → World → Prop} {a : Act} {w w0 : World} {gf Bv : Nat} {lb : Array Value} {e1 : α → Value} {S : Nat → Prop} {xs : List α}
    (hseq : SeqCell (n - 1) P gf lb (fun x => #[e1 x]) Bv S xs w0) (hb0 : Below w0.heap.size w0 w) (h1 : 1 ≤ n) (hg : a.eval g = .func (.func gf) #[] lb) (eg : ∀ args w, (callFunc gf args).run P w = .ok (.enter gf args) w)
    (hBv : Bv < w.heap.size) (hS : ∀ g, S g → g < w.heap.size)
    (I : List α → World → Prop) (hI1 : ∀ s A B, I s A → Below A.heap.size A B → I s B) (hI2 : ∀ s A B, I s A → Put A B Bv → I s B) (hI3 : ∀ s (W : World) (l : Nat) (o : Obj), w.heap.size ≤ l → I s W → I s (W.putObj l o)) (h0 : I [] w) (slot : Tmp) (t : TypeId) (cx : α → Array Value)
    (hassign : ∀ (l : Nat) (x : α) (W : World) (K : Act → World → Prop), (∀ a' W', a' = { tmps := (a.tmps.setIfInBounds p1 (e1 x)).setIfInBounds slot (.pointer (some ⟨W.heap.size, 0, none⟩)), defers := [] } → W' = W.alloc (.cells (cx x) t) → K a' W') →
      assign.wpIn (Fence.wide.inRound l) (n - 1 - 1) P (Exit.then K (fun _ _ _ => False)) { tmps := a.tmps.setIfInBounds p1 (e1 x), defers := [] } W)
    (hbody : ∀ (l : Nat) (pre : List α) (x : α) (Bx : Nat) (W : World) (a' : Act), a' = { tmps := (a.tmps.setIfInBounds p1 (e1 x)).setIfInBounds slot (.pointer (some ⟨Bx, 0, none⟩)), defers := [] } → I pre W → w.heap.size ≤ Bx → Blk W Bx t (cx x) → pre.length < xs.length →
      body.wpIn (Fence.wide.inRound l) (n - 1 - 1) P (fun e _ W' => e = .normal ∧ KeepsOthers W W' ∧ Keeps S W W' ∧ I (pre ++ [x]) W') a' W)
    (hdone : ∀ (D : Nat) (W : World), w.heap.size ≤ D → I xs W → W.heap[D]? = some (.deferred (some [])) → Q .normal { a with defers := { target := .collected D, args := #[] } :: a.defers } W) :
    (Code.rangeFunc g #[p1] assign body).wpIn .wide n P Q a w := by
  refine wpIn_rangeFunc fun fn hfn => ?_
  obtain ⟨rec, hrec⟩ : ∃ rec : LoopState → Loop, rec = fun st => { state := st, pending := none, fn, tmps := a.tmps, params := #[p1], assign, body, defers := w.heap.size } := ⟨_, rfl⟩
  obtain ⟨W1, hW1⟩ : ∃ W1, (w.alloc (.deferred (some []))).alloc (.loop (rec .ready)) = W1 := ⟨_, rfl⟩
  have hb1 : Below w.heap.size w W1 := by rw [← hW1]; exact ((Below.refl _ w).alloc (Nat.le_refl _) _).alloc (by simp) _
  have hL1 : W1.heap[w.heap.size + 1]? = some (.loop (rec .ready)) := by
    rw [← hW1]; have := World.alloc_heap_new (w.alloc (.deferred (some []))) (.loop (rec .ready)); rwa [World.size_alloc] at this
  have hK1 : W1.heap[w.heap.size]? = some (.deferred (some [])) := by
    rw [← hW1]; exact (Below.heap_alloc _ _ _ (by simp)).trans (World.alloc_heap_new w _)
  refine ⟨w.heap.size + 1, [{ target := .collected w.heap.size, args := #[] }], W1, { target := .fn (.func gf) lb, args := #[.func (.yield (w.heap.size + 1)) #[] #[]] }, W1, gf,
    #[.func (.yield (w.heap.size + 1)) #[] #[]] ++ lb, W1, ?_, ?_, ?_, ?_, fun _ => h1, ?_⟩
  · rw [← hW1, hrec]; exact run_enterLoop_outer _ _ _ _ _
  · simp only [resolve, hg]
    simp [go_sem]
  · intro f' hf'; trivial
  · simp [invoke, go_sem, eg]
  refine (hseq (w.heap.size + 1) (fun pre W => I pre W ∧ W.heap[w.heap.size + 1]? = some (.loop (rec .ready)) ∧ W.heap[w.heap.size]? = some (.deferred (some []))) W1 (hb0.trans (hb1.mono hb0.size))
    (fun s A B hs hb => ⟨hI1 s A B hs.1 hb, below_same hb hs.2.1, below_same hb hs.2.2⟩) (fun s A B hs hp => ⟨hI2 s A B hs.1 hp, put_same hp (by omega) hs.2.1, put_same hp (by omega) hs.2.2⟩) ?_ ⟨hI1 _ _ _ h0 hb1, hL1, hK1⟩).mono ?_
  · rintro pre x W ⟨hi, hl, hk⟩ hlen
    have hy := run_yield (P := P) (args := #[e1 x]) hl (by rw [hrec]; rfl)
    rw [hrec] at hy
    refine ⟨fn, _, assign, body, hy, roundIn_of_wpIn hfn ?_⟩
    have ha0 : ((#[p1] : Array Tmp).zip (#[e1 x] : Array Value)).foldl (fun t (p, v) => t.setIfInBounds p v) a.tmps = a.tmps.setIfInBounds p1 (e1 x) := by simp
    simp only [ha0]
    refine hassign _ x W _ ?_
    rintro a' Wa ha rfl
    have hba : Below W.heap.size W (W.alloc (.cells (cx x) t)) := (Below.refl _ _).alloc (Nat.le_refl _) _
    have hla := below_same hba hl
    have hka := below_same hba hk
    have hlt := (Array.getElem?_eq_some_iff.1 hla).1
    have hwW : w.heap.size + 1 < W.heap.size := (Array.getElem?_eq_some_iff.1 hl).1
    refine ⟨_, run_beginRound hla (by rw [hrec]), ?_⟩
    obtain ⟨Wb, hWb⟩ : ∃ Wb, Wb = (W.alloc (.cells (cx x) t)).putObj (w.heap.size + 1) (.loop { rec .ready with state := .busy }) := ⟨_, rfl⟩
    have hl2 : Wb.heap[w.heap.size + 1]? = some (.loop { rec .ready with state := .busy }) := by rw [hWb]; exact World.putObj_heap_same hlt
    have hk2 : Wb.heap[w.heap.size]? = some (.deferred (some [])) := by rw [hWb]; exact (World.putObj_heap_other (by omega)).trans hka
    have hi2 : I pre Wb := by rw [hWb]; exact hI3 _ _ _ _ (by omega) (hI1 _ _ _ hi hba)
    have hx2 : Blk Wb W.heap.size t (cx x) := by rw [hWb]; exact (World.putObj_heap_other (by omega)).trans (Blk.new _ _ _)
    have hkS : Keeps S W Wb := by
      rw [hWb]
      refine (Keeps.of_below hba).trans ⟨by simp, fun g hg _ => World.putObj_heap_other (by have := hS g hg; omega)⟩
    rw [← hWb]
    refine wpIn_mono (hbody _ pre x W.heap.size Wb a' ha hi2 (by omega) hx2 hlen) ?_
    rintro e a3 W3 ⟨rfl, hk3, hkp3, hi3⟩
    have hl3 := hk3.same _ _ hl2 rfl
    have hkk3 := hk3.same _ _ hk2 rfl
    have hend := run_endRound (P := P) none hl3
    have hl4 : (W3.putObj (w.heap.size + 1) (.loop (rec .ready))).heap[w.heap.size + 1]? = some (.loop (rec .ready)) := World.putObj_heap_same (Array.getElem?_eq_some_iff.1 hl3).1
    have hk4 : (W3.putObj (w.heap.size + 1) (.loop (rec .ready))).heap[w.heap.size]? = some (.deferred (some [])) := (World.putObj_heap_other (by omega)).trans hkk3
    refine ⟨_, W3.putObj (w.heap.size + 1) (.loop (rec .ready)), ?_, rfl, ⟨hI3 _ _ _ _ (by omega) hi3, hl4, hk4⟩, (hkS.trans hkp3).trans ⟨by simp, fun g hg _ => World.putObj_heap_other (by have := hS g hg; omega)⟩⟩
    rw [hrec] at hend ⊢
    exact hend
  · rintro e W2 ⟨⟨v, rfl⟩, hi, hl, hk⟩
    exact ⟨none, _, by have := run_endLoop (P := P) hl (by rw [hrec]; simp); rw [hrec] at this; exact this, hdone _ _ (Nat.le_refl _) (hI3 _ _ _ _ (by omega) hi) ((World.putObj_heap_other (by omega)).trans hk)⟩
end Go.Proofs.YtnddfeidggcplaaGreat
namespace Go.Proofs.YtnddfeidggcplaaGreat
open Go.RowKit

/-- The iterator's contract: its own blocks lie behind all that was there as it began; of the rest the rounds keep what S0 says. -/
def SeqOwn {α : Type} (n : Nat) (P : Program) (gf : Nat) (lb : Array Value) (enc : α → Array Value) (S0 : Nat → Prop) (xs : List α) (w : World) : Prop :=
  ∀ (l : Nat) (J : List α → World → Prop) (W : World), Below w.heap.size w W → (∀ s A B, J s A → Below A.heap.size A B → J s B) → (∀ s A B g, W.heap.size ≤ g → J s A → Put A B g → J s B) →
    (∀ pre x W1, J pre W1 → W.heap.size ≤ W1.heap.size → (∃ rest, xs = pre ++ x :: rest) → YieldAt .wide (n - 1) P l (enc x) W1 fun e W' => e = .returned (.bool true) ∧ J (pre ++ [x]) W' ∧ Keeps (fun g => S0 g ∨ W.heap.size ≤ g) W1 W') → J [] W →
    CallsIn .wide n P gf (#[.func (.yield l) #[] #[]] ++ lb) W fun e W' => (∃ v, e = .returned v) ∧ J xs W'
theorem wpIn_seqO {α : Type} {n : Nat} {P : Program} {g : Operand} {p1 p2 : Tmp} {assign body : Code} {Q : Exit → Act → World → Prop} {a : Act} {w w0 : World} {gf : Nat} {S0 : Nat → Prop} {lb : Array Value} {e1 e2 : α → Value} {xs : List α}
    (hseq : SeqOwn (n - 1) P gf lb (fun x => #[e1 x, e2 x]) S0 xs w0) (hb0 : Below w0.heap.size w0 w) (h1 : 1 ≤ n) (hg : a.eval g = .func (.func gf) #[] lb) (eg : ∀ args w, (callFunc gf args).run P w = .ok (.enter gf args) w)
    (hS0 : ∀ g, S0 g → g < w.heap.size)
    (I : List α → World → Prop) (hI1 : ∀ s A B, I s A → Below A.heap.size A B → I s B) (hI2 : ∀ s A B g, w.heap.size + 2 ≤ g → I s A → Put A B g → I s B) (hI3 : ∀ s (W : World) (l : Nat) (o : Obj), w.heap.size ≤ l → I s W → I s (W.putObj l o)) (h0 : I [] w) (slot : Tmp) (t : TypeId) (cx : α → Array Value) (slot2 : Tmp) (t2 : TypeId) (cx2 : α → Array Value)
    (hassign : ∀ (l : Nat) (x : α) (W : World) (K : Act → World → Prop), (∀ a' W', a' = { tmps := ((boxAct p1 p2 e1 e2 a x).setIfInBounds slot (.pointer (some ⟨W.heap.size, 0, none⟩))).setIfInBounds slot2 (.pointer (some ⟨W.heap.size + 1, 0, none⟩)), defers := [] } → W' = (W.alloc (.cells (cx x) t)).alloc (.cells (cx2 x) t2) → K a' W') →
      assign.wpIn (Fence.wide.inRound l) (n - 1 - 1) P (Exit.then K (fun _ _ _ => False)) { tmps := boxAct p1 p2 e1 e2 a x, defers := [] } W)
    (hbody : ∀ (l : Nat) (pre : List α) (x : α) (Bx : Nat) (W : World) (a' : Act), a' = { tmps := ((boxAct p1 p2 e1 e2 a x).setIfInBounds slot (.pointer (some ⟨Bx, 0, none⟩))).setIfInBounds slot2 (.pointer (some ⟨Bx + 1, 0, none⟩)), defers := [] } → I pre W → w.heap.size + 2 ≤ Bx → Blk W Bx t (cx x) → Blk W (Bx + 1) t2 (cx2 x) → (∃ rest, xs = pre ++ x :: rest) →
      body.wpIn (Fence.wide.inRound l) (n - 1 - 1) P (fun e _ W' => e = .normal ∧ KeepsOthers W W' ∧ Keeps (fun g => S0 g ∨ w.heap.size + 2 ≤ g) W W' ∧ I (pre ++ [x]) W') a' W)
    (hdone : ∀ (D : Nat) (W : World), w.heap.size ≤ D → I xs W → W.heap[D]? = some (.deferred (some [])) → Q .normal { a with defers := { target := .collected D, args := #[] } :: a.defers } W) :
    (Code.rangeFunc g #[p1, p2] assign body).wpIn .wide n P Q a w := by
  refine wpIn_rangeFunc fun fn hfn => ?_
  obtain ⟨rec, hrec⟩ : ∃ rec : LoopState → Loop, rec = fun st => { state := st, pending := none, fn, tmps := a.tmps, params := #[p1, p2], assign, body, defers := w.heap.size } := ⟨_, rfl⟩
  obtain ⟨W1, hW1⟩ : ∃ W1, (w.alloc (.deferred (some []))).alloc (.loop (rec .ready)) = W1 := ⟨_, rfl⟩
  have hb1 : Below w.heap.size w W1 := by rw [← hW1]; exact ((Below.refl _ w).alloc (Nat.le_refl _) _).alloc (by simp) _
  have hW1s : W1.heap.size = w.heap.size + 2 := by rw [← hW1]; simp
  have hL1 : W1.heap[w.heap.size + 1]? = some (.loop (rec .ready)) := by
    rw [← hW1]; have := World.alloc_heap_new (w.alloc (.deferred (some []))) (.loop (rec .ready)); rwa [World.size_alloc] at this
  have hK1 : W1.heap[w.heap.size]? = some (.deferred (some [])) := by
    rw [← hW1]; exact (Below.heap_alloc _ _ _ (by simp)).trans (World.alloc_heap_new w _)
  refine ⟨w.heap.size + 1, [{ target := .collected w.heap.size, args := #[] }], W1, { target := .fn (.func gf) lb, args := #[.func (.yield (w.heap.size + 1)) #[] #[]] }, W1, gf,
    #[.func (.yield (w.heap.size + 1)) #[] #[]] ++ lb, W1, ?_, ?_, ?_, ?_, fun _ => h1, ?_⟩
  · rw [← hW1, hrec]; exact run_enterLoop_outer _ _ _ _ _
  · simp only [resolve, hg]
    simp [go_sem]
  · intro f' hf'; trivial
  · simp [invoke, go_sem, eg]
  refine (hseq (w.heap.size + 1) (fun pre W => I pre W ∧ W.heap[w.heap.size + 1]? = some (.loop (rec .ready)) ∧ W.heap[w.heap.size]? = some (.deferred (some []))) W1 (hb0.trans (hb1.mono hb0.size))
    (fun s A B hs hb => ⟨hI1 s A B hs.1 hb, below_same hb hs.2.1, below_same hb hs.2.2⟩) (fun s A B g hg hs hp => ⟨hI2 s A B g (by omega) hs.1 hp, put_same hp (by omega) hs.2.1, put_same hp (by omega) hs.2.2⟩) ?_ ⟨hI1 _ _ _ h0 hb1, hL1, hK1⟩).mono ?_
  · rintro pre x W ⟨hi, hl, hk⟩ hWW hlen
    have hy := run_yield (P := P) (args := #[e1 x, e2 x]) hl (by rw [hrec]; rfl)
    rw [hrec] at hy
    refine ⟨fn, _, assign, body, hy, roundIn_of_wpIn hfn ?_⟩
    rw [boxAct_eq]
    refine hassign _ x W _ ?_
    rintro a' Wa ha rfl
    have hba : Below W.heap.size W ((W.alloc (.cells (cx x) t)).alloc (.cells (cx2 x) t2)) := ((Below.refl _ _).alloc (Nat.le_refl _) _).alloc (by simp) _
    have hla := below_same hba hl
    have hka := below_same hba hk
    have hlt := (Array.getElem?_eq_some_iff.1 hla).1
    have hwW : w.heap.size + 1 < W.heap.size := (Array.getElem?_eq_some_iff.1 hl).1
    refine ⟨_, run_beginRound hla (by rw [hrec]), ?_⟩
    obtain ⟨Wb, hWb⟩ : ∃ Wb, Wb = ((W.alloc (.cells (cx x) t)).alloc (.cells (cx2 x) t2)).putObj (w.heap.size + 1) (.loop { rec .ready with state := .busy }) := ⟨_, rfl⟩
    have hl2 : Wb.heap[w.heap.size + 1]? = some (.loop { rec .ready with state := .busy }) := by rw [hWb]; exact World.putObj_heap_same hlt
    have hk2 : Wb.heap[w.heap.size]? = some (.deferred (some [])) := by rw [hWb]; exact (World.putObj_heap_other (by omega)).trans hka
    have hi2 : I pre Wb := by rw [hWb]; exact hI3 _ _ _ _ (by omega) (hI1 _ _ _ hi hba)
    have hx2 : Blk Wb W.heap.size t (cx x) := by rw [hWb]; exact (World.putObj_heap_other (by omega)).trans ((Blk.new _ _ _).alloc _)
    have hx3 : Blk Wb (W.heap.size + 1) t2 (cx2 x) := by rw [hWb]; exact (World.putObj_heap_other (by omega)).trans (Blk.new_at _ _ _ (by simp))
    have hkS : Keeps (fun g => S0 g ∨ w.heap.size + 2 ≤ g) W Wb := by
      rw [hWb]
      refine (Keeps.of_below hba).trans ⟨by simp, fun g hg _ => World.putObj_heap_other (hg.elim (fun h => by have := hS0 _ h; omega) (fun h => by omega))⟩
    rw [← hWb]
    refine wpIn_mono (hbody _ pre x W.heap.size Wb a' ha hi2 (by omega) hx2 hx3 hlen) ?_
    rintro e a3 W3 ⟨rfl, hk3, hkp3, hi3⟩
    have hl3 := hk3.same _ _ hl2 rfl
    have hkk3 := hk3.same _ _ hk2 rfl
    have hend := run_endRound (P := P) none hl3
    have hl4 : (W3.putObj (w.heap.size + 1) (.loop (rec .ready))).heap[w.heap.size + 1]? = some (.loop (rec .ready)) := World.putObj_heap_same (Array.getElem?_eq_some_iff.1 hl3).1
    have hk4 : (W3.putObj (w.heap.size + 1) (.loop (rec .ready))).heap[w.heap.size]? = some (.deferred (some [])) := (World.putObj_heap_other (by omega)).trans hkk3
    refine ⟨_, W3.putObj (w.heap.size + 1) (.loop (rec .ready)), ?_, rfl, ⟨hI3 _ _ _ _ (by omega) hi3, hl4, hk4⟩, by rw [hW1s]; exact (hkS.trans hkp3).trans ⟨by simp, fun g hg _ => World.putObj_heap_other (hg.elim (fun h => by have := hS0 _ h; omega) (fun h => by omega))⟩⟩
    rw [hrec] at hend ⊢
    exact hend
  · rintro e W2 ⟨⟨v, rfl⟩, hi, hl, hk⟩
    exact ⟨none, _, by have := run_endLoop (P := P) hl (by rw [hrec]; simp); rw [hrec] at this; exact this, hdone _ _ (Nat.le_refl _) (hI3 _ _ _ _ (by omega) hi) ((World.putObj_heap_other (by omega)).trans hk)⟩
end Go.Proofs.YtnddfeidggcplaaGreat
namespace Go.Proofs.YtnddfeidggcplaaGreat
open Go.RowKit

/-- The iterator's contract: it writes only blocks that Own names (N: where the heap ended as it began); the rounds keep what S names. -/
def SeqG {α : Type} (n : Nat) (P : Program) (gf : Nat) (lb : Array Value) (enc : α → Array Value) (Own S : Nat → Nat → Prop) (k : Nat) (xs : List α) (w : World) : Prop :=
  ∀ (l : Nat) (J : List α → World → Prop) (W : World), Below w.heap.size w W → (∀ s A B, J s A → Below A.heap.size A B → J s B) → (∀ s A B g, Own W.heap.size g → J s A → Put A B g → J s B) →
    (∀ pre x W1, J pre W1 → W.heap.size + k ≤ W1.heap.size → (∃ rest, xs = pre ++ x :: rest) → YieldAt .wide (n - 1) P l (enc x) W1 fun e W' => e = .returned (.bool true) ∧ J (pre ++ [x]) W' ∧ Keeps (S W.heap.size) W1 W') → J [] W →
    CallsIn .wide n P gf (#[.func (.yield l) #[] #[]] ++ lb) W fun e W' => (∃ v, e = .returned v) ∧ J xs W'
theorem wpIn_seqG {α : Type} {n : Nat} {P : Program} {g : Operand} {ps : Array Tmp} {assign body : Code} {Q : Exit → Act → World → Prop} {a : Act} {w w0 : World} {gf : Nat} {Own S : Nat → Nat → Prop} {k : Nat} {lb : Array Value} {enc : α → Array Value} {xs : List α}
    (hseq : SeqG (n - 1) P gf lb enc Own S k xs w0) (hb0 : Below w0.heap.size w0 w) (h1 : 1 ≤ n) (hg : a.eval g = .func (.func gf) #[] lb) (eg : ∀ args w, (callFunc gf args).run P w = .ok (.enter gf args) w)
    (hps : ∀ x, (enc x).size = ps.size) (hO : ∀ g, Own (w.heap.size + 2) g → g ≠ w.heap.size ∧ g ≠ w.heap.size + 1) (hS : ∀ g, S (w.heap.size + 2) g → g ≠ w.heap.size + 1)
    (I : List α → World → Prop) (hI1 : ∀ s A B, I s A → Below A.heap.size A B → I s B) (hI2 : ∀ s A B g, Own (w.heap.size + 2) g → I s A → Put A B g → I s B) (hI3 : ∀ s (W : World) (o : Obj), I s W → I s (W.putObj (w.heap.size + 1) o)) (h0 : I [] w)
    (Ax : α → Act → World → Prop) (hAx : ∀ x a' (W : World) (o : Obj), Ax x a' W → Ax x a' (W.putObj (w.heap.size + 1) o))
    (hassign : ∀ (l : Nat) (x : α) (W : World) (K : Act → World → Prop), w.heap.size + 2 + k ≤ W.heap.size → (∀ a' W', Below W.heap.size W W' → Ax x a' W' → K a' W') →
      assign.wpIn (Fence.wide.inRound l) (n - 1 - 1) P (Exit.then K (fun _ _ _ => False)) { tmps := (ps.zip (enc x)).foldl (fun t (p, v) => t.setIfInBounds p v) a.tmps, defers := [] } W)
    (hbody : ∀ (l : Nat) (pre : List α) (x : α) (W : World) (a' : Act), I pre W → w.heap.size + 2 + k ≤ W.heap.size → Ax x a' W → (∃ rest, xs = pre ++ x :: rest) →
      body.wpIn (Fence.wide.inRound l) (n - 1 - 1) P (fun e _ W' => e = .normal ∧ Keeps (fun g => S (w.heap.size + 2) g ∨ g = w.heap.size ∨ g = w.heap.size + 1) W W' ∧ I (pre ++ [x]) W') a' W)
    (hdone : ∀ (D : Nat) (W : World), Hid (D = w.heap.size) → I xs W → W.heap[D]? = some (.deferred (some [])) → Q .normal { a with defers := { target := .collected D, args := #[] } :: a.defers } W) :
    (Code.rangeFunc g ps assign body).wpIn .wide n P Q a w := by
  refine wpIn_rangeFunc fun fn hfn => ?_
  obtain ⟨rec, hrec⟩ : ∃ rec : LoopState → Loop, rec = fun st => { state := st, pending := none, fn, tmps := a.tmps, params := ps, assign, body, defers := w.heap.size } := ⟨_, rfl⟩
  obtain ⟨W1, hW1⟩ : ∃ W1, (w.alloc (.deferred (some []))).alloc (.loop (rec .ready)) = W1 := ⟨_, rfl⟩
  have hb1 : Below w.heap.size w W1 := by rw [← hW1]; exact ((Below.refl _ w).alloc (Nat.le_refl _) _).alloc (by simp) _
  have hW1s : W1.heap.size = w.heap.size + 2 := by rw [← hW1]; simp
  have hL1 : W1.heap[w.heap.size + 1]? = some (.loop (rec .ready)) := by
    rw [← hW1]; have := World.alloc_heap_new (w.alloc (.deferred (some []))) (.loop (rec .ready)); rwa [World.size_alloc] at this
  have hK1 : W1.heap[w.heap.size]? = some (.deferred (some [])) := by
    rw [← hW1]; exact (Below.heap_alloc _ _ _ (by simp)).trans (World.alloc_heap_new w _)
  refine ⟨w.heap.size + 1, [{ target := .collected w.heap.size, args := #[] }], W1, { target := .fn (.func gf) lb, args := #[.func (.yield (w.heap.size + 1)) #[] #[]] }, W1, gf,
    #[.func (.yield (w.heap.size + 1)) #[] #[]] ++ lb, W1, ?_, ?_, ?_, ?_, fun _ => h1, ?_⟩
  · rw [← hW1, hrec]; exact run_enterLoop_outer _ _ _ _ _
  · simp only [resolve, hg]
    simp [go_sem]
  · intro f' hf'; trivial
  · simp [invoke, go_sem, eg]
  refine (hseq (w.heap.size + 1) (fun pre W => I pre W ∧ W.heap[w.heap.size + 1]? = some (.loop (rec .ready)) ∧ W.heap[w.heap.size]? = some (.deferred (some []))) W1 (hb0.trans (hb1.mono hb0.size))
    (fun s A B hs hb => ⟨hI1 s A B hs.1 hb, below_same hb hs.2.1, below_same hb hs.2.2⟩) (fun s A B g hg hs hp => by
      rw [hW1s] at hg
      obtain ⟨o1, o2⟩ := hO g hg
      exact ⟨hI2 s A B g hg hs.1 hp, put_same hp (fun e => o2 e.symm) hs.2.1, put_same hp (fun e => o1 e.symm) hs.2.2⟩) ?_ ⟨hI1 _ _ _ h0 hb1, hL1, hK1⟩).mono ?_
  · rintro pre x W ⟨hi, hl, hk⟩ hWW hlen
    rw [hW1s] at hWW ⊢
    have hy := run_yield (P := P) (args := enc x) hl (by rw [hrec]; exact hps x)
    rw [hrec] at hy
    refine ⟨fn, _, assign, body, hy, roundIn_of_wpIn hfn ?_⟩
    refine hassign _ x W _ hWW ?_
    intro a' Wa hba hax
    have hla := below_same hba hl
    have hka := below_same hba hk
    refine ⟨_, run_beginRound hla (by rw [hrec]), ?_⟩
    obtain ⟨Wb, hWb⟩ : ∃ Wb, Wb = Wa.putObj (w.heap.size + 1) (.loop { rec .ready with state := .busy }) := ⟨_, rfl⟩
    have hlt := (Array.getElem?_eq_some_iff.1 hla).1
    have hl2 : Wb.heap[w.heap.size + 1]? = some (.loop { rec .ready with state := .busy }) := by rw [hWb]; exact World.putObj_heap_same hlt
    have hk2 : Wb.heap[w.heap.size]? = some (.deferred (some [])) := by rw [hWb]; exact (World.putObj_heap_other (by omega)).trans hka
    have hi2 : I pre Wb := by rw [hWb]; exact hI3 _ _ _ (hI1 _ _ _ hi hba)
    have hax2 : Ax x a' Wb := by rw [hWb]; exact hAx x a' Wa _ hax
    have hsb : w.heap.size + 2 + k ≤ Wb.heap.size := by rw [hWb]; have := hba.size; simp; omega
    have hkS : Keeps (S (w.heap.size + 2)) W Wb := by
      rw [hWb]
      exact (Keeps.of_below hba).trans ⟨by simp, fun g hg _ => World.putObj_heap_other (hS g hg)⟩
    rw [← hWb]
    refine wpIn_mono (hbody _ pre x Wb a' hi2 hsb hax2 hlen) ?_
    rintro e a3 W3 ⟨rfl, hkp3, hi3⟩
    have hl3 := (hkp3.same (w.heap.size + 1) (.inr (.inr rfl)) (by omega)).trans hl2
    have hkk3 := (hkp3.same w.heap.size (.inr (.inl rfl)) (by omega)).trans hk2
    have hend := run_endRound (P := P) none hl3
    have hl4 : (W3.putObj (w.heap.size + 1) (.loop (rec .ready))).heap[w.heap.size + 1]? = some (.loop (rec .ready)) := World.putObj_heap_same (Array.getElem?_eq_some_iff.1 hl3).1
    have hk4 : (W3.putObj (w.heap.size + 1) (.loop (rec .ready))).heap[w.heap.size]? = some (.deferred (some [])) := (World.putObj_heap_other (by omega)).trans hkk3
    have hkp4 : Keeps (S (w.heap.size + 2)) Wb W3 := ⟨hkp3.size, fun g hg hl => hkp3.same g (.inl hg) hl⟩
    refine ⟨_, W3.putObj (w.heap.size + 1) (.loop (rec .ready)), ?_, rfl, ⟨hI3 _ _ _ hi3, hl4, hk4⟩, (hkS.trans hkp4).trans ⟨by simp, fun g hg _ => World.putObj_heap_other (hS g hg)⟩⟩
    rw [hrec] at hend ⊢
    exact hend
  · rintro e W2 ⟨⟨v, rfl⟩, hi, hl, hk⟩
    exact ⟨none, _, by have := run_endLoop (P := P) hl (by rw [hrec]; simp); rw [hrec] at this; exact this, hdone _ _ (Lib.hid rfl) (hI3 _ _ _ hi) ((World.putObj_heap_other (by omega)).trans hk)⟩
/-- One loop variable, not boxed. -/
theorem wpIn_seqP1 {α : Type} {n : Nat} {P : Program} {g : Operand} {p1 : Tmp} {assign body : Code} {Q : Exit → Act → World → Prop} {a : Act} {w w0 : World} {gf : Nat} {Own S : Nat → Nat → Prop} {k : Nat} {lb : Array Value} {e1 : α → Value} {xs : List α}
    (hseq : SeqG (n - 1) P gf lb (fun x => #[e1 x]) Own S k xs w0) (hb0 : Below w0.heap.size w0 w) (h1 : 1 ≤ n) (hg : a.eval g = .func (.func gf) #[] lb) (eg : ∀ args w, (callFunc gf args).run P w = .ok (.enter gf args) w)
    (hO : ∀ g, Own (w.heap.size + 2) g → g ≠ w.heap.size ∧ g ≠ w.heap.size + 1) (hS : ∀ g, S (w.heap.size + 2) g → g ≠ w.heap.size + 1)
    (I : List α → World → Prop) (hI1 : ∀ s A B, I s A → Below A.heap.size A B → I s B) (hI2 : ∀ s A B g, Own (w.heap.size + 2) g → I s A → Put A B g → I s B) (hI3 : ∀ s (W : World) (o : Obj), I s W → I s (W.putObj (w.heap.size + 1) o)) (h0 : I [] w) (slot : Tmp)
    (hassign : ∀ (l : Nat) (x : α) (W : World) (K : Act → World → Prop), K { tmps := (a.tmps.setIfInBounds p1 (e1 x)).setIfInBounds slot (e1 x), defers := [] } W → assign.wpIn (Fence.wide.inRound l) (n - 1 - 1) P (Exit.then K (fun _ _ _ => False)) { tmps := a.tmps.setIfInBounds p1 (e1 x), defers := [] } W)
    (hbody : ∀ (l : Nat) (pre : List α) (x : α) (W : World), I pre W → w.heap.size + 2 + k ≤ W.heap.size → (∃ rest, xs = pre ++ x :: rest) →
      body.wpIn (Fence.wide.inRound l) (n - 1 - 1) P (fun e _ W' => e = .normal ∧ Keeps (fun g => S (w.heap.size + 2) g ∨ g = w.heap.size ∨ g = w.heap.size + 1) W W' ∧ I (pre ++ [x]) W') { tmps := (a.tmps.setIfInBounds p1 (e1 x)).setIfInBounds slot (e1 x), defers := [] } W)
    (hdone : ∀ (D : Nat) (W : World), Hid (D = w.heap.size) → I xs W → W.heap[D]? = some (.deferred (some [])) → Q .normal { a with defers := { target := .collected D, args := #[] } :: a.defers } W) :
    (Code.rangeFunc g #[p1] assign body).wpIn .wide n P Q a w := by
  refine wpIn_seqG hseq hb0 h1 hg eg (fun _ => rfl) hO hS I hI1 hI2 hI3 h0 (fun x a' _ => a' = { tmps := (a.tmps.setIfInBounds p1 (e1 x)).setIfInBounds slot (e1 x), defers := [] }) (fun _ _ _ _ h => h) ?_ ?_ hdone
  · intro l x W K _ hK
    rw [show ((#[p1] : Array Tmp).zip (#[e1 x] : Array Value)).foldl (fun t (p, v) => t.setIfInBounds p v) a.tmps = a.tmps.setIfInBounds p1 (e1 x) by simp]
    exact hassign l x W K (hK _ _ (Below.refl _ _) rfl)
  · rintro l pre x W a' hi hs rfl hx
    exact hbody l pre x W hi hs hx
/-- Two loop variables, not boxed. -/
theorem wpIn_seqP2 {α : Type} {n : Nat} {P : Program} {g : Operand} {p1 p2 : Tmp} {assign body : Code} {Q : Exit → Act → World → Prop} {a : Act} {w w0 : World} {gf : Nat} {Own S : Nat → Nat → Prop} {k : Nat} {lb : Array Value} {e1 e2 : α → Value} {xs : List α}
    (hseq : SeqG (n - 1) P gf lb (fun x => #[e1 x, e2 x]) Own S k xs w0) (hb0 : Below w0.heap.size w0 w) (h1 : 1 ≤ n) (hg : a.eval g = .func (.func gf) #[] lb) (eg : ∀ args w, (callFunc gf args).run P w = .ok (.enter gf args) w)
    (hO : ∀ g, Own (w.heap.size + 2) g → g ≠ w.heap.size ∧ g ≠ w.heap.size + 1) (hS : ∀ g, S (w.heap.size + 2) g → g ≠ w.heap.size + 1)
    (I : List α → World → Prop) (hI1 : ∀ s A B, I s A → Below A.heap.size A B → I s B) (hI2 : ∀ s A B g, Own (w.heap.size + 2) g → I s A → Put A B g → I s B) (hI3 : ∀ s (W : World) (o : Obj), I s W → I s (W.putObj (w.heap.size + 1) o)) (h0 : I [] w) (slot slot2 : Tmp)
    (hassign : ∀ (l : Nat) (x : α) (W : World) (K : Act → World → Prop), K { tmps := ((boxAct p1 p2 e1 e2 a x).setIfInBounds slot (e1 x)).setIfInBounds slot2 (e2 x), defers := [] } W → assign.wpIn (Fence.wide.inRound l) (n - 1 - 1) P (Exit.then K (fun _ _ _ => False)) { tmps := boxAct p1 p2 e1 e2 a x, defers := [] } W)
    (hbody : ∀ (l : Nat) (pre : List α) (x : α) (W : World), I pre W → w.heap.size + 2 + k ≤ W.heap.size → (∃ rest, xs = pre ++ x :: rest) →
      body.wpIn (Fence.wide.inRound l) (n - 1 - 1) P (fun e _ W' => e = .normal ∧ Keeps (fun g => S (w.heap.size + 2) g ∨ g = w.heap.size ∨ g = w.heap.size + 1) W W' ∧ I (pre ++ [x]) W') { tmps := ((boxAct p1 p2 e1 e2 a x).setIfInBounds slot (e1 x)).setIfInBounds slot2 (e2 x), defers := [] } W)
    (hdone : ∀ (D : Nat) (W : World), Hid (D = w.heap.size) → I xs W → W.heap[D]? = some (.deferred (some [])) → Q .normal { a with defers := { target := .collected D, args := #[] } :: a.defers } W) :
    (Code.rangeFunc g #[p1, p2] assign body).wpIn .wide n P Q a w := by
  refine wpIn_seqG hseq hb0 h1 hg eg (fun _ => rfl) hO hS I hI1 hI2 hI3 h0 (fun x a' _ => a' = { tmps := ((boxAct p1 p2 e1 e2 a x).setIfInBounds slot (e1 x)).setIfInBounds slot2 (e2 x), defers := [] }) (fun _ _ _ _ h => h) ?_ ?_ hdone
  · intro l x W K _ hK
    rw [boxAct_eq]
    exact hassign l x W K (hK _ _ (Below.refl _ _) rfl)
  · rintro l pre x W a' hi hs rfl hx
    exact hbody l pre x W hi hs hx
/-- Two loop variables, the second one boxed. -/
theorem wpIn_seqB2 {α : Type} {n : Nat} {P : Program} {g : Operand} {p1 p2 : Tmp} {assign body : Code} {Q : Exit → Act → World → Prop} {a : Act} {w w0 : World} {gf : Nat} {Own S : Nat → Nat → Prop} {k : Nat} {lb : Array Value} {e1 e2 : α → Value} {xs : List α}
    (hseq : SeqG (n - 1) P gf lb (fun x => #[e1 x, e2 x]) Own S k xs w0) (hb0 : Below w0.heap.size w0 w) (h1 : 1 ≤ n) (hg : a.eval g = .func (.func gf) #[] lb) (eg : ∀ args w, (callFunc gf args).run P w = .ok (.enter gf args) w)
    (hO : ∀ g, Own (w.heap.size + 2) g → g ≠ w.heap.size ∧ g ≠ w.heap.size + 1) (hS : ∀ g, S (w.heap.size + 2) g → g ≠ w.heap.size + 1)
    (I : List α → World → Prop) (hI1 : ∀ s A B, I s A → Below A.heap.size A B → I s B) (hI2 : ∀ s A B g, Own (w.heap.size + 2) g → I s A → Put A B g → I s B) (hI3 : ∀ s (W : World) (o : Obj), I s W → I s (W.putObj (w.heap.size + 1) o)) (h0 : I [] w) (slot slot2 : Tmp) (t2 : TypeId) (cx2 : α → Array Value)
    (hassign : ∀ (l : Nat) (x : α) (W : World) (K : Act → World → Prop), K { tmps := ((boxAct p1 p2 e1 e2 a x).setIfInBounds slot (e1 x)).setIfInBounds slot2 (.pointer (some ⟨W.heap.size, 0, none⟩)), defers := [] } (W.alloc (.cells (cx2 x) t2)) → assign.wpIn (Fence.wide.inRound l) (n - 1 - 1) P (Exit.then K (fun _ _ _ => False)) { tmps := boxAct p1 p2 e1 e2 a x, defers := [] } W)
    (hbody : ∀ (l : Nat) (pre : List α) (x : α) (Bx : Nat) (W : World), I pre W → w.heap.size + 2 + k ≤ W.heap.size → w.heap.size + 2 + k ≤ Bx → Blk W Bx t2 (cx2 x) → (∃ rest, xs = pre ++ x :: rest) →
      body.wpIn (Fence.wide.inRound l) (n - 1 - 1) P (fun e _ W' => e = .normal ∧ Keeps (fun g => S (w.heap.size + 2) g ∨ g = w.heap.size ∨ g = w.heap.size + 1) W W' ∧ I (pre ++ [x]) W') { tmps := ((boxAct p1 p2 e1 e2 a x).setIfInBounds slot (e1 x)).setIfInBounds slot2 (.pointer (some ⟨Bx, 0, none⟩)), defers := [] } W)
    (hdone : ∀ (D : Nat) (W : World), Hid (D = w.heap.size) → I xs W → W.heap[D]? = some (.deferred (some [])) → Q .normal { a with defers := { target := .collected D, args := #[] } :: a.defers } W) :
    (Code.rangeFunc g #[p1, p2] assign body).wpIn .wide n P Q a w := by
  refine wpIn_seqG hseq hb0 h1 hg eg (fun _ => rfl) hO hS I hI1 hI2 hI3 h0 (fun x a' W => ∃ Bx, w.heap.size + 2 + k ≤ Bx ∧ Blk W Bx t2 (cx2 x) ∧ a' = { tmps := ((boxAct p1 p2 e1 e2 a x).setIfInBounds slot (e1 x)).setIfInBounds slot2 (.pointer (some ⟨Bx, 0, none⟩)), defers := [] }) ?_ ?_ ?_ hdone
  · rintro x a' W o ⟨Bx, h1, h2, h3⟩
    exact ⟨Bx, h1, (World.putObj_heap_other (by omega)).trans h2, h3⟩
  · intro l x W K hs hK
    rw [boxAct_eq]
    exact hassign l x W K (hK _ _ ((Below.refl _ _).alloc (Nat.le_refl _) _) ⟨W.heap.size, hs, Blk.new _ _ _, rfl⟩)
  · rintro l pre x W a' hi hs ⟨Bx, h1, h2, rfl⟩ hx
    exact hbody l pre x Bx W hi hs h1 h2 hx
end Go.Proofs.YtnddfeidggcplaaGreat
