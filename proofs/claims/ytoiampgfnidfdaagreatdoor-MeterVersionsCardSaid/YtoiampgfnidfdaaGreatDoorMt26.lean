/-
  A range over an iterator of one value a round, told by what the memory holds behind the value; the rounds all go on.
  The program's SHA-256: the blocks of the padded message.
  Slices cut from an index on.
  The program's SHA-256: the iterator over the blocks of the padded message, by contract.
  The program's SHA-256, whole.
  The program's transcripts: the tagged hash.
  The program's transcripts: the bytes of elements.
  The program's transcripts: absorbing.
  Hash trees in mathematics: peaks, the bag of the peaks, the tree of at most eight leaves.
  The meter in mathematics: points, epochs, states; its operations.
-/
import Derived.Test.YtoiampgfnidfdaaGreatDoorClm
import Derived.Test.YtoiampgfnidfdaaGreatDoorShc
import Derived.Deep.RegionHeld3
import Derived.Test.YtoiampgfnidfdaaGreatDoorZv
namespace Go.Proofs.YtoiampgfnidfdaaGreatDoor
open Go.RowKit

def SeqM (n : Nat) (P : Program) (gf : Nat) (lb : Array Value) (Own S : Nat → Nat → Prop) (k N : Nat) (Av : Nat → Value → World → Prop) (w : World) : Prop :=
  ∀ (l : Nat) (J : Nat → World → Prop) (W : World), Below w.heap.size w W → (∀ s A B, J s A → Below A.heap.size A B → J s B) → (∀ s A B g, Own W.heap.size g → J s A → Put A B g → J s B) →
    (∀ pre x W1, J pre W1 → W.heap.size + k ≤ W1.heap.size → pre < N → Av pre x W1 → YieldAt .wide (n - 1) P l #[x] W1 fun e W' => e = .returned (.bool true) ∧ J (pre + 1) W' ∧ Keeps (S W.heap.size) W1 W') → J 0 W →
    CallsIn .wide n P gf (#[.func (.yield l) #[] #[]] ++ lb) W fun e W' => (∃ v, e = .returned v) ∧ J N W'
theorem wpIn_seqM {n : Nat} {P : Program} {g : Operand} {p1 : Tmp} {assign body : Code} {Q : Exit → Act → World → Prop} {a : Act} {w w0 : World} {gf : Nat} {Own S : Nat → Nat → Prop} {k N : Nat} {Av : Nat → Value → World → Prop} {lb : Array Value}
    (hseq : SeqM (n - 1) P gf lb Own S k N Av w0) (hb0 : Below w0.heap.size w0 w) (h1 : 1 ≤ n) (hg : a.eval g = .func (.func gf) #[] lb) (eg : ∀ args w, (callFunc gf args).run P w = .ok (.enter gf args) w)
    (hO : ∀ g, Own (w.heap.size + 2) g → g ≠ w.heap.size ∧ g ≠ w.heap.size + 1) (hS : ∀ g, S (w.heap.size + 2) g → g ≠ w.heap.size + 1)
    (I : Nat → World → Prop) (hI1 : ∀ s A B, I s A → Below A.heap.size A B → I s B) (hI2 : ∀ s A B g, Own (w.heap.size + 2) g → I s A → Put A B g → I s B) (hI3 : ∀ s (W : World) (o : Obj), I s W → I s (W.putObj (w.heap.size + 1) o)) (h0 : I 0 w)
    (Ax : Nat → Value → Act → World → Prop) (hAx : ∀ i x a' (W : World) (o : Obj) (L : Loop), W.heap[w.heap.size + 1]? = some (.loop L) → Ax i x a' W → Ax i x a' (W.putObj (w.heap.size + 1) o))
    (hassign : ∀ (l i : Nat) (x : Value) (W : World) (K : Act → World → Prop), w.heap.size + 2 + k ≤ W.heap.size → Av i x W → (∀ a' W', Below W.heap.size W W' → Ax i x a' W' → K a' W') →
      assign.wpIn (Fence.wide.inRound l) (n - 1 - 1) P (Exit.then K (fun _ _ _ => False)) { tmps := a.tmps.setIfInBounds p1 x, defers := [] } W)
    (hbody : ∀ (l : Nat) (pre : Nat) (x : Value) (W : World) (a' : Act), I pre W → w.heap.size + 2 + k ≤ W.heap.size → Ax pre x a' W → pre < N →
      body.wpIn (Fence.wide.inRound l) (n - 1 - 1) P (fun e _ W' => e = .normal ∧ Keeps (fun g => S (w.heap.size + 2) g ∨ g = w.heap.size ∨ g = w.heap.size + 1) W W' ∧ I (pre + 1) W') a' W)
    (hdone : ∀ (D : Nat) (W : World), Hid (D = w.heap.size) → I N W → W.heap[D]? = some (.deferred (some [])) → Q .normal { a with defers := { target := .collected D, args := #[] } :: a.defers } W) :
    (Code.rangeFunc g #[p1] assign body).wpIn .wide n P Q a w := by
  refine wpIn_rangeFunc fun fn hfn => ?_
  obtain ⟨rec, hrec⟩ : ∃ rec : LoopState → Loop, rec = fun st => { state := st, pending := none, fn, tmps := a.tmps, params := #[p1], assign, body, defers := w.heap.size } := ⟨_, rfl⟩
  obtain ⟨W1, hW1⟩ : ∃ W1, (w.alloc (.deferred (some []))).alloc (.loop (rec .ready)) = W1 := ⟨_, rfl⟩
  have hb1 : Below w.heap.size w W1 := by rw [← hW1]; exact ((Below.refl _ w).alloc (Nat.le_refl _) _).alloc (by simp) _
  have hW1s : W1.heap.size = w.heap.size + 2 := by rw [← hW1]; simp
  have hL1 : W1.heap[w.heap.size + 1]? = some (.loop (rec .ready)) := by
    rw [← hW1]; have := World.alloc_heap_new (w.alloc (.deferred (some []))) (.loop (rec .ready)); rwa [World.size_alloc] at this
  have hK1 : W1.heap[w.heap.size]? = some (.deferred (some [])) := by
    rw [← hW1]; exact (Below.heap_alloc _ _ _ (by simp)).trans (World.alloc_heap_new w _)
  refine ⟨w.heap.size + 1, [{ target := .collected w.heap.size, args := #[] }], W1, { target := .fn (.func gf) lb, args := #[.func (.yield (w.heap.size + 1)) #[] #[]] }, W1, gf,
    #[.func (.yield (w.heap.size + 1)) #[] #[]] ++ lb, W1, ?_, ?_, ?_, ?_, fun _ => h1, ?_⟩
  · rw [← hW1, hrec]; exact run_enterLoop_outer _ _ _ _ _
  · simp only [resolve, hg]
    simp [go_sem]
  · intro f' hf'; trivial
  · simp [invoke, go_sem, eg]
  refine (hseq (w.heap.size + 1) (fun pre W => I pre W ∧ W.heap[w.heap.size + 1]? = some (.loop (rec .ready)) ∧ W.heap[w.heap.size]? = some (.deferred (some []))) W1 (hb0.trans (hb1.mono hb0.size))
    (fun s A B hs hb => ⟨hI1 s A B hs.1 hb, below_same hb hs.2.1, below_same hb hs.2.2⟩) (fun s A B g hg hs hp => by
      rw [hW1s] at hg
      obtain ⟨o1, o2⟩ := hO g hg
      exact ⟨hI2 s A B g hg hs.1 hp, put_same hp (fun e => o2 e.symm) hs.2.1, put_same hp (fun e => o1 e.symm) hs.2.2⟩) ?_ ⟨hI1 _ _ _ h0 hb1, hL1, hK1⟩).mono ?_
  · rintro pre x W ⟨hi, hl, hk⟩ hWW hlen hav
    rw [hW1s] at hWW ⊢
    have hy := run_yield (P := P) (args := #[x]) hl (by rw [hrec]; rfl)
    rw [hrec] at hy
    refine ⟨fn, _, assign, body, hy, roundIn_of_wpIn hfn ?_⟩
    rw [show ((#[p1] : Array Tmp).zip (#[x] : Array Value)).foldl (fun t (p, v) => t.setIfInBounds p v) a.tmps = a.tmps.setIfInBounds p1 x by simp]
    refine hassign _ pre x W _ hWW hav ?_
    intro a' Wa hba hax
    have hla := below_same hba hl
    have hka := below_same hba hk
    refine ⟨_, run_beginRound hla (by rw [hrec]), ?_⟩
    obtain ⟨Wb, hWb⟩ : ∃ Wb, Wb = Wa.putObj (w.heap.size + 1) (.loop { rec .ready with state := .busy }) := ⟨_, rfl⟩
    have hlt := (Array.getElem?_eq_some_iff.1 hla).1
    have hl2 : Wb.heap[w.heap.size + 1]? = some (.loop { rec .ready with state := .busy }) := by rw [hWb]; exact World.putObj_heap_same hlt
    have hk2 : Wb.heap[w.heap.size]? = some (.deferred (some [])) := by rw [hWb]; exact (World.putObj_heap_other (by omega)).trans hka
    have hi2 : I pre Wb := by rw [hWb]; exact hI3 _ _ _ (hI1 _ _ _ hi hba)
    have hax2 : Ax pre x a' Wb := by rw [hWb]; exact hAx pre x a' Wa _ _ hla hax
    have hsb : w.heap.size + 2 + k ≤ Wb.heap.size := by rw [hWb]; have := hba.size; simp; omega
    have hkS : Keeps (S (w.heap.size + 2)) W Wb := by
      rw [hWb]
      exact (Keeps.of_below hba).trans ⟨by simp, fun g hg _ => World.putObj_heap_other (hS g hg)⟩
    rw [← hWb]
    refine wpIn_mono (hbody _ pre x Wb a' hi2 hsb hax2 hlen) ?_
    rintro e a3 W3 ⟨rfl, hkp3, hi3⟩
    have hl3 := (hkp3.same (w.heap.size + 1) (.inr (.inr rfl)) (by omega)).trans hl2
    have hkk3 := (hkp3.same w.heap.size (.inr (.inl rfl)) (by omega)).trans hk2
    have hend := run_endRound (P := P) none hl3
    have hl4 : (W3.putObj (w.heap.size + 1) (.loop (rec .ready))).heap[w.heap.size + 1]? = some (.loop (rec .ready)) := World.putObj_heap_same (Array.getElem?_eq_some_iff.1 hl3).1
    have hk4 : (W3.putObj (w.heap.size + 1) (.loop (rec .ready))).heap[w.heap.size]? = some (.deferred (some [])) := (World.putObj_heap_other (by omega)).trans hkk3
    have hkp4 : Keeps (S (w.heap.size + 2)) Wb W3 := ⟨hkp3.size, fun g hg hl => hkp3.same g (.inl hg) hl⟩
    refine ⟨_, W3.putObj (w.heap.size + 1) (.loop (rec .ready)), ?_, rfl, ⟨hI3 _ _ _ hi3, hl4, hk4⟩, (hkS.trans hkp4).trans ⟨by simp, fun g hg _ => World.putObj_heap_other (hS g hg)⟩⟩
    rw [hrec] at hend ⊢
    exact hend
  · rintro e W2 ⟨⟨v, rfl⟩, hi, hl, hk⟩
    exact ⟨none, _, by have := run_endLoop (P := P) hl (by rw [hrec]; simp); rw [hrec] at this; exact this, hdone _ _ (Lib.hid rfl) (hI3 _ _ _ hi) ((World.putObj_heap_other (by omega)).trans hk)⟩
end Go.Proofs.YtoiampgfnidfdaaGreatDoor
namespace Go.Proofs.YtoiampgfnidfdaaGreatDoor
open Go.RowKit

theorem gBlocks (A : Option Addr) (m cap : Nat) (w : World) : Calls Tryz.prog 144 #[.slice A m cap] w fun e w' =>
    e = .returned (.func (.func 159) #[] #[.pointer (some ⟨w.heap.size, 0, none⟩)]) ∧ w' = w.alloc (.cells #[.slice A m cap] 56) := by
  go_enter Tryz.func144, Tryz.ntmps144
  go_wp2
  go_ret
  exact ⟨rfl, rfl⟩
theorem grown_split {A B : World} {g : Nat} (h : A.grownBy B (some g)) (hg : g < A.heap.size) : ∃ M, Below A.heap.size A M ∧ Put M B g := by
  refine ⟨B.putObj g A.heap[g], ⟨h.os, h.tape, h.output, by simpa using h.size, fun k hk => ?_⟩, ⟨rfl, rfl, rfl, by simp, fun k hk => (World.putObj_heap_other (by omega)).symm⟩⟩
  by_cases e : k = g
  · subst e
    rw [World.putObj_heap_same (Nat.lt_of_lt_of_le hk h.size), Array.getElem?_eq_getElem hk]
  · rw [World.putObj_heap_other (by omega)]
    exact h.block k hk (fun e' => by cases e'; exact e rfl)
structure Calm (base : Nat) (I : World → Prop) : Prop where
  up : ∀ A B, I A → Below A.heap.size A B → I B
  put : ∀ A B g, base ≤ g → I A → Put A B g → I B
theorem Calm.grown {base : Nat} {I : World → Prop} (h : Calm base I) {A B : World} {r : Option Nat} (hI : I A) (hg : A.grownBy B r) (hr : ∀ g, r = some g → base ≤ g ∧ g < A.heap.size) : I B := by
  cases r with
  | none => exact h.up A B hI ⟨hg.os, hg.tape, hg.output, hg.size, fun k hk => hg.block k hk (fun e => by cases e)⟩
  | some g =>
    obtain ⟨h1, h2⟩ := hr g rfl
    obtain ⟨M, hM, hP⟩ := grown_split hg h2
    exact h.put _ _ _ h1 (h.up _ _ hI hM) hP
theorem Calm.and {base : Nat} {I K : World → Prop} (h : Calm base I) (k : Calm base K) : Calm base (fun w => I w ∧ K w) := ⟨fun A B i b => ⟨h.up A B i.1 b, k.up A B i.2 b⟩, fun A B g hg i p => ⟨h.put A B g hg i.1 p, k.put A B g hg i.2 p⟩⟩
theorem calm_keeps {S : Nat → Prop} {W : World} {base : Nat} (hb : W.heap.size ≤ base) : Calm base (Keeps S W) := ⟨fun A B i b => i.trans (Keeps.of_below b), fun A B g hg i p => ⟨by rw [p.size]; exact i.size, fun k hk hl => (p.other k (by omega)).trans (i.same k hk hl)⟩⟩
theorem wpList_pushJ {ops : Array Oper} {rest : List Oper} {o1 o2 : Oper} {a : Act} {Q : Exit → Act → World → Prop} {X : World} {base : Nat} {I : World → Prop} {l : List Nat} {u : Value} {c : Nat} (g1 : o1.guard = none) (g2 : o2.guard = none) (s p x : Operand)
    (h1 : o1.op = .buildSlice 56 1 #[(0, x)]) (h2 : o2.op = .call { callee := .builtin .append, args := #[s, p], argTypes := #[56, 56] })
    (hx : a.eval x = .int .u8 (c : Int)) (hs : ∀ v, (a.put o1.dst v).eval s = u) (hp : ∀ v, (a.put o1.dst v).eval p = v) (hown : OwB base X u l) (hC : Calm base I) (hI : I X) (hk : l.length ≤ 10000000) (hbase : base ≤ X.heap.size)
    (h : ∀ v v' w', OwB base w' v' (l ++ [c]) → I w' → base ≤ w'.heap.size → wpList Tryz.prog ops Q rest ((a.put o1.dst v).put o2.dst v') w') : wpList Tryz.prog ops Q (o1 :: o2 :: rest) a X := by
  obtain ⟨iu8, hu8, uz0, uz1, uz2⟩ := info_parts u8_info
  refine wpList_plain g1 fun K hK => wp_of_step (stepAt_mono (fun v0 w1 hh => ?_) (step_lit1 (cs := #[.int .u8 (c : Int)]) u8_slice hu8 uz0 uz1 (by decide) (by decide) h1 (by rw [hx]; rfl) rfl))
  obtain ⟨⟨rfl, hl1, b1⟩, hB1⟩ := hh
  refine hK _ _ ?_
  have hown1 := own_below hown (Nat.le_refl _) hB1
  have hI1 := hC.up _ _ hI hB1
  refine wpList_append_own _ g2 s p 56 h2 base 5 iu8 (.int .u8 0) 1 1 u8_slice hu8 uz0 uz1 uz2 rfl (by decide) u l.length (byc l) (hs _) hown1 ⟨X.heap.size, 0, none⟩ 1 1 [.int .u8 (c : Int)] (hp _) rfl (blk_news b1) (fun v hv => by rw [List.mem_singleton.1 hv]; rfl) (by unfold maxLen; omega) (by omega) (Nat.le_trans hbase hB1.size) fun v' w' hown' hgr _ => ?_
  refine h _ v' w' ?_ (hC.grown hI1 hgr fun g hg => own_block hown1 hg) (Nat.le_trans hbase (Nat.le_trans hB1.size hgr.size))
  unfold OwB
  rw [byc_app, List.length_append]
  exact hown'
theorem own_keeps {S : Nat → Prop} {base : Nat} {A B : World} {v : Value} {l : List Nat} (h : OwB base A v l) (k : Keeps S A B) (hS : ∀ g, base ≤ g → S g) : OwB base B v l := by
  obtain ⟨h1, h2⟩ := h
  refine ⟨h1, h2.imp id ?_⟩
  rintro ⟨g, cap, cur, rfl, q2, q3, q4⟩
  exact ⟨g, cap, cur, rfl, q2, (k.same g (hS g q2) (Array.getElem?_eq_some_iff.1 q3).1).trans q3, q4⟩
end Go.Proofs.YtoiampgfnidfdaaGreatDoor
namespace Go.Proofs.YtoiampgfnidfdaaGreatDoor
open Go.RowKit

theorem step_cut {P : Program} {o : Oper} {a : Act} {w : World} {t : TypeId} {x lo : Operand} {v k u : Value} (ho : o.op = .slice t x (some lo) none none) (hx : a.eval x = v) (hlo : a.eval lo = k) (h : ∀ w, (Instr.sliceAt t v (some k) none none).run P w = .ok u w) :
    stepAt P o a w (fun v w' => v = u ∧ Below w.heap.size w w') := by
  unfold stepAt
  have e : (execOp a.eval o).run P w = .ok (.value u) w := by
    unfold execOp
    rw [ho]
    simp only [Sem.run_bind, Option.map_some, Option.map_none, hx, hlo, h w, Result.andThen, Sem.run_pure]
  rw [e]
  exact ⟨rfl, Below.refl _ _⟩
end Go.Proofs.YtoiampgfnidfdaaGreatDoor
namespace Go.Proofs.YtoiampgfnidfdaaGreatDoor
open Go.RowKit

theorem elem_u8 : Tryz.prog.elem 56 = 5 := by kernel_rfl
theorem cut_u8 (A : Option Addr) (n cap k : Nat) (hk : k ≤ n) : ∃ A' cap', (∀ w, (Instr.sliceAt 56 (.slice A n cap) (some (.int .i64 (k : Int))) none none).run Tryz.prog w = .ok (.slice A' (n - k) cap') w) ∧
    ∀ lo hi w xs, ByS lo hi w (.slice A n cap) xs → ByS lo hi w (.slice A' (n - k) cap') (xs.drop k) := by
  have ht : Tryz.prog.underlying 56 = some (.slice (Tryz.prog.elem 56)) := by rw [elem_u8]; exact u8_slice
  obtain ⟨iu8, hu8, uz0, uz1, uz2⟩ := info_parts u8_info
  have hsz : ∀ w, (Go.sizeOf 5).run Tryz.prog w = .ok 1 w := fun w => by simp [Go.sizeOf, typeInfo, hu8, uz1]
  refine ⟨if cap = k then A else A.map (·.add (k * 1)), cap - k, fun w => ?_, fun lo hi w xs h => ?_⟩
  · rw [run_sliceAt_slice w _ _ _ _ _ ht, run_slice_l w _ A n cap ht .i64 (k : Int) (by omega) (by omega), elem_u8, hsz]
    simp [Result.andThen, sliced]
  · obtain ⟨h1, h2, A0, cap0, h3, h4, h5⟩ := h
    cases h3
    have hl : (xs.drop k).length = xs.length - k := List.length_drop ..
    refine ⟨by rw [byc_length, Nat.mul_one], by omega, _, _, by rw [hl], by omega, fun h0 => ?_⟩
    obtain ⟨g, off, rfl, q2, q3, q4, q5⟩ := h5 (by omega)
    refine ⟨g, off + k, ?_, q2, q3, q4, fun j u hj => ?_⟩
    · rw [if_neg (by omega)]
      simp only [Option.map_some, Option.some.injEq]
      unfold Addr.add
      by_cases hk0 : k = 0
      · subst hk0; simp
      · rw [if_neg (by omega), Nat.mul_one]
    · rw [Nat.add_assoc]
      refine q5 (k + j) u ?_
      unfold byc at hj ⊢
      rw [List.getElem?_map, List.getElem?_drop] at hj
      rw [List.getElem?_map]
      exact hj
def lzM (D : List Nat) (L m : Nat) : List Nat := padJ D (padZ L) ++ (lenB L).take m
theorem lzM_zero (D : List Nat) (L : Nat) : padJ D (padZ L) = lzM D L 0 := by unfold lzM; simp
theorem lzM_next (D : List Nat) (L m : Nat) (h : m < 8) : lzM D L m ++ [L * 8 / 2 ^ (56 - 8 * m) % 256] = lzM D L (m + 1) := by
  unfold lzM lenB
  rw [List.take_add_one, List.getElem?_map, List.getElem?_range h, List.append_assoc]
  rfl
theorem lzM_all (b : List Nat) : lzM (b.drop (b.length / 64 * 64)) b.length 8 = lastB b := by
  unfold lzM padJ lastB
  rw [List.take_of_length_le (by simp [lenB])]
theorem lzM_len (D : List Nat) (L m : Nat) : (lzM D L m).length ≤ D.length + 1 + padZ L + 8 := by
  unfold lzM lenB
  rw [List.length_append, padJ_len, List.length_take]
  simp
  omega
attribute [local go_sem] Oper.semAt_some
set_option maxRecDepth 100000 in
set_option maxHeartbeats 4000000 in
theorem wBlocks (b : List Nat) (hn : b.length ≤ 1000000) (v : Value) (lo n0 Bs n : Nat) (hn1 : 1 ≤ n) (w : World) (hb : ByS lo n0 w v b) (hn0 : n0 ≤ w.heap.size) (bx : Blk w Bs 56 #[v])
    (S : Nat → Nat → Prop) (hS : ∀ N g, w.heap.size ≤ N → g = Bs ∨ (lo ≤ g ∧ g < n0) ∨ N ≤ g → S N g) :
    SeqM n Tryz.prog 159 #[.pointer (some ⟨Bs, 0, none⟩)] (fun N g => N ≤ g) S 0 ((pad b).length / 64) (fun i x W => ∃ lo hi, ByS lo hi W x (blk64 (pad b) i)) w := fun l J W hW hJ1 hJ2 hY h0 => by
  obtain ⟨A, cap, rfl⟩ := hb.len
  have hop := open_wide Tryz.prog
  have hbW := hb.keep hW
  have bxW := bx.keep hW
  have hn0W : n0 ≤ W.heap.size := Nat.le_trans hn0 hW.size
  obtain ⟨L, hL⟩ : ∃ L, L = b.length := ⟨_, rfl⟩
  rw [← hL] at bxW hbW hn
  have HLn := Lib.hid hL
  have HJ1 := Lib.hid hJ1
  have HJ2 := Lib.hid hJ2
  have HY := Lib.hid hY
  have HV : Hid (ByS lo n0 W (.slice A L cap) b) := Lib.hid hbW
  have HS := Lib.hid (fun g h => hS W.heap.size g hW.size h)
  have hc0 := (bxW.cell 0).trans (show (#[Value.slice A L cap] : Array Value)[0]? = some (.slice A L cap) from rfl)
  have HC0 := Lib.hid hc0
  have hBl := bxW.lt
  have hLc : L ≤ cap := by
    obtain ⟨_, _, A', c', e, h, _⟩ := hbW
    cases e
    omega
  clear hb bx bxW hbW hJ1 hJ2 hY hW hL hS
  refine callsIn_of_wp Tryz.func159 rfl trivial ?_ rfl
  simp only [Tryz.ntmps159, List.size_toArray, List.length_cons, List.length_nil, Nat.reduceAdd, Nat.reduceSub, Array.replicate_succ, Array.replicate_zero, List.push_toArray, List.append_toArray, List.nil_append, List.cons_append]
  gi_wp2_with fail
  obtain ⟨M, hM⟩ : ∃ M, M = L / 64 := ⟨_, rfl⟩
  have hM1 : 64 * M ≤ L := by omega
  have hM2 : L < 64 * M + 64 := by omega
  rw [show (L : Int) / 64 = (M : Int) by omega]
  have HM := Lib.hid hM
  have HN : Hid ((pad b).length / 64 = M + (lastB b).length / 64) := Lib.hid (by rw [blk_count, ← HLn.out, hM])
  clear hM
  have hK0 : Keeps (S W.heap.size) W W := Keeps.refl W
  clear hc0
  gi_loopw [4] (fun i wr => ∃ k : Nat, k ≤ M ∧ i = .int .i64 ((64 * k : Nat) : Int) ∧ J k wr ∧ Keeps (S W.heap.size) W wr) (fun i _ => 64 * M - (intOf i).toNat)
  case atStart => exact ⟨0, Nat.zero_le _, rfl, h0, hK0⟩
  case round =>
    obtain ⟨k, hk, rfl, hJ, hK⟩ := hrel
    clear h0 hK0
    have e1 := hK.cell (HS.out Bs (.inl rfl)) HC0.out
    by_cases hlt : k < M
    · have hVr : ByS lo n0 wr (.slice A L cap) b := Keeps.rd HV.out hK (fun g h1 h2 => HS.out g (.inr (.inl ⟨h1, h2⟩)))
      obtain ⟨g, off, cap', hA, hcl, hg1, hg2, hg3, hcell⟩ := bys_cells hVr (by rw [← HLn.out]; omega)
      have hA1 : A = some ⟨g, off, none⟩ := by injection hA
      subst hA1
      clear hcell hcl hA
      have hcut : ByS lo n0 wr (.slice (some ⟨g, off + 64 * k, none⟩) 64 (cap - 64 * k)) (blk64 (pad b) k) := by
        rw [blk_low b k (by rw [← HLn.out, ← HM.out]; exact hlt)]
        rw [show L = b.length from HLn.out] at hVr
        exact bys_cut hVr (64 * k) 64 (cap - 64 * k) (by rw [← HLn.out]; omega) (by decide) (by omega)
      have hcp : 64 * k + 64 ≤ cap := by omega
      obtain ⟨fn, tmps, assign, body, hy, hR⟩ := HY.out k _ wr hJ (by have := hK.size; omega) (by rw [HN.out]; omega) ⟨_, _, hcut⟩
      clear hcut hJ hVr
      have hwr := hK.size
      gi_wp2_with fail
      refine hR.mono ?_
      rintro e W3 ⟨rfl, hJ3, hk3⟩
      have hK3 := hK.trans hk3
      clear hy hR hk3 hK e1
      gi_wp2_with fail
      exact ⟨⟨k + 1, by omega, by congr 1, hJ3, hK3⟩, by simp [intOf]; omega⟩
    · obtain rfl : k = M := by omega
      gi_upto_region 5 with (fail)
      refine wpIn_wide.2 ?_
      refine wp_region_lit ?_
      obtain ⟨A2, cap2, hcut, hcb⟩ := cut_u8 A L cap (64 * k) hM1
      have hVr : ByS lo n0 wr (.slice A L cap) b := Keeps.rd HV.out hK (fun g h1 h2 => HS.out g (.inr (.inl ⟨h1, h2⟩)))
      have hV2 := hcb _ _ _ _ hVr
      iterate 2 (refine wpList_plain rfl fun K hK => ?_; go_big_op; refine hK _ _ ?_; clear hK K)
      refine wpList_plain rfl fun K2 hK2 => wp_of_step (stepAt_mono (fun v28 w28 hh => ?_) (step_cut (k := .int .i64 ((64 * k : Nat) : Int)) rfl rfl (by show Value.int .i64 ((k : Int) * 64) = _; congr 1; omega) hcut))
      obtain ⟨rfl, B28⟩ := hh
      refine hK2 _ _ ?_
      clear hK2 K2
      try simp only [Act.put, List.setIfInBounds_toArray, List.set_cons_succ, List.set_cons_zero]
      have hdl : (b.drop (64 * k)).length = L - 64 * k := by rw [List.length_drop, ← HLn.out]
      refine wpList_plain rfl fun K3 hK3 => wp_of_step (stepAt_mono (fun v29 w29 hh => ?_) (step_callr en_slices_Clone (gClone (b.drop (64 * k)) (by rw [hdl]; omega) _ lo n0 _ (hV2.keep B28)) rfl rfl))
      obtain ⟨o29, B29⟩ := hh
      refine hK3 _ _ ?_
      clear hK3 K3
      try simp only [Act.put, List.setIfInBounds_toArray, List.set_cons_succ, List.set_cons_zero]
      have hC : Calm W.heap.size (fun A => J k A ∧ Keeps (S W.heap.size) W A) := Calm.and ⟨HJ1.out k, HJ2.out k⟩ (calm_keeps (Nat.le_refl _))
      have hI := hC.up _ _ (hC.up _ _ ⟨hJ, hK⟩ B28) B29
      have hb28 : W.heap.size ≤ w28.heap.size := by have := hK.size; have := B28.size; omega
      have o29' : OwB W.heap.size w29 v29 (b.drop (64 * k)) := ⟨o29.1.1, o29.1.2.imp id fun ⟨g, cap, cur, q1, q2, q3⟩ => ⟨g, cap, cur, q1, Nat.le_trans hb28 q2, q3⟩⟩
      have hb29 : W.heap.size ≤ w29.heap.size := Nat.le_trans hb28 B29.size
      clear hV2 hVr hcb hcut B28 B29 o29 hb28 e1 hJ hK
      refine wpList_pushJ (c := 128) rfl rfl _ _ _ rfl rfl rfl (fun _ => rfl) (fun _ => rfl) o29' hC hI (by rw [hdl]; omega) hb29 fun v30 v31 w31 o31 hI31 hb31 => ?_
      rw [show b.drop (64 * k) ++ [128] = padJ (b.drop (64 * k)) 0 from rfl] at o31
      clear o29' hI hb29
      obtain ⟨D, hD⟩ : ∃ D, D = b.drop (64 * k) := ⟨_, rfl⟩
      rw [← hD] at o31 hdl
      have hDl : D.length = L - 64 * k := hdl
      have hpz : padZ L = padZ D.length := by unfold padZ; rw [hDl]; omega
      have HD := Lib.hid hD
      clear hdl hD
      obtain ⟨A31, c31, rfl⟩ := o31.len
      go_wp2_with fail
      refine wpIn_wide.2 ?_
      go_wp2_with fail
      go_loopw [5] (fun u wr => ∃ j : Nat, j ≤ padZ L ∧ OwB W.heap.size wr u (padJ D j) ∧ (J k wr ∧ Keeps (S W.heap.size) W wr) ∧ W.heap.size ≤ wr.heap.size) (fun u _ => 100000000 - slen u)
      case atStart => exact ⟨0, Nat.zero_le _, o31, hI31, hb31⟩
      case round =>
        clear o31 hI31 hb31
        obtain ⟨j, hj, ho, hI, hbs⟩ := hrel
        obtain ⟨A3, c3, rfl⟩ := ho.len
        have hlen := padJ_len D j
        have hz := padZ_iff D.length j (by rw [← hpz]; exact hj)
        rw [← hlen] at hz
        have hsm : (padJ D j).length ≤ 1000100 := by have := padZ_lt L; omega
        by_cases hlt : j < padZ L
        · have hmod : (padJ D j).length % 64 ≠ 56 := fun h => by have := hz.1 h; omega
          obtain ⟨E, hE⟩ : ∃ E, E = (padJ D j).length := ⟨_, rfl⟩
          rw [← hE] at hmod hsm ⊢
          clear hz hlen
          go_upto_region 7 with (fail)
          refine wp_region_lit ?_
          iterate 1 (refine wpList_plain rfl fun K hK => ?_; go_big_op; refine hK _ _ ?_; clear hK K)
          rw [hE]
          rw [hE] at hsm
          refine wpList_pushJ (c := 0) rfl rfl _ _ _ rfl rfl rfl (fun _ => rfl) (fun _ => rfl) ho hC hI (by omega) hbs fun v5 v6 w6 o6 hI6 hb6 => ?_
          rw [padJ_next] at o6
          clear ho hI hbs
          obtain ⟨A6, c6, rfl⟩ := o6.len
          go_wp2_with fail
          have hl6 := padJ_len D (j + 1)
          have hl5 := padJ_len D j
          exact ⟨⟨j + 1, by omega, o6, hI6, hb6⟩, by simp [slen]; omega⟩
        · have hmod : (padJ D j).length % 64 = 56 := hz.2 (by omega)
          obtain rfl : j = padZ L := by omega
          have hpl := padZ_lt L
          rw [lzM_zero] at ho hsm hmod ⊢
          obtain ⟨E, hE⟩ : ∃ E, E = (lzM D L 0).length := ⟨_, rfl⟩
          rw [← hE] at hmod hsm ⊢
          have e1 := hI.2.cell (HS.out Bs (.inl rfl)) HC0.out
          have HE := Lib.hid hE
          clear hz hlen hE
          have hbn : ((E : Int) % 64 != 56) = false := by
            rw [show (E : Int) % 64 = 56 by omega]
            rfl
          go_wp2_with fail
          try rw [hbn]
          clear hbn e1
          go_loopw [5, 7] (fun u i wr => ∃ m : Nat, m ≤ 8 ∧ i = .int .i64 (56 - 8 * (m : Int)) ∧ OwB W.heap.size wr u (lzM D L m) ∧ (J k wr ∧ Keeps (S W.heap.size) W wr) ∧ W.heap.size ≤ wr.heap.size) (fun _ i _ => (intOf i + 8).toNat)
          case atStart => exact ⟨0, Nat.zero_le _, rfl, by rw [HE.out]; exact ho, hI, hbs⟩
          case round =>
            clear ho hI hbs
            obtain ⟨m, hm, rfl, ho, hI, hbs⟩ := hrel
            obtain ⟨A5, c5, rfl⟩ := ho.len
            have hlm := lzM_len D L m
            by_cases hlt : m < 8
            · obtain ⟨t, ht⟩ : ∃ t, t + 8 * m = 56 := ⟨56 - 8 * m, by omega⟩
              have hnx := lzM_next D L m hlt
              rw [show 56 - 8 * m = t by omega] at hnx
              rw [show (56 : Int) - 8 * (m : Int) = (t : Int) by omega]
              have ht56 : t ≤ 56 := by omega
              have HX := Lib.hid hnx
              have HT := Lib.hid ht
              clear hnx ht
              go_upto_region 12 with (fail)
              refine wp_region_lit ?_
              iterate 5 (refine wpList_plain rfl fun K hK => ?_; go_big_op; refine hK _ _ ?_; clear hK K)
              refine wpList_pushJ (c := L * 8 / 2 ^ t % 256) rfl rfl _ _ _ rfl rfl (by simp [Act.eval]) (fun _ => rfl) (fun _ => rfl) ho hC hI (by omega) hbs fun v5 v6 w6 o6 hI6 hb6 => ?_
              rw [HX.out] at o6
              clear ho hI hbs
              obtain ⟨A6, c6, rfl⟩ := o6.len
              go_wp2_with fail
              have htt := HT.out
              exact ⟨⟨m + 1, by omega, by congr 1; omega, o6, hI6, hb6⟩, by simp [intOf]; omega⟩
            · obtain rfl : m = 8 := by omega
              rw [show (56 : Int) - 8 * ((8 : Nat) : Int) = -8 by decide]
              have hD8 : lzM D L 8 = lastB b := by
                rw [← lzM_all b, ← HLn.out, HD.out, HM.out, Nat.mul_comm]
              rw [hD8] at ho ⊢
              obtain ⟨hl1, hl2, hl3⟩ := lastB_64 b
              obtain ⟨N2, hN2⟩ : ∃ N2, (lastB b).length = 64 * N2 := ⟨(lastB b).length / 64, by omega⟩
              have hN2s : N2 ≤ 2 := by omega
              have HNk : Hid ((pad b).length / 64 = k + N2) := Lib.hid (by rw [HN.out, hN2]; omega)
              have HN2 := Lib.hid hN2
              have HO := Lib.hid ho
              rw [hN2]
              have hc5 : 64 * N2 ≤ c5 := by
                rcases ho.2 with ⟨h, _⟩ | ⟨g, cap, cur, h, _, _, hq, _⟩
                · injection h with h1 h2 h3
                  omega
                · injection h with h1 h2 h3
                  omega
              clear hl1 hl2 hl3 hN2 hlm hlt hm hD8 ho
              go_wp2_with fail
              refine (wpIn_wide (n := n)).1 ?_
              gi_loopw [8] (fun i wr => ∃ j : Nat, j ≤ N2 ∧ i = .int .i64 ((64 * j : Nat) : Int) ∧ OwB W.heap.size wr (.slice A5 (lastB b).length c5) (lastB b) ∧ J (k + j) wr ∧ Keeps (S W.heap.size) W wr) (fun i _ => 64 * N2 - (intOf i).toNat)
              case atStart => exact ⟨0, Nat.zero_le _, rfl, HO.out, hI.1, hI.2⟩
              case round =>
                clear hI hbs
                obtain ⟨j, hj, rfl, ho, hJ, hK⟩ := hrel
                by_cases hlt : j < N2
                · have hby : ByS W.heap.size wr.heap.size wr (.slice A5 (lastB b).length c5) (lastB b) := ho.bys (by rw [HN2.out]; omega) (Nat.le_refl _)
                  obtain ⟨g, off, cap', hA, hcl, hg1, hg2, hg3, hcell⟩ := bys_cells hby (by rw [HN2.out]; omega)
                  have hA1 : A5 = some ⟨g, off, none⟩ := by injection hA
                  subst hA1
                  clear hcell hcl hA
                  have hcut : ByS W.heap.size wr.heap.size wr (.slice (some ⟨g, off + 64 * j, none⟩) 64 (c5 - 64 * j)) (blk64 (pad b) (k + j)) := by
                    have e := blk_high b j
                    rw [← HLn.out, ← HM.out] at e
                    rw [e]
                    exact bys_cut hby (64 * j) 64 (c5 - 64 * j) (by rw [HN2.out]; omega) (by decide) (by omega)
                  have hcp : 64 * j + 64 ≤ c5 := by omega
                  obtain ⟨fn, tmps, assign, body, hy, hR⟩ := HY.out (k + j) _ wr hJ (by have := hK.size; omega) (by rw [HNk.out]; omega) ⟨_, _, hcut⟩
                  clear hcut hJ hby
                  have HO1 := Lib.hid ho
                  clear ho HO
                  gi_wp2_with fail
                  refine hR.mono ?_
                  rintro e W3 ⟨rfl, hJ3, hk3⟩
                  have hK3 := hK.trans hk3
                  have o3 := own_keeps HO1.out hk3 (fun g hg => HS.out g (.inr (.inr hg)))
                  have HO3 := Lib.hid o3
                  clear hy hR hk3 hK o3
                  gi_wp2_with fail
                  exact ⟨⟨j + 1, by omega, by congr 1, HO3.out, hJ3, hK3⟩, by simp [intOf]; omega⟩
                · obtain rfl : j = N2 := by omega
                  gi_wp2
                  go_end0
                  exact ⟨⟨_, rfl⟩, by rw [HNk.out]; exact hJ⟩
end Go.Proofs.YtoiampgfnidfdaaGreatDoor
namespace Go.Proofs.YtoiampgfnidfdaaGreatDoor
open Go.RowKit

theorem byS_put {lo hi g : Nat} {W : World} {x : Value} {l : List Nat} (h : ByS lo hi W x l) (h0 : 0 < l.length) (o : Obj) (L : Loop) (hl : W.heap[g]? = some (.loop L)) : ByS lo hi (W.putObj g o) x l := by
  obtain ⟨h1, h2, A, cap, h3, h4, h5⟩ := h
  refine ⟨h1, h2, A, cap, h3, h4, fun h0' => ?_⟩
  obtain ⟨b, off, q1, q2, q3, q4, q5⟩ := h5 h0'
  have hne : g ≠ b := by
    intro e
    subst e
    obtain ⟨u, hu⟩ : ∃ u, (byc l)[0]? = some u := ⟨_, List.getElem?_eq_getElem (by rw [byc_length]; exact h0)⟩
    have := q5 0 u hu
    unfold World.cell? at this
    rw [hl] at this
    cases this
  exact ⟨b, off, q1, q2, q3, by simpa using q4, fun j u hu => (World.cell?_of_block (w := W) (a := ⟨b, off + j, none⟩) (World.putObj_heap_other (r := g) (k := b) (by omega))).trans (q5 j u hu)⟩
theorem bys_base {lo hi : Nat} {w : World} {v : Value} {l : List Nat} (h : ByS lo hi w v l) : ByS 0 w.heap.size w v l := by
  obtain ⟨h1, h2, A, cap, h3, h4, h5⟩ := h
  refine ⟨h1, h2, A, cap, h3, h4, fun h0 => ?_⟩
  obtain ⟨g, off, q1, q2, q3, q4, q5⟩ := h5 h0
  exact ⟨g, off, q1, Nat.zero_le _, q4, q4, q5⟩
def dgK (s : S8) (n : Nat) : List Value := arrB 32 ((digL s).take n)
theorem dgK_zero (s : S8) : dgK s 0 = zb 32 := by unfold dgK; rw [List.take_zero, arrB_zero]
theorem dgK_all (s : S8) : dgK s 32 = byc (digL s) := by
  unfold dgK
  rw [List.take_of_length_le (by rw [digL_length]; exact Nat.le_refl _), arrB_full 32 _ (digL_length s)]
theorem dgK_next (s : S8) (i k : Nat) (hi : i < 8) (hk : k < 4) : (dgK s (4 * i + k)).set (4 * i + k) (.int .u8 (((s.get i).toNat / 2 ^ (24 - 8 * k) % 256 : Nat) : Int)) = dgK s (4 * i + k + 1) := by
  have hl : ((digL s).take (4 * i + k)).length = 4 * i + k := by rw [List.length_take, digL_length]; omega
  have hd : digK s (4 * i + k) = (s.get i).toNat / 2 ^ (24 - 8 * k) % 256 := by
    unfold digK S8.get
    rw [show (4 * i + k) / 4 = i by omega, show (4 * i + k) % 4 = k by omega]
  unfold dgK
  rw [digL_take s (4 * i + k) (by omega), ← arrB_set 32 _ _ (by omega), hl, hd]
theorem dgK_at (s : S8) (n : Nat) (h : n < 32) : (dgK s n)[n]? = some (.int .u8 0) := by
  have hl : ((digL s).take n).length = n := by rw [List.length_take, digL_length]; omega
  have := arrB_next 32 ((digL s).take n) (by omega)
  rwa [hl] at this
theorem en_attestor_sha256_Sum : ∀ args w, (callFunc 123 args).run Tryz.prog w = .ok (.enter 123 args) w := enters_of Tryz.func123 (by kernel_rfl) rfl
attribute [local go_sem] Oper.semAt_some
set_option maxRecDepth 100000 in
set_option maxHeartbeats 4000000 in
theorem gSum (b : List Nat) (hn : b.length ≤ 1000000) (hb8 : ∀ x ∈ b, x < 256) (v : Value) (lo hi : Nat) (w : World) (hL : Lsh w) (h : ByS lo hi w v b) : Calls Tryz.prog 123 #[v] w (Ret (dgv (sha b)) w) := by
  have h00 : ByS 0 w.heap.size w v b := bys_base h
  obtain ⟨A, cap, rfl⟩ := h.len
  have HV := Lib.hid h00
  have HN := Lib.hid hn
  have H8 := Lib.hid (pad_lt b hb8)
  have HL := Lib.hid hL
  have hL2 := hL.sz
  obtain ⟨L, hLe⟩ : ∃ L, L = b.length := ⟨_, rfl⟩
  have HLe := Lib.hid hLe
  rw [← hLe]
  rw [← hLe] at HV
  clear h h00 hn hb8 hLe hL
  obtain ⟨ist, hist, sz0, sz1, sz2⟩ := info_parts st_info
  refine (callsIn_wide (n := 3)).1 ?_
  refine callsIn_of_wp_marks Tryz.func123 rfl trivial ?_ rfl
  simp only [Tryz.ntmps123, List.size_toArray, List.length_cons, List.length_nil, Nat.reduceAdd, Nat.reduceSub, Array.replicate_succ, Array.replicate_zero, List.push_toArray, List.append_toArray, List.nil_append, List.cons_append]
  gi_upto_region 1 with (fail)
  refine stk1 (M := fun W => Code.wpIn _ _ _ _ _ _ W) fun W hB hz b1 => ?_
  obtain ⟨cs0, hcs0, b2'⟩ : ∃ cs : Array Value, cs.size = 32 ∧ Blk W w.heap.size 23 cs := ⟨_, rfl, b1⟩
  have hWs : W.heap.size = w.heap.size + 1 := hz.out
  clear b1 hz
  refine wpIn_wide.2 ?_
  refine wp_region_lit ?_
  refine wpList_plain rfl fun K1 hK1 => wp_of_step (stepAt_mono (fun v9 w9 hh => ?_) (step_loadR0 (cs := init8.cells) w8_under rfl w8_size rfl rfl (HL.out.keep (hB.mono (Nat.le_refl _))).i8))
  obtain ⟨rfl, rfl⟩ := hh
  refine hK1 _ _ ?_
  clear hK1 K1
  try simp only [Act.put, List.setIfInBounds_toArray, List.set_cons_succ, List.set_cons_zero]
  refine wpList_plain rfl fun K2 hK2 => wp_of_step (stepAt_mono (fun v3 w3 hh => ?_) (step_new0 hist sz0 rfl))
  obtain ⟨rfl, rfl⟩ := hh
  refine hK2 _ _ ?_
  clear hK2 K2
  try simp only [Act.put, List.setIfInBounds_toArray, List.set_cons_succ, List.set_cons_zero]
  have b3 : Blk (w9.alloc (.cells (Value.agg (List.replicate 8 (Value.int .u32 0)).toArray).cells 178)) w9.heap.size 178 (List.replicate 8 (Value.int .u32 0)).toArray := World.alloc_heap_new w9 _
  have BA := (Below.refl _ w9).alloc (Nat.le_refl _) (.cells (Value.agg (List.replicate 8 (Value.int .u32 0)).toArray).cells 178)
  refine wpList_put rfl 178 (.tmp 3) (.tmp 9) rfl rfl (cells := init8.cells) rfl b3 (by simp [S8.cells]) st_size (s8_one _) (spl_all _ _ (by simp [S8.cells])) fun X hX bX => ?_
  have b2X := hX.blk (b2'.keep BA) (by omega)
  have hBX := below_put (hB.trans (BA.mono hB.size)) hX (by omega)
  have hXs : X.heap.size = w.heap.size + 1 + 1 := by rw [hX.size]; simp; omega
  rw [hWs] at bX ⊢
  clear b3 BA hX hB b2' sz0 sz1 sz2 hist
  go_wp2_with fail
  gi_wp2_with fail
  refine ⟨trivial, (callsIn_wide.2 (gBlocks A L cap X)).mono ?_⟩
  rintro e w2 ⟨rfl, rfl⟩
  gi_wp2_with fail
  refine stk1 (M := fun W => Code.wpIn _ _ _ _ _ _ W) fun Y hBY hzY c1 => ?_
  have hYs : Y.heap.size = w.heap.size + 1 + 1 + 1 := by rw [hzY.out, hXs]
  rw [hXs] at c1
  have b3Y := bX.keep hBY
  have b2Y := b2X.keep hBY
  have hBw := hBX.trans (hBY.mono hBX.size)
  have HVY := Lib.hid (HV.out.keep hBw)
  clear hzY bX b2X hBY hBX
  have hAv : ∀ N g, Y.heap.size ≤ N → g = w.heap.size + 1 + 1 ∨ (0 ≤ g ∧ g < w.heap.size) ∨ N ≤ g → (g ≠ w.heap.size + 1 ∧ (g + 1 ≠ N ∨ g < Y.heap.size)) := fun N g hN hg => by omega
  refine wpIn_seqM (Av := fun i x W => ∃ lo hi, ByS lo hi W x (blk64 (pad b) i)) (N := (pad b).length / 64) (k := 0) (Own := fun N g => N ≤ g) (S := fun N g => g ≠ w.heap.size + 1 ∧ (g + 1 ≠ N ∨ g < Y.heap.size)) (w0 := Y)
    (wBlocks b HN.out (.slice A L cap) 0 w.heap.size (w.heap.size + 1 + 1) 2 (by decide) Y HVY.out (by omega) c1 _ hAv) (Below.refl _ _) (by decide) rfl (enters_of Tryz.func159 (by kernel_rfl) rfl) (fun g hg => by omega) (fun g hg => by omega)
    (fun s V => Blk V (w.heap.size + 1) 178 (shaK (pad b) s).cells.toArray ∧ Blk V w.heap.size 23 cs0 ∧ Below w.heap.size w V ∧ Y.heap.size ≤ V.heap.size)
    ?hI1 ?hI2 ?hI3 ?h0 (fun i x a' V => (∃ lo hi, ByS lo hi V x (blk64 (pad b) i)) ∧ a' = { tmps := (#[.slice A L cap, undef, .pointer (some ⟨w.heap.size, 0, none⟩), .pointer (some ⟨w.heap.size + 1, 0, none⟩), x, undef, undef, undef, undef, .agg init8.cells.toArray, .slice A L cap, .func (.func 159) #[] #[.pointer (some ⟨w.heap.size + 1 + 1, 0, none⟩)], x, undef, undef, undef, undef, undef, undef, undef, undef, undef, undef, undef, undef, undef, undef, undef, undef, undef, undef, undef, undef, undef, undef, undef, undef] : Array Value), defers := [] }) ?hAx ?assign ?body ?done
  case hI1 => exact fun s A B h hb => ⟨h.1.keep hb, h.2.1.keep hb, h.2.2.1.trans (hb.mono h.2.2.1.size), Nat.le_trans h.2.2.2 hb.size⟩
  case hI2 => exact fun s A B g hg h hp => ⟨hp.blk h.1 (by omega), hp.blk h.2.1 (by omega), below_put h.2.2.1 hp (by omega), by rw [hp.size]; exact h.2.2.2⟩
  case hI3 => exact fun s V o h => ⟨(World.putObj_heap_other (by omega)).trans h.1, (World.putObj_heap_other (by omega)).trans h.2.1, below_putObj h.2.2.1 _ o (by omega), by simpa using h.2.2.2⟩
  case h0 => exact ⟨b3Y, b2Y, hBw, Nat.le_refl _⟩
  case hAx =>
    rintro i x a' V o lp hlp ⟨⟨lo', hi', hby⟩, rfl⟩
    by_cases h0 : 0 < (blk64 (pad b) i).length
    · exact ⟨⟨lo', hi', byS_put hby h0 o lp hlp⟩, rfl⟩
    · refine ⟨⟨lo', hi', ?_⟩, rfl⟩
      obtain ⟨q1, q2, A', c', q3, q4, q5⟩ := hby
      exact ⟨q1, q2, A', c', q3, q4, fun h => absurd h h0⟩
  case assign =>
    intro l i x V K hV hx hK
    simp only [List.setIfInBounds_toArray, List.set_cons_succ, List.set_cons_zero]
    gi_wp2_with fail
    obtain ⟨lo', hi', hby⟩ := hx
    exact hK _ _ (Below.refl _ _) ⟨⟨lo', hi', hby⟩, rfl⟩
  case body =>
    rintro l pre x V a' ⟨q1, q2, q3, q4⟩ hV ⟨⟨lo', hi', hby⟩, rfl⟩ hpre
    have hop := open_round (open_wide Tryz.prog) l
    gi_wp2_with fail
    have hpl : (blk64 (pad b) pre).length = 64 := blk64_len _ _ (by have := pad_64 b; omega)
    refine ⟨trivial, (callsIn_of_calls hop.all (hop.fn _) (gCompress (shaK (pad b) pre) (blk64 (pad b) pre) hpl (fun y hy => H8.out y (List.mem_of_mem_drop (List.mem_of_mem_take hy))) x lo' hi' (w.heap.size + 1) _ V (HL.out.below q3 hL2) q1 hby)).mono ?_⟩
    rintro e W3 ⟨rfl, hb3, hM⟩
    gi_wp2_with fail
    exact ⟨⟨hM.size, fun g hg hl => hM.other g hl (by omega)⟩, hb3, (hM.other _ q2.lt (by omega)).trans q2, ⟨hM.os.trans q3.os, hM.tape.trans q3.tape, hM.output.trans q3.output, Nat.le_trans q3.size hM.size, fun k hk => (hM.other k (Nat.lt_of_lt_of_le hk q3.size) (by omega)).trans (q3.block k hk)⟩, by have := hM.size; omega⟩
  case done =>
    intro D V hD ⟨q1, q2, q3, q4⟩ hK
    have HS := Lib.hid (show sha b = digL (shaK (pad b) ((pad b).length / 64)) from rfl)
    generalize shaK (pad b) ((pad b).length / 64) = s at *
    have hDl : D < V.heap.size := (Array.getElem?_eq_some_iff.1 hK).1
    have hDw : w.heap.size + 1 < D := by rw [hD.out]; omega
    gi_upto_region 6 with (fail)
    refine stk1 (M := fun W => Code.wpIn _ _ _ _ _ _ W) fun Z hBZ hzZ b5 => ?_
    have b5' : Blk Z V.heap.size 23 (dgK s 0).toArray := by rw [dgK_zero]; exact b5
    have q1Z := q1.keep hBZ
    have q2Z := q2.keep hBZ
    have hBw := q3.trans (hBZ.mono q3.size)
    have hKZ : Z.heap[D]? = some (.deferred (some [])) := (hBZ.block D hDl).trans hK
    have hgw : w.heap.size ≤ V.heap.size := q3.size
    obtain ⟨g5, hg5⟩ : ∃ g, g = V.heap.size := ⟨_, rfl⟩
    rw [← hg5] at b5' hDl hgw ⊢
    clear b5 hzZ hBZ q1 q2 q3 q4 hK hg5
    refine wpIn_wide.2 ?_
    refine wp_region_lit ?_
    refine wpList_plain rfl fun K3 hK3 => wp_of_step (stepAt_mono (fun v15 w15 hh => ?_) (step_loadR0 (cs := s.cells) st_under rfl st_size rfl rfl (blk_range q1Z)))
    obtain ⟨rfl, rfl⟩ := hh
    refine hK3 _ _ ?_
    clear hK3 K3
    try simp only [Act.put, List.setIfInBounds_toArray, List.set_cons_succ, List.set_cons_zero]
    clear q1Z
    go_wp2_with fail
    gi_wp2_with fail
    gi_loopw [16] (fun i wr => ∃ k : Nat, k ≤ 8 ∧ i = .int .i64 k ∧ Blk wr g5 23 (dgK s (4 * k)).toArray ∧ Blk wr w.heap.size 23 cs0 ∧ Below w.heap.size w wr ∧ wr.heap[D]? = some (.deferred (some []))) (fun i _ => 8 - (intOf i).toNat)
    case atStart => exact ⟨0, Nat.zero_le _, rfl, b5', q2Z, hBw, hKZ⟩
    case round =>
      clear b5' q2Z hBw hKZ
      obtain ⟨k, hk, rfl, b5, b2, hBr, hKr⟩ := hrel
      by_cases hlt : k < 8
      · have hix := run_ix8 s k hlt
        gi_wp2_with fail
        gi_loopw [20] (fun i wr => ∃ j : Nat, j ≤ 4 ∧ i = .int .i64 j ∧ Blk wr g5 23 (dgK s (4 * k + j)).toArray ∧ Blk wr w.heap.size 23 cs0 ∧ Below w.heap.size w wr ∧ wr.heap[D]? = some (.deferred (some []))) (fun i _ => 4 - (intOf i).toNat)
        case atStart => exact ⟨0, Nat.zero_le _, rfl, b5, b2, hBr, hKr⟩
        case round =>
          clear b5 b2 hBr hKr hix
          obtain ⟨j, hj, rfl, b5, b2, hBr, hKr⟩ := hrel
          by_cases hlj : j < 4
          · have e1 := b5.frozen
            have e2 : wr.cell? ⟨g5, 4 * k + j, none⟩ = some (.int .u8 0) := (b5.cell (4 * k + j)).trans (by rw [List.getElem?_toArray]; exact dgK_at s (4 * k + j) (by omega))
            obtain ⟨x, hx⟩ : ∃ x, x = s.get k := ⟨_, rfl⟩
            rw [← hx]
            have HX := Lib.hid hx
            clear hx
            gi_wp2_with fail
            refine ⟨⟨j + 1, by omega, by go_num, ?_⟩, by simp [intOf]; omega⟩
            refine set1 (M := fun W => Blk W g5 23 (dgK s (4 * k + (j + 1))).toArray ∧ Blk W w.heap.size 23 cs0 ∧ Below w.heap.size w W ∧ W.heap[D]? = some (.deferred (some []))) b5 fun X hX bX => ⟨?_, hX.blk b2 (by omega), below_put hBr hX hgw, (hX.other D (by omega)).trans hKr⟩
            rw [dig_val, HX.out, List.setIfInBounds_toArray, dgK_next s k j hlt hlj] at bX
            exact bX
          · obtain rfl : j = 4 := by omega
            gi_wp2_with fail
            exact ⟨⟨k + 1, by omega, by go_num, by rw [show 4 * (k + 1) = 4 * k + 4 by omega]; exact b5, b2, hBr, hKr⟩, by simp [intOf]; omega⟩
      · obtain rfl : k = 8 := by omega
        rw [show 4 * 8 = 32 by decide, dgK_all, ← HS.out] at b5
        gi_upto_region 15 with (fail)
        refine wpIn_wide.2 ?_
        refine wp_carry 23 (byc (sha b)) _ _ _ _ rfl rfl rfl rfl b32_under rfl (by rw [b32_size, byc_length, sha_length]) (byc_all _) rfl (fun _ => rfl) (fun _ => rfl) b5 b2 (by rw [hcs0, byc_length, sha_length]) fun X v hX bX => ?_
        have hBX : Below w.heap.size w X := below_put hBr hX (Nat.le_refl _)
        have hKX : X.heap[D]? = some (.deferred (some [])) := (hX.other D (by omega)).trans hKr
        gi_wp2_with fail
        refine ⟨by simp, .inl ⟨_, _, rfl, run_takeDeferred hKX, ?_⟩⟩
        have bX' : Blk (X.putObj D (.deferred none)) w.heap.size 23 (byc (sha b)).toArray := (World.putObj_heap_other (by omega)).trans bX
        exact ⟨dgv (sha b), res_row (g := w.heap.size) rfl rfl b32_under rfl (by rw [b32_size, byc_length, sha_length]) bX', rfl, below_putObj hBX D _ (by omega)⟩
end Go.Proofs.YtoiampgfnidfdaaGreatDoor
namespace Go.Proofs.YtoiampgfnidfdaaGreatDoor
open Go.RowKit

attribute [local irreducible] wpRg
end Go.Proofs.YtoiampgfnidfdaaGreatDoor
namespace Go.Proofs.YtoiampgfnidfdaaGreatDoor
open Go.RowKit

theorem below_Dw (w : World) : Below w.heap.size w w.drew := ⟨rfl, rfl, rfl, Nat.le_refl _, fun _ _ => rfl⟩
attribute [local irreducible] wpRg
end Go.Proofs.YtoiampgfnidfdaaGreatDoor
namespace Go.Proofs.YtoiampgfnidfdaaGreatDoor
open Go.RowKit

def BylA (ps : List (List Nat)) (n m : Nat) (v : Value) (w : World) : Prop := ∃ us : List Value, us.length = ps.length ∧ Rd n m 1 w v ps.length us ∧ ∀ (i : Nat) (u : Value) (p : List Nat), us[i]? = some u → ps[i]? = some p → ByS 0 m w u p
theorem byl_st {ps : List (List Nat)} : Stable (BylA ps) := fun _ _ _ _ _ ⟨us, h1, h2, h3⟩ hb => ⟨us, h1, Rd.below h2 hb (Nat.le_refl _), fun i u p hu hp => Rd.below (h3 i u p hu hp) hb (Nat.le_refl _)⟩
theorem BylA.byl {ps : List (List Nat)} {n m : Nat} {v : Value} {w : World} (h : BylA ps n m v w) : BylS n m w v ps := by
  obtain ⟨us, h1, h2, h3⟩ := h
  exact ⟨us, h1, h2, fun i u p hu hp => ⟨_, _, h3 i u p hu hp⟩⟩
theorem bys_upto {lo hi : Nat} {w w' : World} {v : Value} {l : List Nat} (h : ByS lo hi w v l) (hb : Below w.heap.size w w') : ByS 0 w'.heap.size w' v l := bys_base (h.keep hb)
theorem byls_info : (Tryz.prog.info? 56).map (fun i => (i.zero, i.size, i.bytes)) = some (some (.slice none 0 0), 1, 24) := by kernel_rfl
theorem byls_slice : Tryz.prog.underlying 60 = some (.slice 56) := by kernel_rfl
theorem OwA.bys {l : List Nat} {lo hi : Nat} {v : Value} {w : World} (h : OwA l lo hi v w) (hn : l.length ≤ 10000000) : ByS lo w.heap.size w v l := h.1.bys hn (Nat.le_refl _)
attribute [local irreducible] wpRg
end Go.Proofs.YtoiampgfnidfdaaGreatDoor
namespace Go.Proofs.YtoiampgfnidfdaaGreatDoor

abbrev Dg := List Nat
def tz1 (n : Nat) : Nat := if h : n % 2 = 1 then tz1 (n / 2) + 1 else 0
termination_by n
decreasing_by omega
theorem tz1_odd {n : Nat} (h : n % 2 = 1) : tz1 n = tz1 (n / 2) + 1 := by rw [tz1, dif_pos h]
theorem tz1_even {n : Nat} (h : n % 2 = 0) : tz1 n = 0 := by rw [tz1, dif_neg (by omega)]
section
variable (pr : Dg → Dg → Dg)
def pushN : Nat → List Dg → Dg → List Dg
  | 0, ps, d => ps ++ [d]
  | t + 1, ps, d => pushN t ps.dropLast (pr (ps.getLastD []) d)
def peaksN : List Dg → Nat → List Dg → List Dg
  | ps, _, [] => ps
  | ps, n, d :: r => peaksN (pushN pr (tz1 n) ps d) (n + 1) r
theorem peaksN_append (ps : List Dg) (n : Nat) (l r : List Dg) : peaksN pr ps n (l ++ r) = peaksN pr (peaksN pr ps n l) (n + l.length) r := by
  induction l generalizing ps n with
  | nil => rfl
  | cons d l ih => simp only [List.cons_append, peaksN, List.length_cons, ih]; rw [show n + 1 + l.length = n + (l.length + 1) by omega]
def bagN : List Dg → Dg
  | [] => List.replicate 32 0
  | [d] => d
  | p :: q :: r => pr p (bagN (q :: r))
def splN (n : Nat) : Nat := 2 ^ Nat.log2 (n - 1)
theorem spl2 : splN 2 = 1 := rfl
theorem spl3 : splN 3 = 2 := rfl
theorem spl4 : splN 4 = 2 := rfl
theorem spl5 : splN 5 = 4 := rfl
theorem spl6 : splN 6 = 4 := rfl
theorem spl7 : splN 7 = 4 := rfl
theorem spl8 : splN 8 = 4 := rfl
def treeN : Nat → List Dg → Dg
  | 0, _ => []
  | f + 1, l => if l.length = 1 then l.getD 0 [] else pr (treeN f (l.take (splN l.length))) (treeN f (l.drop (splN l.length)))
theorem bag_tree : ∀ l : List Dg, 0 < l.length → l.length ≤ 8 → bagN pr (peaksN pr [] 0 l) = treeN pr l.length l
  | [], h, _ => absurd h (by decide)
  | [_], _, _ => by simp [peaksN, pushN, bagN, treeN, tz1]
  | [_, _], _, _ => by simp [peaksN, pushN, bagN, treeN, tz1, spl2, spl3, spl4, spl5, spl6, spl7, spl8]
  | [_, _, _], _, _ => by simp [peaksN, pushN, bagN, treeN, tz1, spl2, spl3, spl4, spl5, spl6, spl7, spl8]
  | [_, _, _, _], _, _ => by simp [peaksN, pushN, bagN, treeN, tz1, spl2, spl3, spl4, spl5, spl6, spl7, spl8]
  | [_, _, _, _, _], _, _ => by simp [peaksN, pushN, bagN, treeN, tz1, spl2, spl3, spl4, spl5, spl6, spl7, spl8]
  | [_, _, _, _, _, _], _, _ => by simp [peaksN, pushN, bagN, treeN, tz1, spl2, spl3, spl4, spl5, spl6, spl7, spl8]
  | [_, _, _, _, _, _, _], _, _ => by simp [peaksN, pushN, bagN, treeN, tz1, spl2, spl3, spl4, spl5, spl6, spl7, spl8]
  | [_, _, _, _, _, _, _, _], _, _ => by simp [peaksN, pushN, bagN, treeN, tz1, spl2, spl3, spl4, spl5, spl6, spl7, spl8]
  | _ :: _ :: _ :: _ :: _ :: _ :: _ :: _ :: _ :: _, _, h => by simp at h
def onesN (n : Nat) : Nat := if h : n = 0 then 0 else n % 2 + onesN (n / 2)
termination_by n
decreasing_by omega
theorem peaks_ones : ∀ l : List Dg, l.length ≤ 8 → (peaksN pr [] 0 l).length = onesN l.length
  | [], _ => by simp [peaksN, onesN]
  | [_], _ => by simp [peaksN, pushN, tz1, onesN]
  | [_, _], _ => by simp [peaksN, pushN, tz1, onesN]
  | [_, _, _], _ => by simp [peaksN, pushN, tz1, onesN]
  | [_, _, _, _], _ => by simp [peaksN, pushN, tz1, onesN]
  | [_, _, _, _, _], _ => by simp [peaksN, pushN, tz1, onesN]
  | [_, _, _, _, _, _], _ => by simp [peaksN, pushN, tz1, onesN]
  | [_, _, _, _, _, _, _], _ => by simp [peaksN, pushN, tz1, onesN]
  | [_, _, _, _, _, _, _, _], _ => by simp [peaksN, pushN, tz1, onesN]
  | _ :: _ :: _ :: _ :: _ :: _ :: _ :: _ :: _ :: _, h => by simp at h
end
end Go.Proofs.YtoiampgfnidfdaaGreatDoor
namespace Go.Proofs.YtoiampgfnidfdaaGreatDoor

def maskK (key : Dg) (m : Nat) : List Nat := (key ++ List.replicate 32 0).map fun x => x ^^^ m
def keyD (key : Dg) (b : List Nat) : Dg := sha (maskK key 92 ++ sha (maskK key 54 ++ b))
def leafD (b : List Nat) : Dg := sha (0 :: b)
def pairD (a b : Dg) : Dg := sha (1 :: a ++ b)
def cdE (d : Dg) : E := ⟨fz (le8 d 0 8), fz (le8 d 8 8)⟩
def cdB (n k i : Nat) : List Nat := [112, 111, 105, 110, 116] ++ [n % 256, k % 256, i % 256]
def coordM (seed : Dg) (n k log : Nat) : List E := (List.range log).map fun i => cdE (keyD seed (cdB n k i))
theorem coordM_length (seed : Dg) (n k log : Nat) : (coordM seed n k log).length = log := by simp [coordM]
theorem coordM_succ (seed : Dg) (n k log : Nat) : coordM seed n k (log + 1) = coordM seed n k log ++ [cdE (keyD seed (cdB n k log))] := by simp [coordM, List.range_succ]

structure Pt where
  R : List E
  V : List E
  used : Bool
structure Ep where
  log : Nat
  count : Nat
  closed : Bool
  pts : List Pt
  peaks : List Dg
structure Mt where
  ver : Nat
  seed : Dg
  eps : List Ep
structure Rdg where
  who : Int
  when : Int
  kind : Int
  value : Int
def Rdg.ok (r : Rdg) : Prop := (0 ≤ r.who ∧ r.who < 16) ∧ (0 ≤ r.when ∧ r.when < 256) ∧ (0 ≤ r.kind ∧ r.kind < 16) ∧ (0 ≤ r.value ∧ r.value < 256)
instance (r : Rdg) : Decidable r.ok := by unfold Rdg.ok; infer_instance
def Rdg.enc (r : Rdg) : List Nat := [(r.who + 16 * r.kind).toNat, r.when.toNat, r.value.toNat]
def Rdg.amts (r : Rdg) : List Int := [r.who, r.when, r.kind, r.value, 1]
def Mt.isOpen (m : Mt) : Bool := match m.eps.getLast? with | some e => !e.closed | none => false
def Mt.put (m : Mt) (i : Nat) (e : Ep) : Mt := ⟨m.ver + 1, m.seed, m.eps.set i e⟩
def newPts (seed : Dg) (n log pts : Nat) : List Pt := (List.range pts).map fun k => ⟨coordM seed n k log, List.replicate 5 0, false⟩
def openM (m : Mt) (log pts : Int) : Mt × Int :=
  if log < 0 ∨ log > 16 ∨ pts < 1 ∨ pts > 16 then (m, 1)
  else if m.isOpen then (m, 260)
  else if m.eps.length = 40 then (m, 2)
  else (⟨m.ver + 1, m.seed, m.eps ++ [⟨log.toNat, 0, false, newPts m.seed m.eps.length log.toNat pts.toNat, []⟩]⟩, 0)
def Mt.at (m : Mt) (i : Nat) : Ep := m.eps.getD i ⟨0, 0, false, [], []⟩
def Mt.last (m : Mt) : Nat := m.eps.length - 1
def closeM (m : Mt) : Mt × Int :=
  if m.isOpen then (m.put m.last { m.at m.last with closed := true }, 0) else (m, 260)
def addP (i : Nat) (amts : List Int) (p : Pt) : Pt := { p with V := List.zipWith (fun v n => v + eb (fz n) * eqi i p.R) p.V amts }
def takeM (m : Mt) (r : Rdg) : Mt × Int :=
  if ¬ r.ok then (m, 1) else if m.isOpen = false then (m, 260)
  else if (m.at m.last).count = 2 ^ (m.at m.last).log then (m, 2)
  else (m.put m.last { m.at m.last with pts := (m.at m.last).pts.map (addP (m.at m.last).count r.amts), peaks := pushN pairD (tz1 (m.at m.last).count) (m.at m.last).peaks (leafD r.enc), count := (m.at m.last).count + 1 }, 0)
def retractM (m : Mt) (i : Int) (r : Rdg) : Mt × Int :=
  if ¬ r.ok then (m, 1) else if m.isOpen = false then (m, 260)
  else if i < 0 ∨ i ≥ (m.at m.last).count then (m, 4)
  else (m.put m.last { m.at m.last with pts := (m.at m.last).pts.map (addP i.toNat [0, 0, 0, 0, -1]) }, 0)
def freeM (pts : List Pt) : List Nat := (List.range pts.length).filter fun k => match pts[k]? with | some p => !p.used | none => false
def useP (l : List Nat) (pts : List Pt) : List Pt := pts.mapIdx fun k p => if k ∈ l then { p with used := true } else p
def spendM (m : Mt) (n : Int) : Mt × List Nat × Int :=
  if n < 0 ∨ n ≥ m.eps.length then (m, [], 4)
  else if (m.at n.toNat).closed = false then (m, [], 260)
  else if (freeM (m.at n.toNat).pts).length < 2 then (m, [], 261)
  else (m.put n.toNat { m.at n.toNat with pts := useP ((freeM (m.at n.toNat).pts).take 2) (m.at n.toNat).pts }, (freeM (m.at n.toNat).pts).take 2, 0)
def leftM (m : Mt) (n : Int) : Nat := if n < 0 ∨ n ≥ m.eps.length then 0 else (freeM (m.at n.toNat).pts).length / 2
def rootM (m : Mt) (n : Int) : Dg × Int := if n < 0 ∨ n ≥ m.eps.length then (List.replicate 32 0, 4) else (bagN pairD (m.at n.toNat).peaks, 0)
def wordsM (m : Mt) : Nat := 5 + (m.eps.map fun e => 3 + 4 * e.peaks.length + 11 * e.pts.length).sum
def leB (x n : Nat) : List Nat := (List.range n).map fun i => x / 2 ^ (8 * i) % 256
def flB (b : Bool) : Nat := if b then 1 else 0
def extB (x : E) : List Nat := leB (fv x.a).toNat 8 ++ leB (fv x.b).toNat 8
def ptB (p : Pt) : List Nat := flB p.used :: p.V.flatMap extB
def epB (e : Ep) : List Nat := e.log % 256 :: leB e.count 4 ++ [flB e.closed, e.pts.length % 256] ++ e.pts.flatMap ptB ++ e.peaks.length % 256 :: e.peaks.flatten
def encM (m : Mt) : List Nat := leB m.ver 8 ++ m.seed ++ m.eps.length % 256 :: m.eps.flatMap epB
end Go.Proofs.YtoiampgfnidfdaaGreatDoor
