/-
  A range over an iterator that keeps variables of its own in blocks that it makes itself; two values a round; the rounds all go on.
  Claims as they lie in memory; the iterator over claims and powers, by contract.
  The reference's functions of chapter 05, by contract.
  The reference's True: claims with their true values.
  The reference's Line and Made of chapter 05, by contract.
-/
import Derived.Test.YtkgglhakimkkhaaGreatDoorSeqW
import Derived.Test.YtkgglhakimkkhaaGreatDoorVf2
import Derived.Sort.CutIn
import Derived.Test.YtkgglhakimkkhaaGreatDoorMl3
namespace Go.Proofs.YtkgglhakimkkhaaGreatDoor
open Go.RowKit

def SeqOwn {α : Type} (n : Nat) (P : Program) (gf : Nat) (lb : Array Value) (enc : α → Array Value) (S0 : Nat → Prop) (xs : List α) (w : World) : Prop :=
  ∀ (l : Nat) (J : List α → World → Prop) (W : World), Below w.heap.size w W → (∀ s A B, J s A → Below A.heap.size A B → J s B) → (∀ s A B g, W.heap.size ≤ g → J s A → Put A B g → J s B) →
    (∀ pre x W1, J pre W1 → W.heap.size ≤ W1.heap.size → (∃ rest, xs = pre ++ x :: rest) → YieldAt .wide (n - 1) P l (enc x) W1 fun e W' => e = .returned (.bool true) ∧ J (pre ++ [x]) W' ∧ Keeps (fun g => S0 g ∨ W.heap.size ≤ g) W1 W') → J [] W →
    CallsIn .wide n P gf (#[.func (.yield l) #[] #[]] ++ lb) W fun e W' => (∃ v, e = .returned v) ∧ J xs W'
theorem wpIn_seqO {α : Type} {n : Nat} {P : Program} {g : Operand} {p1 p2 : Tmp} {assign body : Code} {Q : Exit → Act → World → Prop} {a : Act} {w w0 : World} {gf : Nat} {S0 : Nat → Prop} {lb : Array Value} {e1 e2 : α → Value} {xs : List α}
    (hseq : SeqOwn (n - 1) P gf lb (fun x => #[e1 x, e2 x]) S0 xs w0) (hb0 : Below w0.heap.size w0 w) (h1 : 1 ≤ n) (hg : a.eval g = .func (.func gf) #[] lb) (eg : ∀ args w, (callFunc gf args).run P w = .ok (.enter gf args) w)
    (hS0 : ∀ g, S0 g → g < w.heap.size)
    (I : List α → World → Prop) (hI1 : ∀ s A B, I s A → Below A.heap.size A B → I s B) (hI2 : ∀ s A B g, w.heap.size + 2 ≤ g → I s A → Put A B g → I s B) (hI3 : ∀ s (W : World) (l : Nat) (o : Obj), w.heap.size ≤ l → I s W → I s (W.putObj l o)) (h0 : I [] w) (slot : Tmp) (t : TypeId) (cx : α → Array Value) (slot2 : Tmp) (t2 : TypeId) (cx2 : α → Array Value)
    (hassign : ∀ (l : Nat) (x : α) (W : World) (K : Act → World → Prop), (∀ a' W', a' = { tmps := ((boxAct p1 p2 e1 e2 a x).setIfInBounds slot (.pointer (some ⟨W.heap.size, 0, none⟩))).setIfInBounds slot2 (.pointer (some ⟨W.heap.size + 1, 0, none⟩)), defers := [] } → W' = (W.alloc (.cells (cx x) t)).alloc (.cells (cx2 x) t2) → K a' W') →
      assign.wpIn (Fence.wide.inRound l) (n - 1 - 1) P (Exit.then K (fun _ _ _ => False)) { tmps := boxAct p1 p2 e1 e2 a x, defers := [] } W)
    (hbody : ∀ (l : Nat) (pre : List α) (x : α) (Bx : Nat) (W : World) (a' : Act), a' = { tmps := ((boxAct p1 p2 e1 e2 a x).setIfInBounds slot (.pointer (some ⟨Bx, 0, none⟩))).setIfInBounds slot2 (.pointer (some ⟨Bx + 1, 0, none⟩)), defers := [] } → I pre W → w.heap.size + 2 ≤ Bx → Blk W Bx t (cx x) → Blk W (Bx + 1) t2 (cx2 x) → (∃ rest, xs = pre ++ x :: rest) →
      body.wpIn (Fence.wide.inRound l) (n - 1 - 1) P (fun e _ W' => e = .normal ∧ KeepsOthers W W' ∧ Keeps (fun g => S0 g ∨ w.heap.size + 2 ≤ g) W W' ∧ I (pre ++ [x]) W') a' W)
    (hdone : ∀ (D : Nat) (W : World), w.heap.size ≤ D → I xs W → W.heap[D]? = some (.deferred (some [])) → Q .normal { a with defers := { target := .collected D, args := #[] } :: a.defers } W) :
    (Code.rangeFunc g #[p1, p2] assign body).wpIn .wide n P Q a w := by
  refine wpIn_rangeFunc fun fn hfn => ?_
  obtain ⟨rec, hrec⟩ : ∃ rec : LoopState → Loop, rec = fun st => { state := st, pending := none, fn, tmps := a.tmps, params := #[p1, p2], assign, body, defers := w.heap.size } := ⟨_, rfl⟩
  obtain ⟨W1, hW1⟩ : ∃ W1, (w.alloc (.deferred (some []))).alloc (.loop (rec .ready)) = W1 := ⟨_, rfl⟩
  have hb1 : Below w.heap.size w W1 := by rw [← hW1]; exact ((Below.refl _ w).alloc (Nat.le_refl _) _).alloc (by simp) _
  have hW1s : W1.heap.size = w.heap.size + 2 := by rw [← hW1]; simp
  have hL1 : W1.heap[w.heap.size + 1]? = some (.loop (rec .ready)) := by
    rw [← hW1]; have := World.alloc_heap_new (w.alloc (.deferred (some []))) (.loop (rec .ready)); rwa [World.size_alloc] at this
  have hK1 : W1.heap[w.heap.size]? = some (.deferred (some [])) := by
    rw [← hW1]; exact (Below.heap_alloc _ _ _ (by simp)).trans (World.alloc_heap_new w _)
  refine ⟨w.heap.size + 1, [{ target := .collected w.heap.size, args := #[] }], W1, { target := .fn (.func gf) lb, args := #[.func (.yield (w.heap.size + 1)) #[] #[]] }, W1, gf,
    #[.func (.yield (w.heap.size + 1)) #[] #[]] ++ lb, W1, ?_, ?_, ?_, ?_, fun _ => h1, ?_⟩
  · rw [← hW1, hrec]; exact run_enterLoop_outer _ _ _ _ _
  · simp only [resolve, hg]
    simp [go_sem]
  · intro f' hf'; trivial
  · simp [invoke, go_sem, eg]
  refine (hseq (w.heap.size + 1) (fun pre W => I pre W ∧ W.heap[w.heap.size + 1]? = some (.loop (rec .ready)) ∧ W.heap[w.heap.size]? = some (.deferred (some []))) W1 (hb0.trans (hb1.mono hb0.size))
    (fun s A B hs hb => ⟨hI1 s A B hs.1 hb, below_same hb hs.2.1, below_same hb hs.2.2⟩) (fun s A B g hg hs hp => ⟨hI2 s A B g (by omega) hs.1 hp, put_same hp (by omega) hs.2.1, put_same hp (by omega) hs.2.2⟩) ?_ ⟨hI1 _ _ _ h0 hb1, hL1, hK1⟩).mono ?_
  · rintro pre x W ⟨hi, hl, hk⟩ hWW hlen
    have hy := run_yield (P := P) (args := #[e1 x, e2 x]) hl (by rw [hrec]; rfl)
    rw [hrec] at hy
    refine ⟨fn, _, assign, body, hy, roundIn_of_wpIn hfn ?_⟩
    rw [boxAct_eq]
    refine hassign _ x W _ ?_
    rintro a' Wa ha rfl
    have hba : Below W.heap.size W ((W.alloc (.cells (cx x) t)).alloc (.cells (cx2 x) t2)) := ((Below.refl _ _).alloc (Nat.le_refl _) _).alloc (by simp) _
    have hla := below_same hba hl
    have hka := below_same hba hk
    have hlt := (Array.getElem?_eq_some_iff.1 hla).1
    have hwW : w.heap.size + 1 < W.heap.size := (Array.getElem?_eq_some_iff.1 hl).1
    refine ⟨_, run_beginRound hla (by rw [hrec]), ?_⟩
    obtain ⟨Wb, hWb⟩ : ∃ Wb, Wb = ((W.alloc (.cells (cx x) t)).alloc (.cells (cx2 x) t2)).putObj (w.heap.size + 1) (.loop { rec .ready with state := .busy }) := ⟨_, rfl⟩
    have hl2 : Wb.heap[w.heap.size + 1]? = some (.loop { rec .ready with state := .busy }) := by rw [hWb]; exact World.putObj_heap_same hlt
    have hk2 : Wb.heap[w.heap.size]? = some (.deferred (some [])) := by rw [hWb]; exact (World.putObj_heap_other (by omega)).trans hka
    have hi2 : I pre Wb := by rw [hWb]; exact hI3 _ _ _ _ (by omega) (hI1 _ _ _ hi hba)
    have hx2 : Blk Wb W.heap.size t (cx x) := by rw [hWb]; exact (World.putObj_heap_other (by omega)).trans ((Blk.new _ _ _).alloc _)
    have hx3 : Blk Wb (W.heap.size + 1) t2 (cx2 x) := by rw [hWb]; exact (World.putObj_heap_other (by omega)).trans (Blk.new_at _ _ _ (by simp))
    have hkS : Keeps (fun g => S0 g ∨ w.heap.size + 2 ≤ g) W Wb := by
      rw [hWb]
      refine (Keeps.of_below hba).trans ⟨by simp, fun g hg _ => World.putObj_heap_other (hg.elim (fun h => by have := hS0 _ h; omega) (fun h => by omega))⟩
    rw [← hWb]
    refine wpIn_mono (hbody _ pre x W.heap.size Wb a' ha hi2 (by omega) hx2 hx3 hlen) ?_
    rintro e a3 W3 ⟨rfl, hk3, hkp3, hi3⟩
    have hl3 := hk3.same _ _ hl2 rfl
    have hkk3 := hk3.same _ _ hk2 rfl
    have hend := run_endRound (P := P) none hl3
    have hl4 : (W3.putObj (w.heap.size + 1) (.loop (rec .ready))).heap[w.heap.size + 1]? = some (.loop (rec .ready)) := World.putObj_heap_same (Array.getElem?_eq_some_iff.1 hl3).1
    have hk4 : (W3.putObj (w.heap.size + 1) (.loop (rec .ready))).heap[w.heap.size]? = some (.deferred (some [])) := (World.putObj_heap_other (by omega)).trans hkk3
    refine ⟨_, W3.putObj (w.heap.size + 1) (.loop (rec .ready)), ?_, rfl, ⟨hI3 _ _ _ _ (by omega) hi3, hl4, hk4⟩, by rw [hW1s]; exact (hkS.trans hkp3).trans ⟨by simp, fun g hg _ => World.putObj_heap_other (hg.elim (fun h => by have := hS0 _ h; omega) (fun h => by omega))⟩⟩
    rw [hrec] at hend ⊢
    exact hend
  · rintro e W2 ⟨⟨v, rfl⟩, hi, hl, hk⟩
    exact ⟨none, _, by have := run_endLoop (P := P) hl (by rw [hrec]; simp); rw [hrec] at this; exact this, hdone _ _ (Nat.le_refl _) (hI3 _ _ _ _ (by omega) hi) ((World.putObj_heap_other (by omega)).trans hk)⟩
end Go.Proofs.YtkgglhakimkkhaaGreatDoor
namespace Go.Proofs.YtkgglhakimkkhaaGreatDoor
open Go.RowKit

structure Clm where
  p : List E
  v : E
abbrev ClW := Clm × (Option Addr × Nat)
def ptV (x : ClW) : Value := .slice x.2.1 x.1.p.length x.2.2
def clc (x : ClW) : List Value := [ptV x, .int .u64 (fv x.1.v.a), .int .u64 (fv x.1.v.b)]
theorem clc_len (x : ClW) : (clc x).length = 3 := rfl
def clV (x : ClW) : Value := .agg (clc x).toArray
def ClmU (lo hi : Nat) (w : World) (v : Value) (cs : List ClW) : Prop := Rd lo hi 3 w v cs.length (cs.flatMap clc) ∧ ∀ x ∈ cs, ExtS lo hi w (ptV x) x.1.p
theorem ClmU.keep {lo hi : Nat} {w w' : World} {v : Value} {cs : List ClW} (h : ClmU lo hi w v cs) (hb : Below w.heap.size w w') : ClmU lo hi w' v cs :=
  ⟨h.1.keep hb, fun x hx => Rd.keep (h.2 x hx) hb⟩
theorem ClmU.wide {lo hi lo' hi' : Nat} {w : World} {v : Value} {cs : List ClW} (h : ClmU lo hi w v cs) (h1 : lo' ≤ lo) (h2 : hi ≤ hi') : ClmU lo' hi' w v cs :=
  ⟨h.1.wide h1 h2, fun x hx => Rd.wide (h.2 x hx) h1 h2⟩
theorem ClmU.len {lo hi : Nat} {w : World} {v : Value} {cs : List ClW} (h : ClmU lo hi w v cs) : ∃ A cap, v = .slice A cs.length cap := h.1.len
theorem ClmU.small {lo hi : Nat} {w : World} {v : Value} {cs : List ClW} (h : ClmU lo hi w v cs) : cs.length ≤ 140737488355327 := h.1.2.1
theorem ClmU.cells {lo hi : Nat} {w : World} {v : Value} {cs : List ClW} (h : ClmU lo hi w v cs) (h0 : 0 < cs.length) : ∃ g off cap, v = .slice (some ⟨g, off, none⟩) cs.length cap ∧ cs.length ≤ cap ∧ lo ≤ g ∧ g < hi ∧ g < w.heap.size ∧
    ∀ k x, cs[k]? = some x → ExtS lo hi w (ptV x) x.1.p ∧ w.cell? ⟨g, off + k * 3, none⟩ = some (ptV x) ∧ w.cell? ⟨g, off + k * 3 + 1, none⟩ = some (.int .u64 (fv x.1.v.a)) ∧ w.cell? ⟨g, off + k * 3 + 2, none⟩ = some (.int .u64 (fv x.1.v.b)) := by
  obtain ⟨g, off, cap, q1, q2, q3, q4, q5, q6⟩ := Rd.form h.1 h0
  refine ⟨g, off, cap, q1, q2, q3, q4, q5, fun k x hx => ?_⟩
  have e : ∀ j u, (clc x)[j]? = some u → w.cell? ⟨g, off + k * 3 + j, none⟩ = some u := fun j u hu => by
    have := q6 (k * 3 + j) _ (flat_get clc_len _ k j _ _ hx hu)
    rwa [← Nat.add_assoc] at this
  exact ⟨h.2 x (List.mem_of_getElem? hx), e 0 _ rfl, e 1 _ rfl, e 2 _ rfl⟩

/-! ### Powers -/
def pwL {α : Type} (r : E) : E → List α → List (E × α)
  | _, [] => []
  | x, c :: cs => (x, c) :: pwL r (x * r) cs
theorem pwL_drop {α : Type} (r x : E) (cs : List α) (k : Nat) (c : α) (h : cs[k]? = some c) : pwL r x (cs.drop k) = (x, c) :: pwL r (x * r) (cs.drop (k + 1)) := by
  have h1 := List.getElem?_eq_some_iff.1 h
  rw [List.drop_eq_getElem_cons h1.1, pwL, h1.2]
theorem pwL_end {α : Type} (r x : E) (cs : List α) (k : Nat) (h : cs.length ≤ k) : pwL r x (cs.drop k) = [] := by rw [List.drop_eq_nil_of_le h]; rfl
def StP (n0 Bl : Nat) (g : Nat) : Prop := g < n0 ∨ g = Bl ∨ g = Bl + 1
set_option maxRecDepth 100000 in
set_option maxHeartbeats 400000 in
theorem gPowers (A : Option Addr) (m cap : Nat) (r : E) (w : World) : Calls Tryz.prog 29 #[.slice A m cap, ev r] w fun e w' =>
    e = .returned (.func (.func 65) #[] #[.pointer (some ⟨w.heap.size, 0, none⟩), .pointer (some ⟨w.heap.size + 1, 0, none⟩)]) ∧
    w' = (w.alloc (.cells #[.slice A m cap] 23)).alloc (.cells #[.int .u64 (fv r.a), .int .u64 (fv r.b)] 26) := by
  unfold ev
  go_enter Tryz.func29, Tryz.ntmps29
  go_wp2
  go_ret
  exact ⟨rfl, rfl⟩
attribute [local go_sem] Oper.semAt_some
set_option maxRecDepth 100000 in
set_option maxHeartbeats 4000000 in
theorem wPowers (cs : List ClW) (r : E) (n0 Bl lo : Nat) (vl : Value) (n : Nat) (hn : 1 ≤ n) (w : World) (hcs : ClmU lo n0 w vl cs)
    (hn0 : n0 ≤ w.heap.size) (b0 : Blk w Bl 23 #[vl]) (b1 : Blk w (Bl + 1) 26 #[.int .u64 (fv r.a), .int .u64 (fv r.b)]) :
    SeqOwn n Tryz.prog 65 #[.pointer (some ⟨Bl, 0, none⟩), .pointer (some ⟨Bl + 1, 0, none⟩)] (fun x : E × ClW => #[ev x.1, clV x.2]) (StP n0 Bl) (pwL r 1 cs) w := fun l J W hW hJ1 hJ2 hY h0 => by
  obtain ⟨A, cap, rfl⟩ := hcs.len
  have hop := open_wide Tryz.prog
  have hcW := hcs.keep hW
  have b0W := b0.keep hW
  have b1W := b1.keep hW
  have hsm := hcs.small
  have hn0W : n0 ≤ W.heap.size := Nat.le_trans hn0 hW.size
  have hBl0 := b0W.lt
  have hBl1 := b1W.lt
  obtain ⟨L, hL⟩ : ∃ L, L = cs.length := ⟨_, rfl⟩
  rw [← hL] at b0W hsm
  have HLn := Lib.hid hL
  have HJ1 := Lib.hid hJ1
  have HJ2 := Lib.hid hJ2
  have HY := Lib.hid hY
  have HC : Hid (ClmU lo n0 W (.slice A L cap) cs) := Lib.hid (by rw [hL]; exact hcW)
  clear hcs b0 b1 hcW hJ1 hJ2 hY hW hL
  refine callsIn_of_wp Tryz.func65 rfl trivial ?_ rfl
  simp only [Tryz.ntmps65, List.size_toArray, List.length_cons, List.length_nil, Nat.reduceAdd, Nat.reduceSub, Array.replicate_succ, Array.replicate_zero, List.push_toArray, List.append_toArray, List.nil_append, List.cons_append]
  gi_wp2
  refine ⟨trivial, (callsIn_wide.2 (show Calls Tryz.prog 33 #[.int .i64 1] W (Ret (ev 1) W) from eFromInt 1 (by decide) (by decide) W)).mono ?_⟩
  rintro e w2 ⟨he, hb2⟩
  unfold ev at he
  subst he
  have e1 := ((b0W.keep hb2).alloc (.cells #[.int .u64 (fv (1 : E).a), .int .u64 (fv (1 : E).b)] 26)).cell
  gi_wp2_with fail
  refine stk1 (M := fun W => Code.wpIn _ _ _ _ _ _ W) fun X hX hzX b4 => ?_
  have hXs : X.heap.size = w2.heap.size + 1 := hzX.out
  have hWX := hb2.trans (hX.mono hb2.size)
  have h0X := HJ1.out _ _ _ h0 hWX
  have hKX : Keeps (StP n0 Bl) W X := Keeps.of_below hWX
  clear hzX h0 e1
  gi_loopw [10] (fun i wr => ∃ k : Nat, k ≤ L ∧ i = .int .i64 k ∧ ∃ pre xk, pwL r 1 cs = pre ++ pwL r xk (cs.drop k) ∧ J pre wr ∧ Blk wr w2.heap.size 26 #[.int .u64 (fv xk.a), .int .u64 (fv xk.b)] ∧ Keeps (StP n0 Bl) W wr ∧ X.heap.size ≤ wr.heap.size) (fun i _ => L - (intOf i).toNat)
  case atStart => exact ⟨0, Nat.zero_le _, rfl, [], 1, by simp, h0X, b4, hKX, Nat.le_refl _⟩
  case round =>
    obtain ⟨k, hk, rfl, pre, xk, hpre, hJs, bp, hKr, hsr⟩ := hrel
    clear h0X b4 hKX
    have HP := Lib.hid hpre
    clear hpre
    by_cases hlt : k < L
    · obtain ⟨gC, oC, cC, hv, -, -, p3, lC, qC⟩ := HC.out.cells (by rw [← HLn.out]; omega)
      rw [← HLn.out] at hv
      cases hv
      obtain ⟨x, hx⟩ : ∃ x, cs[k]? = some x := ⟨_, List.getElem?_eq_getElem (by rw [← HLn.out]; exact hlt)⟩
      obtain ⟨hE, d1, d2, d3⟩ := qC k x hx
      have HXK := Lib.hid hx
      obtain ⟨⟨xp, xv⟩, Ax, cx⟩ := x
      simp only [ptV] at hE d1 d2 d3
      have k1 := hKr.cell (show StP n0 Bl gC from .inl p3) d1
      have k2 := hKr.cell (show StP n0 Bl gC from .inl p3) d2
      have k3 := hKr.cell (show StP n0 Bl gC from .inl p3) d3
      clear qC hx hE d1 d2 d3
      gi_upto_region 4 with (fail)
      refine stk1 (M := fun W => Code.wpIn _ _ _ _ _ _ W) fun Y hY hzY b6 => ?_
      have hYs : Y.heap.size = wr.heap.size + 1 := hzY.out
      have bpY := bp.keep hY
      have hJY := HJ1.out _ _ _ hJs hY
      have hKY := hKr.trans (Keeps.of_below hY)
      have HPK := Lib.hid (show pwL r 1 cs = (pre ++ [(xk, (⟨xp, xv⟩, (Ax, cx)))]) ++ pwL r (xk * r) (cs.drop (k + 1)) by rw [HP.out, pwL_drop r xk _ k _ HXK.out, List.append_assoc]; rfl)
      have hWs := hWX.size
      obtain ⟨fn, tmps, assign, body, hy, hR⟩ := HY.out pre (xk, (⟨xp, xv⟩, (Ax, cx))) Y hJY (by omega) ⟨_, by rw [HPK.out, List.append_assoc]; rfl⟩
      simp only [ev, clV, clc, ptV] at hy
      have e1 := bpY.cell
      have e2 := b6.cell
      clear hzY k1 k2 k3 bp hJs hKr hJY
      gi_wp2_with fail
      refine hR.mono ?_
      rintro e W3 ⟨rfl, hJ3, hk3⟩
      have bp3 : Blk W3 w2.heap.size 26 #[.int .u64 (fv xk.a), .int .u64 (fv xk.b)] := (hk3.same w2.heap.size (.inr hb2.size) bpY.lt).trans bpY
      have hK3 : Keeps (StP n0 Bl) W W3 := hKY.trans ⟨hk3.size, fun g hg hl => hk3.same g (.inl hg) hl⟩
      have o1 := hK3.cell (show StP n0 Bl (Bl + 1) from .inr (.inr rfl)) (b1W.cell 0)
      have o2 := hK3.cell (show StP n0 Bl (Bl + 1) from .inr (.inr rfl)) (b1W.cell 1)
      have hs3 := hk3.size
      clear e1 e2 hy hR hk3 hKY
      have e1 := bp3.cell
      gi_wp2_with fail
      refine ⟨trivial, (callsIn_wide.2 (eMul xk r W3)).mono ?_⟩
      rintro e w5 ⟨he, hb5⟩
      unfold ev at he
      subst he
      have bp5 := bp3.keep hb5
      have hJ5 := HJ1.out _ _ _ hJ3 hb5
      have hK5 := hK3.trans (Keeps.of_below hb5)
      clear e1
      have e1 := bp5.cell
      have e2 := bp5.frozen
      have hp6 : Put w5 ((w5.setCell ⟨w2.heap.size, 0, none⟩ (.int .u64 (fv (xk * r).a))).setCell ⟨w2.heap.size, 1, none⟩ (.int .u64 (fv (xk * r).b))) w2.heap.size := (Put.set _ _ _ _).trans (Put.set _ _ _ _)
      have hJ6 := Lib.hid (HJ2.out _ _ _ _ hb2.size hJ5 hp6)
      have bp6 := Lib.hid (blk_set2 bp5 (c := .int .u64 (fv (xk * r).a)) (d := .int .u64 (fv (xk * r).b)))
      have hK6 : Hid (Keeps (StP n0 Bl) W ((w5.setCell ⟨w2.heap.size, 0, none⟩ (.int .u64 (fv (xk * r).a))).setCell ⟨w2.heap.size, 1, none⟩ (.int .u64 (fv (xk * r).b)))) := Lib.hid (hK5.trans ⟨by rw [hp6.size]; exact Nat.le_refl _, fun g hg hl => hp6.other g (by have := hb2.size; rcases hg with h | h | h <;> omega)⟩)
      have hs6 := hp6.size
      have hs5 := hb5.size
      clear hJ5 hK5 hK3 hJ3 o1 o2 hp6
      gi_wp2_with fail
      go_roundw
      case rel => exact ⟨k + 1, by omega, by go_num, _, xk * r, HPK.out, hJ6.out, bp6.out, hK6.out, by omega⟩
      case measure => simp [intOf]; omega
    · obtain rfl : k = L := by omega
      have HQ := Lib.hid (show pwL r 1 cs = pre by rw [HP.out, pwL_end r xk _ k (by rw [← HLn.out]; exact Nat.le_refl _), List.append_nil])
      gi_wp2
      go_end0
      exact ⟨⟨_, rfl⟩, by rw [HQ.out]; exact hJs⟩
def cmbE (val : Clm → E) (xs : List (E × ClW)) : E := esum (xs.map fun x => x.1 * val x.2.1)
theorem cmbE_snoc (val : Clm → E) (xs : List (E × ClW)) (x : E × ClW) : cmbE val (xs ++ [x]) = cmbE val xs + x.1 * val x.2.1 := by
  unfold cmbE
  rw [List.map_append]
  exact esum_snoc1 _ _
theorem pwL_mem {α : Type} (r : E) : ∀ (cs : List α) (x : E) (y : E × α), y ∈ pwL r x cs → y.2 ∈ cs
  | [], _, _, h => by cases h
  | c :: cs, x, y, h => by
    rcases List.mem_cons.1 h with rfl | h
    · exact List.mem_cons_self ..
    · exact List.mem_cons_of_mem _ (pwL_mem r cs _ y h)
set_option maxRecDepth 100000 in
set_option maxHeartbeats 4000000 in
theorem gCombine (val : Clm → E) (F : FuncId) (cap : List Value) (hen : ∀ args w, (callFunc F args).run Tryz.prog w = .ok (.enter F args) w) (cs : List ClW) (r : E) (vl : Value) (lo hi : Nat) (w : World) (hhi : hi ≤ w.heap.size)
    (hcs : ClmU lo hi w vl cs) (hval : ∀ x, x ∈ cs → ∀ W, Below w.heap.size w W → Calls Tryz.prog F (([clV x] : List Value) ++ cap).toArray W (Ret (ev (val x.1)) W)) :
    Calls Tryz.prog 43 #[vl, ev r, .func (.func F) #[] cap.toArray] w (Ret (ev (cmbE val (pwL r 1 cs))) w) := by
  obtain ⟨A, capl, rfl⟩ := hcs.len
  have HC := Lib.hid hcs
  have HV := Lib.hid hval
  have HEN := Lib.hid hen
  obtain ⟨L, hL⟩ : ∃ L, L = cs.length := ⟨_, rfl⟩
  rw [← hL] at HC ⊢
  clear hcs hval hen hL
  obtain ⟨xs, hxs⟩ : ∃ xs, xs = pwL r 1 cs := ⟨_, rfl⟩
  have HXS := Lib.hid hxs
  rw [← hxs]
  clear hxs
  refine (callsIn_wide (n := 3)).1 ?_
  refine callsIn_of_wp_marks Tryz.func43 rfl trivial ?_ rfl
  unfold ev
  simp only [Tryz.ntmps43, List.size_toArray, List.length_cons, List.length_nil, Nat.reduceAdd, Nat.reduceSub, Array.replicate_succ, Array.replicate_zero, List.push_toArray, List.append_toArray, List.nil_append, List.cons_append]
  gi_wp2_with fail
  refine ⟨trivial, ?_⟩
  refine stk4 (M := fun W => CallsIn _ _ _ _ _ W _) fun W hB hz b1 b2 b3 b4 => ?_
  have hW : W.heap.size = w.heap.size + 1 + 1 + 1 + 1 := hz.out
  clear hz
  refine (callsIn_wide.2 (gPowers A L capl r W)).mono ?_
  rintro e w2 ⟨rfl, rfl⟩
  gi_wp2_with fail
  refine stk2 (M := fun W => Code.wpIn _ _ _ _ _ _ W) fun X hBX hzX c1 c2 => ?_
  have hX : X.heap.size = W.heap.size + 1 + 1 := hzX.out
  have b2X := b2.keep hBX
  have b3X := b3.keep hBX
  have b4X := b4.keep hBX
  have hBw := hB.trans (hBX.mono hB.size)
  have HC2 := Lib.hid ((HC.out.keep hBw).wide (Nat.le_refl _) hhi)
  rw [hW] at *
  clear b1 b2 b3 b4 hBX hB hzX
  refine wpIn_seqO (S0 := StP w.heap.size (w.heap.size + 4)) (wPowers cs r w.heap.size (w.heap.size + 4) lo (.slice A L capl) 2 (by decide) X HC2.out (by omega) c1 c2) (Below.refl _ _) (by decide) rfl (enters_of Tryz.func65 (by kernel_rfl) rfl) (fun g hg => by unfold StP at hg; omega)
    (fun pre V => Blk V (w.heap.size + 3) 26 #[.int .u64 (fv (cmbE val pre).a), .int .u64 (fv (cmbE val pre).b)] ∧ Blk V (w.heap.size + 2) 26 #[.int .u64 0, .int .u64 0] ∧ Blk V (w.heap.size + 1) 85 #[.func (.func F) #[] cap.toArray] ∧ Below w.heap.size w V ∧ X.heap.size ≤ V.heap.size)
    ?hI1 ?hI2 ?hI3 ?h0 8 26 (fun x => #[.int .u64 (fv x.1.a), .int .u64 (fv x.1.b)]) 9 42 (fun x => (clc x.2).toArray) ?assign ?body ?done
  case hI1 => exact fun s A B h hb => ⟨h.1.keep hb, h.2.1.keep hb, h.2.2.1.keep hb, h.2.2.2.1.trans (hb.mono h.2.2.2.1.size), Nat.le_trans h.2.2.2.2 hb.size⟩
  case hI2 => exact fun s A B g hg h hp => ⟨hp.blk h.1 (by omega), hp.blk h.2.1 (by omega), hp.blk h.2.2.1 (by omega), below_put h.2.2.2.1 hp (by omega), by rw [hp.size]; exact h.2.2.2.2⟩
  case hI3 => exact fun s V l o hl h => ⟨(World.putObj_heap_other (by omega)).trans h.1, (World.putObj_heap_other (by omega)).trans h.2.1, (World.putObj_heap_other (by omega)).trans h.2.2.1, below_putObj h.2.2.2.1 l o (by omega), by simpa using h.2.2.2.2⟩
  case h0 => exact ⟨b4X, b3X, b2X, hBw, Nat.le_refl _⟩
  case assign =>
    intro l x V K hK
    simp only [boxAct, ev, clV, clc, ptV, List.setIfInBounds_toArray, List.set_cons_succ, List.set_cons_zero] at hK ⊢
    gi_wp2_with fail
    exact hK _ _ rfl rfl
  case body =>
    rintro l pre x Bx V a' rfl ⟨q1, q2, q3, q4, q5⟩ hBx bX bY ⟨rest, hrest⟩
    have hmem : x.2 ∈ cs := pwL_mem r _ _ x (by rw [hrest]; simp)
    have HVx := Lib.hid (HV.out x.2 hmem)
    have HS := Lib.hid (cmbE_snoc val pre x)
    clear hrest hmem
    simp only [boxAct, ev, clV, clc, ptV, List.setIfInBounds_toArray, List.set_cons_succ, List.set_cons_zero] at bX bY HVx ⊢
    have hop := open_round (open_wide Tryz.prog) l
    have f1 := gw_blk q1
    have f2 := gw_blk bX
    have f3 := gw_blk q3
    have f4 := gw_blk bY
    generalize cmbE val pre = s at *
    gi_wp2_with fail
    refine wpIn_region_rg hop 7 [(4, Spec.val (.agg #[.int .u64 (fv (val x.2.1).a), .int .u64 (fv (val x.2.1).b)])), (5, Spec.val (.agg #[.int .u64 (fv (x.1 * val x.2.1).a), .int .u64 (fv (x.1 * val x.2.1).b)])), (6, Spec.val (.agg #[.int .u64 (fv (s + x.1 * val x.2.1).a), .int .u64 (fv (s + x.1 * val x.2.1).b)]))] (by kernel_rfl) (by kernel_rfl) (by kernel_rfl) trivial ?_
    iterate 4 (refine rg_det rfl rfl rfl (fun K hK => ?_); go_big_quiet_op; refine hK _ ?_; clear hK K)
    refine rg_val rfl rfl (fun W1 hW1 hF => step_callvs (first := []) (cap := cap) HEN.out (HVx.out W1 (q4.trans ((grw_below hW1).mono q4.size))) rfl rfl rfl rfl) ?_
    intro a' ha
    simp only [Act.put, List.setIfInBounds_toArray, List.set_cons_succ, List.set_cons_zero] at ha
    subst ha
    refine rg_val rfl rfl (fun W1 hW1 hF => step_callv en_attestor_ext_Mul (eMul x.1 (val x.2.1) W1) rfl rfl) ?_
    intro a' ha
    simp only [Act.put, List.setIfInBounds_toArray, List.set_cons_succ, List.set_cons_zero] at ha
    subst ha
    refine rg_val rfl rfl (fun W1 hW1 hF => step_callv en_attestor_ext_Add (eAdd s (x.1 * val x.2.1) W1) rfl rfl) ?_
    intro a' ha
    simp only [Act.put, List.setIfInBounds_toArray, List.set_cons_succ, List.set_cons_zero] at ha
    subst ha
    refine rg_nil (fun w' hw' hF => ?_)
    obtain ⟨z, rfl⟩ := hw'
    simp only [List.drop_succ_cons, List.drop_zero]
    have q1z := q1.gw z
    have e2 := q1z.frozen
    have e3 := q1z.cell
    have hzs := z.h.size
    clear hF f1 f2 f3 f4
    gi_wp2_with fail
    have hp : Put z.w ((z.w.setCell ⟨w.heap.size + 1 + 1 + 1, 0, none⟩ (.int .u64 (fv (s + x.1 * val x.2.1).a))).setCell ⟨w.heap.size + 1 + 1 + 1, 1, none⟩ (.int .u64 (fv (s + x.1 * val x.2.1).b))) (w.heap.size + 1 + 1 + 1) := (Put.set _ _ _ _).trans (Put.set _ _ _ _)
    refine ⟨(keepsOthers_of_below z.h).trans ((KeepsOthers.setCell _ _ _).trans (KeepsOthers.setCell _ _ _)), (Keeps.of_below z.h).trans ⟨by rw [hp.size]; exact Nat.le_refl _, fun g hg _ => hp.other g (by unfold StP at hg; omega)⟩, ?_, hp.blk (q2.gw z) (by omega), hp.blk (q3.gw z) (by omega), below_put (q4.trans (z.h.mono q4.size)) hp (by omega), by omega⟩
    rw [HS.out]
    exact blk_set2 q1z
  case done =>
    intro D V hD ⟨q1, q2, q3, q4, q5⟩ hK
    rw [← HXS.out] at q1
    generalize cmbE val xs = y at *
    have e1 := q1.cell
    have e2 := q2.frozen
    have e3 := q2.cell
    gi_wp2_with fail
    obtain ⟨Z, hZ⟩ : ∃ Z, ((V.setCell ⟨w.heap.size + 1 + 1, 0, none⟩ (.int .u64 (fv y.a))).setCell ⟨w.heap.size + 1 + 1, 1, none⟩ (.int .u64 (fv y.b))) = Z := ⟨_, rfl⟩
    rw [hZ]
    have hpz : Put V ((V.setCell ⟨w.heap.size + 1 + 1, 0, none⟩ (.int .u64 (fv y.a))).setCell ⟨w.heap.size + 1 + 1, 1, none⟩ (.int .u64 (fv y.b))) (w.heap.size + 1 + 1) := (Put.set _ _ _ _).trans (Put.set _ _ _ _)
    have bZ : Blk Z (w.heap.size + 1 + 1) 26 #[.int .u64 (fv y.a), .int .u64 (fv y.b)] := by rw [← hZ]; exact blk_set2 q2
    have hBZ : Below w.heap.size w Z := by rw [← hZ]; exact below_put q4 hpz (by omega)
    have hKZ : Z.heap[D]? = some (.deferred (some [])) := by rw [← hZ]; exact (hpz.other D (by omega)).trans hK
    clear e1 e2 e3 hpz hZ q1 q2
    have hne : D ≠ w.heap.size + 1 + 1 := by omega
    refine ⟨by simp, .inl ⟨_, _, rfl, run_takeDeferred hKZ, ?_⟩⟩
    have bZ' : Blk (Z.putObj D (.deferred none)) (w.heap.size + 1 + 1) 26 #[.int .u64 (fv y.a), .int .u64 (fv y.b)] := (World.putObj_heap_other (Ne.symm hne)).trans bZ
    have e4 := bZ'.cell
    refine ⟨.agg #[.int .u64 (fv y.a), .int .u64 (fv y.b)], ?_, ?_⟩
    · simp [results, Tryz.results43, go_sem, e4]
    · exact ⟨rfl, below_putObj hBZ D _ (by omega)⟩
end Go.Proofs.YtkgglhakimkkhaaGreatDoor
namespace Go.Proofs.YtkgglhakimkkhaaGreatDoor
open Go.RowKit

def bindE (t : List E) (r : E) (j : Nat) : List E := (List.range j).map fun k => t.getD (2 * k) 0 + r * (t.getD (2 * k + 1) 0 - t.getD (2 * k) 0)
theorem bindE_succ (t : List E) (r : E) (j : Nat) : bindE t r (j + 1) = bindE t r j ++ [t.getD (2 * j) 0 + r * (t.getD (2 * j + 1) 0 - t.getD (2 * j) 0)] := by simp [bindE, List.range_succ]
theorem bindE_all (r : E) : ∀ (n : Nat) (t : List E), t.length = 2 * n → bindE t r n = bindL t r
  | 0, [], _ => rfl
  | n + 1, x :: y :: t, h => by
    have ih := bindE_all r n t (by simp only [List.length_cons] at h; omega)
    rw [bindL, ← ih]
    unfold bindE
    rw [List.range_succ_eq_map, List.map_cons, List.map_map]
    congr 1
  | 0, _ :: _, h => by simp at h
  | n + 1, [], h => by simp at h
  | n + 1, [_], h => by simp at h; omega
def mdAt (l : List Raw) (i : Nat) : E := if l.length = 0 then eb (fz i) else madeAt l (i % l.length) + eb (fz ((i / l.length : Nat) : Int))
def mdT (l : List Raw) (j : Nat) : List E := (List.range j).map (mdAt l)
theorem mdT_succ (l : List Raw) (j : Nat) : mdT l (j + 1) = mdT l j ++ [mdAt l j] := by simp [mdT, List.range_succ]
theorem mdT_length (l : List Raw) (j : Nat) : (mdT l j).length = j := by simp [mdT]
set_option maxRecDepth 100000 in
set_option maxHeartbeats 1000000 in
theorem rEval (t p : List E) (ht : t.length ≤ 1000000) (hp : p.length ≤ 60) (v1 v2 : Value) (lo1 hi1 lo2 hi2 : Nat) (w : World) (h1 : ExtS lo1 hi1 w v1 t) (h2 : ExtS lo2 hi2 w v2 p) :
    Calls Tryz.prog 41 #[v1, v2] w (Ret (ev (dotE t p t.length)) w) := by
  obtain ⟨A1, cap1, rfl⟩ := h1.len
  have hlen := h1.2.1
  unfold ev
  go_enter Tryz.func41, Tryz.ntmps41
  go_wp2
  refine wp_stk2 fun W3 hB3 hz3 d1 b5 => ?_
  have hne : w.heap.size ≠ w.heap.size + 1 := by omega
  go_loopw [6] (fun i wr => ∃ k : Nat, k ≤ t.length ∧ i = .int .i64 k ∧ Blk wr (w.heap.size + 1) 26 #[.int .u64 (fv (dotE t p k).a), .int .u64 (fv (dotE t p k).b)] ∧ Blk wr w.heap.size 26 #[.int .u64 0, .int .u64 0] ∧ Below w.heap.size w wr) (fun i _ => t.length - (intOf i).toNat)
  case atStart => exact ⟨0, Nat.zero_le _, rfl, b5, d1, hB3⟩
  case round =>
    obtain ⟨k, hk, rfl, bk, br, hB⟩ := hrel
    clear b5 d1 hB3
    by_cases hlt : k < t.length
    · obtain ⟨g, off, cap', hv, q1, q2, q3, q4, q5⟩ := exts_cells h1 (by omega)
      cases hv
      obtain ⟨x, hx, hxd⟩ := get_of hlt
      obtain ⟨d1, d2⟩ := q5 k x hx
      have c1 := gw_cell (W := wr) (Nat.lt_of_lt_of_le q4 hB.size) ((hB.cell (p := ⟨g, off + k * 2, none⟩) q4).trans d1)
      have c2 := gw_cell (W := wr) (Nat.lt_of_lt_of_le q4 hB.size) ((hB.cell (p := ⟨g, off + k * 2 + 1, none⟩) q4).trans d2)
      have c5 := gw_blk bk
      have h2r := Rd.keep h2 hB
      have HF := Lib.hid (dotE_succ t p k)
      rw [hxd] at HF
      have hk6 : k ≤ 1000000 := by omega
      clear q5 d1 d2 hx hxd h1 h2
      generalize dotE t p k = m at *
      go_wp2
      refine wp_region_rg 10 [(7, Spec.val (.agg #[.int .u64 (fv (eqi k p).a), .int .u64 (fv (eqi k p).b)])), (8, Spec.val (.agg #[.int .u64 (fv (x * eqi k p).a), .int .u64 (fv (x * eqi k p).b)])), (9, Spec.val (.agg #[.int .u64 (fv (m + x * eqi k p).a), .int .u64 (fv (m + x * eqi k p).b)]))] (by kernel_rfl) (by kernel_rfl) (by kernel_rfl) trivial ?_
      iterate 7 (refine rg_det rfl rfl rfl (fun K hK => ?_); go_big_quiet_op; refine hK _ ?_; clear hK K)
      refine rg_val rfl rfl (fun W1 hW1 hF => step_callv en_attestor_attestorref05_EqIndex (mEqIndexR k p hk6 hp _ lo2 hi2 W1 (Rd.keep h2r (grw_below hW1))) rfl rfl) ?_
      intro a' ha
      simp only [Act.put, List.setIfInBounds_toArray, List.set_cons_succ, List.set_cons_zero] at ha
      subst ha
      refine rg_val rfl rfl (fun W1 hW1 hF => step_callv en_attestor_attestorref02_Mul (xMul x (eqi k p) W1) rfl rfl) ?_
      intro a' ha
      simp only [Act.put, List.setIfInBounds_toArray, List.set_cons_succ, List.set_cons_zero] at ha
      subst ha
      refine rg_val rfl rfl (fun W1 hW1 hF => step_callv en_attestor_attestorref02_Add (xAdd m (x * eqi k p) W1) rfl rfl) ?_
      intro a' ha
      simp only [Act.put, List.setIfInBounds_toArray, List.set_cons_succ, List.set_cons_zero] at ha
      subst ha
      refine rg_nil (fun w' hw' hF => ?_)
      obtain ⟨z, rfl⟩ := hw'
      simp only [List.drop_succ_cons, List.drop_zero]
      have e1 := (bk.gw z).cell
      have e2 := (bk.gw z).frozen
      go_wp2
      exact ⟨⟨k + 1, by omega, by go_num, by rw [HF.out]; exact blk_set2 (bk.gw z), blk_far2 (br.gw z) hne, below_set2 (hB.trans (z.h.mono hB.size)) (by omega)⟩, by simp [intOf]; omega⟩
    · obtain rfl : k = t.length := by omega
      have e1 := bk.cell
      have e3 := br.cell
      have e4 := br.frozen
      go_wp2
      refine bodyPost_ret (v := .agg #[.int .u64 (fv (dotE t p t.length).a), .int .u64 (fv (dotE t p t.length).b)]) (by simp [results, Tryz.results41, go_sem, e3]) rfl ⟨rfl, ?_⟩
      exact below_set2 hB (Nat.le_refl _)
end Go.Proofs.YtkgglhakimkkhaaGreatDoor
namespace Go.Proofs.YtkgglhakimkkhaaGreatDoor
open Go.RowKit

theorem clm_info : (Tryz.prog.info? 42).map (fun i => (i.zero, i.size, i.bytes)) = some (some (.agg #[.slice none 0 0, .int .u64 0, .int .u64 0]), 3, 40) := by kernel_rfl
theorem clc_one (x : ClW) : ∀ u ∈ clc x, u.oneCell' = true := by
  intro u hu
  simp only [clc, ptV, List.mem_cons, List.not_mem_nil, or_false] at hu
  rcases hu with rfl | rfl | rfl <;> rfl
end Go.Proofs.YtkgglhakimkkhaaGreatDoor
namespace Go.Proofs.YtkgglhakimkkhaaGreatDoor
open Go.RowKit

set_option maxRecDepth 100000 in
set_option maxHeartbeats 2000000 in
theorem rMadeO (l : List Raw) (k : Nat) (hk : k ≤ 8) (v : Value) (N : Nat) (w : World) (hl : RawS 0 N w v l) (_hN : N ≤ w.heap.size) :
    Calls Tryz.prog 26 #[v, .int .i64 k] w (RetR (fun lo _ v w => w.ownsRow lo 26 2 v (2 ^ k) ((mdT l (2 ^ k)).flatMap ec)) w) := by
  obtain ⟨A, cap, rfl⟩ := hl.1.len
  have hlen := hl.1.2.1
  obtain ⟨n, hn⟩ : ∃ n, n = 2 ^ k := ⟨_, rfl⟩
  have hn1 : n ≤ 256 ∧ ((2 : Int) ^ k = (n : Int)) := by
    have := Nat.pow_le_pow_right (n := 2) (by decide) hk
    exact ⟨by rw [hn]; exact this, by rw [hn]; simp⟩
  obtain ⟨hn2, hn4⟩ := hn1
  have hw64 : wrap64 ((2 : Int) ^ k) = (n : Int) := by rw [hn4]; simp only [wrap64]; omega
  rw [← hn]
  clear hn hn4
  obtain ⟨i0, hi0, hz0, hz1, hz2⟩ := info_parts ext_info
  go_enter Tryz.func26, Tryz.ntmps26
  go_wp2
  go_loopw [5, 6] (fun v i wr => ∃ j : Nat, j ≤ n ∧ i = .int .i64 j ∧ wr.ownsRow w.heap.size 26 2 v j ((mdT l j).flatMap ec) ∧ Below w.heap.size w wr) (fun _ i _ => n - (intOf i).toNat)
  case atStart => exact ⟨0, Nat.zero_le _, rfl, ⟨by simp [mdT], .inr ⟨w.heap.size, 0, #[], rfl, Nat.le_refl _, World.alloc_heap_new w _, Nat.le_refl _, Nat.zero_le _, rfl, by simp [mdT]⟩⟩, (Below.refl _ _).alloc (Nat.le_refl _) _⟩
  case round =>
    obtain ⟨j, hj, rfl, hown, hB⟩ := hrel
    by_cases hlt : j < n
    · have hf : (mdT l (j + 1)).flatMap ec = (mdT l j).flatMap ec ++ ec (mdAt l j) := by rw [mdT_succ, List.flatMap_append]; simp
      have HF := Lib.hid hf
      have HA := Lib.hid (show mdAt l j = if l.length = 0 then eb (fz j) else madeAt l (j % l.length) + eb (fz ((j / l.length : Nat) : Int)) from rfl)
      clear hf
      go_wp2_with fail
      refine (xFromInt j (by omega) (by omega) _).mono ?_
      rintro e w2 ⟨he, hb⟩
      unfold ev at he
      subst he
      have hb2 : Below wr.heap.size wr w2 := hb
      by_cases h0 : l.length = 0
      · rw [if_pos h0] at HA
        have hd0 : decide ((0 : Int) < (l.length : Int)) = false := by simp [h0]
        have hd1 : ¬ ((0 : Int) < (l.length : Int)) := by omega
        clear h0
        generalize eb (fz (j : Int)) = y at *
        go_wp2_with (at_builtin; refine stop_in ?_)
        refine stop_out ?_
        refine stk2 (M := fun W => wpList _ _ _ _ _ W) fun W3 hB3 hz3 b7 b8 => ?_
        have hs3 := hB3.size
        have hs2 := hb2.size
        have hws := hB.size
        have hB23 := hb2.trans (hB3.mono hb2.size)
        refine wpList_app1 rfl _ _ rfl Tryz.underlying22 hi0 hz0 hz1 hz2 rfl (by decide) (cl := ec y) rfl (ec_one _) rfl rfl (own_below hown (Nat.le_refl _) hB23) b8 (by unfold maxLen; omega) (by omega) (by omega) ?_
        intro v1 w4 hown4 hgrow hB5
        go_wp2
        exact ⟨⟨j + 1, by omega, by go_num, by rw [HF.out, HA.out]; exact hown4, (hB.trans (hB23.mono hws)).trans hB5⟩, by simp [intOf]; omega⟩
      · rw [if_neg h0] at HA
        generalize eb (fz (j : Int)) = y at *
        have hr1 : j % l.length < l.length := Nat.mod_lt _ (by omega)
        have hr2 : j / l.length ≤ j := Nat.div_le_self _ _
        obtain ⟨p, hp⟩ : ∃ p, l[j % l.length]? = some p := ⟨l[j % l.length], List.getElem?_eq_getElem hr1⟩
        have hm : madeAt l (j % l.length) = em p.1 p.2 := by unfold madeAt; rw [hp]
        rw [hm] at HA
        obtain ⟨⟨p1, p2⟩, p3, p4⟩ := hl.2 p (List.mem_of_getElem? hp)
        obtain ⟨g, off, cap', hv, q1, q2, q3, q4, q5⟩ := raws_cells hl (by omega)
        cases hv
        obtain ⟨d1, d2⟩ := q5 _ p hp
        have ht1 : Int.tmod (j : Int) (l.length : Int) = ((j % l.length : Nat) : Int) := rfl
        have ht2 : Int.tdiv (j : Int) (l.length : Int) = ((j / l.length : Nat) : Int) := rfl
        have hpos : (0 : Int) < (l.length : Int) := by omega
        have hne0 : (l.length : Int) ≠ 0 := by omega
        generalize j % l.length = a at *
        generalize j / l.length = b at *
        go_wp2_with fail
        refine stk1 (M := fun W => Code.wp _ _ _ _ W) fun W3 hB3 hz3 b7 => ?_
        have hs3 := hB3.size
        have hs2 := hb2.size
        have hws := hB.size
        have hB23 := hb2.trans (hB3.mono hb2.size)
        have hBw3 := hB.trans (hB23.mono hws)
        have c1 := gw_cell (W := W3) (Nat.lt_of_lt_of_le q4 hBw3.size) ((hBw3.cell (p := ⟨g, off + a * 2, none⟩) q4).trans d1)
        have c2 := gw_cell (W := W3) (Nat.lt_of_lt_of_le q4 hBw3.size) ((hBw3.cell (p := ⟨g, off + a * 2 + 1, none⟩) q4).trans d2)
        clear q5 d1 d2 hp hl hm
        refine wp_region_rg 14 [(7, Spec.val (.agg #[.int .u64 (fv (em p.1 p.2).a), .int .u64 (fv (em p.1 p.2).b)])), (12, Spec.val (.agg #[.int .u64 (fv (eb (fz (b : Int))).a), .int .u64 (fv (eb (fz (b : Int))).b)])), (13, Spec.val (.agg #[.int .u64 (fv (em p.1 p.2 + eb (fz (b : Int))).a), .int .u64 (fv (em p.1 p.2 + eb (fz (b : Int))).b)]))] (by kernel_rfl) (by kernel_rfl) (by kernel_rfl) trivial ?_
        iterate 7 (refine rg_det rfl rfl rfl (fun K hK => ?_); go_big_quiet_op; refine hK _ ?_; clear hK K)
        refine rg_val rfl rfl (fun W1 hW1 hF => step_callv en_attestor_attestorref02_Made (xMade p.1 p.2 p1 p2 p3 p4 W1) rfl rfl) ?_
        intro a' ha
        simp only [Act.put, List.setIfInBounds_toArray, List.set_cons_succ, List.set_cons_zero] at ha
        subst ha
        iterate 4 (refine rg_det rfl rfl rfl (fun K hK => ?_); go_big_quiet_op; refine hK _ ?_; clear hK K)
        refine rg_val rfl rfl (fun W1 hW1 hF => step_callv en_attestor_attestorref02_FromInt (xFromInt (b : Int) (by omega) (by omega) W1) rfl rfl) ?_
        intro a' ha
        simp only [Act.put, List.setIfInBounds_toArray, List.set_cons_succ, List.set_cons_zero] at ha
        subst ha
        refine rg_val rfl rfl (fun W1 hW1 hF => step_callv en_attestor_attestorref02_Add (xAdd (em p.1 p.2) (eb (fz (b : Int))) W1) rfl rfl) ?_
        intro a' ha
        simp only [Act.put, List.setIfInBounds_toArray, List.set_cons_succ, List.set_cons_zero] at ha
        subst ha
        refine rg_nil (fun w' hw' hF => ?_)
        obtain ⟨z, rfl⟩ := hw'
        simp only [List.drop_succ_cons, List.drop_zero]
        clear hF c1 c2
        have b7z := b7.keep z.h
        have e1 := b7z.frozen
        have e2 := b7z.cell
        generalize em p.1 p.2 + eb (fz (b : Int)) = u at *
        go_wp2_with (at_builtin; refine stop_in ?_)
        refine stop_out ?_
        refine stk1 (M := fun W => wpList _ _ _ _ _ W) fun W5 hB5 hz5 b8 => ?_
        have bz1 := blk_set2 (c := .int .u64 (fv u.a)) (d := .int .u64 (fv u.b)) b7z
        have hzs := z.h.size
        have hBz : Below wr.heap.size wr ((z.w.setCell ⟨w2.heap.size, 0, none⟩ (.int .u64 (fv u.a))).setCell ⟨w2.heap.size, 1, none⟩ (.int .u64 (fv u.b))) := below_set2 (hB23.trans (z.h.mono (by omega))) (by omega)
        have hB6 := hBz.trans (hB5.mono hBz.size)
        have hs6 := hB6.size
        have hs7 : (((z.w.setCell ⟨w2.heap.size, 0, none⟩ (.int .u64 (fv u.a))).setCell ⟨w2.heap.size, 1, none⟩ (.int .u64 (fv u.b)))).heap.size = z.w.heap.size := by simp [World.setCell]
        rw [hs7] at b8
        refine wpList_app1 rfl _ _ rfl Tryz.underlying22 hi0 hz0 hz1 hz2 rfl (by decide) (cl := ec u) rfl (ec_one _) rfl rfl (own_below hown (Nat.le_refl _) hB6) b8 (by unfold maxLen; omega) (by omega) (by omega) ?_
        intro v1 w4 hown4 hgrow hB7
        go_wp2
        exact ⟨⟨j + 1, by omega, by go_num, by rw [HF.out, HA.out]; exact hown4, (hB.trans (hB6.mono hws)).trans hB7⟩, by simp [intOf]; omega⟩
    · obtain rfl : j = n := by omega
      go_wp2
      go_ret
      exact ⟨u5, rfl, hown, hB⟩
theorem pow_le8 {k : Nat} (hk : k ≤ 8) : 2 ^ k ≤ 140737488355327 := Nat.le_trans (Nat.pow_le_pow_right (by decide) hk) (by decide)
theorem rMade (l : List Raw) (k : Nat) (hk : k ≤ 8) (v : Value) (N : Nat) (w : World) (hl : RawS 0 N w v l) (hN : N ≤ w.heap.size) :
    Calls Tryz.prog 26 #[v, .int .i64 k] w (RetR (ExtA (mdT l (2 ^ k))) w) :=
  (rMadeO l k hk v N w hl hN).mono fun e w' ⟨v, h1, h2, h3⟩ => ⟨v, h1, exts_of_own h2 (mdT_length l _) (pow_le8 hk) (Nat.le_refl _), h3⟩
end Go.Proofs.YtkgglhakimkkhaaGreatDoor
