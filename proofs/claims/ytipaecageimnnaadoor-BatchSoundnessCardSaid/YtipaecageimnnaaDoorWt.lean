/-
  The iterator over the weights of a point's coordinates.
-/
import Derived.Test.YtipaecageimnnaaDoorCo
import Derived.RangeFuncNested
import Derived.RangeFuncBound
import Derived.RangeFuncCalls
import Derived.RangeFuncLeaves
import Derived.Shelf.Abstract
import Derived.Shelf.RegionOpen
import Derived.WalkKit
import Derived.OwnWalkIn
import Derived.TacticsInMore
import Derived.LoopNIn
import Derived.LoopIn
namespace Go.Proofs.YtipaecageimnnaaDoor
open Go.RowKit
attribute [local go_sem] Oper.semAt_some

/-- The blocks that a round must keep. -/
structure Keeps (S : Nat → Prop) (W W' : World) : Prop where
  size : W.heap.size ≤ W'.heap.size
  same : ∀ g, S g → g < W.heap.size → W'.heap[g]? = W.heap[g]?
theorem Keeps.refl {S : Nat → Prop} (W : World) : Keeps S W W := ⟨Nat.le_refl _, fun _ _ _ => rfl⟩
theorem Keeps.trans {S : Nat → Prop} {A B C : World} (h : Keeps S A B) (k : Keeps S B C) : Keeps S A C := ⟨Nat.le_trans h.size k.size, fun g hg hl => (k.same g hg (Nat.lt_of_lt_of_le hl h.size)).trans (h.same g hg hl)⟩
theorem Keeps.of_below {S : Nat → Prop} {A B : World} (h : Below A.heap.size A B) : Keeps S A B := ⟨h.size, fun g _ hl => h.block g hl⟩
theorem Keeps.cell {S : Nat → Prop} {A B : World} (h : Keeps S A B) {g i : Nat} {v : Value} (hg : S g) (hc : A.cell? ⟨g, i, none⟩ = some v) : B.cell? ⟨g, i, none⟩ = some v := by
  rcases Nat.lt_or_ge g A.heap.size with hl | hl
  · exact (World.cell?_of_block (w := A) (a := ⟨g, i, none⟩) (h.same g hg hl)).trans hc
  · simp only [World.cell?] at hc; rw [Array.getElem?_eq_none hl] at hc; cases hc
theorem Keeps.rd {S : Nat → Prop} {lo hi size n : Nat} {w w' : World} {v : Value} {cs : List Value} (h : Rd lo hi size w v n cs) (hk : Keeps S w w') (hS : ∀ g, lo ≤ g → g < hi → S g) : Rd lo hi size w' v n cs :=
  h.other hk.size fun g h1 h2 h3 => hk.same g (hS g h1 h2) h3
theorem grown_of_below {w w' : World} (h : Below w.heap.size w w') : w.grownBy w' none := ⟨h.os, h.tape, h.output, h.size, fun k hk _ => h.block k hk⟩
theorem below_of_grown {w w' : World} (h : w.grownBy w' none) : Below w.heap.size w w' := ⟨h.os, h.tape, h.output, h.size, fun k hk => h.block k hk (by simp)⟩
theorem abides {β : Type} {B : Nat} {J : β → World → Prop} (h : AbidesFrom B J) {s : β} {w w' : World} (hJ : J s w) (hb : Below w.heap.size w w') : J s w' := h s w w' none hJ (grown_of_below hb) (fun r e => by cases e)

theorem wpIn_stk1 {F : Fence} {n : Nat} {P : Program} {c : Code} {Q : Exit → Act → World → Prop} {a : Act} {w : World} {c1 : Array Value} {t1 : TypeId} (h : ∀ W, Below w.heap.size w W → Hid (W.heap.size = w.heap.size + 1) → Blk W (w.heap.size) t1 c1 → Code.wpIn F n P c Q a W) : Code.wpIn F n P c Q a (w.alloc (.cells c1 t1)) := stk1 (M := fun W => Code.wpIn F n P c Q a W) h
/-- The variable that holds one. -/
def Laid (w : World) : Prop := w.cell? ⟨0, 0, none⟩ = some (.int .u64 (fv (1 : E).a)) ∧ w.cell? ⟨0, 1, none⟩ = some (.int .u64 (fv (1 : E).b)) ∧ 0 < w.heap.size
theorem Laid.below {N : Nat} {w w' : World} (h : Laid w) (hb : Below N w w') (hN : 0 < N) : Laid w' := ⟨(hb.cell (p := ⟨0, 0, none⟩) hN).trans h.1, (hb.cell (p := ⟨0, 1, none⟩) hN).trans h.2.1, Nat.lt_of_lt_of_le h.2.2 hb.size⟩
theorem Laid.keep {w w' : World} (h : Laid w) (hb : Below w.heap.size w w') : Laid w' := h.below hb h.2.2

set_option maxRecDepth 100000 in
set_option maxHeartbeats 2000000 in
theorem wIter (p : List E) (v : Value) (n lo n0 Bs : Nat) (hn : 1 ≤ n) (w : World) (hp : ExtS lo n0 w v p) (hBs : w.cell? ⟨Bs, 0, none⟩ = some v) (h1 : Laid w) (hn0 : 0 < n0) (hw : n0 ≤ w.heap.size) (hB : Bs < w.heap.size) :
    SeqStopsK .wide n Tryd.prog 87 #[.pointer (some ⟨Bs, 0, none⟩)] (fun x : E => #[ev (1 - x), ev x]) (Keeps (fun g => g < n0)) (fun ys => ys = p) (fun _ => True) p.length w := fun l J Jx W hW hJ hJx hY h0 => by
  obtain ⟨A, cap, rfl⟩ := hp.len
  have hl0 := hp.2.1
  have hBs' := (hW.cell (p := ⟨Bs, 0, none⟩) hB).trans hBs
  have hp' := hp.below hW hw
  have h1' := h1.keep hW
  have hop := open_wide Tryd.prog
  refine callsIn_of_wp Tryd.func87 rfl trivial ?_ rfl
  simp only [Tryd.ntmps87, List.size_toArray, List.length_cons, List.length_nil, Nat.reduceAdd, Nat.reduceSub, Array.replicate_succ, Array.replicate_zero, List.push_toArray, List.append_toArray, List.nil_append, List.cons_append]
  gi_wp2
  gi_loopw [7] (fun i wr => ∃ k : Nat, k ≤ p.length ∧ i = .int .i64 k ∧ J (p.take k) wr ∧ Keeps (fun g => g < n0) W wr) (fun i _ => p.length - (intOf i).toNat)
  case atStart => exact ⟨0, Nat.zero_le _, rfl, by simpa using h0, Keeps.refl _⟩
  case round =>
    obtain ⟨k, hk, rfl, hJs, hnx⟩ := hrel
    by_cases hlt : k < p.length
    · obtain ⟨g, off, cap', hv, q1, q2, q3, q4, q5⟩ := exts_cells hp' (by omega)
      cases hv
      obtain ⟨x, hx⟩ : ∃ x, p[k]? = some x := ⟨p[k], List.getElem?_eq_getElem hlt⟩
      have d1 := hnx.cell q3 (q5 k x hx).1
      have d2 := hnx.cell q3 (q5 k x hx).2
      have o1 := hnx.cell hn0 h1'.1
      have o2 := hnx.cell hn0 h1'.2.1
      have hgz : 0 < wr.heap.size := Nat.lt_of_lt_of_le h1'.2.2 hnx.size
      have htk : p.take (k + 1) = p.take k ++ [x] := by rw [List.take_add_one, hx]; rfl
      have HT := Lib.hid htk
      have HY := Lib.hid hY
      have HJ := Lib.hid hJ
      clear q5 hx htk hY hJ hJx
      gi_wp2_with fail
      refine wpIn_stk1 fun W2 hBW hzW b1 => ?_
      have c1 := gw_blk b1
      have r1 := gw_cell (W := W2) (Nat.lt_of_lt_of_le hgz hBW.size) ((hBW.cell (p := ⟨0, 0, none⟩) hgz).trans o1)
      have r2 := gw_cell (W := W2) (Nat.lt_of_lt_of_le hgz hBW.size) ((hBW.cell (p := ⟨0, 1, none⟩) hgz).trans o2)
      refine wpIn_region_rg hop 5 [(3, Spec.val (.agg #[.int .u64 (fv (1 - x).a), .int .u64 (fv (1 - x).b)]))] (by kernel_rfl) (by kernel_rfl) (by kernel_rfl) trivial ?_
      refine rg_det rfl rfl rfl (fun K hK => ?_)
      go_big_quiet_op
      refine hK _ ?_; clear hK K
      refine rg_det rfl rfl rfl (fun K hK => ?_)
      go_big_quiet_op
      refine hK _ ?_; clear hK K
      refine rg_det rfl rfl rfl (fun K hK => ?_)
      go_big_quiet_op
      refine hK _ ?_; clear hK K
      refine rg_val rfl rfl (fun W1 hW1 hF => step_callv en_attestor_ext_Sub (eSub 1 x W1) rfl rfl) ?_
      intro a' ha
      simp only [Act.put, List.setIfInBounds_toArray, List.set_cons_succ, List.set_cons_zero] at ha
      subst ha
      refine rg_det rfl rfl rfl (fun K hK => ?_)
      go_big_quiet_op
      refine hK _ ?_; clear hK K
      refine rg_nil (fun w' hw' hF => ?_)
      obtain ⟨z, rfl⟩ := hw'
      simp only [List.drop_succ_cons, List.drop_zero]
      have hBz : Below wr.heap.size wr z.w := hBW.trans (z.h.mono hBW.size)
      have hJz := abides HJ.out hJs hBz
      obtain ⟨fn, tmps, assign, body, hy, hR⟩ := HY.out (p.take k) x z.w hJz (by rw [List.length_take]; omega)
      unfold ev at hy
      clear c1 r1 r2 o1 o2 d1 d2 hF
      gi_wp2
      refine hR.mono ?_
      rintro e W3 (⟨rfl, hJ3, hk3⟩ | ⟨rfl, hJx3⟩)
      · gi_wp2
        go_roundw
        case rel => exact ⟨k + 1, by omega, by go_num, by rw [HT.out]; exact hJ3, (hnx.trans (Keeps.of_below hBz)).trans hk3⟩
        case measure => simp [intOf]; omega
      · gi_wp2
        refine bodyPost_ret (results_none rfl _ _ _) rfl ?_
        exact ⟨⟨_, rfl⟩, .inr ⟨_, trivial, hJx3⟩⟩
    · obtain rfl : k = p.length := by omega
      gi_wp2
      go_end0
      exact ⟨⟨_, rfl⟩, .inl ⟨_, rfl, by simpa using hJs⟩⟩
end Go.Proofs.YtipaecageimnnaaDoor
