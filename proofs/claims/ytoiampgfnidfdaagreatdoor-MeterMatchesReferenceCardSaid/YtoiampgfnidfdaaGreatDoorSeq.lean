/-
  A range over an iterator whose rounds all go on: the law of the kit, cut to what the program's loops need; the loop variables lie in blocks of their own.
-/
import Derived.Test.YtoiampgfnidfdaaGreatDoorCo3
import Derived.RangeFuncNested
import Derived.RangeFuncBound
import Derived.RangeFuncCalls
import Derived.RangeFuncLeaves
import Derived.Shelf.Abstract
import Derived.Shelf.RegionOpen
import Derived.WalkKit
import Derived.OwnWalkIn
import Derived.TacticsInMore
import Derived.LoopNIn
import Derived.LoopIn
import Derived.Test.YtoiampgfnidfdaaGreatDoorEn
import Derived.Deep.Slices
import Derived.Test.YtoiampgfnidfdaaGreatDoorProg
import Derived.Laws.BitsAllLaws
import Derived.Test.YtoiampgfnidfdaaGreatDoorRg
import Derived.OrdersHeld
import Derived.Deep.MidRow
set_option maxRecDepth 100000
set_option maxHeartbeats 8000000
namespace Go.Proofs.YtoiampgfnidfdaaGreatDoor
open Go.RowKit
section
open Go.RowKit
attribute [local go_sem] Oper.semAt_some

structure Keeps (S : Nat → Prop) (W W' : World) : Prop where
 size : W.heap.size ≤ W'.heap.size
 same : ∀ g, S g → g < W.heap.size → W'.heap[g]? = W.heap[g]?
theorem Keeps.refl {S : Nat → Prop} (W : World) : Keeps S W W := ⟨Nat.le_refl _, fun _ _ _ => rfl⟩
theorem Keeps.trans {S : Nat → Prop} {A B C : World} (h : Keeps S A B) (k : Keeps S B C) : Keeps S A C := ⟨Nat.le_trans h.size k.size, fun g hg hl => (k.same g hg (Nat.lt_of_lt_of_le hl h.size)).trans (h.same g hg hl)⟩
theorem Keeps.of_below {S : Nat → Prop} {A B : World} (h : Below A.heap.size A B) : Keeps S A B := ⟨h.size, fun g _ hl => h.block g hl⟩
theorem Keeps.cell {S : Nat → Prop} {A B : World} (h : Keeps S A B) {g i : Nat} {v : Value} (hg : S g) (hc : A.cell? ⟨g, i, none⟩ = some v) : B.cell? ⟨g, i, none⟩ = some v := by
 rcases Nat.lt_or_ge g A.heap.size with hl | hl
 · exact (World.cell?_of_block (w := A) (a := ⟨g, i, none⟩) (h.same g hg hl)).trans hc
 · simp only [World.cell?] at hc; rw [Array.getElem?_eq_none hl] at hc; cases hc
theorem Keeps.rd {S : Nat → Prop} {lo hi size n : Nat} {w w' : World} {v : Value} {cs : List Value} (h : Rd lo hi size w v n cs) (hk : Keeps S w w') (hS : ∀ g, lo ≤ g → g < hi → S g) : Rd lo hi size w' v n cs :=
 h.other hk.size fun g h1 h2 h3 => hk.same g (hS g h1 h2) h3
theorem J45 {w w' : World} (h : Below w.heap.size w w') : w.grownBy w' none := ⟨h.os, h.tape, h.output, h.size, fun k hk _ => h.block k hk⟩
theorem J8y {w w' : World} (h : w.grownBy w' none) : Below w.heap.size w w' := ⟨h.os, h.tape, h.output, h.size, fun k hk => h.block k hk (by simp)⟩
theorem abides {β : Type} {B : Nat} {J : β → World → Prop} (h : AbidesFrom B J) {s : β} {w w' : World} (hJ : J s w) (hb : Below w.heap.size w w') : J s w' := h s w w' none hJ (J45 hb) (fun r e => by cases e)

theorem Jhj {F : Fence} {n : Nat} {P : Program} {c : Code} {Q : Exit → Act → World → Prop} {a : Act} {w : World} {c1 : Array Value} {t1 : TypeId} (h : ∀ W, Below w.heap.size w W → Hid (W.heap.size = w.heap.size + 1) → Blk W (w.heap.size) t1 c1 → Code.wpIn F n P c Q a W) : Code.wpIn F n P c Q a (w.alloc (.cells c1 t1)) := stk1 (M := fun W => Code.wpIn F n P c Q a W) h
def Laid (w : World) : Prop := w.cell? ⟨1, 0, none⟩ = some (.int .u64 (fv (1 : E).a)) ∧ w.cell? ⟨1, 1, none⟩ = some (.int .u64 (fv (1 : E).b)) ∧ 1 < w.heap.size
theorem Laid.below {N : Nat} {w w' : World} (h : Laid w) (hb : Below N w w') (hN : 1 < N) : Laid w' := ⟨(hb.cell (p := ⟨1, 0, none⟩) hN).trans h.1, (hb.cell (p := ⟨1, 1, none⟩) hN).trans h.2.1, Nat.lt_of_lt_of_le h.2.2 hb.size⟩
theorem Laid.keep {w w' : World} (h : Laid w) (hb : Below w.heap.size w w') : Laid w' := h.below hb h.2.2

theorem wIter (p : List E) (v : Value) (n lo n0 Bs : Nat) (hn : 1 ≤ n) (w : World) (hp : ExtS lo n0 w v p) (hBs : w.cell? ⟨Bs, 0, none⟩ = some v) (h1 : Laid w) (hn0 : 1 < n0) (hw : n0 ≤ w.heap.size) (hB : Bs < w.heap.size) :
  SeqStopsK .wide n Tryz.prog 163 #[.pointer (some ⟨Bs, 0, none⟩)] (fun x : E => #[ev (1 - x), ev x]) (Keeps (fun g => g < n0)) (fun ys => ys = p) (fun _ => True) p.length w := fun l J Jx W hW hJ hJx hY h0 => by
 obtain ⟨A, cap, rfl⟩ := hp.len
 have hl0 := hp.2.1
 have hBs' := (hW.cell (p := ⟨Bs, 0, none⟩) hB).trans hBs
 have hp' := hp.below hW hw
 have h1' := h1.keep hW
 have hop := J3n Tryz.prog
 refine callsIn_of_wp Tryz.func163 rfl trivial ?_ rfl
 simp only [Tryz.ntmps163, List.size_toArray, List.length_cons, List.length_nil, Nat.reduceAdd, Nat.reduceSub, Array.replicate_succ, Array.replicate_zero, List.push_toArray, List.append_toArray, List.nil_append, List.cons_append]
 gi_wp2
 gi_loopw [7] (fun i wr => ∃ k : Nat, k ≤ p.length ∧ i = .int .i64 k ∧ J (p.take k) wr ∧ Keeps (fun g => g < n0) W wr) (fun i _ => p.length - (intOf i).toNat)
 case atStart => exact ⟨0, Nat.zero_le _, rfl, by simpa using h0, Keeps.refl _⟩
 case round =>
  obtain ⟨k, hk, rfl, hJs, hnx⟩ := hrel
  by_cases hlt : k < p.length
  ·
   obtain ⟨g, off, cap', hv, q1, q2, q3, q4, q5⟩ := J32 hp' (by omega)
   cases hv
   obtain ⟨x, hx⟩ : ∃ x, p[k]? = some x := ⟨p[k], List.getElem?_eq_getElem hlt⟩
   have d1 := hnx.cell q3 (q5 k x hx).1
   have d2 := hnx.cell q3 (q5 k x hx).2
   have o1 := hnx.cell hn0 h1'.1
   have o2 := hnx.cell hn0 h1'.2.1
   have hgz : 1 < wr.heap.size := Nat.lt_of_lt_of_le h1'.2.2 hnx.size
   have htk : p.take (k + 1) = p.take k ++ [x] := by rw [List.take_add_one, hx]; rfl
   have HT := Lib.hid htk
   have HY := Lib.hid hY
   have HJ := Lib.hid hJ
   clear q5 hx htk hY hJ hJx
   gi_wp2_with fail
   refine Jhj fun W2 hBW hzW b1 => ?_
   have c1 := gw_blk b1
   have r1 := Je (W := W2) (Nat.lt_of_lt_of_le hgz hBW.size) ((hBW.cell (p := ⟨1, 0, none⟩) hgz).trans o1)
   have r2 := Je (W := W2) (Nat.lt_of_lt_of_le hgz hBW.size) ((hBW.cell (p := ⟨1, 1, none⟩) hgz).trans o2)
   refine Jbx hop 5 [(3, Spec.val (.agg #[.int .u64 (fv (1 - x).a), .int .u64 (fv (1 - x).b)]))] (by kernel_rfl) (by kernel_rfl) (by kernel_rfl) trivial ?_
   iterate 3 (refine rg_det rfl rfl rfl (fun K hK => ?_); go_big_quiet_op; refine hK _ ?_; clear hK K)
   refine rg_val rfl rfl (fun W1 hW1 hF => J7 J6k (eSub 1 x W1) rfl rfl) ?_
   intro a' ha
   simp only [PutS] at ha
   subst ha
   refine rg_det rfl rfl rfl (fun K hK => ?_)
   go_big_quiet_op
   refine hK _ ?_; clear hK K
   refine rg_nil (fun w' hw' hF => ?_)
   obtain ⟨z, rfl⟩ := hw'
   simp only [List.drop_succ_cons, List.drop_zero]
   have hBz : Below wr.heap.size wr z.w := hBW.trans (z.h.mono hBW.size)
   have hJz := abides HJ.out hJs hBz
   obtain ⟨fn, tmps, assign, body, hy, hR⟩ := HY.out (p.take k) x z.w hJz (by rw [List.length_take]; omega)
   unfold ev at hy
   clear c1 r1 r2 o1 o2 d1 d2 hF
   gi_wp2
   refine hR.mono ?_
   rintro e W3 (⟨rfl, hJ3, hk3⟩ | ⟨rfl, hJx3⟩)
   ·
    gi_wp2
    go_roundw
    case rel => exact ⟨k + 1, by omega, by go_num, by rw [HT.out]; exact hJ3, (hnx.trans (Keeps.of_below hBz)).trans hk3⟩
    case measure => simp [intOf]; omega
   ·
    gi_wp2
    refine bodyPost_ret (results_none rfl _ _ _) rfl ?_
    exact ⟨⟨_, rfl⟩, .inr ⟨_, trivial, hJx3⟩⟩
  ·
   obtain rfl : k = p.length := by omega
   gi_wp2
   go_end0
   exact ⟨⟨_, rfl⟩, .inl ⟨_, rfl, by simpa using hJs⟩⟩
end
section
open Go.ChangeShapes Go.WideShapes Go.RowKit

theorem wf_i64 {z : Int} (h : (Lit.int .i64 z).wf = true) : Num z := by
 simp only [Lit.wf, Bool.and_eq_true, decide_eq_true_eq] at h
 have e1 : IntKind.i64.min = -9223372036854775808 := rfl
 have e2 : IntKind.i64.max = 9223372036854775807 := rfl
 rw [e1, e2] at h
 exact ⟨h.1, by omega⟩
theorem wf_u8 {z : Int} (h : (Lit.int .u8 z).wf = true) : 0 ≤ z ∧ z < 256 := by
 simp only [Lit.wf, Bool.and_eq_true, decide_eq_true_eq] at h
 have e1 : IntKind.u8.min = 0 := rfl
 have e2 : IntKind.u8.max = 255 := rfl
 rw [e1, e2] at h
 exact ⟨h.1, by omega⟩

theorem J4w {P : Program} {W : World} {n : Nat} {t : TypeId} {k : IntKind} {cs : List Value} (ht : P.underlying t = some (.int k)) (h : Okd P W n t cs) : ∃ z, cs = [.int k z] ∧ (Lit.int k z).wf = true := by
 cases n with
 | zero => exact h.elim
 | succ n => unfold Okd at h; rw [ht] at h; exact h
def FParts (P : Program) (W : World) (m : Nat) (cs : List Value) : List Field → Prop
 | [] => True
 | f :: fs => Okd P W m f.type ((cs.drop f.offset).take (P.cellsOf f.type)) ∧ FParts P W m cs fs
theorem Jcg {P : Program} {W : World} {m : Nat} {cs : List Value} : ∀ {fs : List Field}, (∀ (i : Nat) (f : Field), fs[i]? = some f → Okd P W m f.type ((cs.drop f.offset).take (P.cellsOf f.type))) → FParts P W m cs fs
 | [], _ => trivial
 | f :: _, h => ⟨h 0 f rfl, Jcg fun i g hg => h (i + 1) g (by simpa using hg)⟩
theorem J7f {P : Program} {W : World} {n : Nat} {t : TypeId} {fs : List Field} {cs : List Value} (ht : P.underlying t = some (.struct fs.toArray)) (h : Okd P W n t cs) :
  cs.length = P.cellsOf t ∧ ∃ m, FParts P W m cs fs := by
 cases n with
 | zero => exact h.elim
 | succ n => unfold Okd at h; rw [ht] at h; exact ⟨h.1, n, Jcg fun i f hf => h.2 i f (by simpa using hf)⟩
theorem Jhk {P : Program} {W : World} {n : Nat} {t e : TypeId} {m : Nat} {cs : List Value} (ht : P.underlying t = some (.array m e)) (h : Okd P W n t cs) :
  cs.length = P.cellsOf t ∧ ∃ q, ∀ i, i < m → Okd P W q e ((cs.drop (i * P.cellsOf e)).take (P.cellsOf e)) := by
 cases n with
 | zero => exact h.elim
 | succ n => unfold Okd at h; rw [ht] at h; exact ⟨h.1, n, h.2⟩
theorem Jhl {P : Program} {W : World} {α : Type} (f : α → List Value) (Pp : α → Prop) {size : Nat} (h0 : 0 < size) (hf : ∀ x, (f x).length = size) {n : Nat} {t e : TypeId} {cs : List Value} (ht : P.underlying t = some (.slice e)) (hc : P.cellsOf e = size)
  (hb : 1 ≤ P.bytesOf e) (he : ∀ n cs, Okd P W n e cs → ∃ x, Pp x ∧ cs = f x) (h : Okd P W n t cs) : ∃ v, cs = [v] ∧ ∃ xs : List α, Rd 0 W.heap.size size W v xs.length (xs.flatMap f) ∧ ∀ x ∈ xs, Pp x := by
 cases n with
 | zero => exact h.elim
 | succ n =>
  unfold Okd at h
  rw [ht] at h
  rcases h with rfl | ⟨a, len, cap, rfl, hl, hcap, hel⟩
  · exact ⟨_, rfl, ([] : List α), by simpa using rd_nil 0 W.heap.size size W none 0, fun x hx => absurd hx (by simp)⟩
  ·
   have key : ∀ k, k ≤ len → ∃ xs : List α, xs.length = k ∧ (∀ x ∈ xs, Pp x) ∧ ∀ i x, xs[i]? = some x → W.cells? 0 (a.add (i * size)) size = some (f x) := by
    intro k
    induction k with
    | zero => exact fun _ => ⟨[], rfl, fun x hx => absurd hx (by simp), fun i x hx => absurd hx (by simp)⟩
    | succ k ih =>
     intro hk
     obtain ⟨xs, q1, q2, q3⟩ := ih (by omega)
     obtain ⟨cs', r1, r2⟩ := hel k (by omega)
     obtain ⟨x, r3, rfl⟩ := he _ _ r2
     rw [hc] at r1
     refine ⟨xs ++ [x], by simp [q1], fun y hy => ?_, fun i y hy => ?_⟩
     ·
      rcases List.mem_append.1 hy with h | h
      · exact q2 y h
      · rw [List.mem_singleton.1 h]; exact r3
     ·
      rcases Nat.lt_or_ge i xs.length with hi | hi
      · rw [List.getElem?_append_left hi] at hy; exact q3 i y hy
      ·
       rw [List.getElem?_append_right hi] at hy
       have : i - xs.length = 0 := by
        rcases Nat.eq_zero_or_pos (i - xs.length) with h | h
        · exact h
        · rw [List.getElem?_eq_none (by simp; omega)] at hy; cases hy
       rw [this] at hy
       simp only [List.getElem?_cons_zero, Option.some.injEq] at hy
       subst hy
       rw [show i = k by omega]
       exact r1
   obtain ⟨xs, q1, q2, q3⟩ := key len (Nat.le_refl _)
   refine ⟨_, rfl, xs, ⟨Jz hf xs, ?_, some a, cap, by rw [q1], by omega, fun hp => ?_⟩, q2⟩
   ·
    have h1 : cap * 1 ≤ cap * P.bytesOf e := Nat.mul_le_mul_left _ hb
    have : reachBytes = 140737488351232 := rfl
    omega
   ·
    obtain ⟨g, off, spot⟩ := a
    have cell : ∀ i x, xs[i]? = some x → ∀ r, r < size → W.cell? (Addr.add ⟨g, off, spot⟩ (i * size + r)) = (f x)[r]? := by
     intro i x hx r hr
     have := (World.cells?_some (q3 i x hx)).2.2 r hr
     rwa [Go.Deep.add_add] at this
    obtain ⟨x0, hx0⟩ : ∃ x, xs[0]? = some x := ⟨xs[0], List.getElem?_eq_getElem hp⟩
    have c0 := cell 0 x0 hx0 0 h0
    rw [List.getElem?_eq_getElem (by rw [hf]; exact h0)] at c0
    simp only [Nat.zero_mul, Nat.add_zero, Addr.add, if_true] at c0
    have hs : spot = none := by
     cases spot with
     | none => rfl
     | some s => simp only [World.cell?] at c0; split at c0 <;> simp at c0
    subst hs
    have hg : g < W.heap.size := by
     rcases Nat.lt_or_ge g W.heap.size with h | h
     · exact h
     · simp only [World.cell?] at c0; rw [Array.getElem?_eq_none h] at c0; cases c0
    refine ⟨g, off, rfl, Nat.zero_le _, hg, hg, fun j u hu => ?_⟩
    have hj : j < xs.length * size := by rw [← Jz hf xs]; exact (List.getElem?_eq_some_iff.1 hu).1
    have hi : j / size < xs.length := by rw [Nat.div_lt_iff_lt_mul h0]; exact hj
    obtain ⟨x, hx⟩ : ∃ x, xs[j / size]? = some x := ⟨xs[j / size], List.getElem?_eq_getElem hi⟩
    have hr := Nat.mod_lt j h0
    have c1 := cell _ x hx (j % size) hr
    have hjj : j / size * size + j % size = j := Nat.div_add_mod' j size
    rw [hjj] at c1
    have hu2 := J1l hf xs (j / size) (j % size) x _ hx (List.getElem?_eq_getElem (by rw [hf]; exact hr))
    rw [hjj, hu] at hu2
    rw [List.getElem?_eq_getElem (by rw [hf]; exact hr), ← hu2] at c1
    rw [← c1]
    unfold Addr.add
    by_cases hj0 : j = 0
    · subst hj0; simp
    · simp [hj0]

theorem gOneV : Tryz.prog.globalNamed "attestor/mle.one" = some 1 := by kernel_rfl
theorem tOneV : (Tryz.prog.globals[1]?).map (·.type) = some 86 := by kernel_rfl
theorem Jit {W : World} {g0 t0 : Nat} {cs0 : Array Value} {f0 : Nat} {p0 : List MemPlace} (hg0 : Tryz.prog.globalNamed "attestor/mle.one" = some g0) (ht0 : (Tryz.prog.globals[g0]?).map (·.type) = some t0) (hv0 : W.var? Tryz.prog "attestor/mle.one" = some cs0)
  (hd0 : DataW.trod (fun _ => ()) Tryz.prog W 0 (fun _ => true) false f0 t0 cs0.toList = some (Rows.laid_attestor_mle_one, p0)) : Laid W := by
 obtain rfl := Option.some.inj (gOneV.symm.trans hg0)
 obtain rfl := Option.some.inj (tOneV.symm.trans ht0)
 obtain ⟨xs, m, _, hx, h1, h2, h3⟩ := DataW.trod_struct Tryz.underlying86 hd0
 have c1 : Tryz.prog.cellsOf 86 = 2 := by kernel_rfl
 have c2 : Tryz.prog.cellsOf 32 = 1 := by kernel_rfl
 rw [c1] at h1
 obtain ⟨l⟩ := cs0
 simp only at h1 h3
 match l, h1, xs, h2, hx, h3 with
 | [a, b], _, [y0, y1], _, hx, h3 =>
  have k0 : DataW.trod (fun _ => ()) Tryz.prog W 0 (fun _ => true) false m 32 (List.take (Tryz.prog.cellsOf 32) (List.drop 0 [a, b])) = some y0 := h3 0 _ rfl
  have k1 : DataW.trod (fun _ => ()) Tryz.prog W 0 (fun _ => true) false m 32 (List.take (Tryz.prog.cellsOf 32) (List.drop 1 [a, b])) = some y1 := h3 1 _ rfl
  rw [c2] at k0 k1
  simp only [List.drop_zero, List.take_succ_cons, List.take_zero, List.drop_succ_cons] at k0 k1
  obtain ⟨x, e1, e2, _⟩ := DataW.trod_int Tryz.underlying32 k0
  obtain ⟨y, e3, e4, _⟩ := DataW.trod_int Tryz.underlying32 k1
  simp only [List.cons.injEq, and_true] at e1 e3
  subst e1; subst e3
  rw [e2, e4] at hx
  simp only [Rows.laid_attestor_mle_one, List.map_cons, List.map_nil, Prod.mk.injEq, DataW.agg.injEq, List.cons.injEq, DataW.lit.injEq, Lit.int.injEq, true_and, and_true] at hx
  obtain ⟨⟨hx1, hx2⟩, _⟩ := hx
  have q1 := World.var?_cell gOneV hv0 0
  have q2 := World.var?_cell gOneV hv0 1
  simp only [List.getElem?_toArray, List.getElem?_cons_zero, List.getElem?_cons_succ] at q1 q2
  refine ⟨by rw [q1, ← hx1]; rfl, by rw [q2, ← hx2]; rfl, ?_⟩
  rcases Nat.lt_or_ge 1 W.heap.size with h | h
  · exact h
  · simp only [World.cell?] at q1; rw [Array.getElem?_eq_none h] at q1; cases q1
end
section

abbrev B32 := BitVec 32
def bv (x : B32) : Int := (x.toNat : Int)
theorem bv_lt (x : B32) : 0 ≤ bv x ∧ bv x < 4294967296 := ⟨Int.natCast_nonneg _, by unfold bv; have := x.isLt; omega⟩
theorem Jb4 (n : Nat) (h : n < 4294967296) : bv (BitVec.ofNat 32 n) = (n : Int) := by
 unfold bv
 rw [BitVec.toNat_ofNat, Nat.mod_eq_of_lt (by omega)]
theorem bv_and (x y : B32) : bits .and .u32 (bv x) (bv y) = bv (x &&& y) := by
 unfold bv
 rw [u32_and_nat _ _ (by have := x.isLt; omega) (by have := y.isLt; omega), BitVec.toNat_and]
theorem bv_or (x y : B32) : bits .or .u32 (bv x) (bv y) = bv (x ||| y) := by
 unfold bv
 rw [u32_or_nat _ _ (by have := x.isLt; omega) (by have := y.isLt; omega), BitVec.toNat_or]
theorem bv_xor (x y : B32) : bits .xor .u32 (bv x) (bv y) = bv (x ^^^ y) := by
 unfold bv
 rw [u32_xor_nat _ _ (by have := x.isLt; omega) (by have := y.isLt; omega), BitVec.toNat_xor]
theorem bv_add (x y : B32) : IntKind.u32.wrap (bv x + bv y) = bv (x + y) := by
 unfold bv
 rw [IntKind.wrap_u32', BitVec.toNat_add]
 omega
theorem bv_not (x : B32) : IntKind.u32.wrap (4294967295 - bv x) = bv (~~~x) := by
 unfold bv
 rw [IntKind.wrap_u32', BitVec.toNat_not]
 have := x.isLt
 omega
theorem bv_shr (x : B32) (n : Nat) : bv x / 2 ^ n = bv (x >>> n) := by
 unfold bv
 rw [BitVec.toNat_ushiftRight, Nat.shiftRight_eq_div_pow]
 simp
theorem bv_shl (x : B32) (n : Nat) : IntKind.u32.wrap (bv x * 2 ^ n) = bv (x <<< n) := by
 unfold bv
 rw [IntKind.wrap_u32', BitVec.toNat_shiftLeft, Nat.shiftLeft_eq]
 have : ((x.toNat : Int) * 2 ^ n) = ((x.toNat * 2 ^ n : Nat) : Int) := by simp
 rw [this]
 omega
def rotr (x : B32) (n : Nat) : B32 := x >>> n ||| x <<< (32 - n)
def sg0 (x : B32) : B32 := rotr x 7 ^^^ rotr x 18 ^^^ x >>> 3
def sg1 (x : B32) : B32 := rotr x 17 ^^^ rotr x 19 ^^^ x >>> 10
def schN (m : List B32) : Nat → List B32
 | 0 => m
 | k + 1 => schN m k ++ [(schN m k).getD k 0 + sg0 ((schN m k).getD (k + 1) 0) + (schN m k).getD (k + 9) 0 + sg1 ((schN m k).getD (k + 14) 0)]
theorem J8r (m : List B32) : ∀ k, (schN m k).length = m.length + k
 | 0 => rfl
 | k + 1 => by rw [schN, List.length_append, J8r m k]; rfl
def word4 (b : List Nat) (i : Nat) : B32 := BitVec.ofNat 32 (b.getD (4 * i) 0 * 16777216 + b.getD (4 * i + 1) 0 * 65536 + b.getD (4 * i + 2) 0 * 256 + b.getD (4 * i + 3) 0)
def words16 (b : List Nat) (k : Nat) : List B32 := (List.range k).map (word4 b)
theorem J6o (b : List Nat) (k : Nat) : (words16 b k).length = k := by simp [words16]
theorem Jdt (b : List Nat) (k : Nat) : words16 b (k + 1) = words16 b k ++ [word4 b k] := by simp [words16, List.range_succ]
def sched (b : List Nat) : List B32 := schN (words16 b 16) 48
theorem J1i (b : List Nat) : (sched b).length = 64 := by unfold sched; rw [J8r, J6o]
def kTab : List Nat := [0x428a2f98, 0x71374491, 0xb5c0fbcf, 0xe9b5dba5, 0x3956c25b, 0x59f111f1, 0x923f82a4, 0xab1c5ed5,
 0xd807aa98, 0x12835b01, 0x243185be, 0x550c7dc3, 0x72be5d74, 0x80deb1fe, 0x9bdc06a7, 0xc19bf174,
 0xe49b69c1, 0xefbe4786, 0x0fc19dc6, 0x240ca1cc, 0x2de92c6f, 0x4a7484aa, 0x5cb0a9dc, 0x76f988da,
 0x983e5152, 0xa831c66d, 0xb00327c8, 0xbf597fc7, 0xc6e00bf3, 0xd5a79147, 0x06ca6351, 0x14292967,
 0x27b70a85, 0x2e1b2138, 0x4d2c6dfc, 0x53380d13, 0x650a7354, 0x766a0abb, 0x81c2c92e, 0x92722c85,
 0xa2bfe8a1, 0xa81a664b, 0xc24b8b70, 0xc76c51a3, 0xd192e819, 0xd6990624, 0xf40e3585, 0x106aa070,
 0x19a4c116, 0x1e376c08, 0x2748774c, 0x34b0bcb5, 0x391c0cb3, 0x4ed8aa4a, 0x5b9cca4f, 0x682e6ff3,
 0x748f82ee, 0x78a5636f, 0x84c87814, 0x8cc70208, 0x90befffa, 0xa4506ceb, 0xbef9a3f7, 0xc67178f2]
def kTabB : List B32 := kTab.map (BitVec.ofNat 32)
theorem Jf3 : kTab.length = 64 := by decide
structure S8 where
 a : B32
 b : B32
 c : B32
 d : B32
 e : B32
 f : B32
 g : B32
 h : B32
def S8.cells (s : S8) : List Value := [.int .u32 (bv s.a), .int .u32 (bv s.b), .int .u32 (bv s.c), .int .u32 (bv s.d), .int .u32 (bv s.e), .int .u32 (bv s.f), .int .u32 (bv s.g), .int .u32 (bv s.h)]
def bs1 (e : B32) : B32 := rotr e 6 ^^^ rotr e 11 ^^^ rotr e 25
def bs0 (a : B32) : B32 := rotr a 2 ^^^ rotr a 13 ^^^ rotr a 22
def chE (e f g : B32) : B32 := e &&& f ^^^ ~~~e &&& g
def maj (a b c : B32) : B32 := a &&& b ||| a &&& c ||| b &&& c
def tOne (k w : B32) (s : S8) : B32 := s.h + bs1 s.e + chE s.e s.f s.g + k + w
def rnd (k w : B32) (s : S8) : S8 := ⟨tOne k w s + (bs0 s.a + maj s.a s.b s.c), s.a, s.b, s.c, s.d + tOne k w s, s.e, s.f, s.g⟩
theorem Jle (a b c : B32) : a &&& b ^^^ a &&& c ^^^ b &&& c = maj a b c := by
 unfold maj
 ext i hi
 simp only [BitVec.getElem_xor, BitVec.getElem_and, BitVec.getElem_or]
 cases a[i] <;> cases b[i] <;> cases c[i] <;> rfl
def rndK (b : List Nat) (s : S8) : Nat → S8
 | 0 => s
 | k + 1 => rnd (kTabB.getD k 0) ((sched b).getD k 0) (rndK b s k)
def S8.add (s v : S8) : S8 := ⟨s.a + v.a, s.b + v.b, s.c + v.c, s.d + v.d, s.e + v.e, s.f + v.f, s.g + v.g, s.h + v.h⟩
def comp (s : S8) (b : List Nat) : S8 := s.add (rndK b s 64)
def init8 : S8 := ⟨0x6a09e667, 0xbb67ae85, 0x3c6ef372, 0xa54ff53a, 0x510e527f, 0x9b05688c, 0x1f83d9ab, 0x5be0cd19⟩
def padZ (n : Nat) : Nat := (119 - n % 64) % 64
def lenB (n : Nat) : List Nat := (List.range 8).map fun i => n * 8 / 2 ^ (56 - 8 * i) % 256
def pad (b : List Nat) : List Nat := b ++ 128 :: List.replicate (padZ b.length) 0 ++ lenB b.length
theorem J9a (b : List Nat) : (pad b).length = b.length + 1 + padZ b.length + 8 := by
 unfold pad lenB
 simp only [List.length_append, List.length_cons, List.length_replicate, List.length_map, List.length_range]
 omega
theorem pad_64 (b : List Nat) : (pad b).length % 64 = 0 := by
 rw [J9a]
 unfold padZ
 omega
def blk64 (p : List Nat) (i : Nat) : List Nat := (p.drop (64 * i)).take 64
def shaK (p : List Nat) : Nat → S8
 | 0 => init8
 | k + 1 => comp (shaK p k) (blk64 p k)
def digK (s : S8) (i : Nat) : Nat := ([s.a, s.b, s.c, s.d, s.e, s.f, s.g, s.h].getD (i / 4) 0).toNat / 2 ^ (24 - 8 * (i % 4)) % 256
def digL (s : S8) : List Nat := (List.range 32).map (digK s)
theorem J1q (s : S8) : (digL s).length = 32 := by simp [digL]
theorem Jlf (s : S8) : ∀ x ∈ digL s, x < 256 := fun x hx => by
 obtain ⟨i, _, rfl⟩ := List.mem_map.1 hx
 unfold digK
 omega
def sha (b : List Nat) : List Nat := digL (shaK (pad b) ((pad b).length / 64))
theorem Js (b : List Nat) : (sha b).length = 32 := J1q _
theorem sha_lt (b : List Nat) : ∀ x ∈ sha b, x < 256 := Jlf _
def byc (l : List Nat) : List Value := l.map fun x : Nat => Value.int .u8 (x : Int)
theorem J3 (l : List Nat) : (byc l).length = l.length := by simp [byc]
theorem J8z (l m : List Nat) : byc (l ++ m) = byc l ++ byc m := by simp [byc]
theorem J4e (l : List Nat) : ∀ u ∈ byc l, u.oneCell' = true := fun u hu => by
 obtain ⟨x, _, rfl⟩ := List.mem_map.1 hu
 rfl
end
section

theorem J6p (n : Nat) : padZ n < 64 := Nat.mod_lt _ (by decide)
theorem Jdu (n z : Nat) (h : z ≤ padZ n) : (n + 1 + z) % 64 = 56 ↔ z = padZ n := by
 have := J6p n
 unfold padZ at *
 omega
def lastB (b : List Nat) : List Nat := b.drop (b.length / 64 * 64) ++ 128 :: List.replicate (padZ b.length) 0 ++ lenB b.length
theorem Jf4 (n : Nat) : (lenB n).length = 8 := by simp [lenB]
theorem Ja0 (b : List Nat) : pad b = b.take (b.length / 64 * 64) ++ lastB b := by
 unfold pad lastB
 rw [← List.append_assoc, ← List.append_assoc, List.take_append_drop]
theorem Ja1 (b : List Nat) : (lastB b).length = b.length % 64 + 1 + padZ b.length + 8 := by
 unfold lastB
 simp only [List.length_append, List.length_cons, List.length_replicate, List.length_drop, Jf4]
 omega
theorem Jiu (b : List Nat) : (lastB b).length % 64 = 0 ∧ 64 ≤ (lastB b).length ∧ (lastB b).length ≤ 136 := by
 rw [Ja1]
 unfold padZ
 omega
theorem Jb5 (b : List Nat) : (b.take (b.length / 64 * 64)).length = 64 * (b.length / 64) := by
 rw [List.length_take]
 omega
theorem Jlg (b : List Nat) (i : Nat) (h : i < b.length / 64) : blk64 (pad b) i = (b.drop (64 * i)).take 64 := by
 unfold blk64
 rw [Ja0]
 apply List.ext_getElem?
 intro j
 by_cases hj : j < 64
 · rw [List.getElem?_take, if_pos hj, List.getElem?_take, if_pos hj, List.getElem?_drop, List.getElem?_drop, List.getElem?_append_left (by rw [Jb5]; omega), List.getElem?_take, if_pos (by omega)]
 · rw [List.getElem?_take, if_neg hj, List.getElem?_take, if_neg hj]
theorem Jiv (b : List Nat) (i : Nat) : blk64 (pad b) (b.length / 64 + i) = blk64 (lastB b) i := by
 unfold blk64
 rw [Ja0, List.drop_append, Jb5, List.drop_eq_nil_of_le (by rw [Jb5]; omega), List.nil_append]
 congr 2
 omega
theorem Jhm (b : List Nat) : (pad b).length / 64 = b.length / 64 + (lastB b).length / 64 := by
 rw [J9a, Ja1]
 unfold padZ
 omega
theorem Jlh (n : Nat) : ∀ x ∈ lenB n, x < 256 := fun x hx => by
 obtain ⟨i, _, rfl⟩ := List.mem_map.1 hx
 exact Nat.mod_lt _ (by decide)
theorem Jiw (b : List Nat) (h : ∀ x ∈ b, x < 256) : ∀ x ∈ lastB b, x < 256 := fun x hx => by
 unfold lastB at hx
 simp only [List.mem_append, List.mem_cons] at hx
 rcases hx with (hx | hx | hx) | hx
 · exact h x (List.mem_of_mem_drop hx)
 · omega
 · rw [List.eq_of_mem_replicate hx]; decide
 · exact Jlh _ x hx
theorem pad_lt (b : List Nat) (h : ∀ x ∈ b, x < 256) : ∀ x ∈ pad b, x < 256 := fun x hx => by
 rw [Ja0] at hx
 rcases List.mem_append.1 hx with hx | hx
 · exact h x (List.mem_of_mem_take hx)
 · exact Jiw b h x hx
/-! ### Transcripts -/
def w8 (x : Nat) : List Nat := (List.range 8).map fun i => x / 2 ^ (8 * i) % 256
def le8 (b : List Nat) (o : Nat) : Nat → Nat
 | 0 => 0
 | k + 1 => le8 b o k * 256 + b.getD (o + (7 - k)) 0
theorem le8_lt (b : List Nat) (h : ∀ x ∈ b, x < 256) (o : Nat) : ∀ k, le8 b o k < 256 ^ k
 | 0 => Nat.one_pos
 | k + 1 => by
  have h1 := le8_lt b h o k
  have h2 : b.getD (o + (7 - k)) 0 < 256 := by
   rw [List.getD_eq_getElem?_getD]
   cases hx : b[o + (7 - k)]? with
   | none => decide
   | some x => exact h x (List.mem_of_getElem? hx)
  rw [le8, Nat.pow_succ]
  omega
end

def u32c (l : List B32) : List Value := l.map fun x : B32 => Value.int .u32 (bv x)
def arrN (n : Nat) (l : List B32) : List Value := u32c (l ++ List.replicate (n - l.length) 0)
theorem Jb6 (n : Nat) (l : List B32) (i : Nat) (x : B32) (h : l[i]? = some x) : (arrN n l)[i]? = some (.int .u32 (bv x)) := by
 have hi := (List.getElem?_eq_some_iff.1 h).1
 unfold arrN u32c
 rw [List.getElem?_map, List.getElem?_append_left hi, h]
 rfl
theorem Ja2 (n : Nat) (l : List B32) (h : l.length < n) : (arrN n l)[l.length]? = some (.int .u32 0) := by
 unfold arrN u32c
 rw [List.getElem?_map, List.getElem?_append_right (Nat.le_refl _), Nat.sub_self, List.getElem?_replicate, if_pos (by omega)]
 rfl
theorem Jb7 (n : Nat) (l : List B32) (x : B32) (h : l.length < n) : (arrN n l).set l.length (.int .u32 (bv x)) = arrN n (l ++ [x]) := by
 unfold arrN u32c
 rw [← List.map_set, List.set_append_right _ _ (Nat.le_refl _), Nat.sub_self]
 obtain ⟨k, hk⟩ : ∃ k, n - l.length = k + 1 := ⟨n - l.length - 1, by omega⟩
 rw [hk, List.replicate_succ, List.set_cons_zero, List.length_append, List.append_assoc]
 rw [show n - (l.length + [x].length) = k by simp; omega]
 rfl
theorem Jch (n : Nat) (l : List B32) (h : l.length = n) : arrN n l = u32c l := by
 unfold arrN
 rw [h, Nat.sub_self, List.replicate_zero, List.append_nil]
def arrB (n : Nat) (l : List Nat) : List Value := byc (l ++ List.replicate (n - l.length) 0)
theorem J8i (n : Nat) (l : List Nat) (h : l.length < n) : (arrB n l)[l.length]? = some (.int .u8 0) := by
 unfold arrB byc
 rw [List.getElem?_map, List.getElem?_append_right (Nat.le_refl _), Nat.sub_self, List.getElem?_replicate, if_pos (by omega)]
 rfl
theorem J9b (n : Nat) (l : List Nat) (x : Nat) (h : l.length < n) : (arrB n l).set l.length (.int .u8 (x : Int)) = arrB n (l ++ [x]) := by
 unfold arrB byc
 rw [show (Value.int .u8 (x : Int)) = (fun x : Nat => Value.int .u8 (x : Int)) x from rfl, ← List.map_set, List.set_append_right _ _ (Nat.le_refl _), Nat.sub_self]
 obtain ⟨k, hk⟩ : ∃ k, n - l.length = k + 1 := ⟨n - l.length - 1, by omega⟩
 rw [hk, List.replicate_succ, List.set_cons_zero, List.length_append, List.append_assoc]
 rw [show n - (l.length + [x].length) = k by simp; omega]
 rfl
theorem J8j (n : Nat) (l : List Nat) (h : l.length = n) : arrB n l = byc l := by
 unfold arrB
 rw [h, Nat.sub_self, List.replicate_zero, List.append_nil]
def dgv (l : List Nat) : Value := .agg (byc l).toArray
def ByS (lo hi : Nat) (w : World) (v : Value) (l : List Nat) : Prop := Rd lo hi 1 w v l.length (byc l)
theorem ByS.len {lo hi : Nat} {w : World} {v : Value} {l : List Nat} (h : ByS lo hi w v l) : ∃ A cap, v = .slice A l.length cap := Rd.len h
theorem ByS.keep {lo hi : Nat} {w X : World} {v : Value} {l : List Nat} (h : ByS lo hi w v l) (hb : Below w.heap.size w X) : ByS lo hi X v l := Rd.keep h hb
theorem J4n {lo hi : Nat} {w : World} {v : Value} {l : List Nat} (h : ByS lo hi w v l) (h0 : 0 < l.length) : ∃ g off cap, v = .slice (some ⟨g, off, none⟩) l.length cap ∧ l.length ≤ cap ∧ lo ≤ g ∧ g < hi ∧ g < w.heap.size ∧ ∀ (k : Nat) (x : Nat), l[k]? = some x → w.cell? ⟨g, off + k, none⟩ = some (.int .u8 (x : Int)) := by
 obtain ⟨g, off, cap, q1, q2, q3, q4, q5, q6⟩ := Rd.form h h0
 exact ⟨g, off, cap, q1, q2, q3, q4, q5, fun k x hx => q6 k _ (by unfold byc; rw [List.getElem?_map, hx]; rfl)⟩
theorem Jby {lo hi : Nat} {w : World} {g off cap : Nat} {l : List Nat} (h : ByS lo hi w (.slice (some ⟨g, off, none⟩) l.length cap) l) (i k cap' : Nat) (hi' : i + k ≤ l.length) (hk : 0 < k) (hc : k ≤ cap') : ByS lo hi w (.slice (some ⟨g, off + i, none⟩) k cap') ((l.drop i).take k) := by
 obtain ⟨g', off', c', hv, q2, q3, q4, q5, q6⟩ := J4n h (by omega)
 cases hv
 have hl : ((l.drop i).take k).length = k := by rw [List.length_take, List.length_drop]; omega
 have hsm := h.2.1
 unfold ByS
 refine ⟨by rw [J3, hl, Nat.mul_one], by omega, some ⟨g, off + i, none⟩, cap', by rw [hl], by omega, fun _ => ⟨g, off + i, rfl, q3, q4, q5, fun j u hu => ?_⟩⟩
 unfold byc at hu
 rw [List.getElem?_map] at hu
 cases hx : ((l.drop i).take k)[j]? with
 | none => rw [hx] at hu; cases hu
 | some x =>
  rw [hx, Option.map_some, Option.some.injEq] at hu
  subst hu
  have hj := (List.getElem?_eq_some_iff.1 hx).1
  rw [hl] at hj
  rw [List.getElem?_take, if_pos hj, List.getElem?_drop] at hx
  rw [Nat.add_assoc]
  exact q6 (i + j) x hx
section
def fn (k : Nat) : Fp := Fin.ofNat PP k
end
section

/-! ### Powers -/
def rpow {n : Nat} [NeZero n] (a : Fin n) : Nat → Fin n
 | 0 => 1
 | k + 1 => rpow a k * a
section
variable {n : Nat} [NeZero n]
theorem Jhn (a : Fin n) : rpow a 0 = 1 := rfl
theorem Jci (a : Fin n) (k : Nat) : rpow a (k + 1) = rpow a k * a := rfl
theorem Jix (a : Fin n) (j : Nat) : ∀ k, rpow a (j + k) = rpow a j * rpow a k
 | 0 => by rw [Nat.add_zero, Jhn, Fin.mul_one]
 | k + 1 => by rw [← Nat.add_assoc, Jci, Jci, Jix a j k, Fin.mul_assoc]
end
/-! ### Pigeonholes -/
/-! ### The modulus -/
/-! ### Fermat -/
end
section

theorem Jiy (i k : Nat) (x : E) : sel i (k + 1) x = sel (i / 2) k x := by
 unfold sel
 rw [Nat.pow_succ', ← Nat.div_div_eq_div_mul]
theorem Jfn (r : E) (p : List E) (i : Nat) : ∀ k, wt (r :: p) i (k + 1) = sel i 0 r * wt p (i / 2) k
 | 0 => by
  show 1 * sel i 0 r = sel i 0 r * 1
  rw [E.mul_one, E.one_mul]
 | k + 1 => by
  rw [wt, Jfn r p i k, wt, E.mul_assoc, Jiy]
  rfl
theorem Jfo (i : Nat) : eqi i [] = 1 := rfl
theorem J9c (i : Nat) (r : E) (p : List E) : eqi i (r :: p) = sel i 0 r * eqi (i / 2) p := Jfn r p i p.length
theorem Jiz (i : Nat) (r : E) : sel (2 * i) 0 r = 1 - r := by unfold sel; rw [if_neg (by simp)]
theorem Jli (i : Nat) (r : E) : sel (2 * i + 1) 0 r = r := by unfold sel; rw [if_pos (by simp)]
def bindL : List E → E → List E
 | x :: y :: t, r => (x + r * (y - x)) :: bindL t r
 | _, _ => []
def evalL : List E → List E → List E
 | t, [] => t
 | t, r :: p => evalL (bindL t r) p
theorem J7v (r : E) : ∀ (n : Nat) (t : List E), t.length = 2 * n → (bindL t r).length = n
 | 0, [], _ => rfl
 | n + 1, x :: y :: t, h => by
  show (bindL t r).length + 1 = n + 1
  rw [J7v r n t (by simp only [List.length_cons] at h; omega)]
 | 0, _ :: _, h => by simp at h
 | n + 1, [], h => by simp at h
 | n + 1, [_], h => by simp at h; omega
theorem Jdv : ∀ (p t : List E), t.length = 2 ^ p.length → (evalL t p).length = 1
 | [], t, h => by simpa [evalL] using h
 | r :: p, t, h => by
  rw [evalL]
  refine Jdv p _ (J7v r _ t ?_)
  rw [h, List.length_cons, Nat.pow_succ']
def mev (t p : List E) : E := (evalL t p).headD 0
def dotF (p : List E) : Nat → List E → E
 | _, [] => 0
 | s, x :: t => x * eqi s p + dotF p (s + 1) t
theorem Jdw (r : E) (p : List E) : ∀ (n : Nat) (t : List E) (s : Nat), t.length = 2 * n → dotF (r :: p) (2 * s) t = dotF p s (bindL t r)
 | 0, [], _, _ => rfl
 | n + 1, x :: y :: t, s, h => by
  rw [dotF, dotF, bindL, dotF, show 2 * s + 1 + 1 = 2 * (s + 1) by omega, Jdw r p n t (s + 1) (by simp only [List.length_cons] at h; omega), J9c, J9c, Jiz, Jli, show 2 * s / 2 = s by omega, show (2 * s + 1) / 2 = s by omega]
  generalize dotF p (s + 1) (bindL t r) = d
  generalize eqi s p = m
  apply E.ext_ <;> simp only [mul_a, mul_b, add_a, add_b, sub_a, sub_b, one_a, one_b] <;> grind
 | 0, _ :: _, _, h => by simp at h
 | n + 1, [], _, h => by simp at h
 | n + 1, [_], _, h => by simp at h; omega
theorem Jfp : ∀ (p t : List E), t.length = 2 ^ p.length → mev t p = dotF p 0 t
 | [], t, h => by
  match t, h with
  | [x], _ =>
   show x = x * 1 + 0
   rw [E.mul_one, E.add_zero]
 | r :: p, t, h => by
  have h2 : t.length = 2 * 2 ^ p.length := by rw [h, List.length_cons, Nat.pow_succ']
  show mev (bindL t r) p = _
  rw [Jfp p _ (J7v r _ t h2), ← Jdw r p _ t 0 h2]
def dotE (t p : List E) (j : Nat) : E := esum ((List.range j).map fun i => t.getD i 0 * eqi i p)
theorem Jcj (p : List E) : ∀ (t : List E) (s : Nat), dotF p s t = esum ((List.range t.length).map fun i => t.getD i 0 * eqi (s + i) p)
 | [], _ => rfl
 | x :: t, s => by
  rw [dotF, Jcj p t (s + 1), List.length_cons, List.range_succ_eq_map, List.map_cons, List.map_map]
  show _ = x * eqi (s + 0) p + esum _
  rw [Nat.add_zero]
  congr 2
  apply List.map_congr_left
  intro i _
  simp only [Function.comp, List.getD_cons_succ]
  rw [show s + (i + 1) = s + 1 + i by omega]
theorem Jj0 (t p : List E) (h : t.length = 2 ^ p.length) : dotE t p t.length = mev t p := by
 rw [Jfp p t h, Jcj]
 unfold dotE
 congr 1
 apply List.map_congr_left
 intro i _
 rw [Nat.zero_add]
end
section

section
variable {α : Type}
theorem Jdx (f g : α → E) : ∀ l : List α, esum (l.map fun x => f x + g x) = esum (l.map f) + esum (l.map g)
 | [] => by simp only [List.map_nil, esum, E.add_zero]
 | x :: l => by
  simp only [List.map_cons, esum]
  rw [Jdx f g l]
  generalize esum (l.map f) = a
  generalize esum (l.map g) = b
  apply E.ext_ <;> simp only [add_a, add_b] <;> grind
theorem J9s (f : α → E) : ∀ (l : List α), (∀ t ∈ l, f t = 0) → esum (l.map f) = 0
 | [], _ => rfl
 | t :: l, h => by
  show f t + esum (l.map f) = 0
  rw [h t (List.mem_cons_self ..), J9s f l (fun t ht => h t (List.mem_cons_of_mem _ ht)), E.add_zero]
theorem Jat (f : Nat → E) (j : Nat) : ∀ n, esum ((List.range n).map fun i => if j = i then f i else 0) = if j < n then f j else 0
 | 0 => rfl
 | n + 1 => by
  rw [List.range_succ, List.map_append, Jas, Jat f j n]
  show _ + ((if j = n then f n else 0) + 0) = _
  rw [E.add_zero]
  rcases Nat.lt_trichotomy j n with h | h | h
  · rw [if_pos h, if_neg (by omega), if_pos (by omega), E.add_zero]
  · subst h; rw [if_neg (by omega), if_pos rfl, if_pos (by omega), E.zero_add]
  · rw [if_neg (by omega), if_neg (by omega), if_neg (by omega), E.add_zero]
end
theorem Jbz (t p : List E) (h : t.length = 2 ^ p.length) : mev t p = esum ((List.range (2 ^ p.length)).map fun i => t.getD i 0 * eqi i p) := by
 rw [← Jj0 t p h, ← h]; rfl
end
section

theorem Jfq (t p : List E) (a : Nat) (d : E) (h : t.length = 2 ^ p.length) (ha : a < 2 ^ p.length) : mev (t.set a (t.getD a 0 + d)) p = mev t p + d * eqi a p := by
 rw [Jbz t p h, Jbz _ p (by rw [List.length_set]; exact h)]
 have e : (List.range (2 ^ p.length)).map (fun i => (t.set a (t.getD a 0 + d)).getD i 0 * eqi i p) = (List.range (2 ^ p.length)).map fun i => t.getD i 0 * eqi i p + (if a = i then d * eqi i p else 0) := by
  apply List.map_congr_left
  intro i hi
  have hi' : i < t.length := by rw [h]; exact List.mem_range.1 hi
  by_cases hai : a = i
  ·
   subst hai
   rw [if_pos rfl]
   simp only [List.getD_eq_getElem?_getD, List.getElem?_set_self hi', Option.getD_some]
   exact E.add_mul _ _ _
  ·
   rw [if_neg hai, E.add_zero]
   simp only [List.getD_eq_getElem?_getD, List.getElem?_set_ne hai]
 rw [e, Jdx, Jat (fun i => d * eqi i p), if_pos ha]
theorem Jj1 (n : Nat) (p : List E) (h : n = 2 ^ p.length) : mev (List.replicate n 0) p = 0 := by
 rw [Jbz _ p (by simp [h])]
 apply J9s
 intro i hi
 have : i < n := by rw [h]; exact List.mem_range.1 hi
 simp only [List.getD_eq_getElem?_getD, List.getElem?_replicate, this, if_true, Option.getD_some]
 exact E.zero_mul _
/-! ### Finite differences -/
end
section
open Go Go.RowKit

def sinkL (ops : Array Oper) (n : Nat) (L : List Nat) : Bool := (List.range n).all fun i => L.contains i || (List.range (n + 1)).any fun j => decide (i < j) && Region.waitsFor .any ops j i
section
variable {P : Program} {ops : Array Oper} {n : Nat} {B : List Nat} {Sp : List (Nat × Spec)} {C : World → Prop} {N0 : Nat} {a0 : Act}
theorem J34 {listed : Array Bool} {i : Nat} (h : listed.getD i true = false) : listed.getD i false = false := by
 rcases Nat.lt_or_ge i listed.size with h' | h'
 · simp [h'] at h ⊢; exact h
 · simp [Array.getElem?_eq_none h'] at h
theorem Jf5 {L : List Nat} {listed : Array Bool} (hs : sinkL ops n L = true) (hc : Region.chainB .any ops n = true) (hn : n < ops.size) (inv : HeadInv .any ops n listed) (hL : ∀ i ∈ L, i < n → listed.getD i true = true) :
  ∀ (d i : Nat), n - i = d → i < n → listed.getD i true = false → ∀ t, n ≤ t → t ∉ Region.ready .any ops listed := by
 intro d
 induction d using Nat.strongRecOn with
 | _ d ih =>
  intro i hd hi hun t ht hr
  obtain ⟨_, ot, hot, hall⟩ := mem_ready.1 hr
  have htlt : t < ops.size := (Array.getElem?_eq_some_iff.1 hot).1
  have h1 := List.all_eq_true.1 hs i (List.mem_range.2 hi)
  have hiL : ¬ i ∈ L := fun h => by have := hL i h hi; rw [this] at hun; cases hun
  simp only [Bool.or_eq_true, List.contains_iff_mem, hiL, false_or, List.any_eq_true, List.mem_range, Bool.and_eq_true, decide_eq_true_eq] at h1
  obtain ⟨j, hj, hij, hw⟩ := h1
  obtain ⟨oj, hoj, e, he, hb, hon⟩ := Region.waitsFor_spec hw
  by_cases hjn : j = n
  ·
   subst hjn
   by_cases htj : t = j
   ·
    subst htj
    obtain rfl : ot = oj := Option.some.inj (hot.symm.trans hoj)
    have := hall e he hb
    rw [hon, J34 hun] at this
    cases this
   ·
    have h2 := List.all_eq_true.1 hc t (List.mem_range.2 htlt)
    simp only [Bool.or_eq_true, decide_eq_true_eq] at h2
    rcases h2 with h2 | h2
    · omega
    ·
     obtain ⟨o2, ho2, e2, he2, hb2, hon2⟩ := Region.waitsFor_spec h2
     obtain rfl : ot = o2 := Option.some.inj (hot.symm.trans ho2)
     have := hall e2 he2 hb2
     rw [hon2, J34 (inv.tail (t - 1) (by omega) (by omega))] at this
     cases this
  ·
   have hjun : listed.getD j true = false := by
    cases hjl : listed.getD j false with
    | true =>
     have := inv.closed j oj hoj hjl e he hb
     rw [hon, J34 hun] at this
     cases this
    | false =>
     have hjs : j < listed.size := by rw [inv.size]; omega
     simp [hjs] at hjl ⊢
     exact hjl
   exact ih (n - j) (by omega) j rfl (by omega) hjun t ht hr
end

end
section
open Go.RowKit
attribute [local go_sem] Oper.semAt_some

theorem wWeights (A : Option Addr) (k cap : Nat) (w : World) : Calls Tryz.prog 148 #[.slice A k cap] w fun e w' => e = .returned (.func (.func 163) #[] #[.pointer (some ⟨w.heap.size, 0, none⟩)]) ∧ w' = w.alloc (.cells #[.slice A k cap] 78) := by
 go_enter Tryz.func148, Tryz.ntmps148
 go_wp2
 go_ret
 exact ⟨rfl, rfl⟩
end

theorem J1j {W W' : World} (h : Below W.heap.size W W') : KeepsOthers W W' :=
 ⟨h.size, fun k _ hk _ => (h.block k (Array.getElem?_eq_some_iff.1 hk).1).trans hk⟩
theorem J9d {W W' : World} {row : Option Nat} (h : W.grownBy W' row) (hr : ∀ j o, row = some j → W.heap[j]? = some o → o.isCells = true) : KeepsOthers W W' :=
 KeepsOthers.of_grownBy h hr
theorem J3l {β : Type} {B g : Nat} {t : TypeId} {cs : Array Value} : OwnFrom B (fun (_ : β) W => Blk W g t cs) := fun s W W' row hs hg hr =>
 (hg.block g hs.lt (fun e => by
  obtain ⟨_, o, ho, hc⟩ := hr g e.symm
  rw [show W.heap[g]? = _ from hs] at ho; cases ho; cases hc)).trans hs

def boxAct {α : Type} (p1 p2 : Tmp) (e1 e2 : α → Value) (a : Act) (x : α) : Array Value := (a.tmps.setIfInBounds p1 (e1 x)).setIfInBounds p2 (e2 x)
theorem Ja3 {α : Type} (p1 p2 : Tmp) (e1 e2 : α → Value) (a : Act) (x : α) : ((#[p1, p2] : Array Tmp).zip (#[e1 x, e2 x] : Array Value)).foldl (fun t (p, v) => t.setIfInBounds p v) a.tmps = boxAct p1 p2 e1 e2 a x := by
 simp [boxAct]

theorem Jn6 {α : Type} {n : Nat} {P : Program} {g : Operand} {p1 p2 : Tmp} {assign body : Code} {Q : Exit → Act → World → Prop} {a : Act} {w : World} {gf : Nat} {lb : Array Value} {e1 e2 : α → Value} {S : Nat → Prop} {xs : List α} {N : Nat}
  (hseq : SeqStopsK .wide (n - 1) P gf lb (fun x => #[e1 x, e2 x]) (Keeps S) (fun ys => ys = xs) (fun _ => True) N w) (h1 : 1 ≤ n) (hg : a.eval g = .func (.func gf) #[] lb) (eg : ∀ args w, (callFunc gf args).run P w = .ok (.enter gf args) w)
  (hS : ∀ g, S g → g < w.heap.size) (I : List α → World → Prop) (hI : OwnFrom w.heap.size I) (hIs : ∀ pre W, I pre W → w.heap.size ≤ W.heap.size) (h0 : I [] w) (slot : Tmp) (t : TypeId) (cx : α → Array Value)
  (hassign : ∀ (l : Nat) (x : α) (W : World) (K : Act → World → Prop), (∀ a' W', a' = { tmps := (boxAct p1 p2 e1 e2 a x).setIfInBounds slot (.pointer (some ⟨W.heap.size, 0, none⟩)), defers := [] } → W' = W.alloc (.cells (cx x) t) → K a' W') →
   assign.wpIn (Fence.wide.inRound l) (n - 1 - 1) P (Exit.then K (fun _ _ _ => False)) { tmps := boxAct p1 p2 e1 e2 a x, defers := [] } W)
  (hbody : ∀ (l : Nat) (pre : List α) (x : α) (Bx : Nat) (W : World) (a' : Act), a' = { tmps := (boxAct p1 p2 e1 e2 a x).setIfInBounds slot (.pointer (some ⟨Bx, 0, none⟩)), defers := [] } → I pre W → w.heap.size ≤ Bx → Blk W Bx t (cx x) → pre.length < N →
   body.wpIn (Fence.wide.inRound l) (n - 1 - 1) P (fun e _ W' => e = .normal ∧ KeepsOthers W W' ∧ Keeps S W W' ∧ I (pre ++ [x]) W') a' W)
  (hdone : ∀ (D : Nat) (W : World), w.heap.size ≤ D → I xs W → W.heap[D]? = some (.deferred (some [])) → Q .normal { a with defers := { target := .collected D, args := #[] } :: a.defers } W) :
  (Code.rangeFunc g #[p1, p2] assign body).wpIn .wide n P Q a w := by
 refine wpIn_rangeFunc_ownH rfl h1 hg trivial eg hseq (fun h k => h.trans k) ?_ (Below.refl _ _) (fun _ => rfl) I (fun _ _ _ => False) hI (fun _ _ _ _ _ h _ _ => h) h0
  (fun x a' W => ∃ Bx, w.heap.size ≤ Bx ∧ Blk W Bx t (cx x) ∧ a' = { tmps := (boxAct p1 p2 e1 e2 a x).setIfInBounds slot (.pointer (some ⟨Bx, 0, none⟩)), defers := [] }) ?_ ?_ ?_ ?_ ?_
 ·
  intro W l o o' hl h _ _
  exact ⟨by simp, fun g hg _ => World.putObj_heap_other (by have := hS g hg; omega)⟩
 ·
  rintro x a' s W W' row ⟨Bx, h2, h3, h4⟩ hg hr
  exact ⟨Bx, h2, J3l (β := Unit) () W W' row h3 hg hr, h4⟩
 ·
  intro l pre x W K hi hK
  rw [Ja3]
  refine hassign l x W K ?_
  rintro a' W' ha rfl
  have hb : Below W.heap.size W (W.alloc (.cells (cx x) t)) := (Below.refl _ _).alloc (Nat.le_refl _) _
  exact hK a' _ ((J1j hb).from _) (Keeps.of_below hb) (hI _ _ _ none hi (J45 hb) (fun r e => by cases e)) ⟨W.heap.size, hIs _ _ hi, Blk.new _ _ _, ha⟩
 ·
  rintro l pre x a' W _ _ hi ⟨Bx, h2, h3, h4⟩ hlt
  refine wpIn_mono (hbody l pre x Bx W a' h4 hi h2 h3 hlt) ?_
  rintro e a2 W2 ⟨rfl, hk, hk2, hi2⟩
  exact ⟨hk.from _, hk2, hi2⟩
 ·
  rintro D ys W hD rfl hi hK
  exact hdone D W hD hi hK
 ·
  rintro D c pre W _ _ h _
  exact h.elim
theorem Jho {α : Type} {n : Nat} {P : Program} {g : Operand} {p1 p2 : Tmp} {assign body : Code} {Q : Exit → Act → World → Prop} {a : Act} {w : World} {gf : Nat} {lb : Array Value} {e1 e2 : α → Value} {S : Nat → Prop} {xs : List α} {N : Nat}
  (hseq : SeqStopsK .wide (n - 1) P gf lb (fun x => #[e1 x, e2 x]) (Keeps S) (fun ys => ys = xs) (fun _ => True) N w) (h1 : 1 ≤ n) (hg : a.eval g = .func (.func gf) #[] lb) (eg : ∀ args w, (callFunc gf args).run P w = .ok (.enter gf args) w)
  (hS : ∀ g, S g → g < w.heap.size) (I : List α → World → Prop) (hI : OwnFrom w.heap.size I) (hIs : ∀ pre W, I pre W → w.heap.size ≤ W.heap.size) (h0 : I [] w) (slot : Tmp) (t : TypeId) (cx : α → Array Value) (slot2 : Tmp) (t2 : TypeId) (cx2 : α → Array Value)
  (hassign : ∀ (l : Nat) (x : α) (W : World) (K : Act → World → Prop), (∀ a' W', a' = { tmps := ((boxAct p1 p2 e1 e2 a x).setIfInBounds slot (.pointer (some ⟨W.heap.size, 0, none⟩))).setIfInBounds slot2 (.pointer (some ⟨W.heap.size + 1, 0, none⟩)), defers := [] } → W' = (W.alloc (.cells (cx x) t)).alloc (.cells (cx2 x) t2) → K a' W') →
   assign.wpIn (Fence.wide.inRound l) (n - 1 - 1) P (Exit.then K (fun _ _ _ => False)) { tmps := boxAct p1 p2 e1 e2 a x, defers := [] } W)
  (hbody : ∀ (l : Nat) (pre : List α) (x : α) (Bx : Nat) (W : World) (a' : Act), a' = { tmps := ((boxAct p1 p2 e1 e2 a x).setIfInBounds slot (.pointer (some ⟨Bx, 0, none⟩))).setIfInBounds slot2 (.pointer (some ⟨Bx + 1, 0, none⟩)), defers := [] } → I pre W → w.heap.size ≤ Bx → Blk W Bx t (cx x) → Blk W (Bx + 1) t2 (cx2 x) → pre.length < N →
   body.wpIn (Fence.wide.inRound l) (n - 1 - 1) P (fun e _ W' => e = .normal ∧ KeepsOthers W W' ∧ Keeps S W W' ∧ I (pre ++ [x]) W') a' W)
  (hdone : ∀ (D : Nat) (W : World), w.heap.size ≤ D → I xs W → W.heap[D]? = some (.deferred (some [])) → Q .normal { a with defers := { target := .collected D, args := #[] } :: a.defers } W) :
  (Code.rangeFunc g #[p1, p2] assign body).wpIn .wide n P Q a w := by
 refine wpIn_rangeFunc_ownH rfl h1 hg trivial eg hseq (fun h k => h.trans k) ?_ (Below.refl _ _) (fun _ => rfl) I (fun _ _ _ => False) hI (fun _ _ _ _ _ h _ _ => h) h0
  (fun x a' W => ∃ Bx, w.heap.size ≤ Bx ∧ Blk W Bx t (cx x) ∧ Blk W (Bx + 1) t2 (cx2 x) ∧ a' = { tmps := ((boxAct p1 p2 e1 e2 a x).setIfInBounds slot (.pointer (some ⟨Bx, 0, none⟩))).setIfInBounds slot2 (.pointer (some ⟨Bx + 1, 0, none⟩)), defers := [] }) ?_ ?_ ?_ ?_ ?_
 ·
  intro W l o o' hl h _ _
  exact ⟨by simp, fun g hg _ => World.putObj_heap_other (by have := hS g hg; omega)⟩
 ·
  rintro x a' s W W' row ⟨Bx, h2, h3, h3', h4⟩ hg hr
  exact ⟨Bx, h2, J3l (β := Unit) () W W' row h3 hg hr, J3l (β := Unit) () W W' row h3' hg hr, h4⟩
 ·
  intro l pre x W K hi hK
  rw [Ja3]
  refine hassign l x W K ?_
  rintro a' W' ha rfl
  have hb : Below W.heap.size W ((W.alloc (.cells (cx x) t)).alloc (.cells (cx2 x) t2)) := ((Below.refl _ _).alloc (Nat.le_refl _) _).alloc (by simp) _
  exact hK a' _ ((J1j hb).from _) (Keeps.of_below hb) (hI _ _ _ none hi (J45 hb) (fun r e => by cases e)) ⟨W.heap.size, hIs _ _ hi, (Blk.new _ _ _).alloc _, Blk.new_at _ _ _ (by simp), ha⟩
 ·
  rintro l pre x a' W _ _ hi ⟨Bx, h2, h3, h3', h4⟩ hlt
  refine wpIn_mono (hbody l pre x Bx W a' h4 hi h2 h3 h3' hlt) ?_
  rintro e a2 W2 ⟨rfl, hk, hk2, hi2⟩
  exact ⟨hk.from _, hk2, hi2⟩
 ·
  rintro D ys W hD rfl hi hK
  exact hdone D W hD hi hK
 ·
  rintro D c pre W _ _ h _
  exact h.elim
end Go.Proofs.YtoiampgfnidfdaaGreatDoor
