/-
  A table and two points that lie in memory together; what the functions of chapter 05 give over them.
-/
import Derived.Test.YtnfiomccgakooaaDoorSan5
import Derived.Test.YtnfiomccgakooaaDoorRgS
import Derived.Test.YtnfiomccgakooaaDoorMl3
namespace Go.Proofs.YtnfiomccgakooaaDoor
open Go.RowKit

structure Lay5 (W : World) (t p s : List E) (a b c : Value) : Prop where
  ht : ExtS 0 W.heap.size W a t
  hp : ExtS 0 W.heap.size W b p
  hs : ExtS 0 W.heap.size W c s
  laid : Laid W
  tl : t.length = 2 ^ p.length
  sl : s.length = p.length
  pl : p.length ≤ 6
section
variable {W W' : World} {t p s : List E} {a b c : Value}
theorem Lay5.keep (h : Lay5 W t p s a b c) (hb : Below W.heap.size W W') : Lay5 W' t p s a b c :=
  ⟨(Rd.keep h.ht hb).wide (Nat.le_refl _) hb.size, (Rd.keep h.hp hb).wide (Nat.le_refl _) hb.size, (Rd.keep h.hs hb).wide (Nat.le_refl _) hb.size, h.laid.keep hb, h.tl, h.sl, h.pl⟩
theorem Lay5.grw (h : Lay5 W t p s a b c) (hw : Grw W W') : Lay5 W' t p s a b c := h.keep (grw_below hw)
theorem Lay5.t64 (h : Lay5 W t p s a b c) : t.length ≤ 64 := by
  rw [h.tl]
  exact Nat.le_trans (Nat.pow_le_pow_right (by decide) h.pl) (by decide)
theorem Lay5.t0 (h : Lay5 W t p s a b c) : 0 < t.length := by rw [h.tl]; exact Nat.two_pow_pos _
/-- The value at the point. -/
theorem Lay5.eval (h : Lay5 W t p s a b c) : Calls Tryd.prog 12 #[a, b] W (Ret (ev (mev t p)) W) :=
  gEval t p h.tl (Nat.le_trans h.pl (by decide)) a b 0 _ 0 _ W h.ht h.hp (Nat.le_refl _)
/-- Another table of as many elements, another point of as many coordinates. -/
theorem Lay5.evalT (h : Lay5 W t p s a b c) {u : List E} {v : Value} {lo hi : Nat} (hu : ExtS lo hi W v u) (hl : u.length = 2 ^ p.length) : Calls Tryd.prog 12 #[v, b] W (Ret (ev (mev u p)) W) :=
  gEval u p hl (Nat.le_trans h.pl (by decide)) v b lo hi 0 _ W hu h.hp (Nat.le_refl _)
theorem Lay5.evalP (h : Lay5 W t p s a b c) {u : List E} {v : Value} {lo hi : Nat} (hu : ExtS lo hi W v u) (hh : hi ≤ W.heap.size) (hl : u.length = p.length) : Calls Tryd.prog 12 #[a, v] W (Ret (ev (mev t u)) W) :=
  gEval t u (by rw [hl]; exact h.tl) (by have := h.pl; omega) a v 0 _ lo hi W h.ht hu hh
end
/-- What 'made' hands back lies together. -/
theorem lay_made5 {w' : World} {q : Q5} {a b c : Value} {n1 m1 n2 m2 n3 m3 : Nat} (h1 : OwnX q.t n1 m1 a w') (h2 : OwnX q.p n2 m2 b w') (h3 : OwnX q.s n3 m3 c w') (k1 : m1 ≤ w'.heap.size) (k2 : m2 ≤ w'.heap.size) (k3 : m3 ≤ w'.heap.size) (hL : Laid w') :
    Lay5 w' q.t q.p q.s a b c :=
  ⟨h1.1.wide (Nat.zero_le _) k1, h2.1.wide (Nat.zero_le _) k2, h3.1.wide (Nat.zero_le _) k3, hL, by rw [q.t_len, q.p_len], by rw [q.s_len, q.p_len], by rw [q.p_len]; exact q.n6⟩
def sumV (us vs : List E) (f : E) : List E := List.zipWith (fun u v => u + f * v) us vs
def sumCells (us vs : List E) (f : E) (j : Nat) : List Value := ((sumV us vs f).take j).flatMap ec
theorem sumV_get {us vs : List E} {f : E} {j : Nat} {u v : E} (hu : us[j]? = some u) (hv : vs[j]? = some v) : sumCells us vs f (j + 1) = sumCells us vs f j ++ ec (u + f * v) := by
  have h : (sumV us vs f)[j]? = some (u + f * v) := by unfold sumV; rw [List.getElem?_zipWith, hu, hv]
  unfold sumCells
  rw [List.take_add_one, h, List.flatMap_append]
  simp
theorem sumV_len {us vs : List E} {f : E} (h : vs.length = us.length) : (sumV us vs f).length = us.length := by unfold sumV; rw [List.length_zipWith, h, Nat.min_self]
theorem sumV_mev (t s p : List E) (k : E) (ht : t.length = 2 ^ p.length) (hs : s.length = t.length) : mev (sumV t s k) p = mev t p + k * mev s p := by
  refine mev_linear k t s _ p ht (hs.trans ht) ((sumV_len hs).trans ht) fun i hi => ?_
  have h1 : i < t.length := by omega
  have h2 : i < s.length := by omega
  unfold sumV
  simp [List.getD_eq_getElem?_getD, List.getElem?_zipWith, h1, h2]
end Go.Proofs.YtnfiomccgakooaaDoor
