/-
  The sums of the wiring polynomials: a gate added.
-/
import Derived.Test.YtbmgngoeiadmmaaDoorTab2
namespace Go.Proofs.YtbmgngoeiadmmaaDoor
open Go.RowKit

def addN (l : List E) (q : Nat) (g : Gt) (x : E) : Nat → List E
  | 0 => l
  | k + 1 => (addN l q g x k).set (q + k) (l.getD (q + k) 0 + x * eb (gk g k))
theorem addN_len (l : List E) (q : Nat) (g : Gt) (x : E) : ∀ k, (addN l q g x k).length = l.length
  | 0 => rfl
  | k + 1 => by rw [addN, List.length_set, addN_len l q g x k]
theorem addN_get (l : List E) (q : Nat) (g : Gt) (x : E) : ∀ k i, (addN l q g x k)[i]? = if q ≤ i ∧ i < q + k ∧ i < l.length then some (l.getD i 0 + x * eb (gk g (i - q))) else l[i]?
  | 0, i => by rw [if_neg (by omega)]; rfl
  | k + 1, i => by
    rw [addN, List.getElem?_set, addN_len, addN_get l q g x k i]
    by_cases h : q + k = i
    · subst h
      by_cases hl : q + k < l.length
      · rw [if_pos rfl, if_pos hl, if_pos (by omega), Nat.add_sub_cancel_left]
      · rw [if_pos rfl, if_neg hl, if_neg (by omega), List.getElem?_eq_none (by omega)]
    · rw [if_neg h]
      by_cases h2 : q ≤ i ∧ i < q + k ∧ i < l.length
      · rw [if_pos h2, if_pos (by omega)]
      · rw [if_neg h2, if_neg (by omega)]
theorem set_self {α : Type} (l : List α) (i : Nat) (x : α) (h : l[i]? = some x) : l.set i x = l := by
  apply List.ext_getElem?
  intro j
  rw [List.getElem?_set]
  by_cases hij : i = j
  · subst hij
    rw [if_pos rfl, if_pos (List.getElem?_eq_some_iff.1 h).1, h]
  · rw [if_neg hij]

theorem grown_below {w a b : World} {row : Option Nat} (h : w.grownBy a row) (k : Below a.heap.size a b) : w.grownBy b row :=
  ⟨k.os.trans h.os, k.tape.trans h.tape, k.output.trans h.output, Nat.le_trans h.size k.size, fun i hi hr => (k.block i (Nat.lt_of_lt_of_le hi h.size)).trans (h.block i hi hr)⟩
theorem grown_set {w a : World} {B i : Nat} {v : Value} (h : w.grownBy a (some B)) : w.grownBy (a.setCell ⟨B, i, none⟩ v) (some B) :=
  ⟨h.os, h.tape, h.output, by simpa using h.size, fun k hk hr => (Below.heap_setCell a ⟨B, i, none⟩ v k (fun e => hr (by rw [e]))).trans (h.block k hk hr)⟩
set_option maxHeartbeats 1000000 in
theorem gCoefficients (g : Gt) (w : World) : Calls Tryd.prog 54 #[gv g] w (Ret (.agg #[.int .u64 (fv g.c), .int .u64 (fv g.a), .int .u64 (fv g.b), .int .u64 (fv g.d)]) w) := by
  unfold gv
  go_enter Tryd.func54, Tryd.ntmps54
  go_wp2
  refine bodyPost_ret (v := .agg #[.int .u64 (fv g.c), .int .u64 (fv g.a), .int .u64 (fv g.b), .int .u64 (fv g.d)]) (by simp [results, Tryd.results54, go_sem]) rfl ⟨rfl, ?_⟩
  exact ((Below.refl _ _).alloc (Nat.le_refl _) _).alloc (by simp) _
set_option maxHeartbeats 1000000 in
theorem ix4 (g : Gt) (k : Nat) (hk : k < 4) (w : World) : (Instr.index 85 (.agg #[.int .u64 (fv g.c), .int .u64 (fv g.a), .int .u64 (fv g.b), .int .u64 (fv g.d)]) (.int .i64 (k : Int))).run Tryd.prog w = .ok (.int .u64 (fv (gk g k))) w := by
  have : k = 0 ∨ k = 1 ∨ k = 2 ∨ k = 3 := by omega
  rcases this with rfl | rfl | rfl | rfl <;> simp [Instr.index, asIntOf, run_underlying Tryd.underlying85, go_sem, gk]
set_option maxRecDepth 100000 in
set_option maxHeartbeats 2000000 in
theorem gAdd (l : List E) (q B : Nat) (t : TypeId) (g : Gt) (x : E) (w : World) (hb : Blk w B t (l.flatMap ec).toArray) (hq : q + 4 ≤ l.length) :
    Calls Tryd.prog 38 #[.pointer (some ⟨B, q * 2, none⟩), gv g, ev x] w (fun e w' => e = .returned (.tuple #[]) ∧ Blk w' B t ((addN l q g x 4).flatMap ec).toArray ∧ w.grownBy w' (some B)) := by
  unfold gv ev
  go_enter Tryd.func38, Tryd.ntmps38
  go_wp2_with fail
  refine calls_stk2 fun W hBW hzW bg bx => ?_
  refine (gCoefficients g W).mono ?_
  rintro e w2 ⟨rfl, hb2⟩
  have hB2 : Below w.heap.size w w2 := hBW.trans (hb2.mono hBW.size)
  have bx2 := bx.keep hb2
  have hbw := hb.keep hB2
  have hlt := hb.lt
  go_wp2_with fail
  go_loopw [10] (fun i wr => ∃ k : Nat, k ≤ 4 ∧ i = .int .i64 k ∧ Blk wr B t ((addN l q g x k).flatMap ec).toArray ∧ Blk wr (w.heap.size + 1) 27 #[.int .u64 (fv x.a), .int .u64 (fv x.b)] ∧ w.grownBy wr (some B)) (fun i _ => 4 - (intOf i).toNat)
  case atStart => exact ⟨0, by omega, rfl, hbw, bx2, ⟨hB2.os, hB2.tape, hB2.output, hB2.size, fun k hk _ => hB2.block k hk⟩⟩
  case round =>
    obtain ⟨k, hk, rfl, f1, f2, f3⟩ := hrel
    by_cases hk4 : k < 4
    · have hix := ix4 g k hk4 wr
      have hgy : (addN l q g x k)[q + k]? = some (l.getD (q + k) 0) := by
        rw [addN_get, if_neg (by omega)]
        obtain ⟨y, hy, hy2⟩ := get_of (l := l) (k := q + k) (by omega)
        rw [hy, hy2]
      by_cases hc : gk g k = 0
      · have hc0 : fv (gk g k) = 0 := by rw [hc]; rfl
        rw [hc0] at hix
        go_wp2_with fail
        refine ⟨⟨k + 1, by omega, by go_num, ?_, f2, f3⟩, by simp [intOf]; omega⟩
        rw [addN, hc, eb_zero, E.mul_zero, E.add_zero, set_self _ _ _ hgy]
        exact f1
      · have hc0 : ¬ fv (gk g k) = 0 := fun e => hc (fv_inj (e.trans fv_zero.symm))
        have HC := Lib.hid (show addN l q g x (k + 1) = (addN l q g x k).set (q + k) (l.getD (q + k) 0 + x * eb (gk g k)) from rfl)
        obtain ⟨m1, m2⟩ := blk_cellE f1 hgy
        have hlt2 := f1.lt
        generalize gk g k = c at *
        generalize l.getD (q + k) 0 = y at *
        rw [Nat.add_mul] at m1 m2
        have m1' := gw_cell hlt2 m1
        have m2' := gw_cell hlt2 m2
        have c1 := gw_blk f2
        clear m1 m2
        go_wp2_with fail
        refine wp_region_rg 13 [(9, Spec.val (.agg #[.int .u64 (fv (x * eb c).a), .int .u64 (fv (x * eb c).b)])), (10, Spec.val (.agg #[.int .u64 (fv (y + x * eb c).a), .int .u64 (fv (y + x * eb c).b)]))] (by kernel_rfl) (by kernel_rfl) (by kernel_rfl) trivial ?_
        refine rg_det rfl rfl rfl (fun K hK => ?_)
        go_big_quiet_op
        refine hK _ ?_; clear hK K
        refine rg_det rfl rfl rfl (fun K hK => ?_)
        go_big_quiet_op
        refine hK _ ?_; clear hK K
        refine rg_det rfl rfl rfl (fun K hK => ?_)
        go_big_quiet_op
        refine hK _ ?_; clear hK K
        refine rg_det rfl rfl rfl (fun K hK => ?_)
        go_big_quiet_op
        refine hK _ ?_; clear hK K
        refine rg_det rfl rfl rfl (fun K hK => ?_)
        go_big_quiet_op
        refine hK _ ?_; clear hK K
        refine rg_det rfl rfl rfl (fun K hK => ?_)
        go_big_quiet_op
        refine hK _ ?_; clear hK K
        refine rg_det rfl rfl rfl (fun K hK => ?_)
        go_big_quiet_op
        refine hK _ ?_; clear hK K
        refine rg_det rfl rfl rfl (fun K hK => ?_)
        go_big_quiet_op
        refine hK _ ?_; clear hK K
        refine rg_det rfl rfl rfl (fun K hK => ?_)
        go_big_quiet_op
        refine hK _ ?_; clear hK K
        refine rg_val rfl rfl (fun W1 hW1 hF => step_callv en_attestor_ext_MulBase (eMulBase x c W1) rfl rfl) ?_
        intro a' ha
        simp only [Act.put, List.setIfInBounds_toArray, List.set_cons_succ, List.set_cons_zero] at ha
        subst ha
        refine rg_val rfl rfl (fun W1 hW1 hF => step_callv en_attestor_ext_Add (eAdd y (x * eb c) W1) rfl rfl) ?_
        intro a' ha
        simp only [Act.put, List.setIfInBounds_toArray, List.set_cons_succ, List.set_cons_zero] at ha
        subst ha
        refine rg_det rfl rfl rfl (fun K hK => ?_)
        go_big_quiet_op
        refine hK _ ?_; clear hK K
        refine rg_det rfl rfl rfl (fun K hK => ?_)
        go_big_quiet_op
        refine hK _ ?_; clear hK K
        refine rg_nil (fun w' hw' hF => ?_)
        obtain ⟨z, rfl⟩ := hw'
        simp only [List.drop_succ_cons, List.drop_zero]
        have f1z := f1.gw z
        have f2z := f2.gw z
        have e1 := m1' z
        have e2 := m2' z
        have e3 := f1z.frozen
        have hgz := f3
        have hzh := z.h
        clear m1' m2' c1
        go_wp2_with fail
        refine ⟨⟨k + 1, by omega, by go_num, ?_, blk_farE f2z (by omega), grown_set (grown_set (grown_below f3 z.h))⟩, by simp [intOf]; omega⟩
        rw [HC.out, ← Nat.add_mul]
        exact blk_setE f1z (q + k) _ (by rw [addN_len]; omega)
    · have hkk : k = 4 := by omega
      subst hkk
      go_wp2_with fail
      go_end0
      exact ⟨rfl, f1, f3⟩
end Go.Proofs.YtbmgngoeiadmmaaDoor
