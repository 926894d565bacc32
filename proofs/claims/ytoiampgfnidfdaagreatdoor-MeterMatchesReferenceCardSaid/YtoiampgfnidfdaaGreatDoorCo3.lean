/-
  The reference's Point: the polynomial with the coefficients.
-/
import Derived.Test.YtoiampgfnidfdaaGreatDoorEn
import Derived.Test.YtoiampgfnidfdaaGreatDoorRg
import Derived.BigQuiet
import Derived.Maps.AppendAt
import Derived.Deep.AppendLies
import Derived.OwnWalk
import Derived.Laws.MakeOwn
import Derived.Great.BuildSlice
import Derived.Deep.MidRow
set_option maxRecDepth 100000
set_option maxHeartbeats 8000000
namespace Go.Proofs.YtoiampgfnidfdaaGreatDoor
open Go.RowKit
section
open Go.RowKit
def ev (x : E) : Value := .agg #[.int .u64 (fv x.a), .int .u64 (fv x.b)]

theorem Jiq (x y : E) (b : Nat) (w : World) (hc : w.cell? ⟨b, 0, none⟩ = some (.func (.func 92) #[] #[])) (hb : b < w.heap.size) :
  Calls Tryz.prog 119 #[ev x, ev y, .pointer (some ⟨b, 0, none⟩)] w (Ret (ev (x + y)) w) := by
 unfold ev
 rw [add_a, add_b]
 go_enter Tryz.func119, Tryz.ntmps119
 go_wp2
 refine J26 fun W hB hz b1 b2 b3 => ?_
 have c0 := Je (W := W) (Nat.lt_of_lt_of_le hb hB.size) ((hB.cell (p := ⟨b, 0, none⟩) hb).trans hc)
 have c1 := gw_blk b1
 have c2 := gw_blk b2
 refine Jd 13 [(5, Spec.val (.int .u64 (fv (x.a + y.a)))), (11, Spec.val (.int .u64 (fv (x.b + y.b))))] (by kernel_rfl) (by kernel_rfl) (by kernel_rfl) trivial ?_
 iterate 5 (refine rg_det rfl rfl rfl (fun K hK => ?_); go_big_quiet_op; refine hK _ ?_; clear hK K)
 refine rg_val rfl rfl (fun W1 hW1 hF => J4d (first := []) (cap := []) J2y (J17 (fAdd x.a y.a W1)) rfl rfl rfl rfl) ?_
 intro a' ha
 simp only [PutS] at ha
 subst ha
 iterate 5 (refine rg_det rfl rfl rfl (fun K hK => ?_); go_big_quiet_op; refine hK _ ?_; clear hK K)
 refine rg_val rfl rfl (fun W1 hW1 hF => J4d (first := []) (cap := []) J2y (J17 (fAdd x.b y.b W1)) rfl rfl rfl rfl) ?_
 intro a' ha
 simp only [PutS] at ha
 subst ha
 refine rg_det rfl rfl rfl (fun K hK => ?_)
 go_big_quiet_op
 refine hK _ ?_; clear hK K
 refine rg_nil (fun w' hw' hF => ?_)
 obtain ⟨z, rfl⟩ := hw'
 simp only [List.drop_succ_cons, List.drop_zero]
 have e1 := (b3.gw z).cell
 have e2 := (b3.gw z).frozen
 go_wp2
 refine bodyPost_ret (v := .agg #[.int .u64 (fv (x.a + y.a)), .int .u64 (fv (x.b + y.b))]) (by simp [results, Tryz.results119, go_sem, e1]) rfl ⟨rfl, ?_⟩
 exact ((hB.trans (z.h.mono hB.size)).setCell (by show w.heap.size ≤ w.heap.size + 1 + 1; omega) _).setCell (by show w.heap.size ≤ w.heap.size + 1 + 1; omega) _
theorem Jir (x y : E) (b : Nat) (w : World) (hc : w.cell? ⟨b, 0, none⟩ = some (.func (.func 95) #[] #[])) (hb : b < w.heap.size) :
  Calls Tryz.prog 119 #[ev x, ev y, .pointer (some ⟨b, 0, none⟩)] w (Ret (ev (x - y)) w) := by
 unfold ev
 rw [sub_a, sub_b]
 go_enter Tryz.func119, Tryz.ntmps119
 go_wp2
 refine J26 fun W hB hz b1 b2 b3 => ?_
 have c0 := Je (W := W) (Nat.lt_of_lt_of_le hb hB.size) ((hB.cell (p := ⟨b, 0, none⟩) hb).trans hc)
 have c1 := gw_blk b1
 have c2 := gw_blk b2
 refine Jd 13 [(5, Spec.val (.int .u64 (fv (x.a - y.a)))), (11, Spec.val (.int .u64 (fv (x.b - y.b))))] (by kernel_rfl) (by kernel_rfl) (by kernel_rfl) trivial ?_
 iterate 5 (refine rg_det rfl rfl rfl (fun K hK => ?_); go_big_quiet_op; refine hK _ ?_; clear hK K)
 refine rg_val rfl rfl (fun W1 hW1 hF => J4d (first := []) (cap := []) J5t (J17 (fSub x.a y.a W1)) rfl rfl rfl rfl) ?_
 intro a' ha
 simp only [PutS] at ha
 subst ha
 iterate 5 (refine rg_det rfl rfl rfl (fun K hK => ?_); go_big_quiet_op; refine hK _ ?_; clear hK K)
 refine rg_val rfl rfl (fun W1 hW1 hF => J4d (first := []) (cap := []) J5t (J17 (fSub x.b y.b W1)) rfl rfl rfl rfl) ?_
 intro a' ha
 simp only [PutS] at ha
 subst ha
 refine rg_det rfl rfl rfl (fun K hK => ?_)
 go_big_quiet_op
 refine hK _ ?_; clear hK K
 refine rg_nil (fun w' hw' hF => ?_)
 obtain ⟨z, rfl⟩ := hw'
 simp only [List.drop_succ_cons, List.drop_zero]
 have e1 := (b3.gw z).cell
 have e2 := (b3.gw z).frozen
 go_wp2
 refine bodyPost_ret (v := .agg #[.int .u64 (fv (x.a - y.a)), .int .u64 (fv (x.b - y.b))]) (by simp [results, Tryz.results119, go_sem, e1]) rfl ⟨rfl, ?_⟩
 exact ((hB.trans (z.h.mono hB.size)).setCell (by show w.heap.size ≤ w.heap.size + 1 + 1; omega) _).setCell (by show w.heap.size ≤ w.heap.size + 1 + 1; omega) _

def Held (g : FuncId) (n m : Nat) (v : Value) (w : World) : Prop := v = .func (.func 119) #[] #[.pointer (some ⟨n, 0, none⟩)] ∧ w.cell? ⟨n, 0, none⟩ = some (.func (.func g) #[] #[]) ∧ n < m
theorem Jap (g : FuncId) : Stable (Held g) := fun n _ _ _ _ h hb => ⟨h.1, (hb.cell (p := ⟨n, 0, none⟩) h.2.2).trans h.2.1, h.2.2⟩
theorem J7c (g : FuncId) (w : World) : Calls Tryz.prog 91 #[.func (.func g) #[] #[]] w (RetR (Held g) w) := by
 go_enter Tryz.func91, Tryz.ntmps91
 go_wp2
 go_ret
 exact ⟨_, rfl, ⟨rfl, by simp, by simp⟩, (Below.refl _ _).alloc (Nat.le_refl _) _⟩

theorem eAdd (x y : E) (w : World) : Calls Tryz.prog 44 #[ev x, ev y] w (Ret (ev (x + y)) w) := by
 unfold ev
 go_enter Tryz.func44, Tryz.ntmps44
 go_wp2
 refine J26 fun W hB hz b1 b2 b3 => ?_
 have c1 := gw_blk b1
 have c2 := gw_blk b2
 refine Jd 4 [(0, Spec.rel (Held 92) AnyV), (3, Spec.val (.agg #[.int .u64 (fv (x + y).a), .int .u64 (fv (x + y).b)]))] (by kernel_rfl) (by kernel_rfl) (by kernel_rfl) ⟨fit_of (Jap 92), trivial⟩ ?_
 refine rg_rel rfl rfl (fun W1 hW1 hF => Jp J3w (J7c 92 W1) rfl rfl) ?_
 intro n0 m0 v0 hn0 hm0 hd0 hf0 a' ha
 simp only [PutS] at ha
 subst ha
 iterate 2 (refine rg_det rfl rfl rfl (fun K hK => ?_); go_big_quiet_op; refine hK _ ?_; clear hK K)
 refine rg_val rfl rfl (fun W1 hW1 hF => (by obtain ⟨_, q1, q2, q3⟩ := J1a hF (by kernel_rfl); exact J4d (first := []) (cap := [.pointer (some ⟨n0, 0, none⟩)]) J3e (Jiq x y n0 W1 q2 (by omega)) rfl q1 rfl rfl)) ?_
 intro a' ha
 simp only [PutS] at ha
 subst ha
 refine rg_nil (fun w' hw' hF => ?_)
 obtain ⟨z, rfl⟩ := hw'
 simp only [List.drop_succ_cons, List.drop_zero]
 have e1 := (b3.gw z).cell
 have e2 := (b3.gw z).frozen
 go_wp2
 refine bodyPost_ret (v := .agg #[.int .u64 (fv (x + y).a), .int .u64 (fv (x + y).b)]) (by simp [results, Tryz.results44, go_sem, e1]) rfl ⟨rfl, ?_⟩
 exact ((hB.trans (z.h.mono hB.size)).setCell (by show w.heap.size ≤ w.heap.size + 1 + 1; omega) _).setCell (by show w.heap.size ≤ w.heap.size + 1 + 1; omega) _
theorem eSub (x y : E) (w : World) : Calls Tryz.prog 47 #[ev x, ev y] w (Ret (ev (x - y)) w) := by
 unfold ev
 go_enter Tryz.func47, Tryz.ntmps47
 go_wp2
 refine J26 fun W hB hz b1 b2 b3 => ?_
 have c1 := gw_blk b1
 have c2 := gw_blk b2
 refine Jd 4 [(0, Spec.rel (Held 95) AnyV), (3, Spec.val (.agg #[.int .u64 (fv (x - y).a), .int .u64 (fv (x - y).b)]))] (by kernel_rfl) (by kernel_rfl) (by kernel_rfl) ⟨fit_of (Jap 95), trivial⟩ ?_
 refine rg_rel rfl rfl (fun W1 hW1 hF => Jp J3w (J7c 95 W1) rfl rfl) ?_
 intro n0 m0 v0 hn0 hm0 hd0 hf0 a' ha
 simp only [PutS] at ha
 subst ha
 iterate 2 (refine rg_det rfl rfl rfl (fun K hK => ?_); go_big_quiet_op; refine hK _ ?_; clear hK K)
 refine rg_val rfl rfl (fun W1 hW1 hF => (by obtain ⟨_, q1, q2, q3⟩ := J1a hF (by kernel_rfl); exact J4d (first := []) (cap := [.pointer (some ⟨n0, 0, none⟩)]) J3e (Jir x y n0 W1 q2 (by omega)) rfl q1 rfl rfl)) ?_
 intro a' ha
 simp only [PutS] at ha
 subst ha
 refine rg_nil (fun w' hw' hF => ?_)
 obtain ⟨z, rfl⟩ := hw'
 simp only [List.drop_succ_cons, List.drop_zero]
 have e1 := (b3.gw z).cell
 have e2 := (b3.gw z).frozen
 go_wp2
 refine bodyPost_ret (v := .agg #[.int .u64 (fv (x - y).a), .int .u64 (fv (x - y).b)]) (by simp [results, Tryz.results47, go_sem, e1]) rfl ⟨rfl, ?_⟩
 exact ((hB.trans (z.h.mono hB.size)).setCell (by show w.heap.size ≤ w.heap.size + 1 + 1; omega) _).setCell (by show w.heap.size ≤ w.heap.size + 1 + 1; omega) _

/-! ### The product -/
theorem mul_b' (x y : E) : (x * y).b = (x.a + x.b) * (y.a + y.b) - x.a * y.a - x.b * y.b := by rw [mul_b]; grind
theorem seven : (7 : Int) = fv 7 := rfl
theorem eTimes (x y : E) (w : World) : Calls Tryz.prog 93 #[ev x, ev y] w (Ret (ev (x * y)) w) := by
 unfold ev
 rw [mul_a, mul_b']
 go_enter Tryz.func93, Tryz.ntmps93
 go_wp2
 refine J26 fun W hB hz b1 b2 b3 => ?_
 have c1 := gw_blk b1
 have c2 := gw_blk b2
 refine Jd 10 [(4, Spec.val (.int .u64 (fv (x.a * y.a)))), (9, Spec.val (.int .u64 (fv (x.b * y.b))))] (by kernel_rfl) (by kernel_rfl) (by kernel_rfl) trivial ?_
 iterate 4 (refine rg_det rfl rfl rfl (fun K hK => ?_); go_big_quiet_op; refine hK _ ?_; clear hK K)
 refine rg_val rfl rfl (fun W1 hW1 hF => J7 J44 (J17 (fMul x.a y.a W1)) rfl rfl) ?_
 intro a' ha
 simp only [PutS] at ha
 subst ha
 iterate 4 (refine rg_det rfl rfl rfl (fun K hK => ?_); go_big_quiet_op; refine hK _ ?_; clear hK K)
 refine rg_val rfl rfl (fun W1 hW1 hF => J7 J44 (J17 (fMul x.b y.b W1)) rfl rfl) ?_
 intro a' ha
 simp only [PutS] at ha
 subst ha
 refine rg_nil (fun w' hw' hF => ?_)
 obtain ⟨z, rfl⟩ := hw'
 simp only [List.drop_succ_cons, List.drop_zero]
 go_wp2
 have c3 := gw_blk (b1.gw z)
 have c4 := gw_blk (b2.gw z)
 clear c1 c2 hF
 refine Jd 11 [(4, Spec.val (.int .u64 (fv (x.a + x.b)))), (9, Spec.val (.int .u64 (fv (y.a + y.b)))), (10, Spec.val (.int .u64 (fv ((x.a + x.b) * (y.a + y.b)))))] (by kernel_rfl) (by kernel_rfl) (by kernel_rfl) trivial ?_
 iterate 4 (refine rg_det rfl rfl rfl (fun K hK => ?_); go_big_quiet_op; refine hK _ ?_; clear hK K)
 refine rg_val rfl rfl (fun W1 hW1 hF => J7 J2y (J17 (fAdd x.a x.b W1)) rfl rfl) ?_
 intro a' ha
 simp only [PutS] at ha
 subst ha
 iterate 4 (refine rg_det rfl rfl rfl (fun K hK => ?_); go_big_quiet_op; refine hK _ ?_; clear hK K)
 refine rg_val rfl rfl (fun W1 hW1 hF => J7 J2y (J17 (fAdd y.a y.b W1)) rfl rfl) ?_
 intro a' ha
 simp only [PutS] at ha
 subst ha
 refine rg_val rfl rfl (fun W1 hW1 hF => J7 J44 (J17 (fMul (x.a + x.b) (y.a + y.b) W1)) rfl rfl) ?_
 intro a' ha
 simp only [PutS] at ha
 subst ha
 refine rg_nil (fun w' hw' hF => ?_)
 obtain ⟨z2, rfl⟩ := hw'
 simp only [List.drop_succ_cons, List.drop_zero]
 go_wp2_with fail
 rw [seven]
 refine (fMul 7 (x.b * y.b) _).mono ?_
 rintro e w' ⟨rfl, rfl⟩
 go_wp2_with fail
 refine (fAdd (x.a * y.a) (7 * (x.b * y.b)) _).mono ?_
 rintro e w' ⟨rfl, rfl⟩
 go_wp2_with fail
 refine (fSub ((x.a + x.b) * (y.a + y.b)) (x.a * y.a) _).mono ?_
 rintro e w' ⟨rfl, rfl⟩
 go_wp2_with fail
 refine (fSub ((x.a + x.b) * (y.a + y.b) - x.a * y.a) (x.b * y.b) _).mono ?_
 rintro e w' ⟨rfl, rfl⟩
 have e1 := ((b3.gw z).gw z2).cell
 have e2 := ((b3.gw z).gw z2).frozen
 go_wp2
 refine bodyPost_ret (v := .agg #[.int .u64 (fv (x.a * y.a + 7 * (x.b * y.b))), .int .u64 (fv ((x.a + x.b) * (y.a + y.b) - x.a * y.a - x.b * y.b))]) (by simp [results, Tryz.results93, go_sem, e1]) rfl ⟨rfl, ?_⟩
 have hB2 := hB.trans (z.h.mono hB.size)
 exact ((hB2.trans (z2.h.mono hB2.size)).setCell (by show w.heap.size ≤ w.heap.size + 1 + 1; omega) _).setCell (by show w.heap.size ≤ w.heap.size + 1 + 1; omega) _
theorem eMul (x y : E) (w : World) : Calls Tryz.prog 45 #[ev x, ev y] w (Ret (ev (x * y)) w) := by
 unfold ev
 go_enter Tryz.func45, Tryz.ntmps45
 go_wp2_with fail
 refine Jbk fun W hB hz b1 b2 b3 => ?_
 refine (eTimes x y _).mono ?_
 rintro e w' ⟨he, hb⟩
 unfold ev at he
 subst he
 have e1 := (b3.below hb b3.lt).cell
 have e2 := (b3.below hb b3.lt).frozen
 go_wp2
 refine bodyPost_ret (v := .agg #[.int .u64 (fv (x * y).a), .int .u64 (fv (x * y).b)]) (by simp [results, Tryz.results45, go_sem, e1]) rfl ⟨rfl, ?_⟩
 exact ((hB.trans (hb.mono hB.size)).setCell (by show w.heap.size ≤ w.heap.size + 1 + 1; omega) _).setCell (by show w.heap.size ≤ w.heap.size + 1 + 1; omega) _

/-! ### The reference -/
theorem xAdd (x y : E) (w : World) : Calls Tryz.prog 134 #[ev x, ev y] w (Ret (ev (x + y)) w) := by
 unfold ev
 rw [add_a, add_b]
 go_enter Tryz.func134, Tryz.ntmps134
 go_wp2
 refine J26 fun W hB hz b1 b2 b3 => ?_
 have c1 := gw_blk b1
 have c2 := gw_blk b2
 refine Jd 11 [(4, Spec.val (.int .u64 (fv (x.a + y.a)))), (9, Spec.val (.int .u64 (fv (x.b + y.b))))] (by kernel_rfl) (by kernel_rfl) (by kernel_rfl) trivial ?_
 iterate 4 (refine rg_det rfl rfl rfl (fun K hK => ?_); go_big_quiet_op; refine hK _ ?_; clear hK K)
 refine rg_val rfl rfl (fun W1 hW1 hF => J7 J1w (J17 (rAdd x.a y.a W1)) rfl rfl) ?_
 intro a' ha
 simp only [PutS] at ha
 subst ha
 iterate 4 (refine rg_det rfl rfl rfl (fun K hK => ?_); go_big_quiet_op; refine hK _ ?_; clear hK K)
 refine rg_val rfl rfl (fun W1 hW1 hF => J7 J1w (J17 (rAdd x.b y.b W1)) rfl rfl) ?_
 intro a' ha
 simp only [PutS] at ha
 subst ha
 refine rg_det rfl rfl rfl (fun K hK => ?_)
 go_big_quiet_op
 refine hK _ ?_; clear hK K
 refine rg_nil (fun w' hw' hF => ?_)
 obtain ⟨z, rfl⟩ := hw'
 simp only [List.drop_succ_cons, List.drop_zero]
 have e1 := (b3.gw z).cell
 have e2 := (b3.gw z).frozen
 go_wp2
 refine bodyPost_ret (v := .agg #[.int .u64 (fv (x.a + y.a)), .int .u64 (fv (x.b + y.b))]) (by simp [results, Tryz.results134, go_sem, e1]) rfl ⟨rfl, ?_⟩
 exact ((hB.trans (z.h.mono hB.size)).setCell (by show w.heap.size ≤ w.heap.size + 1 + 1; omega) _).setCell (by show w.heap.size ≤ w.heap.size + 1 + 1; omega) _
theorem neg_a (x : E) : (-x).a = -x.a := rfl
theorem neg_b (x : E) : (-x).b = -x.b := rfl
theorem xNeg (x : E) (w : World) : Calls Tryz.prog 168 #[ev x] w (Ret (ev (-x)) w) := by
 unfold ev
 rw [neg_a, neg_b]
 go_enter Tryz.func168, Tryz.ntmps168
 go_wp2
 refine J1h fun W hB hz b1 b2 => ?_
 have c1 := gw_blk b1
 refine Jd 7 [(2, Spec.val (.int .u64 (fv (-x.a)))), (5, Spec.val (.int .u64 (fv (-x.b))))] (by kernel_rfl) (by kernel_rfl) (by kernel_rfl) trivial ?_
 iterate 2 (refine rg_det rfl rfl rfl (fun K hK => ?_); go_big_quiet_op; refine hK _ ?_; clear hK K)
 refine rg_val rfl rfl (fun W1 hW1 hF => J7 J3y (J17 (rNeg x.a W1)) rfl rfl) ?_
 intro a' ha
 simp only [PutS] at ha
 subst ha
 iterate 2 (refine rg_det rfl rfl rfl (fun K hK => ?_); go_big_quiet_op; refine hK _ ?_; clear hK K)
 refine rg_val rfl rfl (fun W1 hW1 hF => J7 J3y (J17 (rNeg x.b W1)) rfl rfl) ?_
 intro a' ha
 simp only [PutS] at ha
 subst ha
 refine rg_det rfl rfl rfl (fun K hK => ?_)
 go_big_quiet_op
 refine hK _ ?_; clear hK K
 refine rg_nil (fun w' hw' hF => ?_)
 obtain ⟨z, rfl⟩ := hw'
 simp only [List.drop_succ_cons, List.drop_zero]
 have e1 := (b2.gw z).cell
 have e2 := (b2.gw z).frozen
 go_wp2
 refine bodyPost_ret (v := .agg #[.int .u64 (fv (-x.a)), .int .u64 (fv (-x.b))]) (by simp [results, Tryz.results168, go_sem, e1]) rfl ⟨rfl, ?_⟩
 exact ((hB.trans (z.h.mono hB.size)).setCell (by show w.heap.size ≤ w.heap.size + 1; omega) _).setCell (by show w.heap.size ≤ w.heap.size + 1; omega) _
theorem sub_eq (x y : E) : x - y = x + -y := by apply E.ext_ <;> simp only [sub_a, sub_b, add_a, add_b, neg_a, neg_b] <;> grind
theorem xSub (x y : E) (w : World) : Calls Tryz.prog 167 #[ev x, ev y] w (Ret (ev (x - y)) w) := by
 rw [sub_eq]
 unfold ev
 go_enter Tryz.func167, Tryz.ntmps167
 go_wp2
 refine J26 fun W hB hz b1 b2 b3 => ?_
 have c1 := gw_blk b1
 have c2 := gw_blk b2
 refine Jd 4 [(2, Spec.val (.agg #[.int .u64 (fv (-y).a), .int .u64 (fv (-y).b)])), (3, Spec.val (.agg #[.int .u64 (fv (x + -y).a), .int .u64 (fv (x + -y).b)]))] (by kernel_rfl) (by kernel_rfl) (by kernel_rfl) trivial ?_
 iterate 2 (refine rg_det rfl rfl rfl (fun K hK => ?_); go_big_quiet_op; refine hK _ ?_; clear hK K)
 refine rg_val rfl rfl (fun W1 hW1 hF => J7 J6e (xNeg y W1) rfl rfl) ?_
 intro a' ha
 simp only [PutS] at ha
 subst ha
 refine rg_val rfl rfl (fun W1 hW1 hF => J7 J2m (xAdd x (-y) W1) rfl rfl) ?_
 intro a' ha
 simp only [PutS] at ha
 subst ha
 refine rg_nil (fun w' hw' hF => ?_)
 obtain ⟨z, rfl⟩ := hw'
 simp only [List.drop_succ_cons, List.drop_zero]
 have e1 := (b3.gw z).cell
 have e2 := (b3.gw z).frozen
 go_wp2
 refine bodyPost_ret (v := .agg #[.int .u64 (fv (x + -y).a), .int .u64 (fv (x + -y).b)]) (by simp [results, Tryz.results167, go_sem, e1]) rfl ⟨rfl, ?_⟩
 exact ((hB.trans (z.h.mono hB.size)).setCell (by show w.heap.size ≤ w.heap.size + 1 + 1; omega) _).setCell (by show w.heap.size ≤ w.heap.size + 1 + 1; omega) _
theorem xMul (x y : E) (w : World) : Calls Tryz.prog 135 #[ev x, ev y] w (Ret (ev (x * y)) w) := by
 unfold ev
 rw [mul_a, mul_b]
 go_enter Tryz.func135, Tryz.ntmps135
 go_wp2
 refine J26 fun W hB hz b1 b2 b3 => ?_
 have c1 := gw_blk b1
 have c2 := gw_blk b2
 refine Jd 24 [(4, Spec.val (.int .u64 (fv (x.a * y.a)))), (9, Spec.val (.int .u64 (fv (x.b * y.b)))), (10, Spec.val (.int .u64 (fv (7 * (x.b * y.b))))), (11, Spec.val (.int .u64 (fv (x.a * y.a + 7 * (x.b * y.b))))), (16, Spec.val (.int .u64 (fv (x.a * y.b)))), (21, Spec.val (.int .u64 (fv (x.b * y.a)))), (22, Spec.val (.int .u64 (fv (x.a * y.b + x.b * y.a))))] (by kernel_rfl) (by kernel_rfl) (by kernel_rfl) trivial ?_
 iterate 4 (refine rg_det rfl rfl rfl (fun K hK => ?_); go_big_quiet_op; refine hK _ ?_; clear hK K)
 refine rg_val rfl rfl (fun W1 hW1 hF => J7 J1m (J17 (rMul x.a y.a W1)) rfl rfl) ?_
 intro a' ha
 simp only [PutS] at ha
 subst ha
 iterate 4 (refine rg_det rfl rfl rfl (fun K hK => ?_); go_big_quiet_op; refine hK _ ?_; clear hK K)
 refine rg_val rfl rfl (fun W1 hW1 hF => J7 J1m (J17 (rMul x.b y.b W1)) rfl rfl) ?_
 intro a' ha
 simp only [PutS] at ha
 subst ha
 refine rg_val rfl rfl (fun W1 hW1 hF => J7 J1m (J17 (rMul 7 (x.b * y.b) W1)) rfl rfl) ?_
 intro a' ha
 simp only [PutS] at ha
 subst ha
 refine rg_val rfl rfl (fun W1 hW1 hF => J7 J1w (J17 (rAdd (x.a * y.a) (7 * (x.b * y.b)) W1)) rfl rfl) ?_
 intro a' ha
 simp only [PutS] at ha
 subst ha
 iterate 4 (refine rg_det rfl rfl rfl (fun K hK => ?_); go_big_quiet_op; refine hK _ ?_; clear hK K)
 refine rg_val rfl rfl (fun W1 hW1 hF => J7 J1m (J17 (rMul x.a y.b W1)) rfl rfl) ?_
 intro a' ha
 simp only [PutS] at ha
 subst ha
 iterate 4 (refine rg_det rfl rfl rfl (fun K hK => ?_); go_big_quiet_op; refine hK _ ?_; clear hK K)
 refine rg_val rfl rfl (fun W1 hW1 hF => J7 J1m (J17 (rMul x.b y.a W1)) rfl rfl) ?_
 intro a' ha
 simp only [PutS] at ha
 subst ha
 refine rg_val rfl rfl (fun W1 hW1 hF => J7 J1w (J17 (rAdd (x.a * y.b) (x.b * y.a) W1)) rfl rfl) ?_
 intro a' ha
 simp only [PutS] at ha
 subst ha
 refine rg_det rfl rfl rfl (fun K hK => ?_)
 go_big_quiet_op
 refine hK _ ?_; clear hK K
 refine rg_nil (fun w' hw' hF => ?_)
 obtain ⟨z, rfl⟩ := hw'
 simp only [List.drop_succ_cons, List.drop_zero]
 have e1 := (b3.gw z).cell
 have e2 := (b3.gw z).frozen
 go_wp2
 refine bodyPost_ret (v := .agg #[.int .u64 (fv (x.a * y.a + 7 * (x.b * y.b))), .int .u64 (fv (x.a * y.b + x.b * y.a))]) (by simp [results, Tryz.results135, go_sem, e1]) rfl ⟨rfl, ?_⟩
 exact ((hB.trans (z.h.mono hB.size)).setCell (by show w.heap.size ≤ w.heap.size + 1 + 1; omega) _).setCell (by show w.heap.size ≤ w.heap.size + 1 + 1; omega) _
end
section
open Go.RowKit

theorem fv0 : fv 0 = 0 := rfl
theorem fv1 : fv 1 = 1 := rfl
theorem xFromInt (z : Int) (hz1 : -9223372036854775808 ≤ z) (hz2 : z ≤ 9223372036854775807) (w : World) : Calls Tryz.prog 46 #[.int .i64 z] w (Ret (ev (eb (fz z))) w) := by
 unfold ev eb
 go_enter Tryz.func46, Tryz.ntmps46
 go_wp2_with fail
 refine (rFromInt z hz1 hz2 _).mono ?_
 rintro e w' ⟨rfl, rfl⟩
 go_wp2
 refine bodyPost_ret (v := .agg #[.int .u64 (fv (fz z)), .int .u64 (fv 0)]) (by simp [results, Tryz.results46, go_sem, fv0]) rfl ⟨rfl, ?_⟩
 exact (Below.refl _ _).alloc (Nat.le_refl _) _
theorem xOne (w : World) : Calls Tryz.prog 48 #[] w (Ret (ev 1) w) := by
 unfold ev
 rw [one_a, one_b]
 go_enter Tryz.func48, Tryz.ntmps48
 go_wp2
 refine bodyPost_ret (v := .agg #[.int .u64 (fv 1), .int .u64 (fv 0)]) (by simp [results, Tryz.results48, go_sem, fv0, fv1]) rfl ⟨rfl, ?_⟩
 exact (Below.refl _ _).alloc (Nat.le_refl _) _
end
section
open Go.RowKit

theorem Blk.keep {w w' : World} {g : Nat} {t : TypeId} {cs : Array Value} (h : Blk w g t cs) (hb : Below w.heap.size w w') : Blk w' g t cs := h.below hb h.lt
theorem Jb2 {w : World} {g : Nat} {t : TypeId} {a b c d : Value} (h : Blk w g t #[a, b]) : Blk ((w.setCell ⟨g, 0, none⟩ c).setCell ⟨g, 1, none⟩ d) g t #[c, d] := (h.set_ 0 c).set_ 1 d
theorem J6m {w : World} {g g' : Nat} {t : TypeId} {cs : Array Value} {c d : Value} (h : Blk w g t cs) (hne : g ≠ g') : Blk ((w.setCell ⟨g', 0, none⟩ c).setCell ⟨g', 1, none⟩ d) g t cs := (h.far (p := ⟨g', 0, none⟩) hne c).far (p := ⟨g', 1, none⟩) hne d
theorem J4c {N : Nat} {a w : World} {g : Nat} {c d : Value} (h : Below N a w) (hN : N ≤ g) : Below N a ((w.setCell ⟨g, 0, none⟩ c).setCell ⟨g, 1, none⟩ d) := (h.setCell (p := ⟨g, 0, none⟩) hN c).setCell (p := ⟨g, 1, none⟩) hN d
theorem get_of {l : List E} {k : Nat} (h : k < l.length) : ∃ x, l[k]? = some x ∧ l.getD k 0 = x := ⟨l[k], List.getElem?_eq_getElem h, by simp [List.getD, h]⟩
def Rd (lo hi size : Nat) (w : World) (v : Value) (n : Nat) (cs : List Value) : Prop :=
 cs.length = n * size ∧ n ≤ 140737488355327 ∧ ∃ A cap, v = .slice A n cap ∧ n ≤ cap ∧ (0 < n → ∃ g off, A = some ⟨g, off, none⟩ ∧ lo ≤ g ∧ g < hi ∧ g < w.heap.size ∧ ∀ j u, cs[j]? = some u → w.cell? ⟨g, off + j, none⟩ = some u)
theorem Rd.below {lo hi size n N : Nat} {w w' : World} {v : Value} {cs : List Value} (h : Rd lo hi size w v n cs) (hb : Below N w w') (hN : hi ≤ N) : Rd lo hi size w' v n cs := by
 obtain ⟨h1, h2, A, cap, h3, h4, h5⟩ := h
 refine ⟨h1, h2, A, cap, h3, h4, fun h0 => ?_⟩
 obtain ⟨g, off, q1, q2, q3, q4, q5⟩ := h5 h0
 exact ⟨g, off, q1, q2, q3, Nat.lt_of_lt_of_le q4 hb.size, fun j u hu => (hb.cell (p := ⟨g, off + j, none⟩) (Nat.lt_of_lt_of_le q3 hN)).trans (q5 j u hu)⟩
theorem Rd.wide {lo hi lo' hi' size n : Nat} {w : World} {v : Value} {cs : List Value} (h : Rd lo hi size w v n cs) (h1 : lo' ≤ lo) (h2 : hi ≤ hi') : Rd lo' hi' size w v n cs := by
 obtain ⟨q1, q2, A, cap, q3, q4, q5⟩ := h
 refine ⟨q1, q2, A, cap, q3, q4, fun h0 => ?_⟩
 obtain ⟨g, off, r1, r2, r3, r4, r5⟩ := q5 h0
 exact ⟨g, off, r1, by omega, by omega, r4, r5⟩
theorem Rd.keep {lo hi size n : Nat} {w w' : World} {v : Value} {cs : List Value} (h : Rd lo hi size w v n cs) (hb : Below w.heap.size w w') : Rd lo hi size w' v n cs := by
 obtain ⟨h1, h2, A, cap, h3, h4, h5⟩ := h
 refine ⟨h1, h2, A, cap, h3, h4, fun h0 => ?_⟩
 obtain ⟨g, off, q1, q2, q3, q4, q5⟩ := h5 h0
 exact ⟨g, off, q1, q2, q3, Nat.lt_of_lt_of_le q4 hb.size, fun j u hu => (hb.cell (p := ⟨g, off + j, none⟩) q4).trans (q5 j u hu)⟩
theorem Rd.other {lo hi size n : Nat} {w w' : World} {v : Value} {cs : List Value} (h : Rd lo hi size w v n cs) (hs : w.heap.size ≤ w'.heap.size) (hb : ∀ g, lo ≤ g → g < hi → g < w.heap.size → w'.heap[g]? = w.heap[g]?) : Rd lo hi size w' v n cs := by
 obtain ⟨h1, h2, A, cap, h3, h4, h5⟩ := h
 refine ⟨h1, h2, A, cap, h3, h4, fun h0 => ?_⟩
 obtain ⟨g, off, q1, q2, q3, q4, q5⟩ := h5 h0
 exact ⟨g, off, q1, q2, q3, by omega, fun j u hu => (World.cell?_of_block (w := w) (a := ⟨g, off + j, none⟩) (hb g q2 q3 q4)).trans (q5 j u hu)⟩
theorem Rd.form {lo hi size n : Nat} {w : World} {v : Value} {cs : List Value} (h : Rd lo hi size w v n cs) (h0 : 0 < n) : ∃ g off cap, v = .slice (some ⟨g, off, none⟩) n cap ∧ n ≤ cap ∧ lo ≤ g ∧ g < hi ∧ g < w.heap.size ∧ ∀ j u, cs[j]? = some u → w.cell? ⟨g, off + j, none⟩ = some u := by
 obtain ⟨_, _, A, cap, h3, h4, h5⟩ := h
 obtain ⟨g, off, rfl, q⟩ := h5 h0
 exact ⟨g, off, cap, h3, h4, q⟩
theorem Rd.len {lo hi size n : Nat} {w : World} {v : Value} {cs : List Value} (h : Rd lo hi size w v n cs) : ∃ A cap, v = .slice A n cap := by
 obtain ⟨_, _, A, cap, h3, _⟩ := h
 exact ⟨A, cap, h3⟩
theorem rd_nil (lo hi size : Nat) (w : World) (A : Option Addr) (cap : Nat) : Rd lo hi size w (.slice A 0 cap) 0 [] :=
 ⟨by simp, by omega, A, cap, rfl, Nat.zero_le _, fun h => absurd h (by omega)⟩
theorem Rd.of_own {base hi size n : Nat} {e : TypeId} {w : World} {v : Value} {cs : List Value} (h : w.ownsRow base e size v n cs) (hn : n ≤ 140737488355327) (hh : w.heap.size ≤ hi) : Rd base hi size w v n cs := by
 obtain ⟨h1, h2⟩ := h
 rcases h2 with ⟨rfl, rfl⟩ | ⟨g, cap, cur, rfl, hb, hc, hnc, _, hcur, rfl⟩
 · exact ⟨h1, by omega, none, 0, rfl, Nat.le_refl _, fun h => absurd h (by omega)⟩
 ·
  have hg : g < w.heap.size := (Array.getElem?_eq_some_iff.1 hc).1
  refine ⟨h1, hn, some ⟨g, 0, none⟩, cap, rfl, hnc, fun _ => ⟨g, 0, rfl, hb, by omega, hg, fun j u hu => ?_⟩⟩
  rw [Nat.zero_add, cell_of_row w g j cur e (0, 0) hc]
  rw [List.getElem?_take] at hu
  split at hu
  · simpa using hu
  · cases hu

/-! ### Elements, each of some cells -/
theorem Jz {α : Type} {f : α → List Value} {size : Nat} (hf : ∀ x, (f x).length = size) : ∀ xs : List α, (xs.flatMap f).length = xs.length * size
 | [] => by simp
 | x :: xs => by rw [List.flatMap_cons, List.length_append, hf, Jz hf xs, List.length_cons, Nat.succ_mul]; omega
theorem J1l {α : Type} {f : α → List Value} {size : Nat} (hf : ∀ x, (f x).length = size) : ∀ (xs : List α) (k j : Nat) (x : α) (u : Value), xs[k]? = some x → (f x)[j]? = some u → (xs.flatMap f)[k * size + j]? = some u
 | [], k, j, x, u, h, _ => by simp at h
 | y :: xs, 0, j, x, u, h, hu => by
  simp only [List.getElem?_cons_zero, Option.some.injEq] at h
  subst h
  have hj : j < (f y).length := (List.getElem?_eq_some_iff.1 hu).1
  rw [List.flatMap_cons, Nat.zero_mul, Nat.zero_add, List.getElem?_append_left hj]
  exact hu
 | y :: xs, k + 1, j, x, u, h, hu => by
  rw [List.flatMap_cons, List.getElem?_append_right (by rw [hf, Nat.succ_mul]; omega), hf]
  have : (k + 1) * size + j - size = k * size + j := by rw [Nat.succ_mul]; omega
  rw [this]
  exact J1l hf xs k j x u (by simpa using h) hu

def ec (x : E) : List Value := [.int .u64 (fv x.a), .int .u64 (fv x.b)]
theorem ec_len (x : E) : (ec x).length = 2 := rfl
def ExtS (lo hi : Nat) (w : World) (v : Value) (xs : List E) : Prop := Rd lo hi 2 w v xs.length (xs.flatMap ec)
theorem J32 {lo hi : Nat} {w : World} {v : Value} {xs : List E} (h : ExtS lo hi w v xs) (h0 : 0 < xs.length) : ∃ g off cap, v = .slice (some ⟨g, off, none⟩) xs.length cap ∧ xs.length ≤ cap ∧ lo ≤ g ∧ g < hi ∧ g < w.heap.size ∧
  ∀ k x, xs[k]? = some x → w.cell? ⟨g, off + k * 2, none⟩ = some (.int .u64 (fv x.a)) ∧ w.cell? ⟨g, off + k * 2 + 1, none⟩ = some (.int .u64 (fv x.b)) := by
 obtain ⟨g, off, cap, q1, q2, q3, q4, q5, q6⟩ := Rd.form h h0
 refine ⟨g, off, cap, q1, q2, q3, q4, q5, fun k x hx => ⟨?_, ?_⟩⟩
 · exact q6 (k * 2) _ (by simpa using J1l ec_len xs k 0 x _ hx rfl)
 ·
  have := q6 (k * 2 + 1) _ (J1l ec_len xs k 1 x _ hx rfl)
  rwa [← Nat.add_assoc] at this
abbrev Raw := Int × Int
def rc (p : Raw) : List Value := [.int .u64 p.1, .int .u64 p.2]
def Word (a : Int) : Prop := 0 ≤ a ∧ a < 18446744073709551616
theorem J6n : (Tryz.prog.info? 86).map (fun i => (i.zero, i.size, i.bytes)) = some (some (.agg #[.int .u64 0, .int .u64 0]), 2, 16) := by kernel_rfl

theorem Jq {w w' : World} {base n size N : Nat} {e : TypeId} {v : Value} {xs : List Value} (h : w.ownsRow base e size v n xs) (hN : w.heap.size ≤ N) (hb : Below N w w') : w'.ownsRow base e size v n xs := by
 obtain ⟨h1, h2⟩ := h
 refine ⟨h1, h2.imp id ?_⟩
 rintro ⟨g, cap, cur, q1, q2, q3, q4⟩
 have hg : g < w.heap.size := (Array.getElem?_eq_some_iff.1 q3).1
 exact ⟨g, cap, cur, q1, q2, (hb.block g (by omega)).trans q3, q4⟩
theorem Jk {w : World} {base n size g : Nat} {e : TypeId} {v : Value} {xs : List Value} (h : w.ownsRow base e size v n xs) (hg : v.ownBlock = some g) : base ≤ g ∧ g < w.heap.size := by
 rcases h.2 with ⟨rfl, _⟩ | ⟨g', cap, cur, rfl, q1, q3, _⟩
 · cases hg
 ·
  simp only [Value.ownBlock, Option.some.injEq] at hg
  subst hg
  exact ⟨q1, (Array.getElem?_eq_some_iff.1 q3).1⟩
theorem J7u {X : World} {n : Nat} {e : TypeId} {cl : List Value} (h : Blk X n e cl.toArray) : ∀ j u, cl[j]? = some u → X.cell? (Addr.add ⟨n, 0, none⟩ j) = some u := fun j u hu => by
 have : Addr.add ⟨n, 0, none⟩ j = ⟨n, j, none⟩ := by
  unfold Addr.add
  by_cases hj : j = 0
  · subst hj; simp
  · simp [hj]
 rw [this, h.cell]
 simpa using hu
theorem Jaq {P : Program} {ops : Array Oper} {rest : List Oper} {o : Oper} {a : Act} {Q : Exit → Act → World → Prop} {X : World} {n base k size bytes : Nat} {t e : TypeId} {i : TypeInfo} {z : Value} {cl cs : List Value} {u : Value} (hgd : o.guard = none) (s x : Operand)
  (ho : o.op = .call { callee := .builtin .append, args := #[s, x], argTypes := #[t, t] }) (ht : P.underlying t = some (.slice e)) (hi : P.info? e = some i) (hz : i.zero = some z) (hsize : i.size = size) (hby : i.bytes = bytes) (hzs : z.cells.size = size) (hsz : 0 < size)
  (hcl : cl.length = 1 * size) (h1 : ∀ u ∈ cl, u.oneCell' = true) (hs : a.eval s = u) (hx : a.eval x = .slice (some ⟨n, 0, none⟩) 1 1) (hown : X.ownsRow base e size u k cs) (hsrc : Blk X n e cl.toArray) (hk : k + 1 ≤ maxLen) (hk2 : (k + 1) * bytes ≤ 140737488355328) (hbase : base ≤ X.heap.size)
  (h : ∀ v' w', w'.ownsRow base e size v' (k + 1) (cs ++ cl) → X.grownBy w' u.ownBlock → Below base X w' → wpList P ops Q rest (a.put o.dst v') w') : wpList P ops Q (o :: rest) a X := by
 refine wpList_append_own _ hgd s x t ho base e i z size bytes ht hi hz hsize hby hzs hsz u k cs hs hown ⟨n, 0, none⟩ 1 1 cl hx hcl (J7u hsrc) h1 hk hk2 hbase ?_
 intro v' w' hown' hgrow _
 exact h v' w' hown' hgrow ((Below.refl _ _).grown hgrow hbase (fun g hg => (Jk hown hg).1))
theorem ec_one (x : E) : ∀ u ∈ ec x, u.oneCell' = true := by
 intro u hu
 simp only [ec, List.mem_cons, List.not_mem_nil, or_false] at hu
 rcases hu with rfl | rfl <;> rfl

theorem Jf2 {base hi n : Nat} {e : TypeId} {w : World} {v : Value} {xs : List E} (h : w.ownsRow base e 2 v n (xs.flatMap ec)) (hl : xs.length = n) (hn : n ≤ 140737488355327) (hh : w.heap.size ≤ hi) : ExtS base hi w v xs := by
 have := Rd.of_own h hn hh
 unfold ExtS
 rw [hl]
 exact this
end
section
open Go.RowKit

theorem mFactor (x y : E) (w : World) : Calls Tryz.prog 166 #[ev x, ev y] w (Ret (ev (fac x y)) w) := by
 unfold ev fac
 go_enter Tryz.func166, Tryz.ntmps166
 go_wp2_with fail
 refine Jbk fun W hB hz b1 b2 b3 => ?_
 refine (xOne _).mono ?_
 rintro e w2 ⟨he, hb⟩
 unfold ev at he
 subst he
 go_wp2
 refine J13 fun W3 hB3 hz3 b5 => ?_
 have hb3 := hb.trans (hB3.mono hb.size)
 have d1 := b1.keep hb3
 have d2 := b2.keep hb3
 have d3 := b3.keep hb3
 have c1 := gw_blk d1
 have c2 := gw_blk d2
 have c5 := gw_blk b5
 refine Jd 11 [(2, Spec.val (.agg #[.int .u64 (fv (x * y).a), .int .u64 (fv (x * y).b)])), (5, Spec.val (.agg #[.int .u64 (fv (1 - x).a), .int .u64 (fv (1 - x).b)])), (8, Spec.val (.agg #[.int .u64 (fv (1 - y).a), .int .u64 (fv (1 - y).b)])), (9, Spec.val (.agg #[.int .u64 (fv ((1 - x) * (1 - y)).a), .int .u64 (fv ((1 - x) * (1 - y)).b)])), (10, Spec.val (.agg #[.int .u64 (fv (x * y + (1 - x) * (1 - y)).a), .int .u64 (fv (x * y + (1 - x) * (1 - y)).b)]))] (by kernel_rfl) (by kernel_rfl) (by kernel_rfl) trivial ?_
 iterate 2 (refine rg_det rfl rfl rfl (fun K hK => ?_); go_big_quiet_op; refine hK _ ?_; clear hK K)
 refine rg_val rfl rfl (fun W1 hW1 hF => J7 J1x (xMul x y W1) rfl rfl) ?_
 intro a' ha
 simp only [PutS] at ha
 subst ha
 iterate 2 (refine rg_det rfl rfl rfl (fun K hK => ?_); go_big_quiet_op; refine hK _ ?_; clear hK K)
 refine rg_val rfl rfl (fun W1 hW1 hF => J7 J3x (xSub 1 x W1) rfl rfl) ?_
 intro a' ha
 simp only [PutS] at ha
 subst ha
 iterate 2 (refine rg_det rfl rfl rfl (fun K hK => ?_); go_big_quiet_op; refine hK _ ?_; clear hK K)
 refine rg_val rfl rfl (fun W1 hW1 hF => J7 J3x (xSub 1 y W1) rfl rfl) ?_
 intro a' ha
 simp only [PutS] at ha
 subst ha
 refine rg_val rfl rfl (fun W1 hW1 hF => J7 J1x (xMul (1 - x) (1 - y) W1) rfl rfl) ?_
 intro a' ha
 simp only [PutS] at ha
 subst ha
 refine rg_val rfl rfl (fun W1 hW1 hF => J7 J2m (xAdd (x * y) ((1 - x) * (1 - y)) W1) rfl rfl) ?_
 intro a' ha
 simp only [PutS] at ha
 subst ha
 refine rg_nil (fun w' hw' hF => ?_)
 obtain ⟨z, rfl⟩ := hw'
 simp only [List.drop_succ_cons, List.drop_zero]
 have e1 := (d3.gw z).cell
 have e2 := (d3.gw z).frozen
 go_wp2
 refine bodyPost_ret (v := .agg #[.int .u64 (fv (x * y + (1 - x) * (1 - y)).a), .int .u64 (fv (x * y + (1 - x) * (1 - y)).b)]) (by simp [results, Tryz.results166, go_sem, e1]) rfl ⟨rfl, ?_⟩
 have hB4 := (hB.trans (hb3.mono hB.size))
 exact ((hB4.trans (z.h.mono hB4.size)).setCell (by show w.heap.size ≤ w.heap.size + 1 + 1; omega) _).setCell (by show w.heap.size ≤ w.heap.size + 1 + 1; omega) _
theorem mEqR (p q : List E) (hpq : q.length = p.length) (v1 v2 : Value) (lo1 hi1 lo2 hi2 : Nat) (w : World) (h1 : ExtS lo1 hi1 w v1 p) (h2 : ExtS lo2 hi2 w v2 q) :
  Calls Tryz.prog 152 #[v1, v2] w (Ret (ev (pfac p q p.length)) w) := by
 obtain ⟨A1, cap1, rfl⟩ := h1.len
 obtain ⟨A2, cap2, rfl⟩ := h2.len
 have hlen := h1.2.1
 have HPQ := Lib.hid hpq
 clear hpq
 unfold ev
 go_enter Tryz.func152, Tryz.ntmps152
 go_wp2_with fail
 refine J98 fun W hB hz b1 => ?_
 refine (xOne _).mono ?_
 rintro e w2 ⟨he, hb⟩
 unfold ev at he
 subst he
 go_wp2
 refine J13 fun W3 hB3 hz3 b5 => ?_
 have hb3 := hb.trans (hB3.mono hb.size)
 have d1 := b1.keep hb3
 have hB4 := hB.trans (hb3.mono hB.size)
 have hlt5 : w.heap.size < w2.heap.size := (b1.keep hb).lt
 clear hz hz3 hB3 hb hb3 b1 hB
 generalize w2.heap.size = n5 at *
 have hne : w.heap.size ≠ n5 := by omega
 go_loopw [6] (fun i wr => ∃ k : Nat, k ≤ p.length ∧ i = .int .i64 k ∧ Blk wr n5 86 #[.int .u64 (fv (pfac p q k).a), .int .u64 (fv (pfac p q k).b)] ∧ Blk wr w.heap.size 86 #[.int .u64 0, .int .u64 0] ∧ Below w.heap.size w wr) (fun i _ => p.length - (intOf i).toNat)
 case atStart => exact ⟨0, Nat.zero_le _, rfl, b5, d1, hB4⟩
 case round =>
  obtain ⟨k, hk, rfl, bk, br, hB⟩ := hrel
  clear b5 d1 hB4
  by_cases hlt : k < p.length
  ·
   have hlt2 : k < q.length := by rw [HPQ.out]; exact hlt
   obtain ⟨g, off, cap', hv, q1, q2, q3, q4, q5⟩ := J32 h1 (by omega)
   cases hv
   obtain ⟨g', off', cap'', hv, r1, r2, r3, r4, r5⟩ := J32 h2 (by omega)
   cases hv
   obtain ⟨x, hx, hxd⟩ := get_of hlt
   obtain ⟨y, hy, hyd⟩ := get_of hlt2
   obtain ⟨d1, d2⟩ := q5 k x hx
   obtain ⟨d3, d4⟩ := r5 k y hy
   have c1 := Je (W := wr) (Nat.lt_of_lt_of_le q4 hB.size) ((hB.cell (p := ⟨g, off + k * 2, none⟩) q4).trans d1)
   have c2 := Je (W := wr) (Nat.lt_of_lt_of_le q4 hB.size) ((hB.cell (p := ⟨g, off + k * 2 + 1, none⟩) q4).trans d2)
   have c3 := Je (W := wr) (Nat.lt_of_lt_of_le r4 hB.size) ((hB.cell (p := ⟨g', off' + k * 2, none⟩) r4).trans d3)
   have c4 := Je (W := wr) (Nat.lt_of_lt_of_le r4 hB.size) ((hB.cell (p := ⟨g', off' + k * 2 + 1, none⟩) r4).trans d4)
   have c5 := gw_blk bk
   have hf : pfac p q k * fac x y = pfac p q (k + 1) := by rw [pfac, hxd, hyd]
   have HF := Lib.hid hf
   clear q5 r5 d1 d2 d3 d4 hx hy hxd hyd h1 h2 hf
   generalize pfac p q k = m at *
   go_wp2
   refine Jd 11 [(9, Spec.val (.agg #[.int .u64 (fv (fac x y).a), .int .u64 (fv (fac x y).b)])), (10, Spec.val (.agg #[.int .u64 (fv (m * fac x y).a), .int .u64 (fv (m * fac x y).b)]))] (by kernel_rfl) (by kernel_rfl) (by kernel_rfl) trivial ?_
   iterate 9 (refine rg_det rfl rfl rfl (fun K hK => ?_); go_big_quiet_op; refine hK _ ?_; clear hK K)
   refine rg_val rfl rfl (fun W1 hW1 hF => J7 J5i (mFactor x y W1) rfl rfl) ?_
   intro a' ha
   simp only [PutS] at ha
   subst ha
   refine rg_val rfl rfl (fun W1 hW1 hF => J7 J1x (xMul m (fac x y) W1) rfl rfl) ?_
   intro a' ha
   simp only [PutS] at ha
   subst ha
   refine rg_nil (fun w' hw' hF => ?_)
   obtain ⟨z, rfl⟩ := hw'
   simp only [List.drop_succ_cons, List.drop_zero]
   have e1 := (bk.gw z).cell
   have e2 := (bk.gw z).frozen
   go_wp2
   exact ⟨⟨k + 1, by omega, by go_num, by rw [← HF.out]; exact Jb2 (bk.gw z), J6m (br.gw z) hne, J4c (hB.trans (z.h.mono hB.size)) (by omega)⟩, by simp [intOf]; omega⟩
  ·
   obtain rfl : k = p.length := by omega
   have e1 := bk.cell
   have e3 := br.cell
   have e4 := br.frozen
   go_wp2
   refine bodyPost_ret (v := .agg #[.int .u64 (fv (pfac p q p.length).a), .int .u64 (fv (pfac p q p.length).b)]) (by simp [results, Tryz.results152, go_sem, e3]) rfl ⟨rfl, ?_⟩
   exact J4c hB (Nat.le_refl _)
end
section
open Go.RowKit

theorem Jcf (a : Nat) (ha : a < 9223372036854775808) : (BitVec.ofInt 64 (a : Int)).toNat = a := by
 rw [BitVec.ofInt_natCast, BitVec.toNat_ofNat]; exact Nat.mod_eq_of_lt (by omega)
theorem Jar (a b : Nat) (ha : a < 9223372036854775808) (hb : b < 9223372036854775808) : bits .and .i64 (a : Int) (b : Int) = ((a &&& b : Nat) : Int) := by
 have hx : a &&& b < 2 ^ 63 := Nat.and_lt_two_pow _ (by omega)
 show IntKind.i64.wrap ((BitVec.ofInt 64 (a : Int) &&& BitVec.ofInt 64 (b : Int)).toNat : Int) = _
 rw [BitVec.toNat_and, Jcf a ha, Jcf b hb, IntKind.wrap_i64]
 omega
theorem Jlc (i k : Nat) (hi : i ≤ 1000000) : bits .and .i64 ((i : Int) / 2 ^ k) 1 = ((i / 2 ^ k % 2 : Nat) : Int) := by
 have e : (i : Int) / 2 ^ k = ((i / 2 ^ k : Nat) : Int) := by simp
 have h : i / 2 ^ k ≤ i := Nat.div_le_self _ _
 rw [e, show (1 : Int) = ((1 : Nat) : Int) from rfl, Jar _ _ (by omega) (by omega), Nat.and_one_is_mod]
theorem bit_fz (i k : Nat) : eb (fz (((i / 2 ^ k % 2 : Nat)) : Int)) = bitE i k := by
 unfold bitE
 have h : i / 2 ^ k % 2 = 0 ∨ i / 2 ^ k % 2 = 1 := by omega
 rcases h with h | h <;> rw [h] <;> rfl
theorem mVertex (i n : Nat) (hi : i ≤ 1000000) (hn : n ≤ 60) (w : World) :
  Calls Tryz.prog 153 #[.int .i64 i, .int .i64 n] w (RetR (fun lo hi v w => ExtS lo hi w v (vertex i n)) w) := by
 obtain ⟨i0, hi0, hz0, hz1, hz2⟩ := info_parts J6n
 go_enter Tryz.func153, Tryz.ntmps153
 go_wp2
 go_loopw [5, 6] (fun v j wr => ∃ k : Nat, k ≤ n ∧ j = .int .i64 k ∧ wr.ownsRow w.heap.size 86 2 v k ((vertex i k).flatMap ec) ∧ Below w.heap.size w wr) (fun _ j _ => n - (intOf j).toNat)
 case atStart => exact ⟨0, Nat.zero_le _, rfl, ⟨by simp [vertex], .inr ⟨w.heap.size, 0, #[], rfl, Nat.le_refl _, World.alloc_heap_new w _, Nat.le_refl _, Nat.zero_le _, rfl, by simp [vertex]⟩⟩, (Below.refl _ _).alloc (Nat.le_refl _) _⟩
 case round =>
  obtain ⟨k, hk, rfl, hown, hB⟩ := hrel
  by_cases hlt : k < n
  ·
   go_wp2_with fail
   rw [Jlc i k hi]
   refine (xFromInt _ (by omega) (by omega) _).mono ?_
   rintro e w2 ⟨he, hb⟩
   rw [bit_fz] at he
   unfold ev at he
   subst he
   have hb2 : Below wr.heap.size wr w2 := hb
   have hf : (vertex i (k + 1)).flatMap ec = (vertex i k).flatMap ec ++ ec (bitE i k) := by rw [Jf1, List.flatMap_append]; simp
   have HF := Lib.hid hf
   clear hf
   generalize bitE i k = y at *
   go_wp2_with (at_builtin; refine Jaq rfl _ _ rfl Tryz.underlying78 hi0 hz0 hz1 hz2 rfl (by decide) (cl := ec y) rfl (ec_one _) rfl rfl (Jq hown (Nat.le_refl _) ?hX) ?hsrc ?h63 ?hby ?hbase ?_)
   case hX => exact hb2.alloc hb2.size _
   case hsrc => exact Blk.new_at _ _ _ (by simp)
   case h63 => unfold maxLen; omega
   case hby => omega
   case hbase => have := hB.size; have := hb2.size; simp; omega
   intro v1 w3 hown3 hgrow hB3
   go_wp2
   exact ⟨⟨k + 1, by omega, by go_num, by rw [HF.out]; exact hown3, (hB.trans ((hb2.alloc hb2.size _).mono hB.size)).trans hB3⟩, by simp [intOf]; omega⟩
  ·
   obtain rfl : k = n := by omega
   go_wp2
   go_ret
   refine ⟨u5, rfl, ?_, hB⟩
   have := Rd.of_own hown (by omega) (Nat.le_refl _)
   unfold ExtS
   rw [J79]
   exact this

theorem mEqIndexR (i : Nat) (p : List E) (hi : i ≤ 1000000) (hp : p.length ≤ 60) (v : Value) (lo hi' : Nat) (w : World) (h : ExtS lo hi' w v p) :
  Calls Tryz.prog 136 #[.int .i64 i, v] w (Ret (ev (eqi i p)) w) := by
 obtain ⟨A, cap, rfl⟩ := h.len
 unfold ev
 go_enter Tryz.func136, Tryz.ntmps136
 go_wp2_with fail
 refine J98 fun W hB hz b1 => ?_
 refine (mVertex i p.length hi hp _).mono ?_
 rintro e w2 ⟨v2, rfl, hv2, hb⟩
 obtain ⟨A2, cap2, rfl⟩ := hv2.len
 have h2 := (h.keep hB).keep hb
 go_wp2_with fail
 refine (mEqR (vertex i p.length) p (by rw [J79]) _ _ _ _ _ _ _ hv2 h2).mono ?_
 rintro e w3 ⟨he, hb3⟩
 rw [J79, Jao i p.length p p.length (Nat.le_refl _)] at he
 unfold ev at he
 subst he
 have hb4 := hb.trans (hb3.mono hb.size)
 have b2 := b1.keep hb4
 have e1 := b2.cell
 have e2 := b2.frozen
 go_wp2
 refine bodyPost_ret (v := .agg #[.int .u64 (fv (eqi i p).a), .int .u64 (fv (eqi i p).b)]) (by simp [results, Tryz.results136, go_sem, e1, eqi]) rfl ⟨rfl, ?_⟩
 exact J4c (hB.trans (hb4.mono hB.size)) (Nat.le_refl _)
end
section
open Go.RowKit

/-! ### New blocks in a region -/
def Lit (e : TypeId) (len : Nat) (cs : Array Value) (n m : Nat) (v : Value) (w : World) : Prop := v = .slice (some ⟨n, 0, none⟩) len len ∧ n < m ∧ Blk w n e cs
theorem J99 {e : TypeId} {len : Nat} {cs : Array Value} : Stable (Lit e len cs) := fun _ _ _ _ _ ⟨h1, h2, h3⟩ hb => ⟨h1, h2, h3.below hb h2⟩
def New (e : TypeId) (cs : Array Value) (n m : Nat) (v : Value) (w : World) : Prop := v = .pointer (some ⟨n, 0, none⟩) ∧ n < m ∧ Blk w n e cs
theorem Jh2 {e : TypeId} {cs : Array Value} : Stable (New e cs) := fun _ _ _ _ _ ⟨h1, h2, h3⟩ hb => ⟨h1, h2, h3.below hb h2⟩
def LitF (len n : Nat) (v : Value) : Prop := v = .slice (some ⟨n, 0, none⟩) len len
def NewF (n : Nat) (v : Value) : Prop := v = .pointer (some ⟨n, 0, none⟩)
theorem J8w {e : TypeId} {len : Nat} {cs : Array Value} : Fit (Lit e len cs) (LitF len) := ⟨J99, fun _ => ⟨_, rfl⟩, fun _ _ _ _ h => h.1⟩
theorem J8x {e : TypeId} {cs : Array Value} : Fit (New e cs) NewF := ⟨Jh2, fun _ => ⟨_, rfl⟩, fun _ _ _ _ h => h.1⟩
def SlF (len : Nat) (_ : Nat) (v : Value) : Prop := ∃ A cap, v = .slice A len cap
def ExtA (xs : List E) (lo hi : Nat) (v : Value) (w : World) : Prop := ExtS lo hi w v xs
theorem Jfm {xs : List E} : Fit (ExtA xs) (SlF xs.length) := ⟨fun _ _ _ _ _ h hb => h.below hb (Nat.le_refl _), fun _ => ⟨.slice none xs.length 0, none, 0, rfl⟩, fun _ _ _ _ h => h.len⟩
theorem Jf {P : Program} {o : Oper} {a : Act} {w : World} {t : TypeId} {x : Operand} {g i : Nat} {cs : List Value} {d : TypeDesc} (hu : P.underlying t = some d) (hd : d.isRow = true) (hi : (P.info? t).map (·.size) = some cs.length) (ho : o.op = .load t x) (hx : a.eval x = .pointer (some ⟨g, i, none⟩)) (hc : w.rangeAt g i cs) :
  stepAt P o a w (fun v' w' => v' = .agg cs.toArray ∧ Below w.heap.size w w') := by
 have h2 := run_loadAt_mid (P := P) w g i t cs d hc hu hd hi
 unfold stepAt execOp
 simp only [ho, hx, Sem.run_bind, h2, Result.andThen_ok]
 exact ⟨rfl, Below.refl _ _⟩
theorem Jds {P : Program} {o : Oper} {a : Act} {w : World} {t e : TypeId} {len : Nat} {parts : Array (Nat × Operand)} {cells : Array Value} {ie : TypeInfo} {z : Value} (hu : P.underlying t = some (.slice e)) (hie : P.info? e = some ie) (hz : ie.zero = some z) (hsmall : ¬ len * ie.size > 2 ^ 24) (hpos : ¬ len * ie.size = 0)
  (ho : o.op = .buildSlice t len parts)
  (hf : Instr.fill (fun i => some (i * ie.size, ie.size)) ((Array.range (len * ie.size)).map (z.cells[· % z.cells.size]!)) (parts.map fun (i, x) => (i, a.eval x)).toList = some cells) :
  stepAt P o a w (fun v w' => Lit e len cells w.heap.size w'.heap.size v w' ∧ Below w.heap.size w w') := by
 unfold stepAt execOp
 simp only [ho, Sem.run_bind, run_buildSlice w t e len _ cells ie z hu hie hz hsmall hpos hf, Result.andThen_ok]
 exact ⟨⟨rfl, by simp only [World.size_alloc]; omega, Blk.new _ _ _⟩, (Below.refl _ _).alloc (Nat.le_refl _) _⟩
theorem Jis {z v : Value} {size : Nat} {cs : Array Value} (hs : 0 < size) (hv : v.cells = cs) (hc : cs.size = size) :
  Instr.fill (fun i => some (i * size, size)) ((Array.range (1 * size)).map (z.cells[· % z.cells.size]!)) [(0, v)] = some cs := by
 obtain ⟨r, h1, h2, h3⟩ := Great.fill_dense hs [v] 0 ((Array.range (1 * size)).map (z.cells[· % z.cells.size]!)) (fun u hu => by rw [List.mem_singleton.1 hu, hv, hc]) (by simp)
 have h1' : Instr.fill (fun i => some (i * size, size)) ((Array.range (1 * size)).map (z.cells[· % z.cells.size]!)) [(0, v)] = some r := h1
 rw [h1']
 congr 1
 apply Array.ext_getElem?
 intro k
 rw [h3 k]
 by_cases hk : k < size
 ·
  rw [if_pos (by simp; omega)]
  simp [Nat.div_eq_of_lt hk, Nat.mod_eq_of_lt hk, hv]
 · rw [if_neg (by simp; omega), Array.getElem?_eq_none (by simp; omega), Array.getElem?_eq_none (by omega)]
theorem J15 {P : Program} {o : Oper} {a : Act} {w : World} {t e : TypeId} {x : Operand} {cs : Array Value} {ie : TypeInfo} {z : Value} {size : Nat} (hu : P.underlying t = some (.slice e)) (hie : P.info? e = some ie) (hz : ie.zero = some z) (hi : ie.size = size) (hp : 0 < size) (hsmall : size ≤ 16777216)
  (ho : o.op = .buildSlice t 1 #[(0, x)]) (hv : (a.eval x).cells = cs) (hc : cs.size = size) :
  stepAt P o a w (fun v w' => Lit e 1 cs w.heap.size w'.heap.size v w' ∧ Below w.heap.size w w') := by
 subst hi
 refine Jds hu hie hz (by omega) (by omega) ho ?_
 simpa using Jis hp hv hc
theorem J2l {P : Program} {o : Oper} {a : Act} {w : World} {t e : TypeId} {len : Nat} {parts : List (Nat × Operand)} {vs : List Value} {ie : TypeInfo} {z : Value} (hu : P.underlying t = some (.slice e)) (hie : P.info? e = some ie) (hz : ie.zero = some z) (hi : ie.size = 1) (hlen : vs.length = len) (hpos : 0 < len) (hsmall : len ≤ 16777216)
  (ho : o.op = .buildSlice t len parts.toArray) (hv : (parts.map fun x => (x.1, a.eval x.2)) = (vs.zipIdx 0).map fun x => (x.2, x.1)) (h1 : ∀ v ∈ vs, v.cells = #[v]) :
  stepAt P o a w (fun v w' => Lit e len vs.toArray w.heap.size w'.heap.size v w' ∧ Below w.heap.size w w') := by
 refine Jds hu hie hz (by rw [hi]; omega) (by rw [hi]; omega) ho ?_
 have hm : (parts.toArray.map fun (i, x) => (i, a.eval x)).toList = (vs.zipIdx 0).map fun x => (x.2, x.1) := by rw [← hv]; simp
 rw [hm, hi]
 obtain ⟨r, h1', h2, h3⟩ := Great.fill_dense (s := 1) (by decide) vs 0 ((Array.range (len * 1)).map (z.cells[· % z.cells.size]!)) (fun u hu => by rw [h1 u hu]; rfl) (by simp; omega)
 rw [h1']
 congr 1
 apply Array.ext_getElem?
 intro k
 rw [h3 k]
 by_cases hk : k < len
 ·
  rw [if_pos (by simp; omega)]
  simp only [Nat.div_one, Nat.sub_zero, Nat.mod_one, List.getElem?_toArray]
  obtain ⟨u, hu⟩ : ∃ u, vs[k]? = some u := ⟨vs[k]'(by omega), List.getElem?_eq_getElem (by omega)⟩
  rw [hu]
  simp [h1 u (List.mem_of_getElem? hu)]
 · rw [if_neg (by simp; omega), Array.getElem?_eq_none (by simp; omega), Array.getElem?_eq_none (by simp; omega)]
theorem J4m {P : Program} {o : Oper} {a : Act} {w : World} {e : TypeId} {ie : TypeInfo} {z : Value} (hie : P.info? e = some ie) (hz : ie.zero = some z) (ho : o.op = .alloc e) :
  stepAt P o a w (fun v w' => New e z.cells w.heap.size w'.heap.size v w' ∧ Below w.heap.size w w') := by
 unfold stepAt execOp
 simp [ho, Instr.alloc, zeroValue, typeInfo, hie, hz, newVar, newRow, newObj]
 exact ⟨⟨rfl, by simp, Blk.new _ _ _⟩, (Below.refl _ _).alloc (Nat.le_refl _) _⟩

/-! ### Gates -/
structure Gt where
 L : Nat
 R : Nat
 c : Fp
 a : Fp
 b : Fp
 d : Fp
def gc (g : Gt) : List Value := [.int .i64 g.L, .int .i64 g.R, .int .u64 (fv g.c), .int .u64 (fv g.a), .int .u64 (fv g.b), .int .u64 (fv g.d)]
def Num (a : Int) : Prop := -9223372036854775808 ≤ a ∧ a < 9223372036854775808
theorem rRedF (x : Int) (h : Word x) (w : World) : Calls Tryz.prog 89 #[.int .u64 x] w (Ret (.int .u64 (fv (fz x))) w) := by
 rw [fv_fz]
 exact J17 (rRed x h.1 h.2 w)
end

section
open Go.RowKit

/-! ### Sums -/
def esum : List E → E
 | [] => 0
 | x :: l => x + esum l
theorem Jas : ∀ l l' : List E, esum (l ++ l') = esum l + esum l'
 | [], l' => (E.zero_add _).symm
 | x :: l, l' => by rw [List.cons_append, esum, esum, Jas l l', E.add_assoc]
def gk (g : Gt) : Nat → Fp
 | 0 => g.c
 | 1 => g.a
 | 2 => g.b
 | _ => g.d
/-! ### Lists that are turned one by one -/
theorem Jb3 (x : E) : ∀ (cs : List E) (k : Nat), k < cs.length → ((cs.flatMap ec).set (k * 2) (.int .u64 (fv x.a))).set (k * 2 + 1) (.int .u64 (fv x.b)) = (cs.set k x).flatMap ec
 | [], k, h => absurd h (by simp)
 | y :: cs, 0, _ => rfl
 | y :: cs, k + 1, h => by
  have e1 : (k + 1) * 2 = k * 2 + 1 + 1 := by omega
  have ih := Jb3 x cs k (by simpa using h)
  rw [List.flatMap_cons, List.set_cons_succ, List.flatMap_cons, ← ih, e1]
  rfl
section
variable {w : World} {g : Nat} {t : TypeId} {cs : List E}
theorem Jhi (h : Blk w g t (cs.flatMap ec).toArray) {k : Nat} {x : E} (hk : cs[k]? = some x) : w.cell? ⟨g, k * 2, none⟩ = some (.int .u64 (fv x.a)) ∧ w.cell? ⟨g, k * 2 + 1, none⟩ = some (.int .u64 (fv x.b)) := by
 have e0 := J1l ec_len cs k 0 x _ hk rfl
 have e1 := J1l ec_len cs k 1 x _ hk rfl
 refine ⟨?_, ?_⟩
 · rw [h.cell]; simpa using e0
 · rw [h.cell]; simpa using e1
end

theorem Jh3 {N : Nat} {a w : World} {g i j : Nat} {c d : Value} (h : Below N a w) (hN : N ≤ g) : Below N a ((w.setCell ⟨g, i, none⟩ c).setCell ⟨g, j, none⟩ d) := (h.setCell (p := ⟨g, i, none⟩) hN c).setCell (p := ⟨g, j, none⟩) hN d

/-! ### make -/
theorem Jld (n k : Nat) (h : k < n * 2) : ((List.replicate n (0 : E)).flatMap ec)[k]? = some (.int .u64 0) := by
 have hk : k / 2 < n := by omega
 have h1 : (List.replicate n (0 : E))[k / 2]? = some 0 := by simp [hk]
 have e : k = k / 2 * 2 + k % 2 := by omega
 rw [e]
 have : k % 2 = 0 ∨ k % 2 = 1 := by omega
 rcases this with h2 | h2 <;> rw [h2] <;> exact J1l ec_len _ _ _ _ _ h1 rfl
theorem mk_ext (n : Nat) (hn : n ≤ 1000000) (w : World) : (Instr.makeSlice 78 (.int .i64 (n : Int)) (.int .i64 (n : Int))).run Tryz.prog w = .ok (.slice (some ⟨w.heap.size, 0, none⟩) n n) (w.alloc (.cells ((List.replicate n (0 : E)).flatMap ec).toArray 86)) := by
 obtain ⟨i0, hi0, hz0, hz1, hz2⟩ := info_parts J6n
 have h := run_make (P := Tryz.prog) w _ _ i0 _ Tryz.underlying78 hi0 hz0 .i64 .i64 (n : Int) (n : Int) (by omega) (Int.le_refl _) (by rw [hz2]; omega) (by omega)
 rw [h, Int.toNat_natCast, hz1]
 congr 4
 apply Array.ext_getElem?
 intro k
 unfold madeCells
 by_cases hk : k < n * 2
 ·
  have : k % 2 = 0 ∨ k % 2 = 1 := by omega
  simp only [List.getElem?_toArray, Jld n k hk, Array.getElem?_map, Value.cells]
  rw [Array.getElem?_range]
  simp only [hk, if_true, Option.map_some]
  rcases this with h2 | h2 <;> simp [h2]
 · rw [Array.getElem?_eq_none (by simp; omega), Array.getElem?_eq_none (by have := Jz ec_len (List.replicate n (0 : E)); simp only [List.length_replicate] at this; simp only [List.size_toArray, this]; omega)]

/-! ### The reference -/
def gv (g : Gt) : Value := .agg #[.int .i64 g.L, .int .i64 g.R, .int .u64 (fv g.c), .int .u64 (fv g.a), .int .u64 (fv g.b), .int .u64 (fv g.d)]
end


end Go.Proofs.YtoiampgfnidfdaaGreatDoor
