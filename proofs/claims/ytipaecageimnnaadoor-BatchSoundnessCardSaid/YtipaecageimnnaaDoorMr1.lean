/-
  The reference's functions of chapter 05, by contract.
-/
import Derived.Test.YtipaecageimnnaaDoorMl3
import Derived.Test.YtipaecageimnnaaDoorGrow
namespace Go.Proofs.YtipaecageimnnaaDoor
open Go.RowKit

def lineE (p q : List E) (t : E) (j : Nat) : List E := (List.range j).map fun k => p.getD k 0 + t * (q.getD k 0 - p.getD k 0)
theorem lineE_succ (p q : List E) (t : E) (j : Nat) : lineE p q t (j + 1) = lineE p q t j ++ [p.getD j 0 + t * (q.getD j 0 - p.getD j 0)] := by simp [lineE, List.range_succ]
theorem lineE_length (p q : List E) (t : E) (j : Nat) : (lineE p q t j).length = j := by simp [lineE]
def bindE (t : List E) (r : E) (j : Nat) : List E := (List.range j).map fun k => t.getD (2 * k) 0 + r * (t.getD (2 * k + 1) 0 - t.getD (2 * k) 0)
theorem bindE_succ (t : List E) (r : E) (j : Nat) : bindE t r (j + 1) = bindE t r j ++ [t.getD (2 * j) 0 + r * (t.getD (2 * j + 1) 0 - t.getD (2 * j) 0)] := by simp [bindE, List.range_succ]
theorem bindE_length (t : List E) (r : E) (j : Nat) : (bindE t r j).length = j := by simp [bindE]
theorem bindE_all (r : E) : ∀ (n : Nat) (t : List E), t.length = 2 * n → bindE t r n = bindL t r
  | 0, [], _ => rfl
  | n + 1, x :: y :: t, h => by
    have ih := bindE_all r n t (by simp only [List.length_cons] at h; omega)
    rw [bindL, ← ih]
    unfold bindE
    rw [List.range_succ_eq_map, List.map_cons, List.map_map]
    congr 1
  | 0, _ :: _, h => by simp at h
  | n + 1, [], h => by simp at h
  | n + 1, [_], h => by simp at h; omega
/-- The table that 'Made' makes. -/
def mdAt (l : List Raw) (i : Nat) : E := if l.length = 0 then eb (fz i) else madeAt l (i % l.length) + eb (fz ((i / l.length : Nat) : Int))
def mdT (l : List Raw) (j : Nat) : List E := (List.range j).map (mdAt l)
theorem mdT_succ (l : List Raw) (j : Nat) : mdT l (j + 1) = mdT l j ++ [mdAt l j] := by simp [mdT, List.range_succ]
theorem mdT_length (l : List Raw) (j : Nat) : (mdT l j).length = j := by simp [mdT]
theorem tabE_succ (p : List E) (j : Nat) : ((List.range (j + 1)).map fun i => eqi i p) = ((List.range j).map fun i => eqi i p) ++ [eqi j p] := by simp [List.range_succ]
def liftE (zs : List Int) : List E := zs.map fun z => eb (fz z)

set_option maxRecDepth 100000 in
set_option maxHeartbeats 1000000 in
theorem rEval (t p : List E) (ht : t.length ≤ 1000000) (hp : p.length ≤ 60) (v1 v2 : Value) (lo1 hi1 lo2 hi2 : Nat) (w : World) (h1 : ExtS lo1 hi1 w v1 t) (h2 : ExtS lo2 hi2 w v2 p) :
    Calls Tryd.prog 12 #[v1, v2] w (Ret (ev (dotE t p t.length)) w) := by
  obtain ⟨A1, cap1, rfl⟩ := h1.len
  have hlen := h1.2.1
  unfold ev
  go_enter Tryd.func12, Tryd.ntmps12
  go_wp2
  refine wp_stk2 fun W3 hB3 hz3 d1 b5 => ?_
  have hne : w.heap.size ≠ w.heap.size + 1 := by omega
  go_loopw [6] (fun i wr => ∃ k : Nat, k ≤ t.length ∧ i = .int .i64 k ∧ Blk wr (w.heap.size + 1) 26 #[.int .u64 (fv (dotE t p k).a), .int .u64 (fv (dotE t p k).b)] ∧ Blk wr w.heap.size 26 #[.int .u64 0, .int .u64 0] ∧ Below w.heap.size w wr) (fun i _ => t.length - (intOf i).toNat)
  case atStart => exact ⟨0, Nat.zero_le _, rfl, b5, d1, hB3⟩
  case round =>
    obtain ⟨k, hk, rfl, bk, br, hB⟩ := hrel
    clear b5 d1 hB3
    by_cases hlt : k < t.length
    · obtain ⟨g, off, cap', hv, q1, q2, q3, q4, q5⟩ := exts_cells h1 (by omega)
      cases hv
      obtain ⟨x, hx, hxd⟩ := get_of hlt
      obtain ⟨d1, d2⟩ := q5 k x hx
      have c1 := gw_cell (W := wr) (Nat.lt_of_lt_of_le q4 hB.size) ((hB.cell (p := ⟨g, off + k * 2, none⟩) q4).trans d1)
      have c2 := gw_cell (W := wr) (Nat.lt_of_lt_of_le q4 hB.size) ((hB.cell (p := ⟨g, off + k * 2 + 1, none⟩) q4).trans d2)
      have c5 := gw_blk bk
      have h2r := Rd.keep h2 hB
      have HF := Lib.hid (dotE_succ t p k)
      rw [hxd] at HF
      have hk6 : k ≤ 1000000 := by omega
      clear q5 d1 d2 hx hxd h1 h2
      generalize dotE t p k = m at *
      go_wp2
      refine wp_region_rg 10 [(7, Spec.val (.agg #[.int .u64 (fv (eqi k p).a), .int .u64 (fv (eqi k p).b)])), (8, Spec.val (.agg #[.int .u64 (fv (x * eqi k p).a), .int .u64 (fv (x * eqi k p).b)])), (9, Spec.val (.agg #[.int .u64 (fv (m + x * eqi k p).a), .int .u64 (fv (m + x * eqi k p).b)]))] (by kernel_rfl) (by kernel_rfl) (by kernel_rfl) trivial ?_
      refine rg_det rfl rfl rfl (fun K hK => ?_)
      go_big_quiet_op
      refine hK _ ?_; clear hK K
      refine rg_det rfl rfl rfl (fun K hK => ?_)
      go_big_quiet_op
      refine hK _ ?_; clear hK K
      refine rg_det rfl rfl rfl (fun K hK => ?_)
      go_big_quiet_op
      refine hK _ ?_; clear hK K
      refine rg_det rfl rfl rfl (fun K hK => ?_)
      go_big_quiet_op
      refine hK _ ?_; clear hK K
      refine rg_det rfl rfl rfl (fun K hK => ?_)
      go_big_quiet_op
      refine hK _ ?_; clear hK K
      refine rg_det rfl rfl rfl (fun K hK => ?_)
      go_big_quiet_op
      refine hK _ ?_; clear hK K
      refine rg_det rfl rfl rfl (fun K hK => ?_)
      go_big_quiet_op
      refine hK _ ?_; clear hK K
      refine rg_val rfl rfl (fun W1 hW1 hF => step_callv en_attestor_attestorref05_EqIndex (mEqIndexR k p hk6 hp _ lo2 hi2 W1 (Rd.keep h2r (grw_below hW1))) rfl rfl) ?_
      intro a' ha
      simp only [Act.put, List.setIfInBounds_toArray, List.set_cons_succ, List.set_cons_zero] at ha
      subst ha
      refine rg_val rfl rfl (fun W1 hW1 hF => step_callv en_attestor_attestorref02_Mul (xMul x (eqi k p) W1) rfl rfl) ?_
      intro a' ha
      simp only [Act.put, List.setIfInBounds_toArray, List.set_cons_succ, List.set_cons_zero] at ha
      subst ha
      refine rg_val rfl rfl (fun W1 hW1 hF => step_callv en_attestor_attestorref02_Add (xAdd m (x * eqi k p) W1) rfl rfl) ?_
      intro a' ha
      simp only [Act.put, List.setIfInBounds_toArray, List.set_cons_succ, List.set_cons_zero] at ha
      subst ha
      refine rg_nil (fun w' hw' hF => ?_)
      obtain ⟨z, rfl⟩ := hw'
      simp only [List.drop_succ_cons, List.drop_zero]
      have e1 := (bk.gw z).cell
      have e2 := (bk.gw z).frozen
      go_wp2
      exact ⟨⟨k + 1, by omega, by go_num, by rw [HF.out]; exact blk_set2 (bk.gw z), blk_far2 (br.gw z) hne, below_set2 (hB.trans (z.h.mono hB.size)) (by omega)⟩, by simp [intOf]; omega⟩
    · obtain rfl : k = t.length := by omega
      have e1 := bk.cell
      have e3 := br.cell
      have e4 := br.frozen
      go_wp2
      refine bodyPost_ret (v := .agg #[.int .u64 (fv (dotE t p t.length).a), .int .u64 (fv (dotE t p t.length).b)]) (by simp [results, Tryd.results12, go_sem, e3]) rfl ⟨rfl, ?_⟩
      exact below_set2 hB (Nat.le_refl _)
end Go.Proofs.YtipaecageimnnaaDoor
