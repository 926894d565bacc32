/-
  The reference's functions of chapter 05, by contract.
  The reference's functions of chapter 05 that make slices, by contract.
-/
import Derived.Test.YtnddfeidggcplaaGreatMl3
import Derived.Test.YtnddfeidggcplaaGreatGrow
namespace Go.Proofs.YtnddfeidggcplaaGreat
open Go.RowKit

def lineE (p q : List E) (t : E) (j : Nat) : List E := (List.range j).map fun k => p.getD k 0 + t * (q.getD k 0 - p.getD k 0)
theorem lineE_succ (p q : List E) (t : E) (j : Nat) : lineE p q t (j + 1) = lineE p q t j ++ [p.getD j 0 + t * (q.getD j 0 - p.getD j 0)] := by simp [lineE, List.range_succ]
theorem lineE_length (p q : List E) (t : E) (j : Nat) : (lineE p q t j).length = j := by simp [lineE]
def bindE (t : List E) (r : E) (j : Nat) : List E := (List.range j).map fun k => t.getD (2 * k) 0 + r * (t.getD (2 * k + 1) 0 - t.getD (2 * k) 0)
theorem bindE_succ (t : List E) (r : E) (j : Nat) : bindE t r (j + 1) = bindE t r j ++ [t.getD (2 * j) 0 + r * (t.getD (2 * j + 1) 0 - t.getD (2 * j) 0)] := by simp [bindE, List.range_succ]
theorem bindE_length (t : List E) (r : E) (j : Nat) : (bindE t r j).length = j := by simp [bindE]
theorem bindE_all (r : E) : ∀ (n : Nat) (t : List E), t.length = 2 * n → bindE t r n = bindL t r
  | 0, [], _ => rfl
  | n + 1, x :: y :: t, h => by
    have ih := bindE_all r n t (by simp only [List.length_cons] at h; omega)
    rw [bindL, ← ih]
    unfold bindE
    rw [List.range_succ_eq_map, List.map_cons, List.map_map]
    congr 1
  | 0, _ :: _, h => by simp at h
  | n + 1, [], h => by simp at h
  | n + 1, [_], h => by simp at h; omega
/-- The table that 'Made' makes. -/
def mdAt (l : List Raw) (i : Nat) : E := if l.length = 0 then eb (fz i) else madeAt l (i % l.length) + eb (fz ((i / l.length : Nat) : Int))
def mdT (l : List Raw) (j : Nat) : List E := (List.range j).map (mdAt l)
theorem mdT_succ (l : List Raw) (j : Nat) : mdT l (j + 1) = mdT l j ++ [mdAt l j] := by simp [mdT, List.range_succ]
theorem mdT_length (l : List Raw) (j : Nat) : (mdT l j).length = j := by simp [mdT]
theorem tabE_succ (p : List E) (j : Nat) : ((List.range (j + 1)).map fun i => eqi i p) = ((List.range j).map fun i => eqi i p) ++ [eqi j p] := by simp [List.range_succ]
def liftE (zs : List Int) : List E := zs.map fun z => eb (fz z)

end Go.Proofs.YtnddfeidggcplaaGreat
namespace Go.Proofs.YtnddfeidggcplaaGreat
open Go.RowKit

set_option maxRecDepth 100000 in
set_option maxHeartbeats 1000000 in
theorem rBind (t : List E) (r : E) (n : Nat) (ht : t.length = 2 * n) (hn : n ≤ 1000) (v : Value) (lo hi' : Nat) (w : World) (h : ExtS lo hi' w v t) :
    Calls Tryz.prog 128 #[v, ev r] w (RetR (ExtA (bindL t r)) w) := by
  obtain ⟨A1, cap1, rfl⟩ := h.len
  have HT := Lib.hid ht
  obtain ⟨m, hm⟩ : ∃ m, m = t.length := ⟨_, rfl⟩
  have hmn : m = 2 * n := by omega
  clear ht
  unfold ev
  obtain ⟨i0, hi0, iz0, iz1, iz2⟩ := info_parts ext_info
  rw [← hm]
  have HM := Lib.hid hm
  have HMN := Lib.hid hmn
  clear hm hmn
  go_enter Tryz.func128, Tryz.ntmps128
  go_wp2
  refine wp_stk2 fun W hB0 hz b1 b2 => ?_
  have hs0 : W.heap.size = w.heap.size + 1 + 1 := hz.out
  go_loopw [5, 6] (fun v i wr => ∃ j : Nat, j ≤ n ∧ i = .int .i64 j ∧ wr.ownsRow (w.heap.size + 1) 30 2 v j ((bindE t r j).flatMap ec) ∧ Below (w.heap.size + 1) W wr) (fun _ i _ => n - (intOf i).toNat)
  case atStart => exact ⟨0, Nat.zero_le _, rfl, ⟨by simp [bindE], .inr ⟨w.heap.size + 1, 0, #[], rfl, Nat.le_refl _, b2, Nat.le_refl _, Nat.zero_le _, rfl, by simp [bindE]⟩⟩, Below.refl _ _⟩
  case round =>
    obtain ⟨j, hj, rfl, hown, hB⟩ := hrel
    have hBw := hB0.trans (hB.mono (Nat.le_succ _))
    have hmn := HMN.out
    by_cases hlt : j < n
    · have hl1 : 2 * j < t.length := by rw [HT.out]; omega
      have hl2 : 2 * j + 1 < t.length := by rw [HT.out]; omega
      obtain ⟨g, off, cap', hv, q1, q2, q3, q4, q5⟩ := exts_cells (Rd.keep h hBw) (by omega)
      rw [← HM.out] at hv
      cases hv
      obtain ⟨x, hx, hxd⟩ := get_of hl1
      obtain ⟨y, hy, hyd⟩ := get_of hl2
      obtain ⟨d1, d2⟩ := q5 _ x hx
      obtain ⟨d3, d4⟩ := q5 _ y hy
      have hf : (bindE t r (j + 1)).flatMap ec = (bindE t r j).flatMap ec ++ ec (x + r * (y - x)) := by
        rw [bindE_succ, List.flatMap_append, hxd, hyd]; simp
      have HF := Lib.hid hf
      have x1 := gw_cell q4 d1
      have x2 := gw_cell q4 d2
      have x3 := gw_cell q4 d3
      have x4 := gw_cell q4 d4
      have x5 := gw_blk (b1.below hB (Nat.lt_succ_self _))
      have hi1 : 2 * j < m := by omega
      have hi2 : 2 * j + 1 < m := by omega
      have hwr := hB.size
      clear hf q5 d1 d2 d3 d4 hx hy hxd hyd h hmn
      go_wp2_with fail
      refine wp_region_rg 22 [(18, Spec.val (.agg #[.int .u64 (fv (y - x).a), .int .u64 (fv (y - x).b)])), (19, Spec.val (.agg #[.int .u64 (fv (r * (y - x)).a), .int .u64 (fv (r * (y - x)).b)])), (20, Spec.val (.agg #[.int .u64 (fv (x + r * (y - x)).a), .int .u64 (fv (x + r * (y - x)).b)])), (21, Spec.rel (Lit 30 1 #[.int .u64 (fv (x + r * (y - x)).a), .int .u64 (fv (x + r * (y - x)).b)]) AnyV)] (by kernel_rfl) (by kernel_rfl) (by kernel_rfl) ⟨fit_of (stable_lit), trivial⟩ ?_
      refine rg_det rfl rfl rfl (fun K hK => ?_)
      go_big_quiet_op
      refine hK _ ?_; clear hK K
      refine rg_det rfl rfl rfl (fun K hK => ?_)
      go_big_quiet_op
      refine hK _ ?_; clear hK K
      refine rg_det rfl rfl rfl (fun K hK => ?_)
      go_big_quiet_op
      refine hK _ ?_; clear hK K
      refine rg_det rfl rfl rfl (fun K hK => ?_)
      go_big_quiet_op
      refine hK _ ?_; clear hK K
      refine rg_det rfl rfl rfl (fun K hK => ?_)
      go_big_quiet_op
      refine hK _ ?_; clear hK K
      refine rg_det rfl rfl rfl (fun K hK => ?_)
      go_big_quiet_op
      refine hK _ ?_; clear hK K
      refine rg_det rfl rfl rfl (fun K hK => ?_)
      go_big_quiet_op
      refine hK _ ?_; clear hK K
      refine rg_det rfl rfl rfl (fun K hK => ?_)
      go_big_quiet_op
      refine hK _ ?_; clear hK K
      refine rg_det rfl rfl rfl (fun K hK => ?_)
      go_big_quiet_op
      refine hK _ ?_; clear hK K
      refine rg_det rfl rfl rfl (fun K hK => ?_)
      go_big_quiet_op
      refine hK _ ?_; clear hK K
      refine rg_det rfl rfl rfl (fun K hK => ?_)
      go_big_quiet_op
      refine hK _ ?_; clear hK K
      refine rg_det rfl rfl rfl (fun K hK => ?_)
      go_big_quiet_op
      refine hK _ ?_; clear hK K
      refine rg_det rfl rfl rfl (fun K hK => ?_)
      go_big_quiet_op
      refine hK _ ?_; clear hK K
      refine rg_det rfl rfl rfl (fun K hK => ?_)
      go_big_quiet_op
      refine hK _ ?_; clear hK K
      refine rg_det rfl rfl rfl (fun K hK => ?_)
      go_big_quiet_op
      refine hK _ ?_; clear hK K
      refine rg_det rfl rfl rfl (fun K hK => ?_)
      go_big_quiet_op
      refine hK _ ?_; clear hK K
      refine rg_det rfl rfl rfl (fun K hK => ?_)
      go_big_quiet_op
      refine hK _ ?_; clear hK K
      refine rg_det rfl rfl rfl (fun K hK => ?_)
      go_big_quiet_op
      refine hK _ ?_; clear hK K
      refine rg_val rfl rfl (fun W1 hW1 hF => step_callv en_attestor_attestorref02_Sub (xSub y x W1) rfl rfl) ?_
      intro a' ha
      simp only [Act.put, List.setIfInBounds_toArray, List.set_cons_succ, List.set_cons_zero] at ha
      subst ha
      refine rg_val rfl rfl (fun W1 hW1 hF => step_callv en_attestor_attestorref02_Mul (xMul r (y - x) W1) rfl rfl) ?_
      intro a' ha
      simp only [Act.put, List.setIfInBounds_toArray, List.set_cons_succ, List.set_cons_zero] at ha
      subst ha
      refine rg_val rfl rfl (fun W1 hW1 hF => step_callv en_attestor_attestorref02_Add (xAdd x (r * (y - x)) W1) rfl rfl) ?_
      intro a' ha
      simp only [Act.put, List.setIfInBounds_toArray, List.set_cons_succ, List.set_cons_zero] at ha
      subst ha
      refine rg_rel rfl rfl (fun W1 hW1 hF => step_lit1 Tryz.underlying22 hi0 iz0 iz1 (by decide) (by decide) rfl rfl rfl) ?_
      intro n21 m21 v21 hn21 hm21 hd21 hf21 a' ha
      simp only [Act.put, List.setIfInBounds_toArray, List.set_cons_succ, List.set_cons_zero] at ha
      subst ha
      refine rg_nil (fun w' hw' hF => ?_)
      obtain ⟨z, rfl⟩ := hw'
      simp only [List.drop_succ_cons, List.drop_zero]
      obtain ⟨hm, rfl, hlt', bl⟩ := end_last hF
      clear hF x1 x2 x3 x4 x5
      go_wp2_with (at_builtin; refine wpList_app1 rfl _ _ rfl Tryz.underlying22 hi0 iz0 iz1 iz2 rfl (by decide) (cl := ec (x + r * (y - x))) rfl (ec_one _) rfl rfl (own_below hown (Nat.le_refl _) z.h) ?hsrc ?h63 ?hby ?hbase ?_)
      case hsrc => exact bl
      case h63 => unfold maxLen; omega
      case hby => omega
      case hbase => have := z.h.size; omega
      intro v1 w4 hown4 hgrow hB5
      go_wp2
      exact ⟨⟨j + 1, by omega, by go_num, by rw [HF.out]; exact hown4, (hB.trans (z.h.mono (by omega))).trans hB5⟩, by simp [intOf]; omega⟩
    · obtain rfl : j = n := by omega
      go_wp2
      go_ret
      refine ⟨u5, rfl, ?_, hBw⟩
      have := Rd.of_own hown (by omega) (Nat.le_refl _)
      rw [bindE_all r _ t HT.out] at this
      unfold ExtA ExtS
      rw [bindL_length r _ t HT.out]
      exact this.wide (Nat.le_succ _) (Nat.le_refl _)
end Go.Proofs.YtnddfeidggcplaaGreat
