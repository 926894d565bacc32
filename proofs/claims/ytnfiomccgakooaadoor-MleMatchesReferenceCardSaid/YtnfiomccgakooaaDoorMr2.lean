/-
  The reference's functions of chapter 05 that make slices, by contract.
-/
import Derived.Test.YtnfiomccgakooaaDoorMr1
namespace Go.Proofs.YtnfiomccgakooaaDoor
open Go.RowKit

set_option maxRecDepth 100000 in
set_option maxHeartbeats 1000000 in
theorem rEqTable (p : List E) (hp : p.length ≤ 8) (v : Value) (lo hi' : Nat) (w : World) (h : ExtS lo hi' w v p) :
    Calls Tryd.prog 19 #[v] w (RetR (ExtA (tabE p)) w) := by
  obtain ⟨A1, cap1, rfl⟩ := h.len
  obtain ⟨n, hn⟩ : ∃ n, n = 2 ^ p.length := ⟨_, rfl⟩
  have hn1 : n ≤ 256 ∧ ((2 : Int) ^ p.length = (n : Int)) := by
    have := Nat.pow_le_pow_right (n := 2) (by decide) hp
    exact ⟨by rw [hn]; exact this, by rw [hn]; simp⟩
  obtain ⟨hn2, hn4⟩ := hn1
  have hw64 : wrap64 ((2 : Int) ^ p.length) = (n : Int) := by rw [hn4]; simp only [wrap64]; omega
  have HN := Lib.hid hn
  clear hn hn4
  obtain ⟨i0, hi0, iz0, iz1, iz2⟩ := info_parts ext_info
  go_enter Tryd.func19, Tryd.ntmps19
  go_wp2
  go_loopw [3, 4] (fun v i wr => ∃ j : Nat, j ≤ n ∧ i = .int .i64 j ∧ wr.ownsRow w.heap.size 27 2 v j (((List.range j).map fun i => eqi i p).flatMap ec) ∧ Below w.heap.size w wr) (fun _ i _ => n - (intOf i).toNat)
  case atStart => exact ⟨0, Nat.zero_le _, rfl, ⟨by simp, .inr ⟨w.heap.size, 0, #[], rfl, Nat.le_refl _, World.alloc_heap_new w _, Nat.le_refl _, Nat.zero_le _, rfl, by simp⟩⟩, (Below.refl _ _).alloc (Nat.le_refl _) _⟩
  case round =>
    obtain ⟨j, hj, rfl, hown, hB⟩ := hrel
    by_cases hlt : j < n
    · have hf : ((List.range (j + 1)).map fun i => eqi i p).flatMap ec = ((List.range j).map fun i => eqi i p).flatMap ec ++ ec (eqi j p) := by rw [tabE_succ, List.flatMap_append]; simp
      have HF := Lib.hid hf
      clear hf
      go_wp2_with fail
      refine (mEqIndexR j p (by omega) (by omega) _ lo hi' wr (Rd.keep h hB)).mono ?_
      rintro e w2 ⟨he, hb⟩
      unfold ev at he
      subst he
      have hb2 : Below wr.heap.size wr w2 := hb
      generalize eqi j p = y at *
      go_wp2_with (at_builtin; refine wpList_app1 rfl _ _ rfl Tryd.underlying22 hi0 iz0 iz1 iz2 rfl (by decide) (cl := ec y) rfl (ec_one _) rfl rfl (own_below hown (Nat.le_refl _) ?hX) ?hsrc ?h63 ?hby ?hbase ?_)
      case hX => exact hb2.alloc hb2.size _
      case hsrc => exact Blk.new_at _ _ _ (by simp)
      case h63 => unfold maxLen; omega
      case hby => omega
      case hbase => have := hB.size; have := hb2.size; simp; omega
      intro v1 w3 hown3 hgrow hB3
      go_wp2
      exact ⟨⟨j + 1, by omega, by go_num, by rw [HF.out]; exact hown3, (hB.trans ((hb2.alloc hb2.size _).mono hB.size)).trans hB3⟩, by simp [intOf]; omega⟩
    · obtain rfl : j = n := by omega
      go_wp2
      go_ret
      refine ⟨u3, rfl, ?_, hB⟩
      have := Rd.of_own hown (by omega) (Nat.le_refl _)
      unfold ExtA ExtS
      rw [tabE_len, ← HN.out]
      rw [HN.out] at this ⊢
      exact this
set_option maxRecDepth 100000 in
set_option maxHeartbeats 1000000 in
theorem rLift (zs : List Int) (hn : zs.length ≤ 1000) (v : Value) (lo hi' : Nat) (w : World) (h : Rd lo hi' 1 w v zs.length (zs.map fun z => Value.int .u64 z)) (hz : ∀ z ∈ zs, 0 ≤ z ∧ z < 18446744069414584321) :
    Calls Tryd.prog 25 #[v] w (RetR (ExtA (liftE zs)) w) := by
  obtain ⟨A1, cap1, rfl⟩ := h.len
  obtain ⟨i0, hi0, iz0, iz1, iz2⟩ := info_parts ext_info
  go_enter Tryd.func25, Tryd.ntmps25
  go_wp2
  go_loopw [3, 4] (fun v i wr => ∃ j : Nat, j ≤ zs.length ∧ i = .int .i64 j ∧ wr.ownsRow w.heap.size 27 2 v j ((liftE (zs.take j)).flatMap ec) ∧ Below w.heap.size w wr) (fun _ i _ => zs.length - (intOf i).toNat)
  case atStart => exact ⟨0, Nat.zero_le _, rfl, ⟨by simp [liftE], .inr ⟨w.heap.size, 0, #[], rfl, Nat.le_refl _, World.alloc_heap_new w _, Nat.le_refl _, Nat.zero_le _, rfl, by simp [liftE]⟩⟩, (Below.refl _ _).alloc (Nat.le_refl _) _⟩
  case round =>
    obtain ⟨j, hj, rfl, hown, hB⟩ := hrel
    by_cases hlt : j < zs.length
    · obtain ⟨z, hzj⟩ : ∃ z, zs[j]? = some z := ⟨zs[j], List.getElem?_eq_getElem hlt⟩
      obtain ⟨z0, z1⟩ := hz z (List.mem_of_getElem? hzj)
      obtain ⟨g, off, cap', hv, q1, q2, q3, q4, q5⟩ := Rd.form h (by omega)
      cases hv
      have c1 := (hB.cell (p := ⟨g, off + j, none⟩) q4).trans (q5 j (.int .u64 z) (by rw [List.getElem?_map, hzj]; rfl))
      have hf : (liftE (zs.take (j + 1))).flatMap ec = (liftE (zs.take j)).flatMap ec ++ ec (eb (fz z)) := by
        unfold liftE
        rw [List.take_add_one, hzj]
        simp
      have HF := Lib.hid hf
      have hfz : fv (fz z) = z := by rw [fv_fz]; omega
      have HC := xFromBase (fz z)
      rw [hfz] at HC
      replace HC := Lib.hid HC
      clear hf hzj q5 h hz hfz
      go_wp2_with fail
      refine (HC.out _).mono ?_
      rintro e w2 ⟨he, hb⟩
      unfold ev at he
      subst he
      have hb2 : Below wr.heap.size wr w2 := hb
      generalize eb (fz z) = y at *
      go_wp2_with (at_builtin; refine wpList_app1 rfl _ _ rfl Tryd.underlying22 hi0 iz0 iz1 iz2 rfl (by decide) (cl := ec y) rfl (ec_one _) rfl rfl (own_below hown (Nat.le_refl _) ?hX) ?hsrc ?h63 ?hby ?hbase ?_)
      case hX => exact hb2.alloc hb2.size _
      case hsrc => exact Blk.new_at _ _ _ (by simp)
      case h63 => unfold maxLen; omega
      case hby => omega
      case hbase => have := hB.size; have := hb2.size; simp; omega
      intro v1 w3 hown3 hgrow hB3
      go_wp2
      exact ⟨⟨j + 1, by omega, by go_num, by rw [HF.out]; exact hown3, (hB.trans ((hb2.alloc hb2.size _).mono hB.size)).trans hB3⟩, by simp [intOf]; omega⟩
    · obtain rfl : j = zs.length := by omega
      go_wp2
      go_ret
      refine ⟨u3, rfl, ?_, hB⟩
      have := Rd.of_own hown (by omega) (Nat.le_refl _)
      rw [List.take_of_length_le (Nat.le_refl _)] at this
      unfold ExtA ExtS
      rw [show (liftE zs).length = zs.length by simp [liftE]]
      exact this
set_option maxRecDepth 100000 in
set_option maxHeartbeats 1000000 in
theorem rBind (t : List E) (r : E) (n : Nat) (ht : t.length = 2 * n) (hn : n ≤ 1000) (v : Value) (lo hi' : Nat) (w : World) (h : ExtS lo hi' w v t) :
    Calls Tryd.prog 11 #[v, ev r] w (RetR (ExtA (bindL t r)) w) := by
  obtain ⟨A1, cap1, rfl⟩ := h.len
  have HT := Lib.hid ht
  obtain ⟨m, hm⟩ : ∃ m, m = t.length := ⟨_, rfl⟩
  have hmn : m = 2 * n := by omega
  clear ht
  unfold ev
  obtain ⟨i0, hi0, iz0, iz1, iz2⟩ := info_parts ext_info
  rw [← hm]
  have HM := Lib.hid hm
  have HMN := Lib.hid hmn
  clear hm hmn
  go_enter Tryd.func11, Tryd.ntmps11
  go_wp2
  refine wp_stk2 fun W hB0 hz b1 b2 => ?_
  have hs0 : W.heap.size = w.heap.size + 1 + 1 := hz.out
  go_loopw [5, 6] (fun v i wr => ∃ j : Nat, j ≤ n ∧ i = .int .i64 j ∧ wr.ownsRow (w.heap.size + 1) 27 2 v j ((bindE t r j).flatMap ec) ∧ Below (w.heap.size + 1) W wr) (fun _ i _ => n - (intOf i).toNat)
  case atStart => exact ⟨0, Nat.zero_le _, rfl, ⟨by simp [bindE], .inr ⟨w.heap.size + 1, 0, #[], rfl, Nat.le_refl _, b2, Nat.le_refl _, Nat.zero_le _, rfl, by simp [bindE]⟩⟩, Below.refl _ _⟩
  case round =>
    obtain ⟨j, hj, rfl, hown, hB⟩ := hrel
    have hBw := hB0.trans (hB.mono (Nat.le_succ _))
    have hmn := HMN.out
    by_cases hlt : j < n
    · have hl1 : 2 * j < t.length := by rw [HT.out]; omega
      have hl2 : 2 * j + 1 < t.length := by rw [HT.out]; omega
      obtain ⟨g, off, cap', hv, q1, q2, q3, q4, q5⟩ := exts_cells (Rd.keep h hBw) (by omega)
      rw [← HM.out] at hv
      cases hv
      obtain ⟨x, hx, hxd⟩ := get_of hl1
      obtain ⟨y, hy, hyd⟩ := get_of hl2
      obtain ⟨d1, d2⟩ := q5 _ x hx
      obtain ⟨d3, d4⟩ := q5 _ y hy
      have hf : (bindE t r (j + 1)).flatMap ec = (bindE t r j).flatMap ec ++ ec (x + r * (y - x)) := by
        rw [bindE_succ, List.flatMap_append, hxd, hyd]; simp
      have HF := Lib.hid hf
      have x1 := gw_cell q4 d1
      have x2 := gw_cell q4 d2
      have x3 := gw_cell q4 d3
      have x4 := gw_cell q4 d4
      have x5 := gw_blk (b1.below hB (Nat.lt_succ_self _))
      have hi1 : 2 * j < m := by omega
      have hi2 : 2 * j + 1 < m := by omega
      have hwr := hB.size
      clear hf q5 d1 d2 d3 d4 hx hy hxd hyd h hmn
      go_wp2_with fail
      refine wp_region_rg 22 [(18, Spec.val (.agg #[.int .u64 (fv (y - x).a), .int .u64 (fv (y - x).b)])), (19, Spec.val (.agg #[.int .u64 (fv (r * (y - x)).a), .int .u64 (fv (r * (y - x)).b)])), (20, Spec.val (.agg #[.int .u64 (fv (x + r * (y - x)).a), .int .u64 (fv (x + r * (y - x)).b)])), (21, Spec.rel (Lit 27 1 #[.int .u64 (fv (x + r * (y - x)).a), .int .u64 (fv (x + r * (y - x)).b)]) AnyV)] (by kernel_rfl) (by kernel_rfl) (by kernel_rfl) ⟨fit_of (stable_lit), trivial⟩ ?_
      refine rg_det rfl rfl rfl (fun K hK => ?_)
      go_big_quiet_op
      refine hK _ ?_; clear hK K
      refine rg_det rfl rfl rfl (fun K hK => ?_)
      go_big_quiet_op
      refine hK _ ?_; clear hK K
      refine rg_det rfl rfl rfl (fun K hK => ?_)
      go_big_quiet_op
      refine hK _ ?_; clear hK K
      refine rg_det rfl rfl rfl (fun K hK => ?_)
      go_big_quiet_op
      refine hK _ ?_; clear hK K
      refine rg_det rfl rfl rfl (fun K hK => ?_)
      go_big_quiet_op
      refine hK _ ?_; clear hK K
      refine rg_det rfl rfl rfl (fun K hK => ?_)
      go_big_quiet_op
      refine hK _ ?_; clear hK K
      refine rg_det rfl rfl rfl (fun K hK => ?_)
      go_big_quiet_op
      refine hK _ ?_; clear hK K
      refine rg_det rfl rfl rfl (fun K hK => ?_)
      go_big_quiet_op
      refine hK _ ?_; clear hK K
      refine rg_det rfl rfl rfl (fun K hK => ?_)
      go_big_quiet_op
      refine hK _ ?_; clear hK K
      refine rg_det rfl rfl rfl (fun K hK => ?_)
      go_big_quiet_op
      refine hK _ ?_; clear hK K
      refine rg_det rfl rfl rfl (fun K hK => ?_)
      go_big_quiet_op
      refine hK _ ?_; clear hK K
      refine rg_det rfl rfl rfl (fun K hK => ?_)
      go_big_quiet_op
      refine hK _ ?_; clear hK K
      refine rg_det rfl rfl rfl (fun K hK => ?_)
      go_big_quiet_op
      refine hK _ ?_; clear hK K
      refine rg_det rfl rfl rfl (fun K hK => ?_)
      go_big_quiet_op
      refine hK _ ?_; clear hK K
      refine rg_det rfl rfl rfl (fun K hK => ?_)
      go_big_quiet_op
      refine hK _ ?_; clear hK K
      refine rg_det rfl rfl rfl (fun K hK => ?_)
      go_big_quiet_op
      refine hK _ ?_; clear hK K
      refine rg_det rfl rfl rfl (fun K hK => ?_)
      go_big_quiet_op
      refine hK _ ?_; clear hK K
      refine rg_det rfl rfl rfl (fun K hK => ?_)
      go_big_quiet_op
      refine hK _ ?_; clear hK K
      refine rg_val rfl rfl (fun W1 hW1 hF => step_callv en_attestor_attestorref02_Sub (xSub y x W1) rfl rfl) ?_
      intro a' ha
      simp only [Act.put, List.setIfInBounds_toArray, List.set_cons_succ, List.set_cons_zero] at ha
      subst ha
      refine rg_val rfl rfl (fun W1 hW1 hF => step_callv en_attestor_attestorref02_Mul (xMul r (y - x) W1) rfl rfl) ?_
      intro a' ha
      simp only [Act.put, List.setIfInBounds_toArray, List.set_cons_succ, List.set_cons_zero] at ha
      subst ha
      refine rg_val rfl rfl (fun W1 hW1 hF => step_callv en_attestor_attestorref02_Add (xAdd x (r * (y - x)) W1) rfl rfl) ?_
      intro a' ha
      simp only [Act.put, List.setIfInBounds_toArray, List.set_cons_succ, List.set_cons_zero] at ha
      subst ha
      refine rg_rel rfl rfl (fun W1 hW1 hF => step_lit1 Tryd.underlying22 hi0 iz0 iz1 (by decide) (by decide) rfl rfl rfl) ?_
      intro n21 m21 v21 hn21 hm21 hd21 hf21 a' ha
      simp only [Act.put, List.setIfInBounds_toArray, List.set_cons_succ, List.set_cons_zero] at ha
      subst ha
      refine rg_nil (fun w' hw' hF => ?_)
      obtain ⟨z, rfl⟩ := hw'
      simp only [List.drop_succ_cons, List.drop_zero]
      obtain ⟨hm, rfl, hlt', bl⟩ := end_last hF
      clear hF x1 x2 x3 x4 x5
      go_wp2_with (at_builtin; refine wpList_app1 rfl _ _ rfl Tryd.underlying22 hi0 iz0 iz1 iz2 rfl (by decide) (cl := ec (x + r * (y - x))) rfl (ec_one _) rfl rfl (own_below hown (Nat.le_refl _) z.h) ?hsrc ?h63 ?hby ?hbase ?_)
      case hsrc => exact bl
      case h63 => unfold maxLen; omega
      case hby => omega
      case hbase => have := z.h.size; omega
      intro v1 w4 hown4 hgrow hB5
      go_wp2
      exact ⟨⟨j + 1, by omega, by go_num, by rw [HF.out]; exact hown4, (hB.trans (z.h.mono (by omega))).trans hB5⟩, by simp [intOf]; omega⟩
    · obtain rfl : j = n := by omega
      go_wp2
      go_ret
      refine ⟨u5, rfl, ?_, hBw⟩
      have := Rd.of_own hown (by omega) (Nat.le_refl _)
      rw [bindE_all r _ t HT.out] at this
      unfold ExtA ExtS
      rw [bindL_length r _ t HT.out]
      exact this.wide (Nat.le_succ _) (Nat.le_refl _)
end Go.Proofs.YtnfiomccgakooaaDoor
