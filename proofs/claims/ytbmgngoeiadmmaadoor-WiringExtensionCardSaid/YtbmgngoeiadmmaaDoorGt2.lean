/-
  The gates that the reference makes.
-/
import Derived.Test.YtbmgngoeiadmmaaDoorGt
namespace Go.Proofs.YtbmgngoeiadmmaaDoor
open Go.RowKit

set_option maxRecDepth 100000 in
set_option maxHeartbeats 2000000 in
theorem gMade (l : List Rg) (k n : Nat) (hk : k ≤ 3) (hn : n ≤ 1000) (v : Value) (N : Nat) (w : World) (hl : RawG 0 N w v l) (_hN : N ≤ w.heap.size) :
    Calls Tryd.prog 29 #[v, .int .i64 k, .int .i64 n] w (RetR (fun lo hi v w => GateS lo hi w v (madeG l k n)) w) := by
  obtain ⟨A, cap, rfl⟩ := hl.1.len
  have hlen := hl.1.2.1
  obtain ⟨i0, hi0, hz0, hz1, hz2⟩ := info_parts gate_info
  have hk3 : (2 : Int) ^ k ≤ 8 ∧ 1 ≤ (2 : Int) ^ k := by
    have : k = 0 ∨ k = 1 ∨ k = 2 ∨ k = 3 := by omega
    rcases this with rfl | rfl | rfl | rfl <;> simp
  go_enter Tryd.func29, Tryd.ntmps29
  go_wp2
  go_loopw [7, 8] (fun v i wr => ∃ j : Nat, j ≤ n ∧ j ≤ l.length ∧ i = .int .i64 j ∧ wr.ownsRow w.heap.size 46 6 v j ((madeG l k j).flatMap gc) ∧ Below w.heap.size w wr) (fun _ i _ => n - (intOf i).toNat)
  case atStart => exact ⟨0, Nat.zero_le _, Nat.zero_le _, rfl, ⟨by simp [madeG], .inr ⟨w.heap.size, 0, #[], rfl, Nat.le_refl _, World.alloc_heap_new w _, Nat.le_refl _, Nat.zero_le _, rfl, by simp [madeG]⟩⟩, (Below.refl _ _).alloc (Nat.le_refl _) _⟩
  case round =>
    obtain ⟨j, hj, hjl, rfl, hown, hB⟩ := hrel
    by_cases hlt : j < n
    · by_cases hkl : j < l.length
      · obtain ⟨g, off, cap', hv, q1, q2, q3, q4, q5⟩ := rawg_cells hl (by omega)
        cases hv
        obtain ⟨p, hp⟩ : ∃ p, l[j]? = some p := ⟨l[j], List.getElem?_eq_getElem hkl⟩
        obtain ⟨d1, d2, d3, d4, d5, d6⟩ := q5 j p hp
        obtain ⟨o1, o2, o3, o4, o5, o6⟩ := hl.2 p (List.mem_of_getElem? hp)
        have x1 := (hB.cell (p := ⟨g, off + j * 6, none⟩) q4).trans d1
        have x2 := (hB.cell (p := ⟨g, off + j * 6 + 1, none⟩) q4).trans d2
        have x3 := (hB.cell (p := ⟨g, off + j * 6 + 2, none⟩) q4).trans d3
        have x4 := (hB.cell (p := ⟨g, off + j * 6 + 3, none⟩) q4).trans d4
        have x5 := (hB.cell (p := ⟨g, off + j * 6 + 4, none⟩) q4).trans d5
        have x6 := (hB.cell (p := ⟨g, off + j * 6 + 5, none⟩) q4).trans d6
        have q6 : g < wr.heap.size := Nat.lt_of_lt_of_le q4 hB.size
        have HP := Lib.hid (madeG_succ l k j p hp)
        clear q5 d1 d2 d3 d4 d5 d6 hl hp
        go_wp2_with fail
        refine wp_stk1 fun W hBW hzW b1 => ?_
        have c1 := gw_blk b1
        refine wp_region_rg 27 [(15, Spec.val (.int .u64 (fv (fz p.c)))), (18, Spec.val (.int .u64 (fv (fz p.a)))), (21, Spec.val (.int .u64 (fv (fz p.b)))), (24, Spec.val (.int .u64 (fv (fz p.d)))), (26, Spec.rel (Lit 46 1 #[.int .i64 (bits .and .i64 p.L (2 ^ k - 1)), .int .i64 (bits .and .i64 p.R (2 ^ k - 1)), .int .u64 (fv (fz p.c)), .int .u64 (fv (fz p.a)), .int .u64 (fv (fz p.b)), .int .u64 (fv (fz p.d))]) AnyV)] (by kernel_rfl) (by kernel_rfl) (by kernel_rfl) ⟨fit_of (stable_lit), trivial⟩ ?_
        refine rg_det rfl rfl rfl (fun K hK => ?_)
        go_big_quiet_op
        refine hK _ ?_; clear hK K
        refine rg_det rfl rfl rfl (fun K hK => ?_)
        go_big_quiet_op
        refine hK _ ?_; clear hK K
        refine rg_det rfl rfl rfl (fun K hK => ?_)
        go_big_quiet_op
        refine hK _ ?_; clear hK K
        refine rg_det rfl rfl rfl (fun K hK => ?_)
        go_big_quiet_op
        refine hK _ ?_; clear hK K
        refine rg_det rfl rfl rfl (fun K hK => ?_)
        go_big_quiet_op
        refine hK _ ?_; clear hK K
        refine rg_det rfl rfl rfl (fun K hK => ?_)
        go_big_quiet_op
        refine hK _ ?_; clear hK K
        refine rg_det rfl rfl rfl (fun K hK => ?_)
        go_big_quiet_op
        refine hK _ ?_; clear hK K
        refine rg_det rfl rfl rfl (fun K hK => ?_)
        go_big_quiet_op
        refine hK _ ?_; clear hK K
        refine rg_det rfl rfl rfl (fun K hK => ?_)
        go_big_quiet_op
        refine hK _ ?_; clear hK K
        refine rg_det rfl rfl rfl (fun K hK => ?_)
        go_big_quiet_op
        refine hK _ ?_; clear hK K
        refine rg_det rfl rfl rfl (fun K hK => ?_)
        go_big_quiet_op
        refine hK _ ?_; clear hK K
        refine rg_det rfl rfl rfl (fun K hK => ?_)
        go_big_quiet_op
        refine hK _ ?_; clear hK K
        refine rg_det rfl rfl rfl (fun K hK => ?_)
        go_big_quiet_op
        refine hK _ ?_; clear hK K
        refine rg_det rfl rfl rfl (fun K hK => ?_)
        go_big_quiet_op
        refine hK _ ?_; clear hK K
        refine rg_det rfl rfl rfl (fun K hK => ?_)
        go_big_quiet_op
        refine hK _ ?_; clear hK K
        refine rg_val rfl rfl (fun W1 hW1 hF => step_callv en_attestor_attestorref01_Reduce (rRedF p.c o3 W1) rfl rfl) ?_
        intro a' ha
        simp only [Act.put, List.setIfInBounds_toArray, List.set_cons_succ, List.set_cons_zero] at ha
        subst ha
        refine rg_det rfl rfl rfl (fun K hK => ?_)
        go_big_quiet_op
        refine hK _ ?_; clear hK K
        refine rg_det rfl rfl rfl (fun K hK => ?_)
        go_big_quiet_op
        refine hK _ ?_; clear hK K
        refine rg_val rfl rfl (fun W1 hW1 hF => step_callv en_attestor_attestorref01_Reduce (rRedF p.a o4 W1) rfl rfl) ?_
        intro a' ha
        simp only [Act.put, List.setIfInBounds_toArray, List.set_cons_succ, List.set_cons_zero] at ha
        subst ha
        refine rg_det rfl rfl rfl (fun K hK => ?_)
        go_big_quiet_op
        refine hK _ ?_; clear hK K
        refine rg_det rfl rfl rfl (fun K hK => ?_)
        go_big_quiet_op
        refine hK _ ?_; clear hK K
        refine rg_val rfl rfl (fun W1 hW1 hF => step_callv en_attestor_attestorref01_Reduce (rRedF p.b o5 W1) rfl rfl) ?_
        intro a' ha
        simp only [Act.put, List.setIfInBounds_toArray, List.set_cons_succ, List.set_cons_zero] at ha
        subst ha
        refine rg_det rfl rfl rfl (fun K hK => ?_)
        go_big_quiet_op
        refine hK _ ?_; clear hK K
        refine rg_det rfl rfl rfl (fun K hK => ?_)
        go_big_quiet_op
        refine hK _ ?_; clear hK K
        refine rg_val rfl rfl (fun W1 hW1 hF => step_callv en_attestor_attestorref01_Reduce (rRedF p.d o6 W1) rfl rfl) ?_
        intro a' ha
        simp only [Act.put, List.setIfInBounds_toArray, List.set_cons_succ, List.set_cons_zero] at ha
        subst ha
        refine rg_det rfl rfl rfl (fun K hK => ?_)
        go_big_quiet_op
        refine hK _ ?_; clear hK K
        refine rg_rel rfl rfl (fun W1 hW1 hF => step_lit1 Tryd.underlying22 hi0 hz0 hz1 (by decide) (by decide) rfl rfl rfl) ?_
        intro n26 m26 v26 hn26 hm26 hd26 hf26 a' ha
        simp only [Act.put, List.setIfInBounds_toArray, List.set_cons_succ, List.set_cons_zero] at ha
        subst ha
        refine rg_nil (fun w' hw' hF => ?_)
        obtain ⟨z, rfl⟩ := hw'
        simp only [List.drop_succ_cons, List.drop_zero]
        obtain ⟨hm, rfl, hlt', bl⟩ := end_last hF
        rw [i64_mask p.L o1 k hk, i64_mask p.R o2 k hk] at bl
        have hBz : Below wr.heap.size wr z.w := hBW.trans (z.h.mono hBW.size)
        clear hF c1
        go_wp2_with (at_builtin; refine wpList_app1 rfl _ _ rfl Tryd.underlying22 hi0 hz0 hz1 hz2 rfl (by decide) (cl := gc (gm k p)) rfl (gc_one _) rfl rfl (own_below hown (Nat.le_refl _) ?hX) ?hsrc ?h63 ?hby ?hbase ?_)
        case hX => exact hBz
        case hsrc => exact bl
        case h63 => unfold maxLen; omega
        case hby => omega
        case hbase => have := hB.size; have := hBz.size; omega
        intro v1 w3 hown3 hgrow hB3
        have hf : (madeG l k (j + 1)).flatMap gc = (madeG l k j).flatMap gc ++ gc (gm k p) := by rw [HP.out, List.flatMap_append]; simp
        have HF := Lib.hid hf
        clear hf
        go_wp2
        exact ⟨⟨j + 1, by omega, by omega, by go_num, by rw [HF.out]; exact hown3, (hB.trans (hBz.mono hB.size)).trans hB3⟩, by simp [intOf]; omega⟩
      · go_wp2
        obtain rfl : j = l.length := by omega
        go_ret
        refine ⟨u7, rfl, ?_, hB⟩
        have hmn : madeG l k n = madeG l k l.length := by unfold madeG; rw [List.take_of_length_le (by omega), List.take_of_length_le (Nat.le_refl _)]
        have := Rd.of_own hown (by omega) (Nat.le_refl _)
        unfold GateS
        rw [hmn, madeG_length l k l.length (Nat.le_refl _)]
        exact this
    · obtain rfl : j = n := by omega
      by_cases hkl : j < l.length
      all_goals go_wp2
      all_goals
        go_ret
        refine ⟨u7, rfl, ?_, hB⟩
        have := Rd.of_own hown (by omega) (Nat.le_refl _)
        unfold GateS
        rw [madeG_length l k j hjl]
        exact this
end Go.Proofs.YtbmgngoeiadmmaaDoor
