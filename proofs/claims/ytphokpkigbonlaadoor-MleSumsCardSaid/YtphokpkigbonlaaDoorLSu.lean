/-
  MleSums: the walk.
-/
import Derived.Test.YtphokpkigbonlaaDoorLay5
import Derived.Test.YtphokpkigbonlaaDoorInv
namespace Go.Proofs.YtphokpkigbonlaaDoor
open Go.RowKit

theorem two_ne : eb (fz 2) ≠ 0 := by decide +kernel
theorem half_sum : einv (eb (fz 2)) + einv (eb (fz 2)) = 1 := by
  have h := einv_mul _ two_ne
  have h2 : eb (fz 2) = 1 + 1 := by decide +kernel
  rw [h2, E.mul_add, E.mul_one] at h
  rw [h2]
  exact h
/-- A point of which the first k coordinates have been replaced. -/
def conK (c : E) (t : List E) (k : Nat) : List E := List.replicate k c ++ t.drop k
theorem conK_len (c : E) (t : List E) (k : Nat) (h : k ≤ t.length) : (conK c t k).length = t.length := by simp [conK]; omega
theorem conK_zero (c : E) (t : List E) : conK c t 0 = t := by simp [conK]
theorem conK_set (c : E) (t : List E) (k : Nat) (h : k < t.length) : (conK c t k).set k c = conK c t (k + 1) := by
  unfold conK
  rw [List.set_append_right _ _ (by simp), List.length_replicate, Nat.sub_self, List.drop_eq_getElem_cons h, List.set_cons_zero, List.replicate_succ', List.append_assoc]
  rfl
theorem conK_all (c : E) (t : List E) : conK c t t.length = List.replicate t.length c := by simp [conK]
def sumT (t : List E) (j : Nat) : E := esum ((List.range j).map fun i => t.getD i 0)
theorem sumT_succ (t : List E) (j : Nat) : sumT t (j + 1) = sumT t j + t.getD j 0 := by
  unfold sumT
  rw [List.range_succ, List.map_append, esum_append]
  simp [esum, E.add_zero]
def replN (c : E) (n : Nat) : List E := List.replicate n c
set_option maxRecDepth 100000 in
set_option maxHeartbeats 8000000 in
theorem wkMleSums (q : Q5) (vT vP vQ : Value) (w : World) (h : Q5S w.heap.size w q vT vP vQ) (hL : Laid w) :
    Calls Tryd.prog 11 #[qv5 vT vP vQ q] w (Ret (.bool true) w) := by
  unfold qv5
  go_enter Tryd.func11, Tryd.ntmps11
  go_wp2_with fail
  refine calls_stk1 fun W1 hB1 hz1 b1 => ?_
  refine (lSanity5 W1 (hL.keep hB1)).mono ?_
  rintro e w2 ⟨rfl, hb2⟩
  have hB2 := hB1.trans (hb2.mono hB1.size)
  have e1 := (b1.keep hb2).cell
  go_wp2_with fail
  refine (lMade5 q vT vP vQ w.heap.size w2 (h.keep hB2) hB2.size).mono ?_
  rintro e w3 ⟨a, b, c, nt, mt, np, mp, ns, ms, rfl, ot, op, os, ⟨lt1, lp1, ls1, lt2, lp2, ls2⟩, ⟨dtp, dts, dps⟩, hb3⟩
  obtain ⟨Aa, capa, rfl⟩ := ot.1.len
  obtain ⟨Ab, capb, rfl⟩ := op.1.len
  obtain ⟨Ac, capc, rfl⟩ := os.1.len
  have hB3 := hB2.trans (hb3.mono hB2.size)
  have Ly := lay_made5 ot op os lt2 lp2 ls2 (hL.keep hB3)
  clear e1 h
  generalize q.t = t at *
  generalize q.p = p at *
  generalize q.s = s at *
  have hpl := Ly.pl
  have ht64 := Ly.t64
  have ht0 := Ly.t0
  have HT := Lib.hid Ly.tl
  have hap : Apart nt mt np mp := dtp
  have hP := op.2
  have hT := ot.1
  clear dtp dts dps ot op os
  go_wp2_with fail
  refine (xFromInt 2 (by omega) (by omega) w3).mono ?_
  rintro e w4 ⟨he, hb4⟩
  unfold ev at he
  subst he
  go_wp2_with fail
  refine (eInv (eb (fz 2)) two_ne w4).mono ?_
  rintro e w5 ⟨he, hb5⟩
  unfold ev at he
  subst he
  have hcc := Lib.hid half_sum
  generalize einv (eb (fz 2)) = c at *
  go_wp2_with fail
  refine wp_stk1 fun W6 hB6 hz6 b6 => ?_
  have hb35 := hb4.trans (hb5.mono hb4.size)
  have hb36 := hb35.trans (hB6.mono hb35.size)
  have L6 := Ly.keep hb36
  have hB36 := hB3.trans (hb36.mono hB3.size)
  have hT6 := Rd.keep hT hb36
  have hs3 := hb35.size
  have hs6 := hB6.size
  have hw3 := hB3.size
  obtain ⟨gP, rP, hg1, hg2, hg3, hgb, hPb⟩ : ∃ gP rP, (gP < nt ∨ mt ≤ gP) ∧ gP ≠ w5.heap.size ∧ w.heap.size ≤ gP ∧ (gP < w5.heap.size ∨ p.length = 0) ∧ (0 < p.length → Ab = some ⟨gP, 0, none⟩ ∧ p.length ≤ capb ∧ Blk W6 gP 27 (p.flatMap ec ++ rP).toArray) := by
    by_cases hp0 : 0 < p.length
    · obtain ⟨g, cap, rest, hv, l1, l2, l3, bP⟩ := hP hp0
      cases hv
      refine ⟨g, rest, by unfold Apart at hap; omega, by omega, by have := hB2.size; omega, .inl (by omega), fun _ => ⟨rfl, l1, bP.keep hb36⟩⟩
    · exact ⟨W6.heap.size + mt + 1, [], .inr (by omega), by omega, by omega, .inr (by omega), fun h => absurd h hp0⟩
  clear hP hT Ly hb4 hb5 hB6 hz6 hb35 hL hap hB1 hb2 hB2 hb3 hB3 hb36 b1
  generalize w5.heap.size = B at *
  go_loopw [9] (fun i wr => ∃ j : Nat, j ≤ p.length ∧ i = .int .i64 j ∧ (0 < p.length → Blk wr gP 27 ((conK c p j).flatMap ec ++ rP).toArray) ∧ Put W6 wr gP) (fun i _ => p.length - (intOf i).toNat)
  case atStart => exact ⟨0, Nat.zero_le _, rfl, fun h0 => by rw [conK_zero]; exact (hPb h0).2.2, Put.refl _ _⟩
  case round =>
    obtain ⟨j, hj, rfl, bz, hp⟩ := hrel
    by_cases hlt : j < p.length
    · have bz := bz (by omega)
      obtain ⟨hA, -, -⟩ := hPb (by omega)
      subst hA
      have b6' := hp.blk b6 (by omega)
      have e0 := b6'.cell
      have e1 := bz.frozen
      have HS := Lib.hid (conK_set c p j hlt)
      have HZL := Lib.hid (conK_len c p j hj)
      obtain ⟨x, hx⟩ : ∃ x, (conK c p j)[j]? = some x := ⟨_, List.getElem?_eq_getElem (by rw [HZL.out]; exact hlt)⟩
      obtain ⟨s1, s2⟩ := blk_cellP bz hx
      clear hPb hx
      go_wp2_with fail
      have bz2 := blk_setP bz j c (by rw [HZL.out]; exact hlt)
      rw [HS.out] at bz2
      refine ⟨⟨j + 1, by omega, by go_num, fun _ => by simpa using bz2, (hp.trans (Put.set _ gP _ _)).trans (Put.set _ gP _ _)⟩, by simp [intOf]; omega⟩
    · obtain rfl : j = p.length := by omega
      have hpt := Lib.hid (fun h0 : 0 < p.length => exts_pad (lo := 0) (hi := wr.heap.size) (bz h0) (conK_len c p _ (Nat.le_refl _)) (by omega) (Nat.zero_le _) (bz h0).lt (hPb h0).2.1)
      have hTr := hp.rd hT6 hg1
      have hBr := below_put hB36 hp hg3
      have b6r := hp.blk b6 (by omega)
      have HSR := Lib.hid hp.size
      have HPt : Hid (ExtS 0 wr.heap.size wr (.slice Ab p.length capb) (replN c p.length)) := by
        by_cases h0 : 0 < p.length
        · have h1 := hpt.out h0
          rw [conK_all] at h1
          rw [(hPb h0).1]
          exact h1
        · have h2 : p.length = 0 := by omega
          rw [h2]
          exact Lib.hid (rd_nil _ _ _ _ _ _)
      have HM := Lib.hid (mev_half t p.length c hcc.out HT.out)
      obtain ⟨n, hn⟩ : ∃ n, n = p.length := ⟨_, rfl⟩
      rw [← hn] at HPt HM HT hpl hj ⊢
      obtain ⟨N, hN⟩ : ∃ N, N = t.length := ⟨_, rfl⟩
      have HN := Lib.hid hN
      have HT2 := Lib.hid (hN.trans HT.out)
      rw [← hN] at ht64 ht0 ⊢
      clear hpt hPb bz hcc hp hT6 b6 hB36 hgb hn hN hlt
      obtain ⟨wo, hwo⟩ : ∃ wo, wo = wr := ⟨_, rfl⟩
      subst hwo
      go_wp2_with fail
      refine wp_stk1 fun W7 hB7 hz7 b7 => ?_
      have hT7 := Rd.keep hTr hB7
      have hBw := hBr.trans (hB7.mono hBr.size)
      have HP7 := Lib.hid (Rd.keep HPt.out hB7)
      have hwr := hBr.size
      clear hTr HPt hBr hB7
      go_loopw [11] (fun i wx => ∃ j : Nat, j ≤ N ∧ i = .int .i64 j ∧ Blk wx wo.heap.size 27 #[.int .u64 (fv (sumT t j).a), .int .u64 (fv (sumT t j).b)] ∧ Below wo.heap.size W7 wx) (fun i _ => N - (intOf i).toNat)
      case atStart => exact ⟨0, Nat.zero_le _, rfl, b7, Below.refl _ _⟩
      case round =>
        obtain ⟨j, hj, rfl, bs, hB⟩ := hrel
        have hsz := hz7.out
        clear b7
        have hTx : ExtS nt mt _ _ t := hT7.below hB (by have := HSR.out; omega)
        by_cases hlt : j < N
        · obtain ⟨gT, oT, cT, hv, -, r2, r3, r4, r5⟩ := exts_cells hTx (by have := HN.out; omega)
          cases hv
          obtain ⟨x, hx, hxd⟩ := get_of (l := t) (k := j) (by have := HN.out; omega)
          obtain ⟨d1, d2⟩ := r5 j x hx
          have hS := sumT_succ t j
          rw [hxd] at hS
          have HS := Lib.hid hS
          have f1 := gw_cell r4 d1
          have f2 := gw_cell r4 d2
          have f3 := gw_blk bs
          clear r5 d1 d2 hx hxd hS
          generalize sumT t j = y at *
          go_wp2_with fail
          refine wp_region_rg 6 [(5, Spec.val (.agg #[.int .u64 (fv (y + x).a), .int .u64 (fv (y + x).b)]))] (by kernel_rfl) (by kernel_rfl) (by kernel_rfl) trivial ?_
          refine rg_det rfl rfl rfl (fun K hK => ?_)
          go_big_quiet_op
          refine hK _ ?_; clear hK K
          refine rg_det rfl rfl rfl (fun K hK => ?_)
          go_big_quiet_op
          refine hK _ ?_; clear hK K
          refine rg_det rfl rfl rfl (fun K hK => ?_)
          go_big_quiet_op
          refine hK _ ?_; clear hK K
          refine rg_det rfl rfl rfl (fun K hK => ?_)
          go_big_quiet_op
          refine hK _ ?_; clear hK K
          refine rg_det rfl rfl rfl (fun K hK => ?_)
          go_big_quiet_op
          refine hK _ ?_; clear hK K
          refine rg_val rfl rfl (fun W1 hW1 hF => step_callv en_attestor_ext_Add (eAdd y x W1) rfl rfl) ?_
          intro a' ha
          simp only [Act.put, List.setIfInBounds_toArray, List.set_cons_succ, List.set_cons_zero] at ha
          subst ha
          refine rg_nil (fun w' hw' hF => ?_)
          obtain ⟨z, rfl⟩ := hw'
          simp only [List.drop_succ_cons, List.drop_zero]
          have bz := bs.gw z
          have e1 := bz.frozen
          have e2 := bz.cell
          have hB' := hB.trans (z.h.mono (by have := hB.size; omega))
          clear hF f1 f2 f3
          go_wp2_with fail
          refine ⟨⟨j + 1, by omega, by go_num, ?_, below_set2 hB' (Nat.le_refl _)⟩, by simp [intOf]; omega⟩
          rw [HS.out]
          exact blk_set2 bz
        · obtain rfl : j = N := by omega
          have hPx := HP7.out.below hB (by omega)
          have hBx := hBw.trans (hB.mono (by omega))
          have hTj : ExtS nt mt wr (.slice Aa j capa) t := by rw [HN.out]; exact hTx
          have hle : wo.heap.size ≤ wr.heap.size := by have := hB.size; omega
          have f3 := gw_blk bs
          have hnn : (replN c n).length = n := by simp [replN]
          have hfz : eb (fz (j : Int)) * mev t (replN c n) = sumT t j := by
            have h1 := HM.out
            rw [← HT2.out] at h1
            exact h1
          have HFZ := Lib.hid hfz
          have HT3 : Hid (t.length = 2 ^ (replN c n).length) := by rw [hnn, ← HT2.out]; exact Lib.hid HN.out.symm
          have HPx : Hid (ExtS 0 wo.heap.size wr (.slice Ab n capb) (replN c n)) := hPx
          clear hfz HM HT2 HP7 hPx
          generalize sumT t j = y at *
          generalize replN c n = l at *
          go_wp2_with fail
          refine wp_region_rg 16 [(5, Spec.val (.agg #[.int .u64 (fv (eb (fz (j : Int))).a), .int .u64 (fv (eb (fz (j : Int))).b)])), (8, Spec.val (.agg #[.int .u64 (fv (mev t l).a), .int .u64 (fv (mev t l).b)])), (9, Spec.val (.agg #[.int .u64 (fv (y).a), .int .u64 (fv (y).b)]))] (by kernel_rfl) (by kernel_rfl) (by kernel_rfl) trivial ?_
          refine rg_det rfl rfl rfl (fun K hK => ?_)
          go_big_quiet_op
          refine hK _ ?_; clear hK K
          refine rg_det rfl rfl rfl (fun K hK => ?_)
          go_big_quiet_op
          refine hK _ ?_; clear hK K
          refine rg_det rfl rfl rfl (fun K hK => ?_)
          go_big_quiet_op
          refine hK _ ?_; clear hK K
          refine rg_det rfl rfl rfl (fun K hK => ?_)
          go_big_quiet_op
          refine hK _ ?_; clear hK K
          refine rg_det rfl rfl rfl (fun K hK => ?_)
          go_big_quiet_op
          refine hK _ ?_; clear hK K
          refine rg_val rfl rfl (fun W1 hW1 hF => step_callv en_attestor_attestorref02_FromInt (xFromInt (j : Int) (by omega) (by omega) W1) rfl rfl) ?_
          intro a' ha
          simp only [Act.put, List.setIfInBounds_toArray, List.set_cons_succ, List.set_cons_zero] at ha
          subst ha
          refine rg_det rfl rfl rfl (fun K hK => ?_)
          go_big_quiet_op
          refine hK _ ?_; clear hK K
          refine rg_det rfl rfl rfl (fun K hK => ?_)
          go_big_quiet_op
          refine hK _ ?_; clear hK K
          refine rg_val rfl rfl (fun W1 hW1 hF => step_callv en_attestor_mle_Eval (gEval t l HT3.out (by rw [hnn]; omega) _ _ _ _ _ _ W1 (Rd.keep hTj (grw_below hW1)) (Rd.keep HPx.out (grw_below hW1)) (Nat.le_trans hle (grw_below hW1).size)) rfl rfl) ?_
          intro a' ha
          simp only [Act.put, List.setIfInBounds_toArray, List.set_cons_succ, List.set_cons_zero] at ha
          subst ha
          refine rg_val rfl rfl (fun W1 hW1 hF => step_callv en_attestor_ext_Mul ((by rw [← HFZ.out]; exact eMul _ _ W1)) rfl rfl) ?_
          intro a' ha
          simp only [Act.put, List.setIfInBounds_toArray, List.set_cons_succ, List.set_cons_zero] at ha
          subst ha
          refine rg_det rfl rfl rfl (fun K hK => ?_)
          go_big_quiet_op
          refine hK _ ?_; clear hK K
          refine rg_det rfl rfl rfl (fun K hK => ?_)
          go_big_quiet_op
          refine hK _ ?_; clear hK K
          refine rg_det rfl rfl rfl (fun K hK => ?_)
          go_big_quiet_op
          refine hK _ ?_; clear hK K
          refine rg_det rfl rfl rfl (fun K hK => ?_)
          go_big_quiet_op
          refine hK _ ?_; clear hK K
          refine rg_det rfl rfl rfl (fun K hK => ?_)
          go_big_quiet_op
          refine hK _ ?_; clear hK K
          refine rg_det rfl rfl rfl (fun K hK => ?_)
          go_big_quiet_op
          refine hK _ ?_; clear hK K
          refine rg_nil (fun w' hw' hF => ?_)
          obtain ⟨z, rfl⟩ := hw'
          simp only [List.drop_succ_cons, List.drop_zero]
          clear hF f3
          go_wp2_with fail
          go_ret
          exact ⟨rfl, hBx.trans (z.h.mono hBx.size)⟩
end Go.Proofs.YtphokpkigbonlaaDoor
