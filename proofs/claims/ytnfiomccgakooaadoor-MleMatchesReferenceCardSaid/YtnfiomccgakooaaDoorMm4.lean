/-
  The functions Line and Lift of package mle, by contract.
-/
import Derived.Test.YtnfiomccgakooaaDoorMr1
import Derived.Test.YtnfiomccgakooaaDoorMm2
namespace Go.Proofs.YtnfiomccgakooaaDoor
open Go.RowKit
attribute [local go_sem] Oper.semAt_some

def Twd (t : E) (n m : Nat) (v : Value) (w : World) : Prop := v = .func (.func 68) #[] #[.pointer (some ⟨n, 0, none⟩)] ∧ n < m ∧ Blk w n 27 #[.int .u64 (fv t.a), .int .u64 (fv t.b)]
set_option maxRecDepth 100000 in
set_option maxHeartbeats 400000 in
theorem gToward (t : E) (w : World) : Calls Tryd.prog 49 #[ev t] w (RetR (Twd t) w) := by
  unfold ev
  go_enter Tryd.func49, Tryd.ntmps49
  go_wp2
  go_ret
  exact ⟨_, rfl, ⟨rfl, by simp, Blk.new _ _ _⟩, (Below.refl _ _).alloc (Nat.le_refl _) _⟩
set_option maxRecDepth 100000 in
set_option maxHeartbeats 400000 in
theorem gToward1 (x y t : E) (n : Nat) (w : World) (b : Blk w n 27 #[.int .u64 (fv t.a), .int .u64 (fv t.b)]) :
    Calls Tryd.prog 68 #[ev x, ev y, .pointer (some ⟨n, 0, none⟩)] w (Ret (ev (x + t * (y - x))) w) := by
  unfold ev
  have g1 := b.cell
  have g2 := b.lt
  have g3 : w.heap.size ≠ n := by omega
  have g4 : w.heap.size + 1 ≠ n := by omega
  have g5 : w.heap.size + 1 + 1 ≠ n := by omega
  have g6 : n < w.heap.size + 1 := by omega
  have g7 : n < w.heap.size + 1 + 1 := by omega
  go_enter Tryd.func68, Tryd.ntmps68
  go_wp2_with fail
  refine calls_stk3 fun W hB hz b1 b2 b3 => ?_
  refine (mBlend x y t _).mono ?_
  rintro e w2 ⟨he, hb⟩
  unfold ev at he
  subst he
  have e1 := (b3.keep hb).cell
  have e2 := (b3.keep hb).frozen
  go_wp2
  refine bodyPost_ret (v := .agg #[.int .u64 (fv (x + t * (y - x)).a), .int .u64 (fv (x + t * (y - x)).b)]) (by simp [results, Tryd.results68, go_sem, e1]) rfl ⟨rfl, ?_⟩
  exact ((hB.trans (hb.mono hB.size)).setCell (by show w.heap.size ≤ w.heap.size + 1 + 1; omega) _).setCell (by show w.heap.size ≤ w.heap.size + 1 + 1; omega) _

theorem lineE_mix (p q : List E) (t : E) (n : Nat) : mixL n (fun k => p.getD k 0 + t * (q.getD k 0 - p.getD k 0)) (fun _ => 0) n = lineE p q t n := mixL_all n _ _
theorem mix0 (n : Nat) (f : Nat → E) : mixL n f (fun _ => 0) 0 = List.replicate n 0 := by
  rw [mixL_zero]
  exact List.map_const' ..|>.trans (by rw [List.length_range])
set_option maxRecDepth 100000 in
set_option maxHeartbeats 1000000 in
theorem gLine (p q : List E) (t : E) (hq : q.length = p.length) (hp : p.length ≤ 1000) (v1 v2 : Value) (lo1 hi1 lo2 hi2 : Nat) (w : World) (h1 : ExtS lo1 hi1 w v1 p) (h2 : ExtS lo2 hi2 w v2 q) :
    Calls Tryd.prog 22 #[v1, v2, ev t] w (RetR (ExtA (lineE p q t p.length)) w) := by
  obtain ⟨A1, cap1, rfl⟩ := h1.len
  obtain ⟨A2, cap2, rfl⟩ := h2.len
  have HQ := Lib.hid hq
  clear hq
  unfold ev
  go_enter Tryd.func22, Tryd.ntmps22
  go_wp2_with fail
  refine calls_stk1 fun W1 hB1 hz1 b1 => ?_
  refine (gToward t _).mono ?_
  rintro e w2 ⟨vf, rfl, ⟨rfl, hf1, hf2⟩, hb2⟩
  have hB2 := hB1.trans (hb2.mono hB1.size)
  have hs1 := hB1.size
  obtain ⟨n, hn⟩ : ∃ n, n = W1.heap.size := ⟨_, rfl⟩
  rw [← hn] at hf1 hf2 ⊢
  have hnw : w.heap.size ≤ n := by omega
  have mk := mk_ext p.length (by omega) w2
  clear hn hz1
  go_wp2_with fail
  refine wp_stk1 fun W3 hB3 hz3 b3 => ?_
  have hf3 := hf2.keep hB3
  have hBw := hB2.trans (hB3.mono hB2.size)
  have hne : n ≠ w2.heap.size := by have := hf2.lt; omega
  have hws := hB2.size
  clear mk hz3
  go_loopw [18] (fun i wr => ∃ k : Nat, k ≤ p.length ∧ i = .int .i64 k ∧ Blk wr w2.heap.size 27 ((mixL p.length (fun k => p.getD k 0 + t * (q.getD k 0 - p.getD k 0)) (fun _ => 0) k).flatMap ec).toArray ∧ Blk wr n 27 #[.int .u64 (fv t.a), .int .u64 (fv t.b)] ∧ Below w.heap.size w wr) (fun i _ => p.length - (intOf i).toNat)
  case atStart => exact ⟨0, Nat.zero_le _, rfl, by rw [mix0]; exact b3, hf3, hBw⟩
  case round =>
    obtain ⟨k, hk, rfl, bo, bt, hB⟩ := hrel
    by_cases hlt : k < p.length
    · have hlt2 : k < q.length := by rw [HQ.out]; exact hlt
      obtain ⟨g, off, cap', hv, q1, q2, q3, q4, q5⟩ := exts_cells (Rd.keep h1 hB) (by omega)
      cases hv
      obtain ⟨g', off', cap'', hv, r1, r2, r3, r4, r5⟩ := exts_cells (Rd.keep h2 hB) (by omega)
      cases hv
      obtain ⟨x, hx, hxd⟩ := get_of hlt
      obtain ⟨y, hy, hyd⟩ := get_of hlt2
      obtain ⟨d1, d2⟩ := q5 k x hx
      obtain ⟨d3, d4⟩ := r5 k y hy
      have hst := mixL_set p.length (fun k => p.getD k 0 + t * (q.getD k 0 - p.getD k 0)) (fun _ => 0) k
      simp only [hxd, hyd] at hst
      have HS := Lib.hid hst
      obtain ⟨s1, s2⟩ := blk_cellE bo (mixL_get p.length (fun k => p.getD k 0 + t * (q.getD k 0 - p.getD k 0)) (fun _ => 0) k hlt)
      have hlen : k < (mixL p.length (fun k => p.getD k 0 + t * (q.getD k 0 - p.getD k 0)) (fun _ => 0) k).length := by rw [mixL_len]; exact hlt
      generalize mixL p.length (fun k => p.getD k 0 + t * (q.getD k 0 - p.getD k 0)) (fun _ => 0) k = l at *
      have hwr := hB.size
      clear q5 r5 hx hy hxd hyd h1 h2 hst b3 hf3
      go_wp2
      refine wp_stk1 fun W5 hB5 hz5 b7 => ?_
      have c1 := gw_cell (W := W5) (Nat.lt_of_lt_of_le r4 hB5.size) ((hB5.cell (p := ⟨g', off' + k * 2, none⟩) r4).trans d3)
      have c2 := gw_cell (W := W5) (Nat.lt_of_lt_of_le r4 hB5.size) ((hB5.cell (p := ⟨g', off' + k * 2 + 1, none⟩) r4).trans d4)
      have c3 := gw_blk b7
      have bo5 := bo.keep hB5
      have bt5 := bt.keep hB5
      have s15 := (hB5.cell (p := ⟨w2.heap.size, k * 2, none⟩) bo.lt).trans s1
      have s25 := (hB5.cell (p := ⟨w2.heap.size, k * 2 + 1, none⟩) bo.lt).trans s2
      have hB6 := hB.trans (hB5.mono hwr)
      clear d1 d2 d3 d4 s1 s2
      refine wp_region_rg 10 [(8, Spec.val (.agg #[.int .u64 (fv (x + t * (y - x)).a), .int .u64 (fv (x + t * (y - x)).b)]))] (by kernel_rfl) (by kernel_rfl) (by kernel_rfl) trivial ?_
      refine rg_det rfl rfl rfl (fun K hK => ?_)
      go_big_quiet_op
      refine hK _ ?_; clear hK K
      refine rg_det rfl rfl rfl (fun K hK => ?_)
      go_big_quiet_op
      refine hK _ ?_; clear hK K
      refine rg_det rfl rfl rfl (fun K hK => ?_)
      go_big_quiet_op
      refine hK _ ?_; clear hK K
      refine rg_det rfl rfl rfl (fun K hK => ?_)
      go_big_quiet_op
      refine hK _ ?_; clear hK K
      refine rg_det rfl rfl rfl (fun K hK => ?_)
      go_big_quiet_op
      refine hK _ ?_; clear hK K
      refine rg_det rfl rfl rfl (fun K hK => ?_)
      go_big_quiet_op
      refine hK _ ?_; clear hK K
      refine rg_det rfl rfl rfl (fun K hK => ?_)
      go_big_quiet_op
      refine hK _ ?_; clear hK K
      refine rg_det rfl rfl rfl (fun K hK => ?_)
      go_big_quiet_op
      refine hK _ ?_; clear hK K
      refine rg_val rfl rfl (fun W1 hW1 hF => step_callvs (first := []) (cap := [.pointer (some ⟨n, 0, none⟩)]) en_attestor_mle_toward_1 (gToward1 x y t n W1 (bt5.keep (grw_below hW1))) rfl rfl rfl rfl) ?_
      intro a' ha
      simp only [Act.put, List.setIfInBounds_toArray, List.set_cons_succ, List.set_cons_zero] at ha
      subst ha
      refine rg_det rfl rfl rfl (fun K hK => ?_)
      go_big_quiet_op
      refine hK _ ?_; clear hK K
      refine rg_nil (fun w' hw' hF => ?_)
      obtain ⟨z, rfl⟩ := hw'
      simp only [List.drop_succ_cons, List.drop_zero]
      have boz := bo5.gw z
      have e1 := boz.frozen
      have e2 := (z.h.cell (p := ⟨w2.heap.size, k * 2, none⟩) bo5.lt).trans s15
      have e3 := (z.h.cell (p := ⟨w2.heap.size, k * 2 + 1, none⟩) bo5.lt).trans s25
      have hB7 := hB6.trans (z.h.mono hB6.size)
      have btz := bt5.gw z
      clear hF c1 c2 c3 s15 s25
      go_wp2
      exact ⟨⟨k + 1, by omega, by go_num, by rw [← HS.out]; exact blk_setE boz k _ hlen, blk_farE btz hne, below_setE hB7 hws⟩, by simp [intOf]; omega⟩
    · obtain rfl : k = p.length := by omega
      rw [lineE_mix] at bo
      go_wp2
      go_ret
      refine ⟨_, rfl, ?_, hB⟩
      unfold ExtA
      exact exts_of_blk bo (lineE_length ..) (by omega) hws bo.lt
theorem liftE_len (zs : List Int) : (liftE zs).length = zs.length := by simp [liftE]
set_option maxRecDepth 100000 in
set_option maxHeartbeats 400000 in
theorem eFromBase (c : Fp) (w : World) : Calls Tryd.prog 51 #[.int .u64 (fv c)] w (Ret (ev (eb c)) w) := by
  unfold ev eb
  go_enter Tryd.func51, Tryd.ntmps51
  go_wp2
  refine bodyPost_ret (v := .agg #[.int .u64 (fv c), .int .u64 (fv 0)]) (by simp [results, Tryd.results51, go_sem, fv0]) rfl ⟨rfl, ?_⟩
  exact (Below.refl _ _).alloc (Nat.le_refl _) _
set_option maxRecDepth 100000 in
set_option maxHeartbeats 1000000 in
theorem gApply (zs : List Int) (hn : zs.length ≤ 1000) (v : Value) (lo hi' : Nat) (w : World) (h : Rd lo hi' 1 w v zs.length (zs.map fun z => Value.int .u64 z)) (hz : ∀ z ∈ zs, 0 ≤ z ∧ z < 18446744069414584321) :
    Calls Tryd.prog 50 #[v, .func (.func 51) #[] #[]] w (RetR (ExtA (liftE zs)) w) := by
  obtain ⟨A1, cap1, rfl⟩ := h.len
  have mk := mk_ext zs.length (by omega) w
  go_enter Tryd.func50, Tryd.ntmps50
  go_wp2_with fail
  refine wp_stk1 fun W3 hB3 hz3 b3 => ?_
  clear mk hz3
  go_loopw [13] (fun i wr => ∃ k : Nat, k ≤ zs.length ∧ i = .int .i64 k ∧ Blk wr w.heap.size 27 ((mixL zs.length (fun k => eb (fz (zs.getD k 0))) (fun _ => 0) k).flatMap ec).toArray ∧ Below w.heap.size w wr) (fun i _ => zs.length - (intOf i).toNat)
  case atStart => exact ⟨0, Nat.zero_le _, rfl, by rw [mix0]; exact b3, hB3⟩
  case round =>
    obtain ⟨k, hk, rfl, bo, hB⟩ := hrel
    by_cases hlt : k < zs.length
    · obtain ⟨z, hzj⟩ : ∃ z, zs[k]? = some z := ⟨zs[k], List.getElem?_eq_getElem hlt⟩
      obtain ⟨z0, z1⟩ := hz z (List.mem_of_getElem? hzj)
      obtain ⟨g, off, cap', hv, q1, q2, q3, q4, q5⟩ := Rd.form h (by omega)
      cases hv
      have c1 := (hB.cell (p := ⟨g, off + k, none⟩) q4).trans (q5 k (.int .u64 z) (by rw [List.getElem?_map, hzj]; rfl))
      have hst := mixL_set zs.length (fun k => eb (fz (zs.getD k 0))) (fun _ => 0) k
      simp only [show zs.getD k 0 = z by simp [List.getD, hzj]] at hst
      have HS := Lib.hid hst
      obtain ⟨s1, s2⟩ := blk_cellE bo (mixL_get zs.length (fun k => eb (fz (zs.getD k 0))) (fun _ => 0) k hlt)
      have hlen : k < (mixL zs.length (fun k => eb (fz (zs.getD k 0))) (fun _ => 0) k).length := by rw [mixL_len]; exact hlt
      generalize mixL zs.length (fun k => eb (fz (zs.getD k 0))) (fun _ => 0) k = l at *
      have hfz : fv (fz z) = z := by rw [fv_fz]; omega
      have HC := eFromBase (fz z)
      rw [hfz] at HC
      replace HC := Lib.hid HC
      have hwr := hB.size
      clear hst hzj q5 h hz hfz b3
      go_wp2_with fail
      refine (HC.out _).mono ?_
      rintro e w2 ⟨he, hb⟩
      unfold ev at he
      subst he
      have bo2 := bo.keep hb
      have e1 := bo2.frozen
      have e2 := (hb.cell (p := ⟨w.heap.size, k * 2, none⟩) bo.lt).trans s1
      have e3 := (hb.cell (p := ⟨w.heap.size, k * 2 + 1, none⟩) bo.lt).trans s2
      clear s1 s2 c1
      go_wp2
      exact ⟨⟨k + 1, by omega, by go_num, by rw [← HS.out]; exact blk_setE bo2 k _ hlen, below_setE (hB.trans (hb.mono hB.size)) (Nat.le_refl _)⟩, by simp [intOf]; omega⟩
    · obtain rfl : k = zs.length := by omega
      have hm : mixL zs.length (fun k => eb (fz (zs.getD k 0))) (fun _ => 0) zs.length = liftE zs := by
        rw [mixL_all]
        unfold liftE
        apply List.ext_getElem?
        intro i
        rw [List.getElem?_map, List.getElem?_map]
        by_cases hi : i < zs.length
        · rw [List.getElem?_range hi, List.getElem?_eq_getElem hi]; simp [List.getD, hi]
        · rw [List.getElem?_eq_none (by simpa using hi), List.getElem?_eq_none (by simpa using hi)]; rfl
      rw [hm] at bo
      go_wp2
      go_ret
      refine ⟨_, rfl, ?_, hB⟩
      unfold ExtA
      exact exts_of_blk bo (liftE_len zs) (by omega) (Nat.le_refl _) bo.lt
set_option maxRecDepth 100000 in
set_option maxHeartbeats 400000 in
theorem gLift (zs : List Int) (hn : zs.length ≤ 1000) (v : Value) (lo hi' : Nat) (w : World) (h : Rd lo hi' 1 w v zs.length (zs.map fun z => Value.int .u64 z)) (hz : ∀ z ∈ zs, 0 ≤ z ∧ z < 18446744069414584321) :
    Calls Tryd.prog 24 #[v] w (RetR (ExtA (liftE zs)) w) := by
  obtain ⟨A1, cap1, rfl⟩ := h.len
  go_enter Tryd.func24, Tryd.ntmps24
  go_wp2_with fail
  refine (gApply zs hn _ lo hi' w h hz).mono ?_
  rintro e w2 ⟨v, rfl, hv, hb⟩
  go_wp2
  go_ret
  exact ⟨v, rfl, hv, hb⟩
end Go.Proofs.YtnfiomccgakooaaDoor
