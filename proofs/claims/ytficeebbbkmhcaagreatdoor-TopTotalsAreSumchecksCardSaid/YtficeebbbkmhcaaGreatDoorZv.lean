/-
  The value of the polynomial through values at 0, 1, .. , as package poly reckons it, by contract.
  The functions of package mle that bind a variable in place, and Eval, by contract.
  Bind of package sumcheck, by contract.
  Slices of slices that a call builds of its own, by append.
  A variable of a great type that begins with its zero value.
-/
import Derived.Test.YtficeebbbkmhcaaGreatDoorPn
import Derived.Test.YtficeebbbkmhcaaGreatDoorRgL
import Derived.Test.YtficeebbbkmhcaaGreatDoorGrow
import Derived.Deep.MidRow
namespace Go.Proofs.YtficeebbbkmhcaaGreatDoor
open Go.RowKit

theorem step_mkE {o : Oper} {a : Act} {w : World} {x y : Operand} (n : Nat) (hn : n ≤ 1000000) (ho : o.op = .makeSlice 23 x y) (hx : a.eval x = .int .i64 (n : Int)) (hy : a.eval y = .int .i64 (n : Int)) :
    stepAt Tryz.prog o a w (fun v w' => Lit 39 n ((List.replicate n (0 : E)).flatMap ec).toArray w.heap.size w'.heap.size v w' ∧ Below w.heap.size w w') := by
  unfold stepAt execOp
  simp only [ho, hx, hy, Sem.run_bind, mk_ext n hn w, Result.andThen_ok]
  exact ⟨⟨rfl, by simp only [World.size_alloc]; omega, Blk.new _ _ _⟩, (Below.refl _ _).alloc (Nat.le_refl _) _⟩
def befL (x : E) (i : Nat) : Nat → E := fun k => if k ≤ i then befE x k else 0
def aftL (x : E) (n i : Nat) : Nat → E := fun k => if i ≤ k then aftK x n (n - k) else 0
theorem befL_first (x : E) (n : Nat) : (List.replicate (n + 1) (0 : E)).set 0 1 = rngL (n + 1) (befL x 0) := by
  rw [rngL_zero, rngL_set]
  refine rngL_congr _ _ _ fun j _ => ?_
  unfold befL
  by_cases h : j = 0
  · subst h; rfl
  · rw [if_neg h, if_neg (by omega)]
theorem befL_set (x : E) (n i : Nat) : (rngL (n + 1) (befL x i)).set (i + 1) (befE x (i + 1)) = rngL (n + 1) (befL x (i + 1)) := by
  rw [rngL_set]
  refine rngL_congr _ _ _ fun j _ => ?_
  unfold befL
  by_cases h : j = i + 1
  · subst h; rw [if_pos rfl, if_pos (Nat.le_refl _)]
  · rw [if_neg h]
    by_cases h2 : j ≤ i
    · rw [if_pos h2, if_pos (by omega)]
    · rw [if_neg h2, if_neg (by omega)]
theorem aftL_first (x : E) (n : Nat) : (List.replicate (n + 1) (0 : E)).set n 1 = rngL (n + 1) (aftL x n n) := by
  rw [rngL_zero, rngL_set]
  refine rngL_congr _ _ _ fun j hj => ?_
  unfold aftL
  by_cases h : j = n
  · subst h; rw [if_pos rfl, if_pos (Nat.le_refl _), Nat.sub_self]; rfl
  · rw [if_neg h, if_neg (by omega)]
theorem aftL_set (x : E) (n i : Nat) (hi : i < n) : (rngL (n + 1) (aftL x n (i + 1))).set i (aftK x n (n - i)) = rngL (n + 1) (aftL x n i) := by
  rw [rngL_set]
  refine rngL_congr _ _ _ fun j hj => ?_
  unfold aftL
  by_cases h : j = i
  · subst h; rw [if_pos rfl, if_pos (Nat.le_refl _)]
  · rw [if_neg h]
    by_cases h2 : i + 1 ≤ j
    · rw [if_pos h2, if_pos (by omega)]
    · rw [if_neg h2, if_neg (by omega)]
theorem aftK_step (x : E) (n i : Nat) (hi : i < n) : aftK x n (n - i) = aftK x n (n - (i + 1)) * (x - intE (i : Int)) := by
  rw [show n - i = n - (i + 1) + 1 by omega, aftK, show n - 1 - (n - (i + 1)) = i by omega]
  rfl
theorem befE_step (x : E) (i : Nat) : befE x (i + 1) = befE x i * (x - intE (i : Int)) := rfl
structure AtS (w : World) (n gb ga : Nat) (x : E) (wr : World) (fb fa : Nat → E) : Prop where
  bb : Blk wr gb 39 ((rngL (n + 1) fb).flatMap ec).toArray
  ba : Blk wr ga 39 ((rngL (n + 1) fa).flatMap ec).toArray
  bx : Blk wr w.heap.size 39 #[.int .u64 (fv x.a), .int .u64 (fv x.b)]
  br : Blk wr (w.heap.size + 1) 39 #[.int .u64 0, .int .u64 0]
  hB : Below w.heap.size w wr
structure AtC (w : World) (gb ga : Nat) : Prop where
  h1 : w.heap.size + 2 ≤ gb
  h2 : w.heap.size + 2 ≤ ga
  h3 : gb ≠ ga
section
variable {w wr X : World} {n gb ga : Nat} {x : E} {fb fa f' : Nat → E}
theorem AtS.keep (h : AtS w n gb ga x wr fb fa) (hb : Below wr.heap.size wr X) : AtS w n gb ga x X fb fa := ⟨h.bb.keep hb, h.ba.keep hb, h.bx.keep hb, h.br.keep hb, h.hB.trans (hb.mono h.hB.size)⟩
theorem AtS.setB (h : AtS w n gb ga x wr fb fa) (c : AtC w gb ga) (k : Nat) (v : E) (hk : k < n + 1) (e : (rngL (n + 1) fb).set k v = rngL (n + 1) f') : AtS w n gb ga x ((wr.setCell ⟨gb, k * 2, none⟩ (.int .u64 (fv v.a))).setCell ⟨gb, k * 2 + 1, none⟩ (.int .u64 (fv v.b))) f' fa :=
  ⟨by rw [← e]; exact blk_setE h.bb k v (by rw [rngL_length]; exact hk), blk_farE h.ba (by have := c.h3; omega), blk_farE h.bx (by have := c.h1; omega), blk_farE h.br (by have := c.h1; omega), below_setE h.hB (by have := c.h1; omega)⟩
theorem AtS.setA (h : AtS w n gb ga x wr fb fa) (c : AtC w gb ga) (k : Nat) (v : E) (hk : k < n + 1) (e : (rngL (n + 1) fa).set k v = rngL (n + 1) f') : AtS w n gb ga x ((wr.setCell ⟨ga, k * 2, none⟩ (.int .u64 (fv v.a))).setCell ⟨ga, k * 2 + 1, none⟩ (.int .u64 (fv v.b))) fb f' :=
  ⟨blk_farE h.bb (by have := c.h3; omega), by rw [← e]; exact blk_setE h.ba k v (by rw [rngL_length]; exact hk), blk_farE h.bx (by have := c.h2; omega), blk_farE h.br (by have := c.h2; omega), below_setE h.hB (by have := c.h2; omega)⟩
theorem AtS.cellB (h : AtS w n gb ga x wr fb fa) (k : Nat) (hk : k < n + 1) : wr.cell? ⟨gb, k * 2, none⟩ = some (.int .u64 (fv (fb k).a)) ∧ wr.cell? ⟨gb, k * 2 + 1, none⟩ = some (.int .u64 (fv (fb k).b)) := blk_cellE h.bb (rngL_get (n + 1) fb k hk)
theorem AtS.cellA (h : AtS w n gb ga x wr fb fa) (k : Nat) (hk : k < n + 1) : wr.cell? ⟨ga, k * 2, none⟩ = some (.int .u64 (fv (fa k).a)) ∧ wr.cell? ⟨ga, k * 2 + 1, none⟩ = some (.int .u64 (fv (fa k).b)) := blk_cellE h.ba (rngL_get (n + 1) fa k hk)
end
set_option maxRecDepth 100000 in
set_option maxHeartbeats 4000000 in
theorem gAt (v : List E) (x : E) (hn : v.length ≤ 1000) (vv : Value) (lo hi : Nat) (w : World) (h : ExtS lo hi w vv v) :
    Calls Tryz.prog 78 #[vv, ev x] w (Ret (ev (atE v x)) w) := by
  obtain ⟨A, cap, rfl⟩ := Rd.len h
  obtain ⟨n, hnl⟩ : ∃ n, n = v.length := ⟨_, rfl⟩
  have HH := Lib.hid h
  have HT := Lib.hid (show atK v x n = atE v x by rw [hnl]; rfl)
  rw [← hnl] at hn HH ⊢
  have HN := Lib.hid hnl
  clear h hnl
  unfold ev
  go_enter Tryz.func78, Tryz.ntmps78
  go_upto_region 2 with (fail)
  refine wp_stk2 fun W hB hz b1 b2 => ?_
  have hW := hz.out
  clear hz
  refine wp_region_rg 8 [(2, Spec.rel (Lit 39 (n + 1) ((List.replicate (n + 1) (0 : E)).flatMap ec).toArray) (LitF (n + 1))), (5, Spec.rel (Lit 39 (n + 1) ((List.replicate (n + 1) (0 : E)).flatMap ec).toArray) (LitF (n + 1)))] (by kernel_rfl) (by kernel_rfl) (by kernel_rfl) ⟨fit_lit, fit_lit, trivial⟩ ?_
  iterate 2 (refine rg_det rfl rfl rfl (fun K hK => ?_); go_big_quiet_op; refine hK _ ?_; clear hK K)
  refine rg_rel rfl rfl (fun W1 hW1 hF => step_mkE (n + 1) (by omega) rfl rfl rfl) ?_
  intro n2 m2 v2 hn2 hm2 hd2 hf2 a' ha
  simp only [Act.put, List.setIfInBounds_toArray, List.set_cons_succ, List.set_cons_zero] at ha
  subst ha
  obtain rfl := hf2
  iterate 2 (refine rg_det rfl rfl rfl (fun K hK => ?_); go_big_quiet_op; refine hK _ ?_; clear hK K)
  refine rg_rel rfl rfl (fun W1 hW1 hF => step_mkE (n + 1) (by omega) rfl rfl rfl) ?_
  intro n5 m5 v5 hn5 hm5 hd5 hf5 a' ha
  simp only [Act.put, List.setIfInBounds_toArray, List.set_cons_succ, List.set_cons_zero] at ha
  subst ha
  obtain rfl := hf5
  iterate 2 (refine rg_det rfl rfl rfl (fun K hK => ?_); go_big_quiet_op; refine hK _ ?_; clear hK K)
  refine rg_nil (fun w' hw' hF => ?_)
  obtain ⟨z, rfl⟩ := hw'
  simp only [List.drop_succ_cons, List.drop_zero]
  obtain ⟨hm2b, -, hl2, bb⟩ := end_last (end_init hF)
  obtain ⟨hm5b, -, hl5, ba⟩ := end_last hF
  have hdd := hd5 (n2, m2) (by simp)
  simp only at hdd
  have hC : AtC w n2 n5 := ⟨by omega, by omega, by omega⟩
  rw [rngL_zero] at bb ba
  have hS0 : AtS w n n2 n5 x z.w (fun _ => 0) (fun _ => 0) := ⟨bb, ba, b1.gw z, b2.gw z, hB.trans (z.h.mono hB.size)⟩
  clear hd2 hd5 hdd hF bb ba b1 b2 hB
  have HC := Lib.hid hC
  obtain ⟨Z, hZ⟩ : ∃ Z, Z = z.w := ⟨_, rfl⟩
  rw [← hZ] at hS0 ⊢
  clear hZ hm2b hm5b hl2 hl5 hm2 hm5 hn2 hn5 z hW hC
  have hne : n2 ≠ n5 := HC.out.h3
  go_wp2_with fail
  refine (gNode 1 (by omega) (by omega) Z).mono ?_
  rintro e w2 ⟨he, hb2⟩
  rw [intE_one] at he
  unfold ev at he
  subst he
  go_wp2_with fail
  refine (gNode 1 (by omega) (by omega) w2).mono ?_
  rintro e w3 ⟨he, hb3⟩
  rw [intE_one] at he
  unfold ev at he
  subst he
  have hS1 := (hS0.keep hb2).keep hb3
  obtain ⟨s1, s2⟩ := hS1.cellB 0 (by omega)
  obtain ⟨s3, s4⟩ := hS1.cellA n (by omega)
  have e1 := hS1.bb.frozen
  have e2 := hS1.ba.frozen
  have HF1 := Lib.hid (rngL_zero (n + 1) ▸ befL_first x n)
  have HF2 := Lib.hid (rngL_zero (n + 1) ▸ aftL_first x n)
  have hS2 := (hS1.setB HC.out 0 1 (by omega) HF1.out).setA HC.out n 1 (by omega) HF2.out
  simp only [Nat.zero_mul, Nat.zero_add] at s1 s2 hS2
  have HS2 := Lib.hid hS2
  clear hS0 hS1 hb2 hb3 hS2 HF1 HF2
  go_wp2_with fail
  go_loopw [29] (fun i wr => ∃ j : Nat, j ≤ n ∧ i = .int .i64 j ∧ AtS w n n2 n5 x wr (befL x j) (aftL x n n)) (fun i _ => n - (intOf i).toNat)
  case atStart => exact ⟨0, Nat.zero_le _, rfl, by simpa using HS2.out⟩
  case round =>
    obtain ⟨j, hj, rfl, hS⟩ := hrel
    clear HS2 s1 s2 s3 s4 e1 e2
    by_cases hlt : j < n
    · have hb1 := hS.cellB j (by omega)
      rw [show befL x j j = befE x j from if_pos (Nat.le_refl _)] at hb1
      have f1 := gw_cell hS.bb.lt hb1.1
      have f2 := gw_cell hS.bb.lt hb1.2
      have f3 := gw_blk hS.bx
      have HE := Lib.hid (befE_step x j)
      have HSet := Lib.hid (befL_set x n j)
      clear hb1
      generalize befE x j = m at *
      go_wp2_with fail
      refine wp_region_rg 13 [(9, Spec.val (.agg #[.int .u64 (fv (intE (j : Int)).a), .int .u64 (fv (intE (j : Int)).b)])), (10, Spec.val (.agg #[.int .u64 (fv (x - intE (j : Int)).a), .int .u64 (fv (x - intE (j : Int)).b)])), (11, Spec.val (.agg #[.int .u64 (fv (m * (x - intE (j : Int))).a), .int .u64 (fv (m * (x - intE (j : Int))).b)]))] (by kernel_rfl) (by kernel_rfl) (by kernel_rfl) trivial ?_
      iterate 9 (refine rg_det rfl rfl rfl (fun K hK => ?_); go_big_quiet_op; refine hK _ ?_; clear hK K)
      refine rg_val rfl rfl (fun W1 hW1 hF => step_callv en_attestor_poly_node (gNode (j : Int) (by omega) (by omega) W1) rfl rfl) ?_
      intro a' ha
      simp only [Act.put, List.setIfInBounds_toArray, List.set_cons_succ, List.set_cons_zero] at ha
      subst ha
      refine rg_val rfl rfl (fun W1 hW1 hF => step_callv en_attestor_ext_Sub (eSub x (intE (j : Int)) W1) rfl rfl) ?_
      intro a' ha
      simp only [Act.put, List.setIfInBounds_toArray, List.set_cons_succ, List.set_cons_zero] at ha
      subst ha
      refine rg_val rfl rfl (fun W1 hW1 hF => step_callv en_attestor_ext_Mul (eMul m (x - intE (j : Int)) W1) rfl rfl) ?_
      intro a' ha
      simp only [Act.put, List.setIfInBounds_toArray, List.set_cons_succ, List.set_cons_zero] at ha
      subst ha
      refine rg_det rfl rfl rfl (fun K hK => ?_)
      go_big_quiet_op
      refine hK _ ?_; clear hK K
      refine rg_nil (fun w' hw' hF => ?_)
      obtain ⟨z, rfl⟩ := hw'
      simp only [List.drop_succ_cons, List.drop_zero]
      have hSz := hS.keep z.h
      obtain ⟨s1, s2⟩ := hSz.cellB (j + 1) (by omega)
      have e1 := hSz.bb.frozen
      have hS3 := Lib.hid (hSz.setB HC.out (j + 1) _ (by omega) HSet.out)
      rw [HE.out] at hS3
      clear hF f1 f2 f3 hS hSz HE HSet
      go_wp2_with fail
      exact ⟨⟨j + 1, by omega, by go_num, hS3.out⟩, by simp [intOf]; omega⟩
    · obtain rfl : j = n := by omega
      go_wp2_with fail
      have hS0 := Lib.hid hS
      clear hS
      go_loopw [9] (fun i wr => ∃ i' : Nat, i' ≤ j ∧ i = .int .i64 ((i' : Int) - 1) ∧ AtS w j n2 n5 x wr (befL x j) (aftL x j i')) (fun i _ => (intOf i + 1).toNat)
      case atStart => exact ⟨j, Nat.le_refl _, rfl, hS0.out⟩
      case round =>
        obtain ⟨i, hi, rfl, hS⟩ := hrel
        clear hS0
        by_cases hi0 : 0 < i
        · obtain ⟨i, rfl⟩ : ∃ k, i = k + 1 := ⟨i - 1, by omega⟩
          rw [show ((i + 1 : Nat) : Int) - 1 = (i : Int) by omega]
          have hb1 := hS.cellA (i + 1) (by omega)
          rw [show aftL x j (i + 1) (i + 1) = aftK x j (j - (i + 1)) from if_pos (Nat.le_refl _)] at hb1
          have f1 := gw_cell hS.ba.lt hb1.1
          have f2 := gw_cell hS.ba.lt hb1.2
          have f3 := gw_blk hS.bx
          have HE := Lib.hid (aftK_step x j i (by omega))
          have HSet := Lib.hid (aftL_set x j i (by omega))
          clear hb1
          generalize aftK x j (j - (i + 1)) = m at *
          go_wp2_with fail
          refine wp_region_rg 13 [(9, Spec.val (.agg #[.int .u64 (fv (intE (i : Int)).a), .int .u64 (fv (intE (i : Int)).b)])), (10, Spec.val (.agg #[.int .u64 (fv (x - intE (i : Int)).a), .int .u64 (fv (x - intE (i : Int)).b)])), (11, Spec.val (.agg #[.int .u64 (fv (m * (x - intE (i : Int))).a), .int .u64 (fv (m * (x - intE (i : Int))).b)]))] (by kernel_rfl) (by kernel_rfl) (by kernel_rfl) trivial ?_
          iterate 9 (refine rg_det rfl rfl rfl (fun K hK => ?_); go_big_quiet_op; refine hK _ ?_; clear hK K)
          refine rg_val rfl rfl (fun W1 hW1 hF => step_callv en_attestor_poly_node (gNode (i : Int) (by omega) (by omega) W1) rfl rfl) ?_
          intro a' ha
          simp only [Act.put, List.setIfInBounds_toArray, List.set_cons_succ, List.set_cons_zero] at ha
          subst ha
          refine rg_val rfl rfl (fun W1 hW1 hF => step_callv en_attestor_ext_Sub (eSub x (intE (i : Int)) W1) rfl rfl) ?_
          intro a' ha
          simp only [Act.put, List.setIfInBounds_toArray, List.set_cons_succ, List.set_cons_zero] at ha
          subst ha
          refine rg_val rfl rfl (fun W1 hW1 hF => step_callv en_attestor_ext_Mul (eMul m (x - intE (i : Int)) W1) rfl rfl) ?_
          intro a' ha
          simp only [Act.put, List.setIfInBounds_toArray, List.set_cons_succ, List.set_cons_zero] at ha
          subst ha
          refine rg_det rfl rfl rfl (fun K hK => ?_)
          go_big_quiet_op
          refine hK _ ?_; clear hK K
          refine rg_nil (fun w' hw' hF => ?_)
          obtain ⟨z, rfl⟩ := hw'
          simp only [List.drop_succ_cons, List.drop_zero]
          have hSz := hS.keep z.h
          obtain ⟨s1, s2⟩ := hSz.cellA i (by omega)
          have e1 := hSz.ba.frozen
          have hS3 := Lib.hid (hSz.setA HC.out i _ (by omega) HSet.out)
          rw [HE.out] at hS3
          clear hF f1 f2 f3 hS hSz HE HSet
          go_wp2_with fail
          exact ⟨⟨i, by omega, by go_num, hS3.out⟩, by simp [intOf]⟩
        · obtain rfl : i = 0 := by omega
          rw [show ((0 : Nat) : Int) - 1 = -1 by omega]
          go_wp2_with fail
          obtain ⟨wo, hwo⟩ : ∃ wo, wo = wr := ⟨_, rfl⟩
          subst hwo
          refine calls_stk1 fun W6 hB6 hz6 b6 => ?_
          refine (gWeightsP j (by omega) W6).mono ?_
          rintro e w7 ⟨wv, rfl, tw, hb7⟩
          replace tw : ExtS W6.heap.size w7.heap.size w7 wv (rngL j (wgtE j)) := tw
          obtain ⟨A7, cap7, rfl⟩ := Rd.len tw
          rw [rngL_length] at *
          have hS7 := (hS.keep hB6).keep hb7
          have b7 := b6.keep hb7
          have h76 := b6.lt
          have hsb := hS.bb.lt
          have hsg := hS.ba.lt
          have hsr := hS.br.lt
          have h77 := hb7.size
          clear hS b6 hB6 hb7 hz6
          obtain ⟨Bs, hBs⟩ : ∃ B, B = wo.heap.size := ⟨_, rfl⟩
          obtain ⟨L, hL⟩ : ∃ L, L = W6.heap.size := ⟨_, rfl⟩
          rw [← hBs] at b7 h76 hsb hsg hsr ⊢
          rw [← hL] at h76 tw h77
          clear hBs hL
          go_wp2_with fail
          go_loopw [68] (fun i wr => ∃ k : Nat, k ≤ j ∧ i = .int .i64 k ∧ AtS w j n2 n5 x wr (befL x j) (aftL x j 0) ∧ Blk wr Bs 39 #[.int .u64 (fv (atK v x k).a), .int .u64 (fv (atK v x k).b)] ∧ ExtS L w7.heap.size wr (.slice A7 j cap7) (rngL j (wgtE j))) (fun i _ => j - (intOf i).toNat)
          case atStart => exact ⟨0, Nat.zero_le _, rfl, hS7, b7, tw⟩
          case round =>
            obtain ⟨k, hk, rfl, hS, bs, tw⟩ := hrel
            clear hS7 b7
            have hC2 := HC.out
            by_cases hkl : k < j
            · have hEv := Rd.keep HH.out hS.hB
              obtain ⟨g, off, cap', hv, q1, q2, q3, q4, q5⟩ := exts_cells hEv (by rw [← HN.out]; omega)
              rw [← HN.out] at hv
              cases hv
              obtain ⟨a, ha, had⟩ := get_of (l := v) (k := k) (by rw [← HN.out]; exact hkl)
              obtain ⟨d1, d2⟩ := q5 k a ha
              obtain ⟨g', off', cap'', hv, r1, r2, r3, r4, r5⟩ := exts_cells tw (by rw [rngL_length]; omega)
              rw [rngL_length] at hv r1
              cases hv
              obtain ⟨d3, d4⟩ := r5 k _ (rngL_get j (wgtE j) k hkl)
              obtain ⟨d5, d6⟩ := hS.cellB k (by omega)
              obtain ⟨d7, d8⟩ := hS.cellA (k + 1) (by omega)
              rw [show befL x j k = befE x k from if_pos hk] at d5 d6
              rw [show aftL x j 0 (k + 1) = aftK x j (j - (k + 1)) from if_pos (Nat.zero_le _)] at d7 d8
              have hK := atK_succ v x k
              rw [had, ← HN.out] at hK
              have HK := Lib.hid hK
              clear q5 r5 ha had hK hEv
              obtain ⟨wp, hwp⟩ : ∃ wp, wp = wr := ⟨_, rfl⟩
              subst hwp
              generalize wgtE j k = b at *
              generalize befE x k = c at *
              generalize aftK x j (j - (k + 1)) = d at *
              go_wp2_with fail
              refine wp_stk1 fun X hBX hzX bt => ?_
              have hX := hzX.out
              have hXs := hBX.size
              have f1 := gw_cell (Nat.lt_of_lt_of_le q4 hXs) ((hBX.cell (p := ⟨g, off + k * 2, none⟩) q4).trans d1)
              have f2 := gw_cell (Nat.lt_of_lt_of_le q4 hXs) ((hBX.cell (p := ⟨g, off + k * 2 + 1, none⟩) q4).trans d2)
              have f3 := gw_blk bt
              have f4 := gw_cell (Nat.lt_of_lt_of_le hS.bb.lt hXs) ((hBX.cell (p := ⟨n2, k * 2, none⟩) hS.bb.lt).trans d5)
              have f5 := gw_cell (Nat.lt_of_lt_of_le hS.bb.lt hXs) ((hBX.cell (p := ⟨n2, k * 2 + 1, none⟩) hS.bb.lt).trans d6)
              have f6 := gw_cell (Nat.lt_of_lt_of_le hS.ba.lt hXs) ((hBX.cell (p := ⟨n5, (k + 1) * 2, none⟩) hS.ba.lt).trans d7)
              have f7 := gw_cell (Nat.lt_of_lt_of_le hS.ba.lt hXs) ((hBX.cell (p := ⟨n5, (k + 1) * 2 + 1, none⟩) hS.ba.lt).trans d8)
              have bsX := bs.keep hBX
              have f8 := gw_blk bsX
              have hSX := hS.keep hBX
              have twX := Rd.keep tw hBX
              clear d1 d2 d3 d4 d5 d6 d7 d8 bs hS tw hzX
              generalize atK v x k = m at *
              refine wp_region_rg 19 [(6, Spec.val (.agg #[.int .u64 (fv (a * b).a), .int .u64 (fv (a * b).b)])), (16, Spec.val (.agg #[.int .u64 (fv (c * d).a), .int .u64 (fv (c * d).b)])), (17, Spec.val (.agg #[.int .u64 (fv (a * b * (c * d)).a), .int .u64 (fv (a * b * (c * d)).b)])), (18, Spec.val (.agg #[.int .u64 (fv (m + a * b * (c * d)).a), .int .u64 (fv (m + a * b * (c * d)).b)]))] (by kernel_rfl) (by kernel_rfl) (by kernel_rfl) trivial ?_
              iterate 6 (refine rg_det rfl rfl rfl (fun K hK => ?_); go_big_quiet_op; refine hK _ ?_; clear hK K)
              refine rg_val rfl rfl (fun W1 hW1 hF => step_callv en_attestor_ext_Mul (eMul a b W1) rfl rfl) ?_
              intro a' ha
              simp only [Act.put, List.setIfInBounds_toArray, List.set_cons_succ, List.set_cons_zero] at ha
              subst ha
              iterate 9 (refine rg_det rfl rfl rfl (fun K hK => ?_); go_big_quiet_op; refine hK _ ?_; clear hK K)
              refine rg_val rfl rfl (fun W1 hW1 hF => step_callv en_attestor_ext_Mul (eMul c d W1) rfl rfl) ?_
              intro a' ha
              simp only [Act.put, List.setIfInBounds_toArray, List.set_cons_succ, List.set_cons_zero] at ha
              subst ha
              refine rg_val rfl rfl (fun W1 hW1 hF => step_callv en_attestor_ext_Mul (eMul (a * b) (c * d) W1) rfl rfl) ?_
              intro a' ha
              simp only [Act.put, List.setIfInBounds_toArray, List.set_cons_succ, List.set_cons_zero] at ha
              subst ha
              refine rg_val rfl rfl (fun W1 hW1 hF => step_callv en_attestor_ext_Add (eAdd m (a * b * (c * d)) W1) rfl rfl) ?_
              intro a' ha
              simp only [Act.put, List.setIfInBounds_toArray, List.set_cons_succ, List.set_cons_zero] at ha
              subst ha
              refine rg_nil (fun w' hw' hF => ?_)
              obtain ⟨z, rfl⟩ := hw'
              simp only [List.drop_succ_cons, List.drop_zero]
              have bz := bsX.gw z
              have e1 := bz.frozen
              have e2 := bz.cell
              have hSz := hSX.keep z.h
              have twz := Rd.keep twX z.h
              clear hF f1 f2 f3 f4 f5 f6 f7 f8 hSX twX
              rw [← HK.out]
              generalize hq : atK v x (k + 1) = q at *
              have HQ := Lib.hid hq
              clear hq HK
              go_wp2_with fail
              refine ⟨⟨k + 1, by omega, by go_num, ⟨blk_far2 hSz.bb (by omega), blk_far2 hSz.ba (by omega), blk_far2 hSz.bx (by omega), blk_far2 hSz.br (by omega), below_set2 hSz.hB (by omega)⟩, ?_, ((Put.set _ Bs 0 _).trans (Put.set _ Bs 1 _)).rd twz (.inl h76)⟩, by simp [intOf]; omega⟩
              rw [HQ.out]
              exact blk_set2 bz
            · obtain rfl : k = j := by omega
              rw [HT.out] at bs
              have e1 := bs.cell
              have e3 := hS.br.cell
              have e4 := hS.br.frozen
              go_wp2_with fail
              refine bodyPost_ret (v := .agg #[.int .u64 (fv (atE v x).a), .int .u64 (fv (atE v x).b)]) (by simp [results, Tryz.results78, go_sem, e3]) rfl ⟨rfl, ?_⟩
              exact below_set2 hS.hB (by omega)
end Go.Proofs.YtficeebbbkmhcaaGreatDoor
namespace Go.Proofs.YtficeebbbkmhcaaGreatDoor
open Go.RowKit

section
variable {w : World} {g : Nat} {t : TypeId} {cs : List E} {rest : List Value}
theorem flat_set_pad (x : E) (rest : List Value) (cs : List E) (k : Nat) (hk : k < cs.length) : ((cs.flatMap ec ++ rest).set (k * 2) (.int .u64 (fv x.a))).set (k * 2 + 1) (.int .u64 (fv x.b)) = (cs.set k x).flatMap ec ++ rest := by
  have hl := flat_length ec_len cs
  rw [List.set_append_left _ _ (by omega), List.set_append_left _ _ (by rw [List.length_set]; omega), set_flat x cs k hk]
theorem blk_setP (h : Blk w g t (cs.flatMap ec ++ rest).toArray) (k : Nat) (x : E) (hk : k < cs.length) : Blk ((w.setCell ⟨g, k * 2, none⟩ (.int .u64 (fv x.a))).setCell ⟨g, k * 2 + 1, none⟩ (.int .u64 (fv x.b))) g t ((cs.set k x).flatMap ec ++ rest).toArray := by
  have := (h.set_ (k * 2) (.int .u64 (fv x.a))).set_ (k * 2 + 1) (.int .u64 (fv x.b))
  rw [← flat_set_pad x rest cs k hk]
  simpa using this
theorem blk_cellP (h : Blk w g t (cs.flatMap ec ++ rest).toArray) {k : Nat} {x : E} (hk : cs[k]? = some x) : w.cell? ⟨g, k * 2, none⟩ = some (.int .u64 (fv x.a)) ∧ w.cell? ⟨g, k * 2 + 1, none⟩ = some (.int .u64 (fv x.b)) := by
  have e0 := flat_get ec_len cs k 0 x _ hk rfl
  have e1 := flat_get ec_len cs k 1 x _ hk rfl
  have hl := flat_length ec_len cs
  have hkl : k < cs.length := (List.getElem?_eq_some_iff.1 hk).1
  refine ⟨?_, ?_⟩
  · rw [h.cell, List.getElem?_toArray, List.getElem?_append_left (by omega)]; simpa using e0
  · rw [h.cell, List.getElem?_toArray, List.getElem?_append_left (by omega)]; simpa using e1
end
theorem exts_pad {w : World} {g : Nat} {t : TypeId} {cs : List E} {rest : List Value} (h : Blk w g t (cs.flatMap ec ++ rest).toArray) {lo hi n cap : Nat} (hn : cs.length = n) (hb : n ≤ 1000000) (hlo : lo ≤ g) (hhi : g < hi) (hc : n ≤ cap) : ExtS lo hi w (.slice (some ⟨g, 0, none⟩) n cap) cs := by
  subst hn
  have hl := flat_length ec_len cs
  refine ⟨hl, by omega, _, _, rfl, hc, fun h0 => ⟨g, 0, rfl, hlo, hhi, h.lt, fun j u hj => ?_⟩⟩
  have hjl : j < (cs.flatMap ec).length := (List.getElem?_eq_some_iff.1 hj).1
  rw [Nat.zero_add, h.cell, List.getElem?_toArray, List.getElem?_append_left hjl]
  exact hj
def bindX (t : List E) (r : E) (j : Nat) : List E := ((List.range j).map fun k => t.getD (2 * k) 0 + r * (t.getD (2 * k + 1) 0 - t.getD (2 * k) 0)) ++ t.drop j
theorem bindX_len (t : List E) (r : E) (j : Nat) (h : j ≤ t.length) : (bindX t r j).length = t.length := by simp [bindX]; omega
theorem bindX_zero (t : List E) (r : E) : bindX t r 0 = t := by simp [bindX]
theorem bindX_get (t : List E) (r : E) (j i : Nat) (h : j ≤ i) : (bindX t r j)[i]? = t[i]? := by
  unfold bindX
  rw [List.getElem?_append_right (by simp; exact h), List.length_map, List.length_range, List.getElem?_drop, show j + (i - j) = i by omega]
theorem bindX_step (t : List E) (r : E) (j : Nat) (x y : E) (hx : t[2 * j]? = some x) (hy : t[2 * j + 1]? = some y) : (bindX t r j).set j (x + r * (y - x)) = bindX t r (j + 1) := by
  have hj : 2 * j < t.length := (List.getElem?_eq_some_iff.1 hx).1
  have ex : t.getD (2 * j) 0 = x := by simp [List.getD, hx]
  have ey : t.getD (2 * j + 1) 0 = y := by simp [List.getD, hy]
  unfold bindX
  rw [List.range_succ, List.map_append, List.map_cons, List.map_nil, ex, ey]
  rw [List.set_append_right _ _ (by simp), List.length_map, List.length_range, Nat.sub_self, List.drop_eq_getElem_cons (show j < t.length by omega), List.set_cons_zero, List.append_assoc]
  rfl
theorem bindM_all (r : E) : ∀ (n : Nat) (t : List E), t.length = 2 * n → ((List.range n).map fun k => t.getD (2 * k) 0 + r * (t.getD (2 * k + 1) 0 - t.getD (2 * k) 0)) = bindL t r
  | 0, [], _ => rfl
  | n + 1, x :: y :: t, h => by
    have ih := bindM_all r n t (by simp only [List.length_cons] at h; omega)
    rw [bindL, ← ih, List.range_succ_eq_map, List.map_cons, List.map_map]
    congr 1
  | 0, _ :: _, h => by simp at h
  | n + 1, [], h => by simp at h
  | n + 1, [_], h => by simp at h; omega
theorem evalL_snoc : ∀ (p t : List E) (r : E), evalL t (p ++ [r]) = bindL (evalL t p) r
  | [], t, r => rfl
  | x :: p, t, r => by
    rw [List.cons_append, evalL, evalL_snoc p (bindL t x) r, evalL]
theorem evalL_len2 : ∀ (p t : List E) (m : Nat), t.length = 2 ^ (p.length + m) → (evalL t p).length = 2 ^ m
  | [], t, m, h => by simpa [evalL] using h
  | r :: p, t, m, h => by
    rw [evalL]
    refine evalL_len2 p _ m (bindL_length r _ t ?_)
    rw [h, List.length_cons, show p.length + 1 + m = (p.length + m) + 1 by omega, Nat.pow_succ']

set_option maxRecDepth 100000 in
set_option maxHeartbeats 1000000 in
theorem gBindW (t : List E) (r : E) (n : Nat) (ht : t.length = 2 * n) (hn : n ≤ 100000) (g cap : Nat) (hcap : 2 * n ≤ cap) (rest : List Value) (w : World) (b : Blk w g 39 (t.flatMap ec ++ rest).toArray) :
    Calls Tryz.prog 45 #[.slice (some ⟨g, 0, none⟩) (2 * n) cap, ev r] w fun e w' => e = .returned (.slice (some ⟨g, 0, none⟩) n cap) ∧ (∃ rest', Blk w' g 39 ((bindL t r).flatMap ec ++ rest').toArray) ∧ w.grownBy w' (some g) := by
  have HT := Lib.hid ht
  obtain ⟨m, hm⟩ : ∃ m, m = 2 * n := ⟨_, rfl⟩
  rw [← hm] at hcap ⊢
  have HM := Lib.hid hm
  have hq1 : Int.tdiv (m : Int) 2 = (n : Int) := (show Int.tdiv (m : Int) ((2 : Nat) : Int) = ((m / 2 : Nat) : Int) from rfl).trans (by omega)
  have hq2 : (m : Int) / 2 = (n : Int) := by omega
  have hq3 : wrap64 (n : Int) = (n : Int) := by simp only [wrap64]; omega
  have hnc : n ≤ cap := by omega
  have hmb : m ≤ 200000 := by omega
  clear ht hm
  unfold ev
  have hgl := b.lt
  go_enter Tryz.func45, Tryz.ntmps45
  go_wp2
  refine wp_stk1 fun W hB0 hz b1 => ?_
  have b0 := b.keep hB0
  have hgr0 : w.grownBy W (some g) := ⟨hB0.os, hB0.tape, hB0.output, hB0.size, fun k hk _ => hB0.block k hk⟩
  have hne : w.heap.size ≠ g := by omega
  go_loopw [11] (fun i wr => ∃ j : Nat, j ≤ n ∧ i = .int .i64 j ∧ Blk wr g 39 ((bindX t r j).flatMap ec ++ rest).toArray ∧ Blk wr w.heap.size 39 #[.int .u64 (fv r.a), .int .u64 (fv r.b)] ∧ w.grownBy wr (some g)) (fun i _ => n - (intOf i).toNat)
  case atStart => exact ⟨0, Nat.zero_le _, rfl, by rw [bindX_zero]; exact b0, b1, hgr0⟩
  case round =>
    obtain ⟨j, hj, rfl, bq, br, hgr⟩ := hrel
    by_cases hlt : j < n
    · have hT := HT.out
      obtain ⟨x, hx⟩ : ∃ x, t[2 * j]? = some x := ⟨t[2 * j], List.getElem?_eq_getElem (by omega)⟩
      obtain ⟨y, hy⟩ : ∃ y, t[2 * j + 1]? = some y := ⟨t[2 * j + 1], List.getElem?_eq_getElem (by omega)⟩
      obtain ⟨d1, d2⟩ := blk_cellP bq (k := 2 * j) ((bindX_get t r j (2 * j) (by omega)).trans hx)
      obtain ⟨d3, d4⟩ := blk_cellP bq (k := 2 * j + 1) ((bindX_get t r j (2 * j + 1) (by omega)).trans hy)
      have HS := Lib.hid (bindX_step t r j x y hx hy)
      have hlen : j < (bindX t r j).length := by rw [bindX_len t r j (by omega), hT]; omega
      have x1 := gw_cell bq.lt d1
      have x2 := gw_cell bq.lt d2
      have x3 := gw_cell bq.lt d3
      have x4 := gw_cell bq.lt d4
      have x5 := gw_blk br
      have hM := HM.out
      have hi1 : 2 * j < m := by omega
      have hi2 : 2 * j + 1 < m := by omega
      have hi3 : j < m := by omega
      obtain ⟨u, hu⟩ : ∃ u, (bindX t r j)[j]? = some u := ⟨_, List.getElem?_eq_getElem hlen⟩
      obtain ⟨s1, s2⟩ := blk_cellP bq hu
      clear hT hx hy d1 d2 d3 d4 hM hq1 hq2 hq3 hu
      go_wp2_with fail
      refine wp_region_rg 16 [(14, Spec.val (.agg #[.int .u64 (fv (x + r * (y - x)).a), .int .u64 (fv (x + r * (y - x)).b)]))] (by kernel_rfl) (by kernel_rfl) (by kernel_rfl) trivial ?_
      iterate 14 (refine rg_det rfl rfl rfl (fun K hK => ?_); go_big_quiet_op; refine hK _ ?_; clear hK K)
      refine rg_val rfl rfl (fun W1 hW1 hF => step_callv en_attestor_mle_blend (mBlend x y r W1) rfl rfl) ?_
      intro a' ha
      simp only [Act.put, List.setIfInBounds_toArray, List.set_cons_succ, List.set_cons_zero] at ha
      subst ha
      refine rg_det rfl rfl rfl (fun K hK => ?_)
      go_big_quiet_op
      refine hK _ ?_; clear hK K
      refine rg_nil (fun w' hw' hF => ?_)
      obtain ⟨z, rfl⟩ := hw'
      simp only [List.drop_succ_cons, List.drop_zero]
      clear hF x1 x2 x3 x4 x5
      have bz := bq.gw z
      have brz := br.gw z
      have e1 := bz.frozen
      have e2 := (z.h.cell (p := ⟨g, j * 2, none⟩) bq.lt).trans s1
      have e3 := (z.h.cell (p := ⟨g, j * 2 + 1, none⟩) bq.lt).trans s2
      clear s1 s2
      go_wp2
      exact ⟨⟨j + 1, by omega, by go_num, by rw [← HS.out]; exact blk_setP bz j _ hlen, blk_farE brz hne, grown_set (grown_set (grown_below hgr z.h))⟩, by simp [intOf]; omega⟩
    · obtain rfl : j = n := by omega
      go_wp2
      go_ret
      refine ⟨rfl, ⟨(t.drop j).flatMap ec ++ rest, ?_⟩, hgr⟩
      unfold bindX at bq
      rw [bindM_all r j t HT.out, List.flatMap_append, List.append_assoc] at bq
      exact bq

set_option maxRecDepth 100000 in
set_option maxHeartbeats 1000000 in
theorem gCloneW (t : List E) (h0 : 0 < t.length) (hb : t.length ≤ 1000000) (v : Value) (lo hi : Nat) (w : World) (h : ExtS lo hi w v t) :
    Calls Tryz.prog 44 #[v] w fun e w' => ∃ g cap rest, e = .returned (.slice (some ⟨g, 0, none⟩) t.length cap) ∧ t.length ≤ cap ∧ w.heap.size ≤ g ∧ Blk w' g 39 (t.flatMap ec ++ rest).toArray ∧ Below w.heap.size w w' := by
  obtain ⟨g, off, cap, hv, q1, q2, q3, q4, q5⟩ := exts_cells h h0
  cases hv
  obtain ⟨i0, hi0, iz0, iz1, iz2⟩ := info_parts ext_info
  have qe : ∀ (w : World) (a : Option Addr) (n c n' c' : Nat), (binOp .eql 23 (.slice a n c) (.slice none n' c')).run Tryz.prog w = .ok (.bool a.isNone) w := fun w a n c n' c' => Lib.run_eql_slice_nil w _ _ a n c n' c' Tryz.underlying23
  go_enter Tryz.func44, Tryz.ntmps44
  go_wp2_with (at_builtin; refine stop_in ?_)
  refine stop_out ?_
  refine stk1 (M := fun W => wpList _ _ _ _ _ W) fun W5 hB5 hz5 b5 => ?_
  have hs5 : W5.heap.size = w.heap.size + 1 := hz5.out
  refine wpList_appB rfl _ _ rfl Tryz.underlying23 hi0 iz0 iz1 iz2 rfl (by decide) (cl := t.flatMap ec) (base := w.heap.size) (cs := []) (k := 0) (fun u hu => by obtain ⟨x, _, hx⟩ := List.mem_flatMap.1 hu; exact ec_one x u hx) rfl rfl (Rd.keep h hB5) ⟨rfl, .inr ⟨w.heap.size, 0, #[], rfl, Nat.le_refl _, b5, Nat.le_refl _, Nat.zero_le _, rfl, rfl⟩⟩ (by unfold maxLen; omega) (by omega) (by omega) ?_
  intro v6 w6 hown6 hgrow6 hB6
  rw [Nat.zero_add, List.nil_append] at hown6
  go_wp2
  go_ret
  obtain ⟨ho1, ho2⟩ := hown6
  rcases ho2 with ⟨_, h2⟩ | ⟨g', cap', cur, rfl, r1, r2, r3, r4, r5, r6⟩
  · omega
  · refine ⟨g', cap', cur.toList.drop (t.length * 2), rfl, r3, r1, ?_, hB5.trans hB6⟩
    rw [← r6, List.take_append_drop]
    exact r2

set_option maxRecDepth 100000 in
set_option maxHeartbeats 1000000 in
theorem gEval (t p : List E) (ht : t.length = 2 ^ p.length) (hp : p.length ≤ 16) (v1 v2 : Value) (lo1 hi1 lo2 hi2 : Nat) (w : World) (h1 : ExtS lo1 hi1 w v1 t) (h2 : ExtS lo2 hi2 w v2 p) (hh : hi2 ≤ w.heap.size) :
    Calls Tryz.prog 16 #[v1, v2] w (Ret (ev (mev t p)) w) := by
  obtain ⟨A2, cap2, rfl⟩ := h2.len
  have hlen := h2.2.1
  have hpos : 0 < t.length := by rw [ht]; exact Nat.two_pow_pos _
  have htb : t.length ≤ 1000000 := by rw [ht]; exact Nat.le_trans (Nat.pow_le_pow_right (by decide) hp) (by decide)
  have HT := Lib.hid ht
  clear ht
  unfold ev
  go_enter Tryz.func16, Tryz.ntmps16
  go_wp2_with fail
  refine calls_stk1 fun W hB0 hz b1 => ?_
  have hs0 : W.heap.size = w.heap.size + 1 := hz.out
  refine (gCloneW t hpos htb v1 lo1 hi1 W (Rd.keep h1 hB0)).mono ?_
  rintro e w2 ⟨g, cap, rest, rfl, hcap, hg, bg, hb2⟩
  have hB2 := hB0.trans (hb2.mono hB0.size)
  have b12 := b1.keep hb2
  have hne : w.heap.size ≠ g := by omega
  have hne' : g ≠ w.heap.size := by omega
  have hs2 := hb2.size
  clear h1 hpos htb
  go_wp2_with fail
  go_loopw [5, 12] (fun v i wr => ∃ (k : Nat) (rest : List Value), k ≤ p.length ∧ i = .int .i64 k ∧ v = .slice (some ⟨g, 0, none⟩) (2 ^ (p.length - k)) cap ∧ Blk wr g 39 ((evalL t (p.take k)).flatMap ec ++ rest).toArray ∧ Blk wr w.heap.size 39 #[.int .u64 0, .int .u64 0] ∧ Below w.heap.size w wr) (fun _ i _ => p.length - (intOf i).toNat)
  case atStart => exact ⟨0, rest, Nat.zero_le _, rfl, by rw [Nat.sub_zero, ← HT.out], by simpa [evalL] using bg, b12, hB2⟩
  case round =>
    obtain ⟨k, rest', hk, rfl, rfl, bq, br, hB⟩ := hrel
    have hgq := bq.lt
    have hwq := br.lt
    by_cases hlt : k < p.length
    · obtain ⟨g2, o2, c2, hv, q1, q2, q3, q4, q5⟩ := exts_cells h2 (by omega)
      cases hv
      obtain ⟨r, hr⟩ : ∃ r, p[k]? = some r := ⟨p[k], List.getElem?_eq_getElem hlt⟩
      obtain ⟨d1, d2⟩ := q5 k r hr
      have x1 := (hB.cell (p := ⟨g2, o2 + k * 2, none⟩) q4).trans d1
      have x2 := (hB.cell (p := ⟨g2, o2 + k * 2 + 1, none⟩) q4).trans d2
      have hlk : (evalL t (p.take k)).length = 2 * 2 ^ (p.length - (k + 1)) := by
        rw [evalL_len2 (p.take k) t (p.length - k) (by rw [HT.out, List.length_take]; congr 1; omega), show p.length - k = p.length - (k + 1) + 1 by omega, Nat.pow_succ']
      have hst : evalL t (p.take (k + 1)) = bindL (evalL t (p.take k)) r := by rw [List.take_add_one, hr]; exact evalL_snoc _ _ _
      have hpw : 2 ^ (p.length - k) = 2 * 2 ^ (p.length - (k + 1)) := by rw [show p.length - k = p.length - (k + 1) + 1 by omega, Nat.pow_succ']
      have hpb : 2 ^ (p.length - (k + 1)) ≤ 65536 := Nat.le_trans (Nat.pow_le_pow_right (by decide) (by omega)) (show 2 ^ 16 ≤ 65536 by decide)
      have hcp : 2 * 2 ^ (p.length - (k + 1)) ≤ cap := by
        rw [← hpw]; exact Nat.le_trans (Nat.le_trans (Nat.pow_le_pow_right (by decide) (Nat.sub_le _ _)) (Nat.le_of_eq HT.out.symm)) hcap
      rw [hpw]
      generalize hmm : 2 ^ (p.length - (k + 1)) = m at *
      have HM2 := Lib.hid hmm
      clear hmm
      generalize evalL t (p.take k) = l at *
      have HST := Lib.hid hst
      clear q5 hr hst d1 d2 hpw
      go_wp2_with fail
      refine calls_stk1 fun W3 hB3 hz3 b7 => ?_
      have bq3 := bq.keep hB3
      have br3 := br.keep hB3
      refine (gBindW l r m hlk (by omega) g cap hcp rest' W3 bq3).mono ?_
      rintro e w4 ⟨rfl, ⟨rest4, b4⟩, hgr⟩
      have hB4 : Below w.heap.size w w4 := (hB.trans (hB3.mono hB.size)).grown hgr (by have := hB3.size; omega) (fun i e => by cases e; omega)
      have br4 := grown_blk hgr br3 (by simpa using hne)
      go_wp2
      exact ⟨⟨k + 1, rest4, by omega, by go_num, by rw [HM2.out], by rw [HST.out]; exact b4, br4, hB4⟩, by simp [intOf]; omega⟩
    · obtain rfl : k = p.length := by omega
      rw [List.take_of_length_le (Nat.le_refl _), evalL_mev HT.out] at bq
      obtain ⟨f1, f2⟩ := blk_cellP (k := 0) (x := mev t p) bq rfl
      rw [Nat.zero_mul] at f1 f2
      rw [Nat.sub_self, Nat.pow_zero]
      have e3 := br.cell
      have e4 := br.frozen
      generalize mev t p = y at *
      go_wp2
      refine bodyPost_ret (v := .agg #[.int .u64 (fv (y).a), .int .u64 (fv (y).b)]) (by simp [results, Tryz.results16, go_sem, e3]) rfl ⟨rfl, ?_⟩
      exact below_set2 hB (Nat.le_refl _)
theorem gCloneR (t : List E) (h0 : 0 < t.length) (hb : t.length ≤ 1000000) (v : Value) (lo hi : Nat) (w : World) (h : ExtS lo hi w v t) : Calls Tryz.prog 44 #[v] w (RetR (CloneA t) w) :=
  (gCloneW t h0 hb v lo hi w h).mono fun e w' ⟨g, cap, rest, h1, h2, h3, h4, h5⟩ => ⟨_, h1, ⟨g, cap, rest, rfl, h2, h3, h4.lt, h4⟩, h5⟩
set_option maxRecDepth 100000 in
set_option maxHeartbeats 1000000 in
theorem gBind (t : List E) (r : E) (n : Nat) (ht : t.length = 2 * n) (hn : n ≤ 100000) (h0 : 0 < n) (v : Value) (lo hi : Nat) (w : World) (h : ExtS lo hi w v t) :
    Calls Tryz.prog 76 #[v, ev r] w (RetR (ExtA (bindL t r)) w) := by
  unfold ev
  obtain ⟨A2, cap2, rfl⟩ := h.len
  go_enter Tryz.func76, Tryz.ntmps76
  go_wp2_with fail
  refine wp_stk1 fun W hB0 hz b1 => ?_
  have hs0 : W.heap.size = w.heap.size + 1 := hz.out
  have h' := Rd.keep h hB0
  have c1 := gw_blk b1
  have hT := Lib.hid ht
  have hp : 0 < t.length := by omega
  have hb : t.length ≤ 1000000 := by omega
  clear ht
  refine wp_region_rg 3 [(1, Spec.rel (CloneA t) AnyV)] (by kernel_rfl) (by kernel_rfl) (by kernel_rfl) ⟨fit_of (stable_clone t), trivial⟩ ?_
  refine rg_det rfl rfl rfl (fun K hK => ?_)
  go_big_quiet_op
  refine hK _ ?_; clear hK K
  refine rg_rel rfl rfl (fun W1 hW1 hF => step_callr en_slices_Clone___attestor_api_Ext_attestor_api_Ext_ (gCloneR t hp hb _ lo hi W1 (Rd.keep h' (grw_below hW1))) rfl rfl) ?_
  intro n1 m1 v1 hn1 hm1 hd1 hf1 a' ha
  simp only [Act.put, List.setIfInBounds_toArray, List.set_cons_succ, List.set_cons_zero] at ha
  subst ha
  refine rg_det rfl rfl rfl (fun K hK => ?_)
  go_big_quiet_op
  refine hK _ ?_; clear hK K
  refine rg_nil (fun w' hw' hF => ?_)
  obtain ⟨z, rfl⟩ := hw'
  simp only [List.drop_succ_cons, List.drop_zero]
  obtain ⟨hm1, g, cap, rest, rfl, k1, k2, k3, k4⟩ := end_last hF
  clear hF c1
  rw [hT.out] at k1
  rw [hT.out]
  have hzs := z.h.size
  go_wp2_with fail
  refine (gBindW t r n hT.out hn g cap k1 rest z.w k4).mono ?_
  rintro e w4 ⟨rfl, ⟨rest4, b4⟩, hgr⟩
  have hB4 : Below w.heap.size w w4 := (hB0.trans (z.h.mono hB0.size)).grown hgr (by omega) (fun i e => by cases e; omega)
  go_wp2_with fail
  go_ret
  have hlb := bindL_length r n t hT.out
  refine ⟨_, rfl, ?_, hB4⟩
  have := exts_pad b4 hlb (by omega) (show w.heap.size ≤ g by omega) b4.lt (show n ≤ cap by omega)
  unfold ExtA
  exact this
end Go.Proofs.YtficeebbbkmhcaaGreatDoor
namespace Go.Proofs.YtficeebbbkmhcaaGreatDoor
open Go.RowKit

theorem sl_info : (Tryz.prog.info? 23).map (fun i => (i.zero, i.size, i.bytes)) = some (some (.slice none 0 0), 1, 24) := by kernel_rfl
def nilV : Value := .slice none 0 0
set_option maxRecDepth 100000 in
theorem mk_tab (n : Nat) (hn : n ≤ 1000000) (w : World) : (Instr.makeSlice 36 (.int .i64 (n : Int)) (.int .i64 (n : Int))).run Tryz.prog w = .ok (.slice (some ⟨w.heap.size, 0, none⟩) n n) (w.alloc (.cells (List.replicate n nilV).toArray 23)) := by
  obtain ⟨i0, hi0, hz0, hz1, hz2⟩ := info_parts sl_info
  have h := run_make (P := Tryz.prog) w _ _ i0 _ Tryz.underlying36 hi0 hz0 .i64 .i64 (n : Int) (n : Int) (by omega) (Int.le_refl _) (by rw [hz2]; omega) (by omega)
  rw [h, Int.toNat_natCast, hz1]
  congr 4
  apply Array.ext_getElem?
  intro k
  unfold madeCells
  by_cases hk : k < n
  · simp [hk, Value.cells, nilV, Nat.mod_one]
  · rw [Array.getElem?_eq_none (by simp; omega), Array.getElem?_eq_none (by simp; omega)]
theorem step_mkT {o : Oper} {a : Act} {w : World} {x y : Operand} (n : Nat) (hn : n ≤ 1000000) (ho : o.op = .makeSlice 36 x y) (hx : a.eval x = .int .i64 (n : Int)) (hy : a.eval y = .int .i64 (n : Int)) :
    stepAt Tryz.prog o a w (fun v w' => Lit 23 n (List.replicate n nilV).toArray w.heap.size w'.heap.size v w' ∧ Below w.heap.size w w') := by
  unfold stepAt execOp
  simp only [ho, hx, hy, Sem.run_bind, mk_tab n hn w, Result.andThen_ok]
  exact ⟨⟨rfl, by simp only [World.size_alloc]; omega, Blk.new _ _ _⟩, (Below.refl _ _).alloc (Nat.le_refl _) _⟩
theorem sum_info : (Tryz.prog.info? 46).map (fun i => (i.zero, i.size, i.bytes)) = some (some (.agg #[.slice none 0 0, .slice none 0 0]), 2, 48) := by kernel_rfl
def BndA (vp : Value) (tabs : List (List E)) (lo hi : Nat) (v : Value) (w : World) : Prop := ∃ vt, v = sv vt vp ∧ TabS lo hi w vt tabs
def BndK (w : World) (gt L : Nat) (tabs : List (List E)) (r : E) (j : Nat) (wr : World) : Prop := ∃ us : List Value, us.length = j ∧ Blk wr gt 23 (us ++ List.replicate (tabs.length - j) nilV).toArray ∧ ∀ (k : Nat) u t, us[k]? = some u → tabs[k]? = some t → ExtS L wr.heap.size wr u (bindL t r)
theorem bnd_set (us : List Value) (j N : Nat) (u : Value) (hj : us.length = j) (hN : j < N) : (us ++ List.replicate (N - j) nilV).set j u = (us ++ [u]) ++ List.replicate (N - (j + 1)) nilV := by
  subst hj
  rw [List.set_append_right _ _ (Nat.le_refl _), Nat.sub_self, show N - us.length = (N - (us.length + 1)) + 1 by omega, List.replicate_succ, List.set_cons_zero, List.append_assoc]
  rfl
theorem BndK.keep {w a b : World} {gt L j : Nat} {tabs : List (List E)} {r : E} (h : BndK w gt L tabs r j a) (hb : Below a.heap.size a b) : BndK w gt L tabs r j b := by
  obtain ⟨us, h1, h2, h3⟩ := h
  exact ⟨us, h1, h2.keep hb, fun k u t hu ht => (Rd.keep (h3 k u t hu ht) hb).wide (Nat.le_refl _) hb.size⟩
theorem BndK.step {w a : World} {gt L j lo hi : Nat} {tabs : List (List E)} {r : E} {t : List E} {u : Value} (h : BndK w gt L tabs r j a) (hj : tabs[j]? = some t) (hu : ExtS lo hi a u (bindL t r)) (hlo : L ≤ lo) (hhi : hi ≤ a.heap.size) (hgt : gt < L) : BndK w gt L tabs r (j + 1) (a.setCell ⟨gt, j, none⟩ u) := by
  obtain ⟨us, h1, h2, h3⟩ := h
  have hjl : j < tabs.length := (List.getElem?_eq_some_iff.1 hj).1
  have hp : Put a (a.setCell ⟨gt, j, none⟩ u) gt := Put.set a gt j u
  refine ⟨us ++ [u], by simp [h1], ?_, fun k v s hv hs => ?_⟩
  · have := h2.set_ j u
    rw [← bnd_set us j tabs.length u h1 hjl]
    simpa using this
  · have hsz : (a.setCell ⟨gt, j, none⟩ u).heap.size = a.heap.size := hp.size
    by_cases hk : k < us.length
    · rw [List.getElem?_append_left hk] at hv
      rw [hsz]
      exact hp.rd (h3 k v s hv hs) (.inl hgt)
    · have hkl : k < (us ++ [u]).length := (List.getElem?_eq_some_iff.1 hv).1
      simp only [List.length_append, List.length_cons, List.length_nil] at hkl
      obtain rfl : k = j := by omega
      rw [List.getElem?_append_right (by omega), h1, Nat.sub_self] at hv
      simp only [List.getElem?_cons_zero, Option.some.injEq] at hv
      subst hv
      obtain rfl : t = s := Option.some.inj (hj.symm.trans hs)
      rw [hsz]
      exact hp.rd (Rd.wide hu hlo hhi) (.inl hgt)
theorem BndK.all {w a : World} {gt L : Nat} {tabs : List (List E)} {r : E} (h : BndK w gt L tabs r tabs.length a) (hl : tabs.length ≤ 1000) {lo : Nat} (hgt : lo ≤ gt) (hL : lo ≤ L) : TabS lo a.heap.size a (.slice (some ⟨gt, 0, none⟩) tabs.length tabs.length) (bndE tabs r) := by
  obtain ⟨us, h1, h2, h3⟩ := h
  refine ⟨us, by rw [h1, bndE_length], ?_, fun k u t hu ht => ?_⟩
  · rw [bndE_length]
    refine ⟨by omega, by omega, _, _, rfl, Nat.le_refl _, fun _ => ⟨gt, 0, rfl, hgt, h2.lt, h2.lt, fun j u hu => ?_⟩⟩
    rw [Nat.zero_add, h2.cell, Nat.sub_self]
    simpa using hu
  · obtain ⟨s, hs, rfl⟩ : ∃ s, tabs[k]? = some s ∧ bindL s r = t := by
      unfold bndE at ht
      rw [List.getElem?_map] at ht
      cases he : tabs[k]? with
      | none => rw [he] at ht; cases ht
      | some s => rw [he] at ht; exact ⟨s, rfl, Option.some.inj ht⟩
    exact Rd.wide (h3 k u s hu hs) hL (Nat.le_refl _)
theorem TabS.put {lo hi g : Nat} {w w' : World} {v : Value} {tabs : List (List E)} (h : TabS lo hi w v tabs) (hp : Put w w' g) (hne : g < lo ∨ hi ≤ g) : TabS lo hi w' v tabs :=
  h.other (by rw [hp.size]; exact Nat.le_refl _) fun k h1 h2 _ => hp.other k (by omega)
set_option maxRecDepth 100000 in
set_option maxHeartbeats 4000000 in
theorem gBndSum (tabs : List (List E)) (r : E) (n : Nat) (hall : AllLen tabs (2 * n)) (h0 : 0 < n) (hn : n ≤ 100000) (hl : tabs.length ≤ 1000) (vt vp : Value) (lo hi : Nat) (w : World) (h : TabS lo hi w vt tabs) (hvp : ∃ A n c, vp = .slice A n c) :
    Calls Tryz.prog 40 #[sv vt vp, ev r] w (RetR (BndA vp (bndE tabs r)) w) := by
  obtain ⟨AP, nP, cP, rfl⟩ := hvp
  obtain ⟨A, capt, rfl⟩ := h.len
  obtain ⟨i0, hi0, iz0, iz1, iz2⟩ := info_parts sum_info
  have HA := Lib.hid hall
  have HH := Lib.hid h
  clear hall h
  unfold ev sv
  go_enter Tryz.func40, Tryz.ntmps40
  go_upto_region 1 with (fail)
  refine wp_stk3 fun W hB hz b1 b2 b3 => ?_
  have hW := hz.out
  clear hz
  have c1 := gw_blk b1
  refine wp_region_rg 8 [(3, Spec.rel (Lit 23 tabs.length (List.replicate tabs.length nilV).toArray) (LitF tabs.length)), (7, Spec.rel (New 46 #[.slice none 0 0, .slice none 0 0]) (NewF))] (by kernel_rfl) (by kernel_rfl) (by kernel_rfl) ⟨fit_lit, fit_new, trivial⟩ ?_
  iterate 3 (refine rg_det rfl rfl rfl (fun K hK => ?_); go_big_quiet_op; refine hK _ ?_; clear hK K)
  refine rg_rel rfl rfl (fun W1 hW1 hF => step_mkT tabs.length (by omega) rfl rfl rfl) ?_
  intro n3 m3 v3 hn3 hm3 hd3 hf3 a' ha
  simp only [Act.put, List.setIfInBounds_toArray, List.set_cons_succ, List.set_cons_zero] at ha
  subst ha
  obtain rfl := hf3
  iterate 3 (refine rg_det rfl rfl rfl (fun K hK => ?_); go_big_quiet_op; refine hK _ ?_; clear hK K)
  refine rg_rel rfl rfl (fun W1 hW1 hF => step_new hi0 iz0 rfl) ?_
  intro n7 m7 v7 hn7 hm7 hd7 hf7 a' ha
  simp only [Act.put, List.setIfInBounds_toArray, List.set_cons_succ, List.set_cons_zero] at ha
  subst ha
  obtain rfl := hf7
  refine rg_nil (fun w' hw' hF => ?_)
  obtain ⟨z, rfl⟩ := hw'
  simp only [List.drop_succ_cons, List.drop_zero]
  obtain ⟨hm3b, -, hl3, bt⟩ := end_last (end_init hF)
  obtain ⟨hm7b, -, hl7, bo⟩ := end_last hF
  have hd7' := hd7 (n3, m3) (by simp)
  simp only at hd7'
  have e1 := bo.frozen
  have e2 := bo.cell
  have b1z := b1.gw z
  have b2z := b2.gw z
  have b3z := b3.gw z
  have hBz := hB.trans (z.h.mono hB.size)
  have hzs := z.h.size
  have hn37 : n3 ≠ n7 := by omega
  clear hF c1 b1 b2 b3 hd3 hd7 hB
  go_upto_region 2 with (fail)
  refine set2 (M := fun W => Code.wp _ _ _ _ W) bo fun X hX bX => ?_
  have bX : Blk X n7 46 #[.slice (some ⟨n3, 0, none⟩) tabs.length tabs.length, .slice AP nP cP] := bX
  have btX := hX.blk bt hn37
  have b1X := hX.blk b1z (by omega)
  have b2X := hX.blk b2z (by omega)
  have b3X := hX.blk b3z (by omega)
  have hBX := below_put hBz hX (by omega)
  have hXs := hX.size
  have hn3X := btX.lt
  have hws : w.heap.size ≤ n3 := by omega
  clear e1 e2 bt bo b1z b2z b3z hBz hX
  have c0 := b1X.cell
  go_wp2_with fail
  clear c0
  go_loopw [18] (fun i wr => ∃ j : Nat, j ≤ tabs.length ∧ i = .int .i64 j ∧ X.grownBy wr (some n3) ∧ BndK w n3 X.heap.size tabs r j wr) (fun i _ => tabs.length - (intOf i).toNat)
  case atStart => exact ⟨0, Nat.zero_le _, rfl, grown_refl _ _, [], rfl, by simpa using btX, fun k u t hu _ => by simp at hu⟩
  case round =>
    obtain ⟨j, hj, rfl, hg, hK⟩ := hrel
    clear btX
    have bo2 := grown_blk hg bX (by simp; omega)
    have br2 := grown_blk hg b3X (by simp; omega)
    have hBr := grown_b hBX hg (by omega) hws
    have hgs := hg.size
    by_cases hlt : j < tabs.length
    · have bs2 := grown_blk hg b2X (by simp; omega)
      have hTr := HH.out.keep hBr
      obtain ⟨g, off, cap', hv, q1, q2, q3, q4, q5⟩ := tabs_cells hTr (by omega)
      cases hv
      obtain ⟨t, ht⟩ : ∃ t, tabs[j]? = some t := ⟨_, List.getElem?_eq_getElem hlt⟩
      obtain ⟨A2, c2, d1, hE⟩ := q5 j t ht
      have htl := HA.out t (List.mem_of_getElem? ht)
      have HTL := Lib.hid htl
      have HTJ := Lib.hid ht
      clear q5 ht htl hTr
      go_wp2_with fail
      have f1 := gw_blk bo2
      have f2 := gw_blk bs2
      clear d1
      refine wp_region_rg 7 [(5, Spec.rel (ExtA (bindL t r)) (SlF (bindL t r).length))] (by kernel_rfl) (by kernel_rfl) (by kernel_rfl) ⟨fit_ext, trivial⟩ ?_
      iterate 5 (refine rg_det rfl rfl rfl (fun K hK => ?_); go_big_quiet_op; refine hK _ ?_; clear hK K)
      refine rg_rel rfl rfl (fun W1 hW1 hF => step_callr en_attestor_mle_Bind (gBind t r n HTL.out hn h0 _ _ _ W1 (Rd.keep hE (grw_below hW1))) rfl rfl) ?_
      intro nq5 mq5 vq5 hnq5 hmq5 hdq5 hfq5 a' ha
      simp only [Act.put, List.setIfInBounds_toArray, List.set_cons_succ, List.set_cons_zero] at ha
      subst ha
      obtain ⟨Aq5, capq5, rfl⟩ := hfq5
      refine rg_det rfl rfl rfl (fun K hK => ?_)
      go_big_quiet_op
      refine hK _ ?_; clear hK K
      refine rg_nil (fun w' hw' hF => ?_)
      obtain ⟨z5, rfl⟩ := hw'
      simp only [List.drop_succ_cons, List.drop_zero]
      obtain ⟨hm5, t5⟩ := end_last hF
      have hgz := grown_below hg z5.h
      have boz := bo2.gw z5
      have hKz := hK.keep z5.h
      have hlen : (bindL t r).length = n := bindL_length r n t HTL.out
      obtain ⟨us, hu1, hu2, hu3⟩ := hKz
      have e1 := hu2.frozen
      have e2 : z5.w.cell? ⟨n3, j, none⟩ = some nilV := by
        rw [hu2.cell, List.getElem?_toArray, List.getElem?_append_right (by omega), hu1, Nat.sub_self, List.getElem?_replicate, if_pos (by omega)]
      unfold nilV at e2
      have e3 := boz.cell
      have hK2 : ∀ u, ExtS nq5 mq5 z5.w u (bindL t r) → BndK w n3 X.heap.size tabs r (j + 1) (z5.w.setCell ⟨n3, j, none⟩ u) := fun u hu => BndK.step ⟨us, hu1, hu2, hu3⟩ HTJ.out hu (by omega) (by omega) (by omega)
      have hK3 := hK2 _ t5
      rw [hlen] at hK3
      have HK2 := Lib.hid hK3
      clear hF f1 f2 hu3 hK2 hK3 t5 hdq5
      go_wp2_with fail
      exact ⟨⟨j + 1, by omega, by go_num, grown_set hgz, HK2.out⟩, by simp [intOf]; omega⟩
    · obtain rfl : j = tabs.length := by omega
      have e1 := bo2.cell
      have e3 := br2.cell
      have e4 := br2.frozen
      have hT := hK.all hl (lo := w.heap.size + 3) (by omega) (by omega)
      go_wp2_with fail
      refine bodyPost_ret (v := .agg #[.slice (some ⟨n3, 0, none⟩) tabs.length tabs.length, .slice AP nP cP]) (by simp [results, Tryz.results40, go_sem, e3]) rfl ?_
      have hb : Below w.heap.size w ((wr.setCell ⟨w.heap.size + 2, 0, none⟩ (.slice (some ⟨n3, 0, none⟩) tabs.length tabs.length)).setCell ⟨w.heap.size + 2, 1, none⟩ (.slice AP nP cP)) := below_set2 hBr (by omega)
      refine ⟨_, rfl, ⟨_, rfl, ?_⟩, hb⟩
      have hp : Put wr ((wr.setCell ⟨w.heap.size + 2, 0, none⟩ (.slice (some ⟨n3, 0, none⟩) tabs.length tabs.length)).setCell ⟨w.heap.size + 2, 1, none⟩ (.slice AP nP cP)) (w.heap.size + 2) := (Put.set _ _ _ _).trans (Put.set _ _ _ _)
      rw [hp.size]
      exact (hT.put hp (by omega)).wide (by omega) (Nat.le_refl _)
end Go.Proofs.YtficeebbbkmhcaaGreatDoor
namespace Go.Proofs.YtficeebbbkmhcaaGreatDoor
open Go.RowKit

def RowT (base : Nat) (w : World) (u : Value) (ts : List (List E)) : Prop := ∃ us : List Value, w.ownsRow base 23 1 u ts.length us ∧ us.length = ts.length ∧ ∀ (k : Nat) x t, us[k]? = some x → ts[k]? = some t → ∃ lo hi, base ≤ lo ∧ hi ≤ w.heap.size ∧ Outside lo hi u ∧ ExtS lo hi w x t
theorem RowT.first (base : Nat) (w : World) : RowT base w (.slice none 0 0) [] := ⟨[], ⟨rfl, .inl ⟨rfl, rfl⟩⟩, rfl, fun k x t h => by simp at h⟩
theorem RowT.keep {base : Nat} {w X : World} {u : Value} {ts : List (List E)} (h : RowT base w u ts) (hb : Below w.heap.size w X) : RowT base X u ts := by
  obtain ⟨us, h1, h2, h3⟩ := h
  refine ⟨us, own_below h1 (Nat.le_refl _) hb, h2, fun k x t hx ht => ?_⟩
  obtain ⟨lo, hi, q1, q2, q3, q4⟩ := h3 k x t hx ht
  exact ⟨lo, hi, q1, Nat.le_trans q2 hb.size, q3, Rd.keep q4 hb⟩
theorem own_put {w w' : World} {base n size g : Nat} {e : TypeId} {v : Value} {xs : List Value} (h : w.ownsRow base e size v n xs) (hp : Put w w' g) (hg : g < base) : w'.ownsRow base e size v n xs := by
  obtain ⟨h1, h2⟩ := h
  refine ⟨h1, h2.imp id ?_⟩
  rintro ⟨b, cap, cur, q1, q2, q3, q4⟩
  exact ⟨b, cap, cur, q1, q2, (hp.other b (by omega)).trans q3, q4⟩
theorem RowT.put {base g : Nat} {w X : World} {u : Value} {ts : List (List E)} (h : RowT base w u ts) (hp : Put w X g) (hg : g < base) : RowT base X u ts := by
  obtain ⟨us, h1, h2, h3⟩ := h
  refine ⟨us, own_put h1 hp hg, h2, fun k x t hx ht => ?_⟩
  obtain ⟨lo, hi, q1, q2, q3, q4⟩ := h3 k x t hx ht
  exact ⟨lo, hi, q1, by rw [hp.size]; exact q2, q3, hp.rd q4 (.inl (by omega))⟩
theorem RowT.block {base g : Nat} {w : World} {u : Value} {ts : List (List E)} (h : RowT base w u ts) (hg : u.ownBlock = some g) : base ≤ g ∧ g < w.heap.size := by
  obtain ⟨us, h1, _⟩ := h
  exact own_block h1 hg
theorem RowT.out {base lo hi : Nat} {w : World} {u : Value} {ts : List (List E)} (h : RowT base w u ts) (hlo : w.heap.size ≤ lo) : Outside lo hi u := fun b hb => .inl (Nat.lt_of_lt_of_le (h.block hb).2 hlo)
theorem RowT.tabs {base : Nat} {w : World} {u : Value} {ts : List (List E)} (h : RowT base w u ts) (hl : ts.length ≤ 1000000) : TabS base w.heap.size w u ts := by
  obtain ⟨us, h1, h2, h3⟩ := h
  refine ⟨us, h2, Rd.of_own h1 (by omega) (Nat.le_refl _), fun k x t hx ht => ?_⟩
  obtain ⟨lo, hi, q1, q2, q3, q4⟩ := h3 k x t hx ht
  exact Rd.wide q4 q1 q2
theorem RowT.len {base : Nat} {w : World} {u : Value} {ts : List (List E)} (h : RowT base w u ts) (hl : ts.length ≤ 1000000) : ∃ A cap, u = .slice A ts.length cap := (h.tabs hl).len
theorem wpList_appT {ops : Array Oper} {rest : List Oper} {o : Oper} {a : Act} {Q : Exit → Act → World → Prop} {X : World} {base n lo hi : Nat} {t : TypeId} {ts : List (List E)} {u x : Value} {y : List E} (hgd : o.guard = none) (s p : Operand)
    (ho : o.op = .call { callee := .builtin .append, args := #[s, p], argTypes := #[t, t] }) (ht : Tryz.prog.underlying t = some (.slice 23)) (hs : a.eval s = u) (hx : a.eval p = .slice (some ⟨n, 0, none⟩) 1 1) (hrow : RowT base X u ts) (hsrc : Blk X n 23 #[x]) (hxc : x.oneCell' = true)
    (hE : ExtS lo hi X x y) (hlo : base ≤ lo) (hhi : hi ≤ X.heap.size) (hout : Outside lo hi u) (hk : ts.length ≤ 100000) (hbase : base ≤ X.heap.size)
    (h : ∀ v' w', RowT base w' v' (ts ++ [y]) → Below base X w' → X.grownBy w' u.ownBlock → (v'.ownBlock = u.ownBlock ∨ v'.ownBlock = some X.heap.size) → wpList Tryz.prog ops Q rest (a.put o.dst v') w') : wpList Tryz.prog ops Q (o :: rest) a X := by
  obtain ⟨i0, hi0, hz0, hz1, hz2⟩ := info_parts sl_info
  obtain ⟨us, h1, h2, h3⟩ := hrow
  refine wpList_app3 hgd s p ho ht hi0 hz0 hz1 hz2 rfl (by decide) (cl := [x]) rfl (fun v hv => by rw [List.mem_singleton.1 hv]; exact hxc) hs hx h1 hsrc (by unfold maxLen; omega) (by omega) hbase fun v' w' hown hgrow hB hob => ?_
  have hkept : ∀ lo hi, hi ≤ X.heap.size → Outside lo hi u → Kept lo hi X w' := fun lo hi hh ho => Kept.of_grown hgrow ho hh
  refine h v' w' ⟨us ++ [x], by simpa using hown, by simp [h2], fun k z t' hz ht' => ?_⟩ hB hgrow hob
  by_cases hkl : k < us.length
  · rw [List.getElem?_append_left hkl] at hz
    rw [List.getElem?_append_left (by omega)] at ht'
    obtain ⟨lo', hi', q1, q2, q3, q4⟩ := h3 k z t' hz ht'
    exact ⟨lo', hi', q1, Nat.le_trans q2 hB.size, q3.next hob q2, rd_kept q4 (hkept _ _ q2 q3) hB.size⟩
  · have hkk : k < (us ++ [x]).length := (List.getElem?_eq_some_iff.1 hz).1
    simp only [List.length_append, List.length_cons, List.length_nil] at hkk
    obtain rfl : k = us.length := by omega
    rw [List.getElem?_append_right (Nat.le_refl _), Nat.sub_self] at hz
    rw [List.getElem?_append_right (by omega), h2, Nat.sub_self] at ht'
    simp only [List.getElem?_cons_zero, Option.some.injEq] at hz ht'
    subst hz
    subst ht'
    exact ⟨lo, hi, hlo, Nat.le_trans hhi hB.size, hout.next hob hhi, rd_kept hE (hkept _ _ hhi hout) hB.size⟩
theorem tabs_kept {lo hi : Nat} {v : Value} {ts : List (List E)} {a b : World} (h : TabS lo hi a v ts) (k : Kept lo hi a b) (hs : a.heap.size ≤ b.heap.size) : TabS lo hi b v ts := h.other hs fun g h1 h2 _ => k g h1 h2
theorem TabS.base {lo hi : Nat} {w : World} {v : Value} {ts : List (List E)} (h : TabS lo hi w v ts) : TabS 0 w.heap.size w v ts := by
  obtain ⟨us, h1, h2, h3⟩ := h
  have key : ∀ {n size : Nat} {v : Value} {cs : List Value}, Rd lo hi size w v n cs → Rd 0 w.heap.size size w v n cs := fun ⟨q1, q2, A, cap, q3, q4, q5⟩ => ⟨q1, q2, A, cap, q3, q4, fun h0 => by
    obtain ⟨g, off, r1, r2, r3, r4, r5⟩ := q5 h0
    exact ⟨g, off, r1, Nat.zero_le _, r4, r4, r5⟩⟩
  exact ⟨us, h1, key h2, fun k u t hu ht => key (h3 k u t hu ht)⟩
theorem ext_base {lo hi : Nat} {w : World} {v : Value} {xs : List E} (h : ExtS lo hi w v xs) : ExtS 0 w.heap.size w v xs := by
  obtain ⟨q1, q2, A, cap, q3, q4, q5⟩ := h
  refine ⟨q1, q2, A, cap, q3, q4, fun h0 => ?_⟩
  obtain ⟨g, off, r1, r2, r3, r4, r5⟩ := q5 h0
  exact ⟨g, off, r1, Nat.zero_le _, r4, r4, r5⟩
end Go.Proofs.YtficeebbbkmhcaaGreatDoor
namespace Go.Proofs.YtficeebbbkmhcaaGreatDoor
open Go.RowKit

theorem step_new0 {P : Program} {o : Oper} {a : Act} {w : World} {e : TypeId} {ie : TypeInfo} {z : Value} (hie : P.info? e = some ie) (hz : ie.zero = some z) (ho : o.op = .alloc e) :
    stepAt P o a w (fun v w' => v = .pointer (some ⟨w.heap.size, 0, none⟩) ∧ w' = w.alloc (.cells z.cells e)) := by
  unfold stepAt execOp
  simp [ho, Instr.alloc, zeroValue, typeInfo, hie, hz, newVar, newRow, newObj]
  exact ⟨rfl, rfl⟩
theorem step_loadR0 {P : Program} {o : Oper} {a : Act} {w : World} {t : TypeId} {x : Operand} {g i : Nat} {cs : List Value} {d : TypeDesc} (hu : P.underlying t = some d) (hd : d.isRow = true) (hi : (P.info? t).map (·.size) = some cs.length) (ho : o.op = .load t x) (hx : a.eval x = .pointer (some ⟨g, i, none⟩)) (hc : w.rangeAt g i cs) :
    stepAt P o a w (fun v' w' => v' = .agg cs.toArray ∧ w' = w) := by
  have h2 := run_loadAt_mid (P := P) w g i t cs d hc hu hd hi
  unfold stepAt execOp
  simp only [ho, hx, Sem.run_bind, h2, Result.andThen_ok]
  exact ⟨rfl, rfl⟩
theorem spl_cat : ∀ (vs pre c2 : List Value), c2.length = vs.length → spl (pre ++ c2).toArray pre.length vs = (pre ++ vs).toArray
  | [], pre, c2, h => by
    rw [List.eq_nil_of_length_eq_zero h]
    rfl
  | v :: vs, pre, c :: c2, h => by
    have e : ((pre ++ c :: c2).toArray.setIfInBounds pre.length v) = ((pre ++ [v]) ++ c2).toArray := by simp
    rw [spl, e]
    have := spl_cat vs (pre ++ [v]) c2 (by simpa using h)
    rw [List.length_append, List.length_singleton] at this
    rw [this]
    simp
theorem spl_all (c2 : Array Value) (cs : List Value) (h : c2.size = cs.length) : spl c2 0 cs = cs.toArray := by
  have := spl_cat cs [] c2.toList (by simpa using h)
  simpa using this
theorem blk_range {w : World} {g : Nat} {t : TypeId} {cs : List Value} (hb : Blk w g t cs.toArray) : w.rangeAt g 0 cs := fun j v hv => by
  rw [Nat.zero_add, hb.cell]
  simpa using hv
theorem res_row {P : Program} {fn : Func} {a : Act} {w : World} {s : Tmp} {t : TypeId} {g : Nat} {t1 : TypeId} {cs : List Value} {d : TypeDesc} (hres : fn.results = #[.cell s t]) (hp : a.tmps[s]? = some (.pointer (some ⟨g, 0, none⟩)))
    (hu : P.underlying t = some d) (hd : d.isRow = true) (hi : (P.info? t).map (·.size) = some cs.length) (hb : Blk w g t1 cs.toArray) : (results fn a.tmps).run P w = .ok (.agg cs.toArray) w := by
  simp [results, hres, hp, Sem.run_bind, asAddr, run_loadVar_mid w g 0 t cs d (blk_range hb) hu hd hi]
end Go.Proofs.YtficeebbbkmhcaaGreatDoor
