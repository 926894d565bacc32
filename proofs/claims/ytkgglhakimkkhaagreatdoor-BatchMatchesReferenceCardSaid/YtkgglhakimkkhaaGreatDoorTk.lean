/-
  Chapter 21's reference, by contract: Weight and Value.
  Completeness of the sum-check in plain mathematics.
  The batch in mathematics: its second table is the combined weight, its total the combined value of true claims.
  Chapter 21's reference, by contract: log and Sum.
  Plain mathematics, no program: lists of coefficients, read as polynomials, under the steps by which the reference adds and multiplies them.
  The inverse of the reference of packages field and ext, by contract.
  A cut of a row of elements.
-/
import Derived.Test.YtkgglhakimkkhaaGreatDoorMm1
import Derived.Test.YtkgglhakimkkhaaGreatDoorBa4
import Derived.Test.YtkgglhakimkkhaaGreatDoorVf2
import Derived.Test.YtkgglhakimkkhaaGreatDoorMl3
import Derived.Test.YtkgglhakimkkhaaGreatDoorFi
namespace Go.Proofs.YtkgglhakimkkhaaGreatDoor
open Go.RowKit

theorem en_attestor_attestorref21_Weight : ∀ args w, (callFunc 14 args).run Tryz.prog w = .ok (.enter 14 args) w := enters_of Tryz.func14 (by kernel_rfl) rfl
theorem en_attestor_attestorref21_Value : ∀ args w, (callFunc 38 args).run Tryz.prog w = .ok (.enter 38 args) w := enters_of Tryz.func38 (by kernel_rfl) rfl
theorem blkE0 {W : World} {g : Nat} {t : TypeId} {x : E} (b : Blk W g t (ec x).toArray) : W.cell? ⟨g, 0, none⟩ = some (.int .u64 (fv x.a)) := (b.cell 0).trans rfl
theorem blkE1 {W : World} {g : Nat} {t : TypeId} {x : E} (b : Blk W g t (ec x).toArray) : W.cell? ⟨g, 1, none⟩ = some (.int .u64 (fv x.b)) := (b.cell 1).trans rfl
theorem gwE0 {W : World} {g : Nat} {t : TypeId} {x : E} (b : Blk W g t (ec x).toArray) (z : GW W) : z.w.cell? ⟨g, 0, none⟩ = some (.int .u64 (fv x.a)) := blkE0 (b.gw z)
theorem gwE1 {W : World} {g : Nat} {t : TypeId} {x : E} (b : Blk W g t (ec x).toArray) (z : GW W) : z.w.cell? ⟨g, 1, none⟩ = some (.int .u64 (fv x.b)) := blkE1 (b.gw z)
theorem ext_size2 : (Tryz.prog.info? 26).map (·.size) = some 2 := by kernel_rfl
attribute [local irreducible] wpRg
set_option maxRecDepth 100000 in
set_option maxHeartbeats 4000000 in
theorem rWeightB (cs : List ClW) (r : E) (p : List E) (vl vp : Value) (lo hi lo2 hi2 : Nat) (w : World) (hcs : ClmU lo hi w vl cs) (hp : ExtS lo2 hi2 w vp p) (hl : ∀ x ∈ cs, p.length = x.1.p.length) :
    Calls Tryz.prog 14 #[vl, ev r, vp] w (Ret (ev (wgtC cs r p)) w) := by
  obtain ⟨A, cap, rfl⟩ := hcs.len
  obtain ⟨A2, cap2, rfl⟩ := Rd.len hp
  have HC := Lib.hid hcs
  have HP := Lib.hid hp
  have HLn := Lib.hid hl
  have hsm := hcs.small
  obtain ⟨L, hL⟩ : ∃ L, L = cs.length := ⟨_, rfl⟩
  rw [← hL] at HC hsm ⊢
  have HLe := Lib.hid hL
  clear hcs hp hl hL
  obtain ⟨R, hR⟩ : ∃ R, R = ev r := ⟨_, rfl⟩
  rw [← hR]
  go_enter Tryz.func14, Tryz.ntmps14
  go_upto_region 1 with (fail)
  refine wp_stk2 fun W hB hz b4 b6 => ?_
  have b4' : Blk W w.heap.size 26 (ec r).toArray := by first | exact b4 | (rw [hR] at b4; exact b4)
  have b6' : Blk W (w.heap.size + 1) 26 (ec (0 : E)).toArray := b6
  have hWs : W.heap.size = w.heap.size + 1 + 1 := hz.out
  clear b4 b6 hz
  go_wp2_with fail
  refine calls_stk1 fun X hX hzX b7 => ?_
  have b7' : Blk X W.heap.size 26 (ec (0 : E)).toArray := b7
  have hXs : X.heap.size = w.heap.size + 1 + 1 + 1 := by rw [hzX.out, hWs]
  refine (xOne X).mono ?_
  rintro e w2 ⟨he, hb2⟩
  unfold ev at he
  subst he
  go_wp2_with fail
  refine wp_stk1 fun Y hY hzY b8 => ?_
  have b8' : Blk Y w2.heap.size 26 (ec (1 : E)).toArray := b8
  have hB7 := (hX.trans (hb2.mono hX.size)).trans (hY.mono (Nat.le_trans hX.size hb2.size))
  have b7Y := (b7'.keep hb2).keep hY
  have b4Y := b4'.keep hB7
  have b6Y := b6'.keep hB7
  have hBY := hB.trans (hB7.mono hB.size)
  obtain ⟨n8, hn8⟩ : ∃ n, n = w2.heap.size := ⟨_, rfl⟩
  have hn8w : w.heap.size + 1 + 1 < n8 := by have := hb2.size; omega
  rw [hWs] at b7Y
  rw [← hn8] at b8' ⊢
  have hp0 : pwL r 1 cs = [] ++ pwL r 1 (cs.drop 0) := by simp
  clear b4' b6' b7' b7 b8 hzX hzY hX hb2 hY hB7 hn8 hB hWs hXs
  go_wp2_with fail
  go_loopw [9] (fun i wr => ∃ k : Nat, k ≤ L ∧ i = .int .i64 k ∧ ∃ pre xk, pwL r 1 cs = pre ++ pwL r xk (cs.drop k) ∧ Blk wr w.heap.size 26 (ec r).toArray ∧ Blk wr (w.heap.size + 1) 26 (ec (0 : E)).toArray ∧ Blk wr (w.heap.size + 1 + 1) 26 (ec (cmbE (fun c => pfac c.p p c.p.length) pre)).toArray ∧ Blk wr n8 26 (ec xk).toArray ∧ Below w.heap.size w wr) (fun i _ => L - (intOf i).toNat)
  case atStart => exact ⟨0, Nat.zero_le _, rfl, [], 1, hp0, b4Y, b6Y, b7Y, b8', hBY⟩
  case round =>
    clear b4Y b6Y b7Y b8' hBY hp0
    obtain ⟨k, hk, rfl, pre, xk, hpre, b4, b6, b7, b8, hBr⟩ := hrel
    have HPre := Lib.hid hpre
    clear hpre
    by_cases hlt : k < L
    · obtain ⟨gC, oC, cC, hv, q1, -, -, lC, qC⟩ := (HC.out.keep hBr).cells (by rw [← HLe.out]; omega)
      rw [← HLe.out] at hv
      cases hv
      obtain ⟨x, hx⟩ : ∃ x, cs[k]? = some x := ⟨_, List.getElem?_eq_getElem (by rw [← HLe.out]; exact hlt)⟩
      obtain ⟨hE, d1, d2, d3⟩ := qC k x hx
      have hmem := List.mem_of_getElem? hx
      have hxl := HLn.out x hmem
      have HPK := Lib.hid (show pwL r 1 cs = (pre ++ [(xk, x)]) ++ pwL r (xk * r) (cs.drop (k + 1)) by rw [HPre.out, pwL_drop r xk _ k _ hx, List.append_assoc]; rfl)
      have HS := Lib.hid (cmbE_snoc (fun c => pfac c.p p c.p.length) pre (xk, x))
      generalize cmbE (fun c => pfac c.p p c.p.length) pre = s at *
      obtain ⟨y, hy⟩ : ∃ y, y = pfac x.1.p p x.1.p.length := ⟨_, rfl⟩
      have HE := Lib.hid (show ∀ W1, Below wr.heap.size wr W1 → Calls Tryz.prog 48 #[ptV x, .slice A2 p.length cap2] W1 (Ret (ev y) W1) from fun W1 hW => by rw [hy]; exact mEqR x.1.p p hxl _ _ _ _ _ _ W1 (Rd.keep hE hW) (Rd.keep (Rd.keep HP.out hBr) hW))
      have HY := Lib.hid hy
      simp only [ptV] at HE d1
      have f7 := gwE0 b7
      have f7' := gwE1 b7
      have f8 := gwE0 b8
      have f8' := gwE1 b8
      have fC := gw_cell lC d1
      clear qC hE d1 d2 d3 hx hy hxl hmem
      go_upto_region 6 with (fail)
      refine wp_region_rg 11 [(8, Spec.val (.agg #[.int .u64 (fv (y).a), .int .u64 (fv (y).b)])), (9, Spec.val (.agg #[.int .u64 (fv (xk * y).a), .int .u64 (fv (xk * y).b)])), (10, Spec.val (.agg #[.int .u64 (fv (s + xk * y).a), .int .u64 (fv (s + xk * y).b)]))] (by kernel_rfl) (by kernel_rfl) (by kernel_rfl) trivial ?_
      iterate 8 (refine rg_det rfl rfl rfl (fun K hK => ?_); go_big_quiet_op; refine hK _ ?_; clear hK K)
      refine rg_val rfl rfl (fun W1 hW1 hF => step_callv en_attestor_attestorref05_Eq (HE.out W1 (grw_below hW1)) rfl rfl) ?_
      intro a' ha
      simp only [Act.put, List.setIfInBounds_toArray, List.set_cons_succ, List.set_cons_zero] at ha
      subst ha
      refine rg_val rfl rfl (fun W1 hW1 hF => step_callv en_attestor_attestorref02_Mul (xMul xk y W1) rfl rfl) ?_
      intro a' ha
      simp only [Act.put, List.setIfInBounds_toArray, List.set_cons_succ, List.set_cons_zero] at ha
      subst ha
      refine rg_val rfl rfl (fun W1 hW1 hF => step_callv en_attestor_attestorref02_Add (xAdd s (xk * y) W1) rfl rfl) ?_
      intro a' ha
      simp only [Act.put, List.setIfInBounds_toArray, List.set_cons_succ, List.set_cons_zero] at ha
      subst ha
      refine rg_nil (fun w' hw' hF => ?_)
      obtain ⟨z, rfl⟩ := hw'
      simp only [List.drop_succ_cons, List.drop_zero]
      clear hF f7 f7' f8 f8' fC
      have b4z := b4.gw z
      have b6z := b6.gw z
      have b7z := b7.gw z
      have b8z := b8.gw z
      have hBz := hBr.trans (z.h.mono hBr.size)
      clear b4 b6 b7 b8 hBr
      refine wpList_put rfl 26 (.tmp 7) (.tmp 28) rfl rfl (cells := ec (s + xk * y)) rfl b7z (by show 0 + 2 ≤ 2; decide) ext_size2 rfl (spl_all _ _ rfl) fun X hX b7 => ?_
      have b4 := hX.blk b4z (by omega)
      have b6 := hX.blk b6z (by omega)
      have b8 := hX.blk b8z (by omega)
      have hBX := below_put hBz hX (by omega)
      clear b4z b6z b7z b8z hBz hX
      have e1 := blkE0 b8
      have e2 := blkE1 b8
      have e3 := blkE0 b4
      have e4 := blkE1 b4
      go_upto_region 7 with (fail)
      refine wp_region_lit ?_
      try simp only [Act.put, List.setIfInBounds_toArray, List.set_cons_succ, List.set_cons_zero]
      iterate 2 (refine wpList_plain rfl fun K hK => ?_; go_big_op; refine hK _ _ ?_; clear hK K)
      refine wpList_plain rfl fun K3 hK3 => wp_of_step (stepAt_mono (fun v31 w31 hh => ?_) (step_callv en_attestor_attestorref02_Mul (xMul xk r X) rfl rfl))
      obtain ⟨rfl, B31⟩ := hh
      refine hK3 _ _ ?_
      clear hK3 K3
      try simp only [Act.put, List.setIfInBounds_toArray, List.set_cons_succ, List.set_cons_zero]
      refine wpList_put rfl 26 (.tmp 8) (.tmp 31) rfl rfl (cells := ec (xk * r)) rfl (b8.keep B31) (by show 0 + 2 ≤ 2; decide) ext_size2 rfl (spl_all _ _ rfl) fun Y hY b8Y => ?_
      have b4Y := hY.blk (b4.keep B31) (by omega)
      have b6Y := hY.blk (b6.keep B31) (by omega)
      have b7Y := hY.blk (b7.keep B31) (by omega)
      have hBY := below_put (hBX.trans (B31.mono hBX.size)) hY (by omega)
      clear b4 b6 b7 b8 hBX hY e1 e2 e3 e4 B31
      go_wp2_with fail
      exact ⟨⟨k + 1, by omega, by go_num, pre ++ [(xk, x)], xk * r, HPK.out, b4Y, b6Y, by rw [HS.out]; simp only []; rw [← HY.out]; exact b7Y, b8Y, hBY⟩, by simp [intOf]; omega⟩
    · obtain rfl : k = L := by omega
      have HQ := Lib.hid (show wgtC cs r p = cmbE (fun c => pfac c.p p c.p.length) pre by unfold wgtC; rw [HPre.out, pwL_end r xk _ k (by rw [← HLe.out]; exact Nat.le_refl _), List.append_nil])
      generalize cmbE (fun c => pfac c.p p c.p.length) pre = s at *
      have e1 := blkE0 b7
      have e2 := blkE1 b7
      clear b8 b4
      go_upto_region 8 with (fail)
      refine wp_region_lit ?_
      try simp only [Act.put, List.setIfInBounds_toArray, List.set_cons_succ, List.set_cons_zero]
      iterate 1 (refine wpList_plain rfl fun K hK => ?_; go_big_op; refine hK _ _ ?_; clear hK K)
      refine wpList_put rfl 26 (.tmp 6) (.tmp 32) rfl rfl (cells := ec s) rfl b6 (by show 0 + 2 ≤ 2; decide) ext_size2 rfl (spl_all _ _ rfl) fun Y hY bY => ?_
      have hBY := below_put hBr hY (by omega)
      clear e1 e2
      go_wp2_with fail
      rw [HQ.out]
      exact bodyPost_ret (v := ev s) (res_row (g := w.heap.size + 1) rfl rfl Tryz.underlying26 rfl ext_size2 bY) rfl ⟨rfl, hBY⟩
set_option maxRecDepth 100000 in
set_option maxHeartbeats 4000000 in
theorem rValueB (cs : List ClW) (r : E) (vl : Value) (lo hi : Nat) (w : World) (hcs : ClmU lo hi w vl cs) :
    Calls Tryz.prog 38 #[vl, ev r] w (Ret (ev (valB cs r)) w) := by
  obtain ⟨A, cap, rfl⟩ := hcs.len
  have HC := Lib.hid hcs
  have hsm := hcs.small
  obtain ⟨L, hL⟩ : ∃ L, L = cs.length := ⟨_, rfl⟩
  rw [← hL] at HC hsm ⊢
  have HLe := Lib.hid hL
  clear hcs hL
  obtain ⟨R, hR⟩ : ∃ R, R = ev r := ⟨_, rfl⟩
  rw [← hR]
  go_enter Tryz.func38, Tryz.ntmps38
  go_upto_region 1 with (fail)
  refine wp_stk2 fun W hB hz b4 b6 => ?_
  have b4' : Blk W w.heap.size 26 (ec r).toArray := by first | exact b4 | (rw [hR] at b4; exact b4)
  have b6' : Blk W (w.heap.size + 1) 26 (ec (0 : E)).toArray := b6
  have hWs : W.heap.size = w.heap.size + 1 + 1 := hz.out
  clear b4 b6 hz
  go_wp2_with fail
  refine calls_stk1 fun X hX hzX b7 => ?_
  have b7' : Blk X W.heap.size 26 (ec (0 : E)).toArray := b7
  have hXs : X.heap.size = w.heap.size + 1 + 1 + 1 := by rw [hzX.out, hWs]
  refine (xOne X).mono ?_
  rintro e w2 ⟨he, hb2⟩
  unfold ev at he
  subst he
  go_wp2_with fail
  refine wp_stk1 fun Y hY hzY b8 => ?_
  have b8' : Blk Y w2.heap.size 26 (ec (1 : E)).toArray := b8
  have hB7 := (hX.trans (hb2.mono hX.size)).trans (hY.mono (Nat.le_trans hX.size hb2.size))
  have b7Y := (b7'.keep hb2).keep hY
  have b4Y := b4'.keep hB7
  have b6Y := b6'.keep hB7
  have hBY := hB.trans (hB7.mono hB.size)
  obtain ⟨n8, hn8⟩ : ∃ n, n = w2.heap.size := ⟨_, rfl⟩
  have hn8w : w.heap.size + 1 + 1 < n8 := by have := hb2.size; omega
  rw [hWs] at b7Y
  rw [← hn8] at b8' ⊢
  have hp0 : pwL r 1 cs = [] ++ pwL r 1 (cs.drop 0) := by simp
  clear b4' b6' b7' b7 b8 hzX hzY hX hb2 hY hB7 hn8 hB hWs hXs
  go_wp2_with fail
  go_loopw [7] (fun i wr => ∃ k : Nat, k ≤ L ∧ i = .int .i64 k ∧ ∃ pre xk, pwL r 1 cs = pre ++ pwL r xk (cs.drop k) ∧ Blk wr w.heap.size 26 (ec r).toArray ∧ Blk wr (w.heap.size + 1) 26 (ec (0 : E)).toArray ∧ Blk wr (w.heap.size + 1 + 1) 26 (ec (cmbE (fun c => c.v) pre)).toArray ∧ Blk wr n8 26 (ec xk).toArray ∧ Below w.heap.size w wr) (fun i _ => L - (intOf i).toNat)
  case atStart => exact ⟨0, Nat.zero_le _, rfl, [], 1, hp0, b4Y, b6Y, b7Y, b8', hBY⟩
  case round =>
    clear b4Y b6Y b7Y b8' hBY hp0
    obtain ⟨k, hk, rfl, pre, xk, hpre, b4, b6, b7, b8, hBr⟩ := hrel
    have HPre := Lib.hid hpre
    clear hpre
    by_cases hlt : k < L
    · obtain ⟨gC, oC, cC, hv, q1, -, -, lC, qC⟩ := (HC.out.keep hBr).cells (by rw [← HLe.out]; omega)
      rw [← HLe.out] at hv
      cases hv
      obtain ⟨x, hx⟩ : ∃ x, cs[k]? = some x := ⟨_, List.getElem?_eq_getElem (by rw [← HLe.out]; exact hlt)⟩
      obtain ⟨hE, d1, d2, d3⟩ := qC k x hx
      have hmem := List.mem_of_getElem? hx
      have HPK := Lib.hid (show pwL r 1 cs = (pre ++ [(xk, x)]) ++ pwL r (xk * r) (cs.drop (k + 1)) by rw [HPre.out, pwL_drop r xk _ k _ hx, List.append_assoc]; rfl)
      have HS := Lib.hid (cmbE_snoc (fun c => c.v) pre (xk, x))
      generalize cmbE (fun c => c.v) pre = s at *
      obtain ⟨y, hy⟩ : ∃ y, y = x.1.v := ⟨_, rfl⟩
      rw [← hy] at d2 d3
      have HY := Lib.hid hy
      have f7 := gwE0 b7
      have f7' := gwE1 b7
      have f8 := gwE0 b8
      have f8' := gwE1 b8
      have fC := gw_cell lC d2
      have fC' := gw_cell lC d3
      clear qC hE d1 d2 d3 hx hy hmem
      go_upto_region 6 with (fail)
      refine wp_region_rg 9 [(7, Spec.val (.agg #[.int .u64 (fv (xk * y).a), .int .u64 (fv (xk * y).b)])), (8, Spec.val (.agg #[.int .u64 (fv (s + xk * y).a), .int .u64 (fv (s + xk * y).b)]))] (by kernel_rfl) (by kernel_rfl) (by kernel_rfl) trivial ?_
      iterate 7 (refine rg_det rfl rfl rfl (fun K hK => ?_); go_big_quiet_op; refine hK _ ?_; clear hK K)
      refine rg_val rfl rfl (fun W1 hW1 hF => step_callv en_attestor_attestorref02_Mul (xMul xk y W1) rfl rfl) ?_
      intro a' ha
      simp only [Act.put, List.setIfInBounds_toArray, List.set_cons_succ, List.set_cons_zero] at ha
      subst ha
      refine rg_val rfl rfl (fun W1 hW1 hF => step_callv en_attestor_attestorref02_Add (xAdd s (xk * y) W1) rfl rfl) ?_
      intro a' ha
      simp only [Act.put, List.setIfInBounds_toArray, List.set_cons_succ, List.set_cons_zero] at ha
      subst ha
      refine rg_nil (fun w' hw' hF => ?_)
      obtain ⟨z, rfl⟩ := hw'
      simp only [List.drop_succ_cons, List.drop_zero]
      clear hF f7 f7' f8 f8' fC fC'
      have b4z := b4.gw z
      have b6z := b6.gw z
      have b7z := b7.gw z
      have b8z := b8.gw z
      have hBz := hBr.trans (z.h.mono hBr.size)
      clear b4 b6 b7 b8 hBr
      refine wpList_put rfl 26 (.tmp 5) (.tmp 24) rfl rfl (cells := ec (s + xk * y)) rfl b7z (by show 0 + 2 ≤ 2; decide) ext_size2 rfl (spl_all _ _ rfl) fun X hX b7 => ?_
      have b4 := hX.blk b4z (by omega)
      have b6 := hX.blk b6z (by omega)
      have b8 := hX.blk b8z (by omega)
      have hBX := below_put hBz hX (by omega)
      clear b4z b6z b7z b8z hBz hX
      have e1 := blkE0 b8
      have e2 := blkE1 b8
      have e3 := blkE0 b4
      have e4 := blkE1 b4
      go_upto_region 7 with (fail)
      refine wp_region_lit ?_
      try simp only [Act.put, List.setIfInBounds_toArray, List.set_cons_succ, List.set_cons_zero]
      iterate 2 (refine wpList_plain rfl fun K hK => ?_; go_big_op; refine hK _ _ ?_; clear hK K)
      refine wpList_plain rfl fun K8 hK8 => wp_of_step (stepAt_mono (fun v31 w31 hh => ?_) (step_callv en_attestor_attestorref02_Mul (xMul xk r X) rfl rfl))
      obtain ⟨rfl, B31⟩ := hh
      refine hK8 _ _ ?_
      clear hK8 K8
      try simp only [Act.put, List.setIfInBounds_toArray, List.set_cons_succ, List.set_cons_zero]
      refine wpList_put rfl 26 (.tmp 6) (.tmp 27) rfl rfl (cells := ec (xk * r)) rfl (b8.keep B31) (by show 0 + 2 ≤ 2; decide) ext_size2 rfl (spl_all _ _ rfl) fun Y hY b8Y => ?_
      have b4Y := hY.blk (b4.keep B31) (by omega)
      have b6Y := hY.blk (b6.keep B31) (by omega)
      have b7Y := hY.blk (b7.keep B31) (by omega)
      have hBY := below_put (hBX.trans (B31.mono hBX.size)) hY (by omega)
      clear b4 b6 b7 b8 hBX hY e1 e2 e3 e4 B31
      go_wp2_with fail
      exact ⟨⟨k + 1, by omega, by go_num, pre ++ [(xk, x)], xk * r, HPK.out, b4Y, b6Y, by rw [HS.out]; simp only []; rw [← HY.out]; exact b7Y, b8Y, hBY⟩, by simp [intOf]; omega⟩
    · obtain rfl : k = L := by omega
      have HQ := Lib.hid (show valB cs r = cmbE (fun c => c.v) pre by unfold valB; rw [HPre.out, pwL_end r xk _ k (by rw [← HLe.out]; exact Nat.le_refl _), List.append_nil])
      generalize cmbE (fun c => c.v) pre = s at *
      have e1 := blkE0 b7
      have e2 := blkE1 b7
      clear b8 b4
      go_upto_region 8 with (fail)
      refine wp_region_lit ?_
      try simp only [Act.put, List.setIfInBounds_toArray, List.set_cons_succ, List.set_cons_zero]
      iterate 1 (refine wpList_plain rfl fun K hK => ?_; go_big_op; refine hK _ _ ?_; clear hK K)
      refine wpList_put rfl 26 (.tmp 4) (.tmp 28) rfl rfl (cells := ec s) rfl b6 (by show 0 + 2 ≤ 2; decide) ext_size2 rfl (spl_all _ _ rfl) fun Y hY bY => ?_
      have hBY := below_put hBr hY (by omega)
      clear e1 e2
      go_wp2_with fail
      rw [HQ.out]
      exact bodyPost_ret (v := ev s) (res_row (g := w.heap.size + 1) rfl rfl Tryz.underlying26 rfl ext_size2 bY) rfl ⟨rfl, hBY⟩
end Go.Proofs.YtkgglhakimkkhaaGreatDoor
namespace Go.Proofs.YtkgglhakimkkhaaGreatDoor

theorem AllLen.pos {tabs : List (List E)} {r : E} (h0 : 0 < tabs.length) : 0 < (bndE tabs r).length := by rw [bndE_length]; exact h0
theorem rnd_sum (tabs : List (List E)) (ps : List Trm) (n : Nat) (h : AllLen tabs (2 * n)) (h0 : 0 < tabs.length) : (rndE tabs ps).getD 0 0 + (rndE tabs ps).getD 1 0 = totE tabs ps := by
  have hd := degE_pos ps
  rw [rndE_get tabs ps 0 (by omega), rndE_get tabs ps 1 (by omega), nodeE_zero, nodeE_one]
  exact tot_ends tabs ps n h h0
theorem tot_one (tabs : List (List E)) (ps : List Trm) (h : AllLen tabs 1) (h0 : 0 < tabs.length) : totE tabs ps = finE (valL (prvV tabs [])) ps := by
  have hl : lenT tabs = 1 := h.lenT h0
  unfold totE
  rw [hl, totK_succ]
  show 0 + finE (valT tabs 0) ps = _
  rw [E.zero_add]
  congr 1
  funext k
  show (tabs.getD k []).getD 0 0 = (tabs.map fun t => t.getD 0 0).getD k 0
  by_cases hk : k < tabs.length
  · simp [List.getD, hk]
  · simp [List.getD, hk]
theorem steps_tot (ps : List Trm) (h3 : degE ps ≤ 3) : ∀ (coins : List E) (tabs : List (List E)), AllLen tabs (2 ^ coins.length) → 0 < tabs.length →
    ∃ xs : List (E × Int), stepsL (degE ps) (totE tabs ps) (prvR tabs ps coins) coins = xs ∧ lastS (totE tabs ps) xs = (finE (valL (prvV tabs coins)) ps, 0)
  | [], tabs, h, h0 => ⟨[], rfl, by
    show (totE tabs ps, (0 : Int)) = _
    rw [tot_one tabs ps h h0]⟩
  | c :: cs, tabs, h, h0 => by
    have h' : AllLen tabs (2 * 2 ^ cs.length) := by rw [← Nat.pow_succ']; exact h
    obtain ⟨xs, h1, h2⟩ := steps_tot ps h3 cs (bndE tabs c) (h'.bnd c) (AllLen.pos h0)
    refine ⟨(totE (bndE tabs c) ps, 0) :: xs, ?_, ?_⟩
    · show stepsL (degE ps) (totE tabs ps) (rndE tabs ps :: prvR (bndE tabs c) ps cs) (c :: cs) = _
      rw [stepsL, rndE_length, if_neg (fun h => h rfl), if_neg (fun h => h (rnd_sum tabs ps _ h' h0)), rnd_at tabs ps _ h' h0 h3 c, h1]
    · exact h2
theorem vrf_complete (tabs : List (List E)) (ps : List Trm) (coins : List E) (h : AllLen tabs (2 ^ coins.length)) (h0 : 0 < tabs.length) (h3 : degE ps ≤ 3) :
    vrfE (degE ps : Int) (totE tabs ps) (prvR tabs ps coins) coins = (finE (valL (prvV tabs coins)) ps, 0) := by
  have hd := degE_pos ps
  obtain ⟨xs, h1, h2⟩ := steps_tot ps h3 coins tabs h h0
  unfold vrfE
  rw [if_neg (by rw [prvR_length]; omega), Int.toNat_natCast, h1, h2]
theorem headD_getD (l : List E) : l.headD 0 = l.getD 0 0 := by cases l <;> rfl
theorem bndAll_map : ∀ (coins : List E) (tabs : List (List E)), bndAll tabs coins = tabs.map fun t => evalL t coins
  | [], tabs => by show tabs = tabs.map fun t => t; simp
  | c :: cs, tabs => by
    show bndAll (bndE tabs c) cs = _
    rw [bndAll_map cs, bndE, List.map_map]
    rfl
theorem prvV_mev (tabs : List (List E)) (coins : List E) : prvV tabs coins = tabs.map fun t => mev t coins := by
  unfold prvV mev
  rw [bndAll_map, List.map_map]
  apply List.map_congr_left
  intro t _
  exact (headD_getD _).symm
theorem vrf_wrong (tabs : List (List E)) (ps : List Trm) (c : E) (cs : List E) (v : E) (h : AllLen tabs (2 ^ (c :: cs).length)) (h0 : 0 < tabs.length) (h3 : degE ps ≤ 3) (hv : v ≠ totE tabs ps) :
    vrfE (degE ps : Int) v (prvR tabs ps (c :: cs)) (c :: cs) = (0, 60) := by
  have hd := degE_pos ps
  have h' : AllLen tabs (2 * 2 ^ cs.length) := by rw [← Nat.pow_succ']; exact h
  unfold vrfE
  rw [if_neg (by rw [prvR_length]; omega), Int.toNat_natCast]
  show lastS v (stepsL (degE ps) v (rndE tabs ps :: prvR (bndE tabs c) ps cs) (c :: cs)) = _
  rw [stepsL, rndE_length, if_neg (fun h => h rfl), if_pos (by rw [rnd_sum tabs ps _ h' h0]; exact fun e => hv e.symm)]
  rfl
end Go.Proofs.YtkgglhakimkkhaaGreatDoor
namespace Go.Proofs.YtkgglhakimkkhaaGreatDoor
open Go.RowKit

theorem cmbE_congr (f g : Clm → E) (xs : List (E × ClW)) (h : ∀ x ∈ xs, f x.2.1 = g x.2.1) : cmbE f xs = cmbE g xs := by
  unfold cmbE
  exact esum_congr _ _ _ fun x hx => by rw [h x hx]
end Go.Proofs.YtkgglhakimkkhaaGreatDoor
namespace Go.Proofs.YtkgglhakimkkhaaGreatDoor
open Go.RowKit

def OwE (base : Nat) (w : World) (v : Value) (xs : List E) : Prop := w.ownsRow base 26 2 v xs.length (xs.flatMap ec)
theorem OwE.len {base : Nat} {w : World} {v : Value} {xs : List E} (h : OwE base w v xs) : ∃ A cap, v = .slice A xs.length cap := by
  rcases h.2 with ⟨rfl, e⟩ | ⟨g, cap, cur, rfl, _⟩
  · exact ⟨none, 0, by rw [e]⟩
  · exact ⟨_, cap, rfl⟩
theorem OwE.ext {base hi : Nat} {w : World} {v : Value} {xs : List E} (h : OwE base w v xs) (hn : xs.length ≤ 10000000) (hh : w.heap.size ≤ hi) : ExtS base hi w v xs := exts_of_own h rfl (by omega) hh
theorem OwE.keep {base : Nat} {w X : World} {v : Value} {xs : List E} (h : OwE base w v xs) (hb : Below w.heap.size w X) : OwE base X v xs := own_below h (Nat.le_refl _) hb
theorem owE_nil (base : Nat) (w : World) : OwE base w (.slice none 0 0) [] := ⟨rfl, .inl ⟨rfl, rfl⟩⟩
theorem wpList_appX {ops : Array Oper} {rest : List Oper} {o : Oper} {a : Act} {Q : Exit → Act → World → Prop} {X : World} {base n : Nat} {xs : List E} {u : Value} {y : E} (g : o.guard = none) (s x : Operand)
    (ho : o.op = .call { callee := .builtin .append, args := #[s, x], argTypes := #[22, 22] }) (hs : a.eval s = u) (hx : a.eval x = .slice (some ⟨n, 0, none⟩) 1 1) (hown : OwE base X u xs) (hsrc : Blk X n 26 (ec y).toArray) (hk : xs.length ≤ 1000000) (hbase : base ≤ X.heap.size)
    (h : ∀ v' w', OwE base w' v' (xs ++ [y]) → X.grownBy w' u.ownBlock → (∀ g, v'.ownBlock = some g → u.ownBlock = some g ∨ X.heap.size ≤ g) → Below base X w' → wpList Tryz.prog ops Q rest (a.put o.dst v') w') : wpList Tryz.prog ops Q (o :: rest) a X := by
  obtain ⟨ie, he0, hez0, hez1, hez2⟩ := info_parts ext_info
  refine wpList_append_own_at X g s x _ ho base _ ie _ 2 16 Tryz.underlying22 he0 hez0 hez1 hez2 rfl (by decide) u xs.length (xs.flatMap ec) hs hown ⟨n, 0, none⟩ 1 1 (ec y) hx rfl (blk_news hsrc) (ec_one y) (by unfold maxLen; omega) (by omega) hbase ?_
  intro v' w' hown' hgrow _ hat
  refine h v' w' ?_ hgrow (fun g hg => ?_) ((Below.refl _ _).grown hgrow hbase (fun g hg => (own_block hown hg).1))
  · unfold OwE
    rw [List.flatMap_append, List.length_append]
    simpa using hown'
  · rcases hat with h | h
    · exact .inl (by rw [← h]; exact hg)
    · rw [h] at hg
      cases hg
      exact .inr (Nat.le_refl _)
theorem wpList_newE {ops : Array Oper} {rest : List Oper} {o : Oper} {a : Act} {Q : Exit → Act → World → Prop} {X : World} (g : o.guard = none) (ho : o.op = .buildSlice 22 0 #[])
    (h : ∀ v w', OwE X.heap.size w' v [] → Below X.heap.size X w' → wpList Tryz.prog ops Q rest (a.put o.dst v) w') : wpList Tryz.prog ops Q (o :: rest) a X := by
  obtain ⟨ie, he0, hez0, hez1, hez2⟩ := info_parts ext_info
  refine wpList_plain g fun K hK => wp_of_step (stepAt_mono (fun v0 w1 hh => ?_) (step_lit0 Tryz.underlying22 he0 hez0 ho))
  obtain ⟨⟨rfl, hl1, b1⟩, hB1⟩ := hh
  exact hK _ _ (h _ _ ⟨rfl, .inr ⟨X.heap.size, 0, #[], rfl, Nat.le_refl _, b1, Nat.le_refl _, by simp, by simp⟩⟩ hB1)
theorem en_attestor_attestorref21_log : ∀ args w, (callFunc 36 args).run Tryz.prog w = .ok (.enter 36 args) w := enters_of Tryz.func36 (by kernel_rfl) rfl
set_option maxRecDepth 100000 in
set_option maxHeartbeats 4000000 in
theorem rLogB (n : Nat) (hn : n ≤ 18) (A : Option Addr) (cap : Nat) (w : World) : Calls Tryz.prog 36 #[.slice A (2 ^ n) cap] w (Ret (.int .i64 (n : Int)) w) := by
  obtain ⟨L, hL⟩ : ∃ L, L = 2 ^ n := ⟨_, rfl⟩
  have hLs : L ≤ 262144 := by rw [hL]; exact Nat.le_trans (Nat.pow_le_pow_right (by decide) hn) (by decide)
  rw [← hL]
  have HL := Lib.hid hL
  clear hL
  go_enter Tryz.func36, Tryz.ntmps36
  go_wp2_with fail
  go_loopw [3] (fun i wr => ∃ j : Nat, j ≤ n ∧ i = .int .i64 j ∧ wr = w) (fun i _ => n - (intOf i).toNat)
  case atStart => exact ⟨0, Nat.zero_le _, rfl, rfl⟩
  case round =>
    obtain ⟨j, hj, rfl, rfl⟩ := hrel
    have hp : 2 ^ j ≤ 262144 := Nat.le_trans (Nat.pow_le_pow_right (by decide) (Nat.le_trans hj hn)) (by decide)
    have hpi : (2 : Int) ^ j = ((2 ^ j : Nat) : Int) := by simp
    obtain ⟨Q, hQ⟩ : ∃ Q, Q = 2 ^ j := ⟨_, rfl⟩
    rw [← hQ] at hp hpi
    have hwr : wrap64 ((2 : Int) ^ j) = (Q : Int) := by rw [hpi]; unfold wrap64; omega
    have HQ := Lib.hid hQ
    by_cases hlt : j < n
    · have hlq : Q < L := by rw [hQ, HL.out]; exact Nat.pow_lt_pow_right (by decide) hlt
      clear hQ
      go_wp2_with fail
      exact ⟨⟨j + 1, by omega, by go_num, trivial⟩, by simp [intOf]; omega⟩
    · obtain rfl : j = n := by omega
      have hlq : Q = L := by rw [hQ, HL.out]
      subst hlq
      clear hQ
      go_wp2_with fail
      go_ret
      exact ⟨rfl, Below.refl _ _⟩
attribute [local irreducible] wpRg
theorem accB_take (n : Nat) (xs : List (E × ClW)) (k : Nat) (h : k < n) : (accB n xs).take k ++ [cmbE (fun c => eqi k c.p) xs] = (accB n xs).take (k + 1) := by
  have hk : k < (accB n xs).length := by rw [accB_len]; exact h
  rw [take_next _ k hk]
  simp [accB]
def TrmR (q n m : Nat) (v : Value) (w : World) : Prop := v = .slice (some ⟨n, 0, none⟩) 1 1 ∧ TrmS q m w v trmB
theorem TrmS.below {lo hi N : Nat} {w w' : World} {v : Value} {ps : List Trm} (h : TrmS lo hi w v ps) (hb : Below N w w') (hN : hi ≤ N) : TrmS lo hi w' v ps := by
  obtain ⟨us, h1, h2, h3⟩ := h
  exact ⟨us, h1, h2.below hb hN, fun k u t hu ht => Rd.below (h3 k u t hu ht) hb hN⟩
theorem fit_trm {q : Nat} : Fit (TrmR q) (LitF 1) := ⟨fun _ _ _ _ _ h hb => ⟨h.1, h.2.below hb (Nat.le_refl _)⟩, fun _ => ⟨_, rfl⟩, fun _ _ _ _ h => h.1⟩
theorem trmR_lit {w w' : World} {q n m g : Nat} {v : Value} (h : Lit 76 1 #[.int .u64 (fv (1 : E).a), .int .u64 (fv (1 : E).b), .slice (some ⟨g, 0, none⟩) 2 2] n m v w') (hm : m = w'.heap.size) (hg : Blk w g 3 #[.int .i64 0, .int .i64 1]) (hB : Below w.heap.size w w') (hq : q ≤ g) (hqn : q ≤ n) : TrmR q n m v w' := by
  obtain ⟨rfl, hn, hk⟩ := h
  subst hm
  have hg' := hg.keep hB
  refine ⟨rfl, [.slice (some ⟨g, 0, none⟩) 2 2], rfl, rd_blkB hk rfl (by decide) hqn hk.lt, fun k u p hu hp => ?_⟩
  rcases k with _ | k
  · cases hu; cases hp; exact rd_blkB hg' rfl (by decide) hq hg'.lt
  · simp at hu
theorem tab_two {W : World} {g : Nat} {t : TypeId} {T a : List E} {v1 v2 : Value} {l1 h1 l2 h2 : Nat} (h : Blk W g t #[v1, v2]) (hT : ExtS l1 h1 W v1 T) (ha : ExtS l2 h2 W v2 a) (hh1 : h1 ≤ W.heap.size) (hh2 : h2 ≤ W.heap.size) : TabS 0 W.heap.size W (.slice (some ⟨g, 0, none⟩) 2 2) [T, a] := by
  refine ⟨[v1, v2], rfl, rd_blkB h rfl (by decide) (Nat.zero_le _) h.lt, fun k u t hu ht => ?_⟩
  rcases k with _ | _ | k
  · cases hu; cases ht; exact Rd.wide hT (Nat.zero_le _) hh1
  · cases hu; cases ht; exact Rd.wide ha (Nat.zero_le _) hh2
  · simp at hu
theorem exts_baseV {lo hi : Nat} {w : World} {v : Value} {l : List E} (h : ExtS lo hi w v l) : ExtS 0 w.heap.size w v l := by
  obtain ⟨h1, h2, A, cap, h3, h4, h5⟩ := h
  refine ⟨h1, h2, A, cap, h3, h4, fun h0 => ?_⟩
  obtain ⟨g, off, q1, q2, q3, q4, q5⟩ := h5 h0
  exact ⟨g, off, q1, Nat.zero_le _, q4, q4, q5⟩
theorem trmB_ix (T a : List E) : ∀ p ∈ trmB, ∀ k ∈ p.t, k < [T, a].length := by
  intro p hp k hk
  simp only [trmB, List.mem_singleton] at hp
  subst hp
  simp at hk
  simp
  omega
theorem trmB_short : ∀ p ∈ trmB, p.t.length ≤ 1000 := by
  intro p hp
  simp only [trmB, List.mem_singleton] at hp
  subst hp
  decide
theorem int_infoV : (Tryz.prog.info? 3).map (fun i => (i.zero, i.size, i.bytes)) = some (some (.int .i64 0), 1, 8) := by kernel_rfl
theorem prod_infoV : (Tryz.prog.info? 76).map (fun i => (i.zero, i.size, i.bytes)) = some (some (.agg #[.int .u64 0, .int .u64 0, .slice none 0 0]), 3, 40) := by kernel_rfl
theorem sum_size : (Tryz.prog.info? 37).map (·.size) = some 2 := by kernel_rfl
theorem vertex_len (i n : Nat) : (vertex i n).length = n := by simp [vertex]
set_option maxRecDepth 100000 in
set_option maxHeartbeats 4000000 in
theorem rSumB (T : List E) (cs : List ClW) (r : E) (n : Nat) (hn : n ≤ 8) (vt vl : Value) (lo hi lo2 hi2 : Nat) (w : World) (hT : ExtS lo2 hi2 w vt T) (hcs : ClmU lo hi w vl cs) (hTl : T.length = 2 ^ n) (hpl : ∀ x ∈ cs, x.1.p.length = n) :
    Calls Tryz.prog 7 #[vt, vl, ev r] w fun e w' => ∃ v1 v2, e = .returned (.tuple #[sv v1 v2, ev (valB cs r)]) ∧ SumS 0 w'.heap.size w' v1 v2 [T, accB T.length (pwL r 1 cs)] trmB ∧ Below w.heap.size w w' := by
  obtain ⟨A, cap, rfl⟩ := hcs.len
  obtain ⟨A2, cap2, rfl⟩ := Rd.len hT
  have HC := Lib.hid hcs
  have HT := Lib.hid hT
  have HPl := Lib.hid hpl
  have hsm : 2 ^ n ≤ 256 := Nat.le_trans (Nat.pow_le_pow_right (by decide) hn) (by decide)
  obtain ⟨R, hR⟩ : ∃ R, R = ev r := ⟨_, rfl⟩
  rw [← hR]
  rw [hTl] at HT ⊢
  have HTl := Lib.hid hTl
  obtain ⟨N, hN⟩ : ∃ N, N = 2 ^ n := ⟨_, rfl⟩
  rw [← hN] at HT hsm ⊢
  have HN := Lib.hid hN
  clear hcs hT hpl hN hTl
  go_enter Tryz.func7, Tryz.ntmps7
  go_upto_region 1 with (fail)
  refine wp_stk3 fun W hB hz b5 b6 b7 => ?_
  have b5' : Blk W w.heap.size 26 (ec r).toArray := by first | exact b5 | (rw [hR] at b5; exact b5)
  have b7' : Blk W (w.heap.size + 1 + 1) 26 (ec (0 : E)).toArray := b7
  have hWs : W.heap.size = w.heap.size + 1 + 1 + 1 := hz.out
  clear b5 b7 hz
  obtain ⟨xs, hxs⟩ : ∃ xs, xs = pwL r 1 cs := ⟨_, rfl⟩
  have HX := Lib.hid hxs
  clear hxs
  refine wp_region_lit ?_
  refine wpList_newE rfl rfl fun v1 w1 o1 B1 => ?_
  have b5x := b5'.keep B1
  have b6x := b6.keep B1
  have b7x := b7'.keep B1
  have hBx := hB.trans (B1.mono hB.size)
  have hbs : w.heap.size + 1 + 1 + 1 ≤ w1.heap.size := by have := B1.size; omega
  rw [hWs] at o1
  clear b5' b6 b7' B1 hB hWs
  go_wp2_with fail
  go_loopw [8, 9] (fun u i wr => ∃ k : Nat, k ≤ N ∧ i = .int .i64 k ∧ OwE (w.heap.size + 1 + 1 + 1) wr u ((accB N xs).take k) ∧ Blk wr w.heap.size 26 (ec r).toArray ∧ Blk wr (w.heap.size + 1) 37 #[.slice none 0 0, .slice none 0 0] ∧ Blk wr (w.heap.size + 1 + 1) 26 (ec (0 : E)).toArray ∧ Below w.heap.size w wr ∧ w.heap.size + 1 + 1 + 1 ≤ wr.heap.size) (fun _ i _ => N - (intOf i).toNat)
  case atStart => exact ⟨0, Nat.zero_le _, rfl, by rw [List.take_zero]; exact o1, b5x, b6x, b7x, hBx, hbs⟩
  case round =>
    clear o1 b5x b6x b7x hBx hbs
    obtain ⟨k, hk, rfl, ho, b5, b6, b7, hBr, hbs⟩ := hrel
    obtain ⟨A8, c8, rfl⟩ := ho.len
    have htl : ((accB N xs).take k).length = k := by rw [List.length_take, accB_len]; omega
    rw [htl] at ho ⊢
    have HO := Lib.hid ho
    by_cases hlt : k < N
    · obtain ⟨ie, he0, hez0, hez1, hez2⟩ := info_parts ext_info
      have HV := Lib.hid (mVertex k n (by omega) (by omega))
      obtain ⟨y, hy⟩ : ∃ y, y = cmbE (fun c => eqi k c.p) xs := ⟨_, rfl⟩
      have hyw : y = wgtC cs r (vertex k n) := by
        rw [hy, HX.out]
        unfold wgtC
        refine cmbE_congr _ _ _ fun x hx => ?_
        have hl := HPl.out x.2 (pwL_mem r _ _ x hx)
        rw [pfac_comm, ← pfac_eqi k x.2.1.p, hl]
      have HW := Lib.hid (show ∀ W1, Below wr.heap.size wr W1 → ∀ v lo hi, ExtS lo hi W1 v (vertex k n) → Calls Tryz.prog 14 #[.slice A cs.length cap, ev r, v] W1 (Ret (ev y) W1) from fun W1 hW v lo1 hi1 hv => by
        rw [hyw]
        exact rWeightB cs r (vertex k n) _ v lo hi lo1 hi1 W1 ((HC.out.keep hBr).keep hW) hv (fun x hx => by rw [vertex_len, HPl.out x hx]))
      have hnx := accB_take N xs k hlt
      rw [← hy] at hnx
      have HNX := Lib.hid hnx
      have f5 := gwE0 b5
      have f5' := gwE1 b5
      have HLG := Lib.hid (show ∀ W1, Calls Tryz.prog 36 #[.slice A2 N cap2] W1 (Ret (.int .i64 (n : Int)) W1) from fun W1 => by rw [HN.out]; exact rLogB n (by omega) A2 cap2 W1)
      clear hy hyw hnx ho htl
      go_upto_region 5 with (fail)
      refine wp_region_rg 9 [(5, Spec.val (.int .i64 (n : Int))), (6, Spec.rel (ExtA (vertex k n)) AnyV), (7, Spec.val (.agg #[.int .u64 (fv (y).a), .int .u64 (fv (y).b)])), (8, Spec.rel (Lit 26 1 (ec y).toArray) (LitF 1))] (by kernel_rfl) (by kernel_rfl) (by kernel_rfl) ⟨fit_of (fit_ext.st), fit_lit, trivial⟩ ?_
      iterate 5 (refine rg_det rfl rfl rfl (fun K hK => ?_); go_big_quiet_op; refine hK _ ?_; clear hK K)
      refine rg_val rfl rfl (fun W1 hW1 hF => step_callv en_attestor_attestorref21_log (HLG.out W1) rfl rfl) ?_
      intro a' ha
      simp only [Act.put, List.setIfInBounds_toArray, List.set_cons_succ, List.set_cons_zero] at ha
      subst ha
      refine rg_rel rfl rfl (fun W1 hW1 hF => step_callr en_attestor_attestorref05_Vertex (HV.out W1) rfl rfl) ?_
      intro n6 m6 v6 hn6 hm6 hd6 hf6 a' ha
      simp only [Act.put, List.setIfInBounds_toArray, List.set_cons_succ, List.set_cons_zero] at ha
      subst ha
      refine rg_val rfl rfl (fun W1 hW1 hF => step_callv en_attestor_attestorref21_Weight (HW.out W1 (grw_below hW1) _ _ _ (pick_last hF (by kernel_rfl)).2) rfl rfl) ?_
      intro a' ha
      simp only [Act.put, List.setIfInBounds_toArray, List.set_cons_succ, List.set_cons_zero] at ha
      subst ha
      refine rg_rel rfl rfl (fun W1 hW1 hF => step_lit1 (cs := (ec y).toArray) Tryz.underlying22 he0 hez0 hez1 (by decide) (by decide) rfl rfl rfl) ?_
      intro n8 m8 v8 hn8 hm8 hd8 hf8 a' ha
      simp only [Act.put, List.setIfInBounds_toArray, List.set_cons_succ, List.set_cons_zero] at ha
      subst ha
      obtain rfl := hf8
      refine rg_nil (fun w' hw' hF => ?_)
      obtain ⟨z, rfl⟩ := hw'
      simp only [List.drop_succ_cons, List.drop_zero]
      obtain ⟨hm, -, hlt8, b8⟩ := end_last hF
      have b5z := b5.gw z
      have b6z := b6.gw z
      have b7z := b7.gw z
      have hBz := hBr.trans (z.h.mono hBr.size)
      have hzs := z.h.size
      clear hF f5 f5' b5 b6 b7 hBr
      refine wpList_appX rfl _ _ rfl rfl rfl (HO.out.keep z.h) b8 (by rw [List.length_take]; omega) (by omega) fun v' w' o' _ _ B' => ?_
      rw [HNX.out] at o'
      have b5 := b5z.below B' (by omega)
      have b6 := b6z.below B' (by omega)
      have b7 := b7z.below B' (by omega)
      have hBn := hBz.trans (B'.mono (by omega))
      have hsn := B'.size
      clear b5z b6z b7z hBz b8 hm
      go_wp2_with fail
      exact ⟨⟨k + 1, by omega, by go_num, o', b5, b6, b7, hBn, by omega⟩, by simp [intOf]; omega⟩
    · obtain rfl : k = N := by omega
      have hoe := ho.ext (by rw [htl]; omega) (Nat.le_refl _)
      rw [List.take_of_length_le (by rw [accB_len]; exact Nat.le_refl _)] at hoe
      have HOE := Lib.hid hoe
      have hV := Lib.hid (show ∀ W1, Below wr.heap.size wr W1 → Calls Tryz.prog 38 #[.slice A cs.length cap, ev r] W1 (Ret (ev (valB cs r)) W1) from fun W1 hW => rValueB cs r _ lo hi W1 ((HC.out.keep hBr).keep hW))
      have hTe := Lib.hid (exts_baseV (Rd.keep HT.out hBr))
      obtain ⟨isl, hs0, hsz0, hsz1, hsz2⟩ := info_parts sl_info
      obtain ⟨ii, hi0, hiz0, hiz1, hiz2⟩ := info_parts int_infoV
      obtain ⟨ip, hp0, hpz0, hpz1, hpz2⟩ := info_parts prod_infoV
      have f5 := gwE0 b5
      have f5' := gwE1 b5
      clear ho hoe htl HO
      go_upto_region 6 with (fail)
      refine wp_region_rg 11 [(2, Spec.rel (Lit 22 2 #[.slice A2 k cap2, .slice A8 k c8]) (LitF 2)), (3, Spec.val (.agg #[.int .u64 (fv ((1 : E)).a), .int .u64 (fv ((1 : E)).b)])), (4, Spec.rel (Lit 3 2 #[.int .i64 0, .int .i64 1]) (LitF 2)), (6, Spec.rel (TrmR (w.heap.size + 1 + 1 + 1)) (LitF 1)), (10, Spec.val (.agg #[.int .u64 (fv (valB cs r).a), .int .u64 (fv (valB cs r).b)]))] (by kernel_rfl) (by kernel_rfl) (by kernel_rfl) ⟨fit_lit, fit_lit, fit_trm, trivial⟩ ?_
      iterate 2 (refine rg_det rfl rfl rfl (fun K hK => ?_); go_big_quiet_op; refine hK _ ?_; clear hK K)
      refine rg_rel rfl rfl (fun W1 hW1 hF => step_litF (parts := [(0, Operand.tmp 27), (1, Operand.tmp 28)]) (vs := [.slice A2 k cap2, .slice A8 k c8]) Tryz.underlying31 hs0 hsz0 hsz1 rfl (by decide) (by decide) rfl rfl (by simp [Value.cells])) ?_
      intro n2 m2 v2 hn2 hm2 hd2 hf2 a' ha
      simp only [Act.put, List.setIfInBounds_toArray, List.set_cons_succ, List.set_cons_zero] at ha
      subst ha
      obtain rfl := hf2
      refine rg_val rfl rfl (fun W1 hW1 hF => step_callv en_attestor_attestorref02_One (xOne W1) rfl rfl) ?_
      intro a' ha
      simp only [Act.put, List.setIfInBounds_toArray, List.set_cons_succ, List.set_cons_zero] at ha
      subst ha
      refine rg_rel rfl rfl (fun W1 hW1 hF => step_litF (parts := [(0, Operand.const (.int .i64 0)), (1, Operand.const (.int .i64 1))]) (vs := [.int .i64 0, .int .i64 1]) Tryz.underlying74 hi0 hiz0 hiz1 rfl (by decide) (by decide) rfl rfl (by simp [Value.cells])) ?_
      intro n4 m4 v4 hn4 hm4 hd4 hf4 a' ha
      simp only [Act.put, List.setIfInBounds_toArray, List.set_cons_succ, List.set_cons_zero] at ha
      subst ha
      obtain rfl := hf4
      refine rg_det rfl rfl rfl (fun K hK => ?_)
      go_big_quiet_op
      refine hK _ ?_; clear hK K
      refine rg_rel rfl rfl (fun W1 hW1 hF => stepAt_mono (fun v w' hh => ⟨trmR_lit hh.1 rfl (pick_last hF (by kernel_rfl)).2.2.2 hh.2 (Nat.le_trans hbs hn4) (Nat.le_trans hbs (grw_below hW1).size), hh.2⟩) (step_lit1 (cs := #[.int .u64 (fv (1 : E).a), .int .u64 (fv (1 : E).b), .slice (some ⟨n4, 0, none⟩) 2 2]) Tryz.underlying35 hp0 hpz0 hpz1 (by decide) (by decide) rfl rfl rfl)) ?_
      intro n6 m6 v6 hn6 hm6 hd6 hf6 a' ha
      simp only [Act.put, List.setIfInBounds_toArray, List.set_cons_succ, List.set_cons_zero] at ha
      subst ha
      obtain rfl := hf6
      iterate 3 (refine rg_det rfl rfl rfl (fun K hK => ?_); go_big_quiet_op; refine hK _ ?_; clear hK K)
      refine rg_val rfl rfl (fun W1 hW1 hF => step_callv en_attestor_attestorref21_Value (hV.out W1 (grw_below hW1)) rfl rfl) ?_
      intro a' ha
      simp only [Act.put, List.setIfInBounds_toArray, List.set_cons_succ, List.set_cons_zero] at ha
      subst ha
      refine rg_nil (fun w' hw' hF => ?_)
      obtain ⟨z, rfl⟩ := hw'
      simp only [List.drop_succ_cons, List.drop_zero]
      obtain ⟨hm6, -, ht6⟩ := end_last hF
      obtain ⟨hm2, -, hlt2, b2⟩ := end_last (end_init (end_init hF))
      have b6z := b6.gw z
      have b7z := b7.gw z
      have hTz := Rd.keep hTe.out z.h
      have hAz := Rd.keep HOE.out z.h
      have hBz := hBr.trans (z.h.mono hBr.size)
      have hzs := z.h.size
      have h2 : wr.heap.size ≤ n2 := hn2
      have h6 : wr.heap.size ≤ n6 := hn6
      clear hF f5 f5' b5 b6 b7
      refine wpList_put rfl 37 (.tmp 6) (.tmp 34) rfl rfl (cells := [.slice (some ⟨n2, 0, none⟩) 2 2, .slice (some ⟨n6, 0, none⟩) 1 1]) rfl b6z (by show 0 + 2 ≤ 2; decide) sum_size rfl (spl_all _ _ rfl) fun X hX bX => ?_
      have hXz := hX.size
      have b7X := hX.blk b7z (by omega)
      have b2X := hX.blk b2 (by omega)
      have t6X : TrmS (w.heap.size + 1 + 1 + 1) m6 X (.slice (some ⟨n6, 0, none⟩) 1 1) trmB := ht6.other (by rw [hX.size]; exact Nat.le_refl _) (fun g h1 h2 h3 => hX.other g (by omega))
      have hAX : ExtS (w.heap.size + 1 + 1 + 1) wr.heap.size X (.slice A8 k c8) (accB k xs) := hX.rd hAz (.inl (by omega))
      have hBX := below_put hBz hX (by omega)
      clear b6z b7z b2 ht6 hAz hBz hX hTz hTe
      refine wpList_put rfl 26 (.tmp 7) (.tmp 37) rfl rfl (cells := ec (valB cs r)) rfl b7X (by show 0 + 2 ≤ 2; decide) ext_size2 rfl (spl_all _ _ rfl) fun Y hY bY => ?_
      have b6Y := hY.blk bX (by omega)
      have b2Y := hY.blk b2X (by omega)
      have t6Y : TrmS (w.heap.size + 1 + 1 + 1) m6 Y (.slice (some ⟨n6, 0, none⟩) 1 1) trmB := t6X.other (by rw [hY.size]; exact Nat.le_refl _) (fun g h1 h2 h3 => hY.other g (by omega))
      have hAY : ExtS (w.heap.size + 1 + 1 + 1) wr.heap.size Y (.slice A8 k c8) (accB k xs) := hY.rd hAX (.inl (by omega))
      have hBY := below_put hBX hY (by omega)
      have hYs := hY.size
      clear bX b7X b2X t6X hAX hBX hY
      have hTY := Rd.keep HT.out hBY
      go_wp2_with fail
      refine bodyPost_ret (v := .tuple #[.agg #[.slice (some ⟨n2, 0, none⟩) 2 2, .slice (some ⟨n6, 0, none⟩) 1 1], ev (valB cs r)]) (res_two (c1 := [.slice (some ⟨n2, 0, none⟩) 2 2, .slice (some ⟨n6, 0, none⟩) 1 1]) (c2 := ec (valB cs r)) rfl rfl rfl Tryz.underlying37 rfl sum_size b6Y Tryz.underlying26 rfl ext_size2 bY) rfl ⟨_, _, rfl, ?_, hBY⟩
      rw [← HX.out]
      exact ⟨tab_two b2Y (exts_baseV hTY) hAY (Nat.le_refl _) (by omega), t6Y.wide (Nat.zero_le _) (by omega), trmB_ix _ _, by decide, trmB_short⟩
end Go.Proofs.YtkgglhakimkkhaaGreatDoor
namespace Go.Proofs.YtkgglhakimkkhaaGreatDoor

def xp (x : E) : Nat → E
  | 0 => 1
  | k + 1 => x * xp x k
theorem xp_add (x : E) (i : Nat) : ∀ k, xp x (i + k) = xp x i * xp x k
  | 0 => by rw [Nat.add_zero, xp, E.mul_one]
  | k + 1 => by
    rw [← Nat.add_assoc, xp, xp_add x i k, xp]
    ac_rfl
theorem pev_nil (x : E) : pev [] x = 0 := rfl
theorem pev_cons (c : E) (cs : List E) (x : E) : pev (c :: cs) x = c + x * pev cs x := rfl
theorem pev_zeros (x : E) : ∀ n, pev (List.replicate n 0) x = 0
  | 0 => rfl
  | n + 1 => by rw [List.replicate_succ, pev_cons, pev_zeros x n, E.mul_zero, E.add_zero]
theorem pev_take (x : E) : ∀ (l : List E) (k : Nat), k < l.length → pev (l.take (k + 1)) x = pev (l.take k) x + xp x k * l.getD k 0
  | [], k, h => absurd h (Nat.not_lt_zero _)
  | c :: l, 0, _ => by
    show c + x * pev (l.take 0) x = 0 + 1 * c
    rw [List.take_zero, pev_nil, E.mul_zero, E.one_mul, E.add_zero, E.zero_add]
  | c :: l, k + 1, h => by
    rw [List.take_succ_cons, pev_cons, pev_take x l k (by simpa using h), List.take_succ_cons, pev_cons, List.getD_cons_succ, xp, E.mul_add]
    ac_rfl
theorem pev_set (x d : E) : ∀ (l : List E) (k : Nat), k < l.length → pev (l.set k (l.getD k 0 + d)) x = pev l x + xp x k * d
  | [], k, h => absurd h (Nat.not_lt_zero _)
  | c :: l, 0, _ => by
    show c + d + x * pev l x = c + x * pev l x + 1 * d
    rw [E.one_mul]
    ac_rfl
  | c :: l, k + 1, h => by
    rw [List.set_cons_succ, List.getD_cons_succ, pev_cons, pev_set x d l k (by simpa using h), pev_cons, xp, E.mul_add]
    ac_rfl
theorem pev_drop (x : E) (l : List E) (k : Nat) (h : k < l.length) : pev (l.drop k) x = l.getD k 0 + x * pev (l.drop (k + 1)) x := by
  rw [List.drop_eq_getElem_cons h, pev_cons]
  simp [List.getD, h]
theorem pev_cut (x : E) (l : List E) (k : Nat) (h : k < l.length) (h0 : l.getD k 0 = 0) : pev (l.take (k + 1)) x = pev (l.take k) x := by
  rw [pev_take x l k h, h0, E.mul_zero, E.add_zero]
def addK (p q : List E) (x : E) (k : Nat) : E := pev (p.take k) x + pev (q.take k) x
theorem take_past (p : List E) (k : Nat) (h : p.length ≤ k) : p.take (k + 1) = p.take k := by rw [List.take_of_length_le (by omega), List.take_of_length_le h]
def mulK (p q : List E) (x : E) (i k : Nat) : E := pev (p.take i) x * pev q x + xp x i * (p.getD i 0 * pev (q.take k) x)
theorem mulK_zero (p q : List E) (x : E) : mulK p q x 0 0 = 0 := by
  unfold mulK
  rw [List.take_zero, List.take_zero, pev_nil, E.zero_mul, E.mul_zero, E.mul_zero, E.add_zero]
theorem mulK_step (p q : List E) (x : E) (i k : Nat) (hk : k < q.length) : mulK p q x i (k + 1) = mulK p q x i k + xp x (i + k) * (p.getD i 0 * q.getD k 0) := by
  unfold mulK
  rw [pev_take x q k hk, xp_add, E.mul_add, E.mul_add]
  ac_rfl
theorem mulK_row (p q : List E) (x : E) (i : Nat) (hi : i < p.length) : mulK p q x (i + 1) 0 = mulK p q x i q.length := by
  unfold mulK
  rw [List.take_of_length_le (Nat.le_refl q.length), pev_take x p i hi, List.take_zero, pev_nil, E.mul_zero, E.mul_zero, E.add_zero, E.add_mul]
  ac_rfl
theorem mulK_all (p q : List E) (x : E) : mulK p q x p.length 0 = pev p x * pev q x := by
  unfold mulK
  rw [List.take_of_length_le (Nat.le_refl p.length), List.take_zero, pev_nil, E.mul_zero, E.mul_zero, E.add_zero]
theorem refAtK_succ (v : List E) (x : E) (j : Nat) : refAtK v x (j + 1) = refAtK v x j + refK x j (v.getD j 0) v.length := esum_range _ j
theorem intE_ne (z : Int) (h : z ≠ 0) (h1 : -1000000 ≤ z) (h2 : z ≤ 1000000) : intE z ≠ 0 := fun e => by
  have e1 : fv (fz z) = fv 0 := congrArg (fun y : E => fv y.a) e
  rw [fv_fz, fv_zero] at e1
  omega
end Go.Proofs.YtkgglhakimkkhaaGreatDoor
namespace Go.Proofs.YtkgglhakimkkhaaGreatDoor
open Go.RowKit

set_option maxRecDepth 100000 in
set_option maxHeartbeats 1000000 in
theorem rPow (a : Fp) (n : Nat) (hn : n < 18446744073709551616) (w : World) : Calls Tryz.prog 152 #[.int .u64 (fv a), .int .u64 n] w (Ret (.int .u64 (fv (rpow a n))) w) := by
  go_enter Tryz.func152, Tryz.ntmps152
  go_wp2
  go_loop [0, 1, 5] (fun x y z => ∃ (b : Fp) (m : Nat) (o : Fp), x = .int .u64 (fv b) ∧ y = .int .u64 (m : Int) ∧ z = .int .u64 (fv o) ∧ m ≤ n ∧ o * rpow b m = rpow a n) (fun _ y _ => (intOf y).toNat)
  case atStart => exact ⟨a, n, 1, rfl, rfl, rfl, Nat.le_refl _, by rw [Fin.one_mul]⟩
  case round =>
    obtain ⟨b, m, o, rfl, rfl, rfl, hm, hinv⟩ := hrel
    have HI := Lib.hid hinv
    clear hinv
    by_cases h0 : 0 < m
    · obtain ⟨q, hq⟩ : ∃ q, q = m / 2 := ⟨_, rfl⟩
      have d1 : (m : Int) / 2 = (q : Int) := by omega
      have d2 : (m : Int).tdiv 2 = (q : Int) := by rw [Int.tdiv_eq_ediv_of_nonneg (by omega)]; omega
      have hqm : q < m := by omega
      by_cases hp : m % 2 = 1
      · have e1 : ((m : Int) % 2 == 1) = true := by simp; omega
        have hinv : (o * b) * rpow (b * b) q = rpow a n := by
          rw [← HI.out, show m = 2 * q + 1 by omega, rpow_odd, Fin.mul_assoc, Fin.mul_comm b]
        have HI2 := Lib.hid hinv
        have e2 : (m : Int) % 2 = 1 := by omega
        clear hinv hq hp
        go_wp2_with fail
        refine (rMul o b _).mono ?_
        rintro e w' ⟨rfl, rfl⟩
        go_wp2_with fail
        refine (rMul b b _).mono ?_
        rintro e w' ⟨rfl, rfl⟩
        go_wp2_with fail
        go_round
        case rel => exact ⟨b * b, q, o * b, rfl, by first | rfl | rw [d1] | rw [d2], rfl, by omega, HI2.out⟩
        case measure => simp [intOf, d1, d2]; omega
      · have e1 : ((m : Int) % 2 == 1) = false := by simp; omega
        have hinv : o * rpow (b * b) q = rpow a n := by
          rw [← HI.out, show m = 2 * q by omega, rpow_two]
        have HI2 := Lib.hid hinv
        have e2 : (m : Int) % 2 = 0 := by omega
        clear hinv hq hp
        go_wp2_with fail
        refine (rMul b b _).mono ?_
        rintro e w' ⟨rfl, rfl⟩
        go_wp2_with fail
        go_round
        case rel => exact ⟨b * b, q, o, rfl, by first | rfl | rw [d1] | rw [d2], rfl, by omega, HI2.out⟩
        case measure => simp [intOf, d1, d2]; omega
    · obtain rfl : m = 0 := by omega
      obtain rfl : o = rpow a n := by have := HI.out; rwa [rpow_zero, Fin.mul_one] at this
      clear HI
      rw [show ((0 : Nat) : Int) = 0 from rfl]
      go_wp2_with fail
      go_ret
      exact ⟨rfl, Below.refl _ _⟩
set_option maxRecDepth 100000 in
set_option maxHeartbeats 1000000 in
theorem rInv (a : Fp) (h : a ≠ 0) (w : World) : Calls Tryz.prog 142 #[.int .u64 (fv a)] w (Ret (.tuple #[.int .u64 (fv (finv a)), .int .i64 0]) w) := by
  have h1 := fv_pos_of_ne a h
  have h2 : (fv a == 0) = false := by simp; omega
  have C : ∀ w, Calls Tryz.prog 152 #[.int .u64 (fv a), .int .u64 18446744069414584319] w (Ret (.int .u64 (fv (finv a))) w) := fun w => rPow a 18446744069414584319 (by decide) w
  have HC := Lib.hid C
  clear C h1
  generalize finv a = y at *
  go_enter Tryz.func142, Tryz.ntmps142
  go_wp2_with fail
  refine (HC.out _).mono ?_
  rintro e w' ⟨rfl, hb⟩
  go_wp2_with fail
  go_ret2
  exact ⟨rfl, hb⟩
set_option maxRecDepth 100000 in
set_option maxHeartbeats 400000 in
theorem xIsZero (x : E) (w : World) : Calls Tryz.prog 140 #[ev x] w (Ret (.bool (decide (x = 0))) w) := by
  have hx : decide (x = 0) = (fv x.a == 0 && fv x.b == 0) := by
    rw [Bool.eq_iff_iff]
    simp only [decide_eq_true_eq, Bool.and_eq_true, beq_iff_eq]
    constructor
    · rintro rfl; exact ⟨rfl, rfl⟩
    · rintro ⟨h1, h2⟩; exact E.ext_ (fv_inj (h1.trans fv0.symm)) (fv_inj (h2.trans fv0.symm))
  rw [hx]
  unfold ev
  go_enter Tryz.func140, Tryz.ntmps140
  clear hx
  go_wp2
  all_goals
    go_ret
    refine ⟨?_, (Below.refl _ _).alloc (Nat.le_refl _) _⟩
    simp [*]
theorem cnj_b' (x : E) : (cnj x).b = -x.b := by
  show 0 - x.b = -x.b
  grind
set_option maxRecDepth 100000 in
set_option maxHeartbeats 400000 in
theorem xConj (x : E) (w : World) : Calls Tryz.prog 141 #[ev x] w (Ret (ev (cnj x)) w) := by
  unfold ev
  rw [show (cnj x).a = x.a from rfl, cnj_b']
  go_enter Tryz.func141, Tryz.ntmps141
  go_wp2
  refine wp_stk2 fun W hB hz b1 b2 => ?_
  have c1 := gw_blk b1
  refine wp_region_rg 6 [(4, Spec.val (.int .u64 (fv (-x.b))))] (by kernel_rfl) (by kernel_rfl) (by kernel_rfl) trivial ?_
  iterate 4 (refine rg_det rfl rfl rfl (fun K hK => ?_); go_big_quiet_op; refine hK _ ?_; clear hK K)
  refine rg_val rfl rfl (fun W1 hW1 hF => step_callv en_attestor_attestorref01_Neg (ret_of_same (rNeg x.b W1)) rfl rfl) ?_
  intro a' ha
  simp only [Act.put, List.setIfInBounds_toArray, List.set_cons_succ, List.set_cons_zero] at ha
  subst ha
  refine rg_det rfl rfl rfl (fun K hK => ?_)
  go_big_quiet_op
  refine hK _ ?_; clear hK K
  refine rg_nil (fun w' hw' hF => ?_)
  obtain ⟨z, rfl⟩ := hw'
  simp only [List.drop_succ_cons, List.drop_zero]
  have e1 := (b2.gw z).cell
  have e2 := (b2.gw z).frozen
  go_wp2
  refine bodyPost_ret (v := .agg #[.int .u64 (fv x.a), .int .u64 (fv (-x.b))]) (by simp [results, Tryz.results141, go_sem, e1]) rfl ⟨rfl, ?_⟩
  exact ((hB.trans (z.h.mono hB.size)).setCell (by show w.heap.size ≤ w.heap.size + 1; omega) _).setCell (by show w.heap.size ≤ w.heap.size + 1; omega) _
theorem field_a (a b : Int) (w : World) : (Instr.field 26 (.agg #[.int .u64 a, .int .u64 b]) 0).run Tryz.prog w = .ok (.int .u64 a) w := by kernel_rfl
theorem cnj_prod (x : E) : (x * cnj x).a = nrm x := by
  rw [mul_a]
  show x.a * x.a + 7 * (x.b * (0 - x.b)) = x.a * x.a - 7 * (x.b * x.b)
  grind
set_option maxRecDepth 100000 in
set_option maxHeartbeats 1000000 in
theorem xInv (x : E) (hx : x ≠ 0) (w : World) : Calls Tryz.prog 132 #[ev x] w (Ret (.tuple #[ev (einv x), .int .i64 0]) w) := by
  have hn := nrm_ne x hx
  have HZ := Lib.hid (show ∀ W1, Calls Tryz.prog 140 #[ev x] W1 (Ret (.bool false) W1) from fun W1 => by
    have := xIsZero x W1
    rwa [decide_eq_false hx] at this)
  have HC := Lib.hid (show cnj x * eb (finv (nrm x)) = einv x from rfl)
  have HP := Lib.hid (show ∀ W1, Calls Tryz.prog 142 #[.int .u64 (fv (x * cnj x).a)] W1 (Ret (.tuple #[.int .u64 (fv (finv (nrm x))), .int .i64 0]) W1) from fun W1 => by
    rw [cnj_prod]; exact rInv _ hn W1)
  unfold ev
  go_enter Tryz.func132, Tryz.ntmps132
  go_wp2_with fail
  refine calls_stk2 fun W hB hz b1 b2 => ?_
  refine (HZ.out _).mono ?_
  rintro e w2 ⟨rfl, hb⟩
  replace b1 := b1.keep hb
  replace b2 := b2.keep hb
  replace hB := hB.trans (hb.mono hB.size)
  have e1 := b1.cell
  go_wp2_with fail
  refine (xConj x _).mono ?_
  rintro e w3 ⟨he, hb3⟩
  unfold ev at he
  subst he
  have b13 := b1.keep hb3
  have b23 := b2.keep hb3
  have hB3 := hB.trans (hb3.mono hB.size)
  clear e1 b1 b2 hB hb hb3
  go_upto_region 4 with (fail)
  refine wp_stk1 fun W4 hB4 hz4 b4 => ?_
  have hs4 := b13.lt
  have hs5 := b23.lt
  replace b13 := b13.keep hB4
  replace b23 := b23.keep hB4
  have e1 := b13.cell
  have e2 := b4.cell
  have hB5 := hB3.trans (hB4.mono hB3.size)
  clear hz4
  go_wp2_with fail
  refine (xMul x (cnj x) _).mono ?_
  rintro e w5 ⟨he, hb5⟩
  unfold ev at he
  subst he
  have HFa := Lib.hid (field_a (fv (x * cnj x).a) (fv (x * cnj x).b))
  go_wp2_with (simp only [HFa.out])
  refine (HP.out _).mono ?_
  rintro e w6 ⟨rfl, hb6⟩
  have h56 := hb5.trans (hb6.mono hb5.size)
  replace b23 := b23.keep h56
  replace b4 := b4.keep h56
  replace hB5 := hB5.trans (h56.mono hB5.size)
  replace e2 := b4.cell
  clear e1
  go_wp2_with fail
  refine (xMulBase (cnj x) (finv (nrm x)) _).mono ?_
  rintro e w7 ⟨he, hb7⟩
  rw [HC.out] at he
  unfold ev at he
  subst he
  replace b23 := b23.keep hb7
  replace hB5 := hB5.trans (hb7.mono hB5.size)
  have e3 := b23.cell
  have e4 := b23.frozen
  clear e2
  go_wp2
  refine bodyPost_ret (v := .tuple #[.agg #[.int .u64 (fv (einv x).a), .int .u64 (fv (einv x).b)], .int .i64 0]) (by simp [results, Tryz.results132, go_sem, e3]) rfl ⟨rfl, ?_⟩
  exact below_set2 hB5 (by omega)
end Go.Proofs.YtkgglhakimkkhaaGreatDoor
namespace Go.Proofs.YtkgglhakimkkhaaGreatDoor
open Go.RowKit
theorem exts_take {lo hi n k cap : Nat} {A : Option Addr} {w : World} {xs : List E} (h : ExtS lo hi w (.slice A n cap) xs) (hk : k ≤ xs.length) : ExtS lo hi w (.slice A k cap) (xs.take k) := by
  obtain ⟨h1, h2, A', cap', h3, h4, h5⟩ := h
  cases h3
  have hl : (xs.take k).length = k := by rw [List.length_take]; omega
  refine ⟨by rw [flat_length ec_len, hl], by omega, A, cap, by rw [hl], by omega, fun h0 => ?_⟩
  obtain ⟨g, off, q1, q2, q3, q4, q5⟩ := h5 (by omega)
  refine ⟨g, off, q1, q2, q3, q4, fun j u hj => q5 j u ?_⟩
  have e : xs.flatMap ec = (xs.take k).flatMap ec ++ (xs.drop k).flatMap ec := by rw [← List.flatMap_append, List.take_append_drop]
  rw [e, List.getElem?_append_left (List.getElem?_eq_some_iff.1 hj).1]
  exact hj
theorem rd_blk {W : World} {g size : Nat} {t : TypeId} {cs : List Value} {n lo hi : Nat} (h : Blk W g t cs.toArray) (hn : cs.length = n * size) (hb : n ≤ 1000000) (hlo : lo ≤ g) (hhi : g < hi) : Rd lo hi size W (.slice (some ⟨g, 0, none⟩) n n) n cs := by
  refine ⟨hn, by omega, some ⟨g, 0, none⟩, n, rfl, Nat.le_refl _, fun _ => ⟨g, 0, rfl, hlo, hhi, h.lt, fun j u hu => ?_⟩⟩
  rw [Nat.zero_add, h.cell]
  simpa using hu
end Go.Proofs.YtkgglhakimkkhaaGreatDoor
