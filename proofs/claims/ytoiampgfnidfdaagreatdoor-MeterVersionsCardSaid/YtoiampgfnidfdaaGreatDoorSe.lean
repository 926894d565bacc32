/-
  SHA-256 of the reference, by contract.
  SHA-256 of the reference: the constants, the beginning, one block.
  SHA-256 of the reference: one block.
  SHA-256 of the reference: the digest.
  SHA-256 of the reference: the padding.
  SHA-256 of the reference, whole.
-/
import Derived.Test.YtoiampgfnidfdaaGreatDoorShc
import Derived.Test.YtoiampgfnidfdaaGreatDoorZv
namespace Go.Proofs.YtoiampgfnidfdaaGreatDoor
open Go.RowKit

theorem en_attestor_attestorref07_rotate : ∀ args w, (callFunc 158 args).run Tryz.prog w = .ok (.enter 158 args) w := enters_of Tryz.func158 (by kernel_rfl) rfl
set_option maxRecDepth 100000 in
set_option maxHeartbeats 1000000 in
theorem rRot (x : B32) (n : Nat) (h0 : 0 < n) (hn : n < 32) (w : World) : Calls Tryz.prog 158 #[.int .u32 (bv x), .int .i64 (n : Int)] w (Ret (.int .u32 (bv (rotr x n))) w) := by
  obtain ⟨m, hm⟩ : ∃ m, m = 32 - n := ⟨_, rfl⟩
  have hmi : (32 : Int) - (n : Int) = (m : Int) := by omega
  have hm32 : m < 32 := by omega
  obtain ⟨b0, b1⟩ := bv_lt x
  have HR := Lib.hid (show bits .or .u32 (bv x / 2 ^ n) (IntKind.u32.wrap (bv x * 2 ^ m)) = bv (rotr x n) by rw [bv_shr, bv_shl, bv_or, hm]; rfl)
  clear hm
  go_enter Tryz.func158, Tryz.ntmps158
  go_wp2_with fail
  refine wp_region_rg 8 [] (by kernel_rfl) (by kernel_rfl) (by kernel_rfl) trivial ?_
  iterate 8 (refine rg_det rfl rfl rfl (fun K hK => ?_); go_big_quiet_op; refine hK _ ?_; clear hK K)
  refine rg_nil (fun w' hw' hF => ?_)
  obtain ⟨z, rfl⟩ := hw'
  simp only [List.drop_succ_cons, List.drop_zero]
  clear hF
  go_wp2_with fail
  rw [← IntKind.wrap_u32', HR.out]
  go_ret
  exact ⟨rfl, z.h⟩
theorem bv_add' (x y : B32) : (bv x + bv y) % 4294967296 = bv (x + y) := by rw [← IntKind.wrap_u32', bv_add]
theorem bv_not' (x : B32) : (4294967295 - bv x) % 4294967296 = bv (~~~x) := by rw [← IntKind.wrap_u32', bv_not]
def schK (b : List Nat) (k : Nat) : List B32 := if k ≤ 16 then words16 b k else schN (words16 b 16) (k - 16)
theorem schK_length (b : List Nat) (k : Nat) : (schK b k).length = k := by
  unfold schK
  split
  · exact words16_length b k
  · rw [schN_length, words16_length]; omega
theorem schK_low (b : List Nat) (k : Nat) (h : k < 16) : schK b (k + 1) = schK b k ++ [word4 b k] := by
  unfold schK
  rw [if_pos (by omega), if_pos (by omega), words16_succ]
theorem schK_high (b : List Nat) (k : Nat) (h : 16 ≤ k) : schK b (k + 1) = schK b k ++ [(schK b k).getD (k - 16) 0 + sg0 ((schK b k).getD (k - 15) 0) + (schK b k).getD (k - 7) 0 + sg1 ((schK b k).getD (k - 2) 0)] := by
  obtain ⟨j, rfl⟩ : ∃ j, k = 16 + j := ⟨k - 16, by omega⟩
  have e : schK b (16 + j) = schN (words16 b 16) j := by
    unfold schK
    split
    · obtain rfl : j = 0 := by omega
      rfl
    · rw [Nat.add_sub_cancel_left]
  rw [e]
  unfold schK
  rw [if_neg (by omega), show 16 + j + 1 - 16 = j + 1 by omega, schN]
  rw [show 16 + j - 16 = j by omega, show 16 + j - 15 = j + 1 by omega, show 16 + j - 7 = j + 9 by omega, show 16 + j - 2 = j + 14 by omega]
theorem schK_all (b : List Nat) : schK b 64 = sched b := by
  unfold schK sched
  rw [if_neg (by decide)]
theorem bv_zero : bv 0 = 0 := rfl
def zl (n : Nat) : List Value := List.replicate n (.int .u32 0)
theorem arrN_zero (n : Nat) : arrN n [] = zl n := by
  unfold arrN u32c zl
  rw [List.length_nil, List.nil_append, Nat.sub_zero, List.map_replicate, bv_zero]
theorem w64_info : (Tryz.prog.info? 188).map (fun i => (i.zero, i.size, i.bytes)) = some (some (.agg (zl 64).toArray), 64, 256) := by kernel_rfl
theorem w64_built : Tryz.prog.built 188 [] = some (zl 64).toArray := by kernel_rfl
theorem zl_len (n : Nat) : (zl n).length = n := by simp [zl]
theorem zl_one (n : Nat) : (zl n).all (·.oneCell') = true := by simp [zl]; exact .inr rfl
theorem schK_zero (b : List Nat) : schK b 0 = [] := by
  unfold schK
  rw [if_pos (by decide)]
  rfl
theorem en_attestor_attestorref07_schedule : ∀ args w, (callFunc 156 args).run Tryz.prog w = .ok (.enter 156 args) w := enters_of Tryz.func156 (by kernel_rfl) rfl
theorem u32c_one (l : List B32) : (u32c l).all (·.oneCell') = true := by
  unfold u32c
  rw [List.all_map]
  exact List.all_eq_true.2 fun _ _ => rfl
theorem u32c_len (l : List B32) : (u32c l).length = l.length := by unfold u32c; rw [List.length_map]
theorem w64_size : (Tryz.prog.info? 188).map (·.size) = some 64 := by kernel_rfl
theorem w64_under : Tryz.prog.underlying 188 = some (.array 64 169) := by kernel_rfl
def arrV (l : List B32) : Value := .agg (u32c l).toArray
theorem bv_add4 (a b c d : B32) : (bv a + bv b + bv c + bv d) % 4294967296 = bv (a + b + c + d) := by
  unfold bv
  rw [BitVec.toNat_add, BitVec.toNat_add, BitVec.toNat_add]
  omega
theorem sch_val (v16 v15 v7 v2 : B32) : (bv v16 + bits .xor .u32 (bits .xor .u32 (bv (rotr v15 7)) (bv (rotr v15 18))) (bv v15 / 8) + bv v7 + bits .xor .u32 (bits .xor .u32 (bv (rotr v2 17)) (bv (rotr v2 19))) (bv v2 / 1024)) % 4294967296 = bv (v16 + sg0 v15 + v7 + sg1 v2) := by
  have h3 := bv_shr v15 3
  have h10 := bv_shr v2 10
  rw [show (2 : Int) ^ 3 = 8 by decide] at h3
  rw [show (2 : Int) ^ 10 = 1024 by decide] at h10
  rw [h3, h10, bv_xor, bv_xor, bv_xor, bv_xor, bv_add4]
  rfl
attribute [local irreducible] wpRg
set_option maxRecDepth 100000 in
set_option maxHeartbeats 4000000 in
theorem rSched (b : List Nat) (hb : b.length = 64) (hb8 : ∀ x ∈ b, x < 256) (v : Value) (lo hi : Nat) (w : World) (h : ByS lo hi w v b) : Calls Tryz.prog 156 #[v] w (Ret (arrV (sched b)) w) := by
  obtain ⟨g, off, cap, rfl, -, -, -, lg, qg⟩ := bys_cells h (by omega)
  rw [hb]
  have HQ := Lib.hid qg
  have HB := Lib.hid hb
  have H8 := Lib.hid hb8
  clear h hb hb8 qg
  go_enter Tryz.func156, Tryz.ntmps156
  obtain ⟨i64', hi64, iz0, iz1, iz2⟩ := info_parts w64_info
  go_upto_region 1 with (fail)
  refine wp_stk1 fun W hB hz b2 => ?_
  obtain ⟨cs0, hcs0, b2'⟩ : ∃ cs : Array Value, cs.size = 64 ∧ Blk W w.heap.size 188 cs := ⟨_, rfl, b2⟩
  have hWs : W.heap.size = w.heap.size + 1 := hz.out
  clear b2 hz
  refine wp_zvar 188 i64' (zl 64) _ _ rfl rfl rfl rfl rfl rfl hi64 iz0 (by rw [iz1, zl_len]) (zl_one 64) w64_built (fun _ _ => rfl) (fun _ _ => rfl) fun X v7 hX hXs b3 => ?_
  have hB3 := hB.trans (hX.mono hB.size)
  have b3' : Blk X W.heap.size 188 (arrN 64 (schK b 0)).toArray := by rw [schK_zero, arrN_zero]; exact b3
  have b2X := b2'.keep hX
  obtain ⟨g3, hg3⟩ : ∃ g, g = W.heap.size := ⟨_, rfl⟩
  rw [← hg3] at b3' ⊢
  have hg3a : w.heap.size < g3 := by omega
  clear b3 b2' hg3 hWs hXs hB hX
  go_wp2_with fail
  go_loopw [4] (fun i wr => ∃ k : Nat, k ≤ 64 ∧ i = .int .i64 k ∧ Blk wr g3 188 (arrN 64 (schK b k)).toArray ∧ (∃ cs, Blk wr w.heap.size 188 cs ∧ cs.size = 64) ∧ Below w.heap.size w wr) (fun i _ => 64 - (intOf i).toNat)
  case atStart => exact ⟨0, Nat.zero_le _, rfl, b3', ⟨cs0, b2X, hcs0⟩, hB3⟩
  case round =>
    obtain ⟨k, hk, rfl, b3, ⟨cs, b2, hcs⟩, hBr⟩ := hrel
    by_cases hlt : k < 64
    · by_cases h16 : k < 16
      · have q : ∀ j, j < 4 → ∃ x : Nat, b[4 * k + j]? = some x ∧ x < 256 ∧ wr.cell? ⟨g, off + (4 * k + j), none⟩ = some (.int .u8 (x : Int)) := fun j hj => by
          obtain ⟨x, hx⟩ : ∃ x, b[4 * k + j]? = some x := ⟨_, List.getElem?_eq_getElem (by rw [HB.out]; omega)⟩
          exact ⟨x, hx, H8.out x (List.mem_of_getElem? hx), (hBr.cell (p := ⟨g, off + (4 * k + j), none⟩) lg).trans (HQ.out _ x hx)⟩
        obtain ⟨x0, hx0, l0, d0⟩ := q 0 (by decide)
        obtain ⟨x1, hx1, l1, d1⟩ := q 1 (by decide)
        obtain ⟨x2, hx2, l2, d2⟩ := q 2 (by decide)
        obtain ⟨x3, hx3, l3, d3⟩ := q 3 (by decide)
        rw [Nat.add_zero] at hx0 d0
        have lgr := Nat.lt_of_lt_of_le lg hBr.size
        have f0 := gw_cell lgr d0
        have f1 := gw_cell lgr d1
        have f2 := gw_cell lgr d2
        have f3 := gw_cell lgr d3
        have HW := Lib.hid (show word4 b k = BitVec.ofNat 32 (x0 * 16777216 + x1 * 65536 + x2 * 256 + x3) by
          unfold word4
          simp only [List.getD_eq_getElem?_getD, hx0, hx1, hx2, hx3, Option.getD_some])
        clear q hx0 hx1 hx2 hx3 d0 d1 d2 d3
        go_wp2_with fail
        refine wp_region_rg 35 [] (by kernel_rfl) (by kernel_rfl) (by kernel_rfl) trivial ?_
        iterate 35 (refine rg_det rfl rfl rfl (fun K hK => ?_); go_big_quiet_op; refine hK _ ?_; clear hK K)
        refine rg_nil (fun w' hw' hF => ?_)
        obtain ⟨z, rfl⟩ := hw'
        simp only [List.drop_succ_cons, List.drop_zero]
        have b3z := b3.gw z
        have b2z := b2.gw z
        have hBz := hBr.trans (z.h.mono hBr.size)
        have e1 := b3z.frozen
        have e2 : z.w.cell? ⟨g3, k, none⟩ = some (.int .u32 0) := (b3z.cell k).trans (by have := arrN_next 64 (schK b k) (by rw [schK_length]; exact hlt); rw [schK_length] at this; simpa using this)
        have hv : (x0 : Int) * 16777216 + (x1 : Int) * 65536 + (x2 : Int) * 256 + (x3 : Int) = bv (word4 b k) := by
          rw [HW.out, bv_ofNat _ (by omega)]
          omega
        have HV := Lib.hid hv
        clear hF f0 f1 f2 f3 hv
        go_upto_region 4 with (fail)
        refine set1 (M := fun W => Code.wp _ _ _ _ W) b3z fun X hX bX => ?_
        have b3X : Blk X g3 188 (arrN 64 (schK b (k + 1))).toArray := by
          rw [schK_low b k h16, ← arrN_set 64 (schK b k) (word4 b k) (by rw [schK_length]; exact hlt), schK_length, ← HV.out]
          rw [← List.setIfInBounds_toArray]
          exact bX
        have b2X := hX.blk b2z (by omega)
        have hBX := below_put hBz hX (by omega)
        clear e1 e2 bX b3z b2z
        go_wp2_with fail
        exact ⟨⟨k + 1, by omega, by go_num, b3X, ⟨cs, b2X, hcs⟩, hBX⟩, by simp [intOf]; omega⟩
      · have q : ∀ j, j < k → wr.cell? ⟨g3, j, none⟩ = some (.int .u32 (bv ((schK b k).getD j 0))) := fun j hj => by
          rw [b3.cell]
          have := arrN_get 64 (schK b k) j ((schK b k).getD j 0) (by rw [List.getD_eq_getElem?_getD, List.getElem?_eq_getElem (by rw [schK_length]; exact hj)]; rfl)
          simpa using this
        have hS := schK_high b k (by omega)
        obtain ⟨v16, e16⟩ : ∃ x, x = (schK b k).getD (k - 16) 0 := ⟨_, rfl⟩
        obtain ⟨v15, e15⟩ : ∃ x, x = (schK b k).getD (k - 15) 0 := ⟨_, rfl⟩
        obtain ⟨v7', e7⟩ : ∃ x, x = (schK b k).getD (k - 7) 0 := ⟨_, rfl⟩
        obtain ⟨v2, e2'⟩ : ∃ x, x = (schK b k).getD (k - 2) 0 := ⟨_, rfl⟩
        have q16 := q (k - 16) (by omega)
        have q15 := q (k - 15) (by omega)
        have q7 := q (k - 7) (by omega)
        have q2 := q (k - 2) (by omega)
        rw [← e16, ← e15, ← e7, ← e2'] at hS
        rw [← e16] at q16
        rw [← e15] at q15
        rw [← e7] at q7
        rw [← e2'] at q2
        have HS := Lib.hid hS
        have l3 := b3.lt
        have f16 := gw_cell l3 q16
        have f15 := gw_cell l3 q15
        have f7 := gw_cell l3 q7
        have f2 := gw_cell l3 q2
        clear q hS e16 e15 e7 e2' q16 q15 q7 q2
        go_wp2_with fail
        refine wp_region_rg 9 [] (by kernel_rfl) (by kernel_rfl) (by kernel_rfl) trivial ?_
        iterate 9 (refine rg_det rfl rfl rfl (fun K hK => ?_); go_big_quiet_op; refine hK _ ?_; clear hK K)
        refine rg_nil (fun w' hw' hF => ?_)
        obtain ⟨z, rfl⟩ := hw'
        simp only [List.drop_succ_cons, List.drop_zero]
        have b3z := b3.gw z
        have b2z := b2.gw z
        have hBz := hBr.trans (z.h.mono hBr.size)
        have l3z := b3z.lt
        have y16 := gw_cell (W := z.w) l3z (f16 z)
        have y7 := gw_cell (W := z.w) l3z (f7 z)
        clear hF f16 f15 f7 f2
        go_wp2_with fail
        refine wp_region_rg 29 [(6, Spec.val (.int .u32 (bv (rotr v15 7)))), (8, Spec.val (.int .u32 (bv (rotr v15 18)))), (20, Spec.val (.int .u32 (bv (rotr v2 17)))), (22, Spec.val (.int .u32 (bv (rotr v2 19))))] (by kernel_rfl) (by kernel_rfl) (by kernel_rfl) trivial ?_
        iterate 6 (refine rg_det rfl rfl rfl (fun K hK => ?_); go_big_quiet_op; refine hK _ ?_; clear hK K)
        refine rg_val rfl rfl (fun W1 hW1 hF => step_callv en_attestor_attestorref07_rotate (rRot v15 7 (by decide) (by decide) W1) rfl rfl) ?_
        intro a' ha
        simp only [Act.put, List.setIfInBounds_toArray, List.set_cons_succ, List.set_cons_zero] at ha
        subst ha
        refine rg_det rfl rfl rfl (fun K hK => ?_)
        go_big_quiet_op
        refine hK _ ?_; clear hK K
        refine rg_val rfl rfl (fun W1 hW1 hF => step_callv en_attestor_attestorref07_rotate (rRot v15 18 (by decide) (by decide) W1) rfl rfl) ?_
        intro a' ha
        simp only [Act.put, List.setIfInBounds_toArray, List.set_cons_succ, List.set_cons_zero] at ha
        subst ha
        iterate 11 (refine rg_det rfl rfl rfl (fun K hK => ?_); go_big_quiet_op; refine hK _ ?_; clear hK K)
        refine rg_val rfl rfl (fun W1 hW1 hF => step_callv en_attestor_attestorref07_rotate (rRot v2 17 (by decide) (by decide) W1) rfl rfl) ?_
        intro a' ha
        simp only [Act.put, List.setIfInBounds_toArray, List.set_cons_succ, List.set_cons_zero] at ha
        subst ha
        refine rg_det rfl rfl rfl (fun K hK => ?_)
        go_big_quiet_op
        refine hK _ ?_; clear hK K
        refine rg_val rfl rfl (fun W1 hW1 hF => step_callv en_attestor_attestorref07_rotate (rRot v2 19 (by decide) (by decide) W1) rfl rfl) ?_
        intro a' ha
        simp only [Act.put, List.setIfInBounds_toArray, List.set_cons_succ, List.set_cons_zero] at ha
        subst ha
        iterate 6 (refine rg_det rfl rfl rfl (fun K hK => ?_); go_big_quiet_op; refine hK _ ?_; clear hK K)
        refine rg_nil (fun w' hw' hF => ?_)
        obtain ⟨z2, rfl⟩ := hw'
        simp only [List.drop_succ_cons, List.drop_zero]
        have b3y := b3z.gw z2
        have b2y := b2z.gw z2
        have hBy := hBz.trans (z2.h.mono hBz.size)
        have e1 := b3y.frozen
        have e2 : z2.w.cell? ⟨g3, k, none⟩ = some (.int .u32 0) := (b3y.cell k).trans (by have := arrN_next 64 (schK b k) (by rw [schK_length]; exact hlt); rw [schK_length] at this; simpa using this)
        clear hF y16 y7
        go_upto_region 4 with (fail)
        rw [sch_val]
        refine set1 (M := fun W => Code.wp _ _ _ _ W) b3y fun X hX bX => ?_
        have b3X : Blk X g3 188 (arrN 64 (schK b (k + 1))).toArray := by
          rw [HS.out, ← arrN_set 64 (schK b k) _ (by rw [schK_length]; exact hlt), schK_length]
          rw [← List.setIfInBounds_toArray]
          exact bX
        have b2X := hX.blk b2y (by omega)
        have hBX := below_put hBy hX (by omega)
        clear e1 e2 bX b3y b2y b3z b2z
        go_wp2_with fail
        exact ⟨⟨k + 1, by omega, by go_num, b3X, ⟨cs, b2X, hcs⟩, hBX⟩, by simp [intOf]; omega⟩
    · obtain rfl : k = 64 := by omega
      rw [schK_all, arrN_full 64 _ (sched_length b)] at b3
      have l9 := b2.lt
      clear HQ HB H8
      go_upto_region 9 with (fail)
      refine wp_carry 188 (u32c (sched b)) _ _ _ _ rfl rfl rfl rfl w64_under rfl (by rw [w64_size, u32c_len, sched_length]) (u32c_one _) rfl (fun _ => rfl) (fun _ => rfl) b3 b2 (by rw [hcs, u32c_len, sched_length]) fun X v hX bX => ?_
      have hBX : Below w.heap.size w X := below_put hBr hX (by omega)
      go_wp2_with fail
      exact bodyPost_ret (v := arrV (sched b)) (res_row (g := w.heap.size) rfl rfl w64_under rfl (by rw [w64_size, u32c_len, sched_length]) bX) rfl ⟨rfl, hBX⟩
end Go.Proofs.YtoiampgfnidfdaaGreatDoor
namespace Go.Proofs.YtoiampgfnidfdaaGreatDoor
open Go.RowKit

theorem wp_bput {P : Program} {id : Nat} {o1 o2 : Oper} {Q : Exit → Act → World → Prop} {a : Act} {w : World} (t : TypeId) (fs : Array (Nat × Operand)) (cs : List Value) (y z : Operand) {g2 : Nat} {t2 : TypeId} {c2 : Array Value}
    (k1 : o1.guard = none) (k2 : o2.guard = none) (h1 : o1.op = .build t fs) (h2 : o2.op = .store t y z) (hb : P.built t (fs.map fun (i, x) => (i, a.eval x)).toList = some cs.toArray) (hi : (P.info? t).map (·.size) = some cs.length) (hone : cs.all (·.oneCell') = true)
    (hy : ∀ u, (a.put o1.dst u).eval y = .pointer (some ⟨g2, 0, none⟩)) (hz : ∀ u, (a.put o1.dst u).eval z = u) (hb2 : Blk w g2 t2 c2) (hs : c2.size = cs.length)
    (H : ∀ X v, Put w X g2 → Blk X g2 t2 cs.toArray → Q .normal ((a.put o1.dst v).put o2.dst undef) X) :
    (Code.region id #[o1, o2] false).wp P Q a w := by
  refine wp_region_lit (l := [o1, o2]) ?_
  refine wpList_plain k1 fun K hK => wp_build t fs h1 (by rw [hb]; rfl) (hK _ _ ?_)
  rw [hb, Option.getD_some]
  have e : spl c2 0 cs = cs.toArray := spl_all c2 cs hs
  refine wpList_put k2 t y z h2 (hy _) (hz _) hb2 (by omega) hi hone e fun X hX bX => ?_
  exact H X _ hX bX
theorem kTabB_length : kTabB.length = 64 := by unfold kTabB; rw [List.length_map]; exact kTab_length
theorem en_attestor_attestorref07_constants : ∀ args w, (callFunc 157 args).run Tryz.prog w = .ok (.enter 157 args) w := enters_of Tryz.func157 (by kernel_rfl) rfl
attribute [local irreducible] wpRg
set_option maxRecDepth 100000 in
set_option maxHeartbeats 4000000 in
theorem rConst (w : World) : Calls Tryz.prog 157 #[] w (Ret (arrV kTabB) w) := by
  go_enter Tryz.func157, Tryz.ntmps157
  go_upto_region 1 with (fail)
  refine wp_stk1 fun W hB hz b2 => ?_
  obtain ⟨cs0, hcs0, b2'⟩ : ∃ cs : Array Value, cs.size = 64 ∧ Blk W w.heap.size 188 cs := ⟨_, rfl, b2⟩
  clear b2
  refine wp_bput 188 _ (u32c kTabB) _ _ rfl rfl rfl rfl (by kernel_rfl) (by rw [w64_size, u32c_len, kTabB_length]) (u32c_one _) (fun _ => rfl) (fun _ => rfl) b2' (by rw [hcs0, u32c_len, kTabB_length]) fun X v hX bX => ?_
  have hBX : Below w.heap.size w X := below_put hB hX (Nat.le_refl _)
  go_wp2_with fail
  exact bodyPost_ret (v := arrV kTabB) (res_row (g := w.heap.size) rfl rfl w64_under rfl (by rw [w64_size, u32c_len, kTabB_length]) bX) rfl ⟨rfl, hBX⟩
def s8v (s : S8) : Value := .agg s.cells.toArray
theorem w8_size : (Tryz.prog.info? 172).map (·.size) = some 8 := by kernel_rfl
theorem w8_under : Tryz.prog.underlying 172 = some (.array 8 169) := by kernel_rfl
theorem s8_one (s : S8) : s.cells.all (·.oneCell') = true := rfl
theorem en_attestor_attestorref07_Initial : ∀ args w, (callFunc 139 args).run Tryz.prog w = .ok (.enter 139 args) w := enters_of Tryz.func139 (by kernel_rfl) rfl
set_option maxRecDepth 100000 in
set_option maxHeartbeats 4000000 in
theorem rInit (w : World) : Calls Tryz.prog 139 #[] w (Ret (s8v init8) w) := by
  go_enter Tryz.func139, Tryz.ntmps139
  go_upto_region 1 with (fail)
  refine wp_stk1 fun W hB hz b2 => ?_
  obtain ⟨cs0, hcs0, b2'⟩ : ∃ cs : Array Value, cs.size = 8 ∧ Blk W w.heap.size 172 cs := ⟨_, rfl, b2⟩
  clear b2
  refine wp_bput 172 _ init8.cells _ _ rfl rfl rfl rfl (by kernel_rfl) w8_size (s8_one _) (fun _ => rfl) (fun _ => rfl) b2' hcs0 fun X v hX bX => ?_
  have hBX : Below w.heap.size w X := below_put hB hX (Nat.le_refl _)
  go_wp2_with fail
  exact bodyPost_ret (v := s8v init8) (res_row (g := w.heap.size) rfl rfl w8_under rfl w8_size bX) rfl ⟨rfl, hBX⟩
theorem wp_prep {P : Program} {id : Nat} {o1 o2 o3 o4 o5 o6 o7 : Oper} {Q : Exit → Act → World → Prop} {a : Act} {w : World} (t : TypeId) (i : TypeInfo) (z cs1 cs2 : List Value) (x6 y6 x7 y7 : Operand) {u1 : Value}
    (g1 : o1.guard = none) (g2 : o2.guard = none) (g3 : o3.guard = none) (g4 : o4.guard = none) (g5 : o5.guard = none) (g6 : o6.guard = none) (g7 : o7.guard = none)
    (s1 : stepAt P o1 a w fun v w' => v = u1 ∧ w' = w)
    (s2 : stepAt P o2 (a.put o1.dst u1) w fun v w' => v = .agg cs1.toArray ∧ Below w.heap.size w w')
    (s3 : ∀ W, Below w.heap.size w W → stepAt P o3 ((a.put o1.dst u1).put o2.dst (.agg cs1.toArray)) W fun v w' => v = .agg cs2.toArray ∧ Below W.heap.size W w')
    (h4 : o4.op = .alloc t) (h5 : o5.op = .alloc t) (h6 : o6.op = .store t x6 y6) (h7 : o7.op = .store t x7 y7)
    (hi : P.info? t = some i) (hz : i.zero = some (.agg z.toArray)) (hs0 : i.size = z.length) (hs1 : cs1.length = z.length) (hs2 : cs2.length = z.length) (one1 : cs1.all (·.oneCell') = true) (one2 : cs2.all (·.oneCell') = true)
    (e6 : ∀ u v, (((((a.put o1.dst u1).put o2.dst (.agg cs1.toArray)).put o3.dst (.agg cs2.toArray)).put o4.dst u).put o5.dst v).eval x6 = u)
    (f6 : ∀ u v, (((((a.put o1.dst u1).put o2.dst (.agg cs1.toArray)).put o3.dst (.agg cs2.toArray)).put o4.dst u).put o5.dst v).eval y6 = .agg cs1.toArray)
    (e7 : ∀ u v, ((((((a.put o1.dst u1).put o2.dst (.agg cs1.toArray)).put o3.dst (.agg cs2.toArray)).put o4.dst u).put o5.dst v).put o6.dst undef).eval x7 = v)
    (f7 : ∀ u v, ((((((a.put o1.dst u1).put o2.dst (.agg cs1.toArray)).put o3.dst (.agg cs2.toArray)).put o4.dst u).put o5.dst v).put o6.dst undef).eval y7 = .agg cs2.toArray)
    (H : ∀ X n, Below w.heap.size w X → w.heap.size ≤ n → Blk X n t cs1.toArray → Blk X (n + 1) t cs2.toArray → Q .normal (((((((a.put o1.dst u1).put o2.dst (.agg cs1.toArray)).put o3.dst (.agg cs2.toArray)).put o4.dst (.pointer (some ⟨n, 0, none⟩))).put o5.dst (.pointer (some ⟨n + 1, 0, none⟩))).put o6.dst undef).put o7.dst undef) X) :
    (Code.region id #[o1, o2, o3, o4, o5, o6, o7] false).wp P Q a w := by
  refine wp_region_lit (l := [o1, o2, o3, o4, o5, o6, o7]) ?_
  refine wpList_plain g1 fun K hK => wp_of_step (stepAt_mono (fun v w' hh => ?_) s1)
  obtain ⟨rfl, hw'⟩ := hh
  rw [hw']
  refine hK _ _ (wpList_plain g2 fun K2 hK2 => wp_of_step (stepAt_mono (fun v w' hh => ?_) s2))
  obtain ⟨rfl, hB2⟩ := hh
  refine hK2 _ _ (wpList_plain g3 fun K3 hK3 => wp_of_step (stepAt_mono (fun v w3 hh => ?_) (s3 _ hB2)))
  obtain ⟨rfl, hB3⟩ := hh
  refine hK3 _ _ (wpList_plain g4 fun K4 hK4 => wp_of_step (stepAt_mono (fun v w' hh => ?_) (step_new0 hi hz h4)))
  obtain ⟨rfl, rfl⟩ := hh
  refine hK4 _ _ (wpList_plain g5 fun K5 hK5 => wp_of_step (stepAt_mono (fun v w' hh => ?_) (step_new0 hi hz h5)))
  obtain ⟨rfl, rfl⟩ := hh
  refine hK5 _ _ ?_
  have hBa := hB2.trans (hB3.mono hB2.size)
  have hn : w3.heap.size + 1 = (w3.alloc (.cells (Value.agg z.toArray).cells t)).heap.size := by simp
  rw [← hn]
  have b1 : Blk (w3.alloc (.cells (Value.agg z.toArray).cells t)) w3.heap.size t z.toArray := World.alloc_heap_new w3 _
  have hBb : Below w.heap.size w (w3.alloc (.cells (Value.agg z.toArray).cells t)) := hBa.alloc hBa.size _
  obtain ⟨W4, hW4⟩ : ∃ W, W = w3.alloc (.cells (Value.agg z.toArray).cells t) := ⟨_, rfl⟩
  rw [← hW4] at b1 hBb hn ⊢
  have b2 : Blk (W4.alloc (.cells (Value.agg z.toArray).cells t)) (w3.heap.size + 1) t z.toArray := by rw [hn]; exact World.alloc_heap_new W4 _
  have b1' : Blk (W4.alloc (.cells (Value.agg z.toArray).cells t)) w3.heap.size t z.toArray := b1.alloc _
  have hBc : Below w.heap.size w (W4.alloc (.cells (Value.agg z.toArray).cells t)) := hBb.alloc hBb.size _
  obtain ⟨W5, hW5⟩ : ∃ W, W = W4.alloc (.cells (Value.agg z.toArray).cells t) := ⟨_, rfl⟩
  rw [← hW5] at b2 b1' hBc ⊢
  have sp1 : spl z.toArray 0 cs1 = cs1.toArray := spl_all _ cs1 (by simp [hs1])
  have sp2 : spl z.toArray 0 cs2 = cs2.toArray := spl_all _ cs2 (by simp [hs2])
  refine wpList_put g6 t x6 y6 h6 (e6 _ _) (f6 _ _) b1' (by simp [hs1]) (by rw [hi]; simp [hs0, hs1]) one1 sp1 fun X hX bX => ?_
  have b2X := hX.blk b2 (by omega)
  have hBX := below_put hBc hX hBa.size
  refine wpList_put g7 t x7 y7 h7 (e7 _ _) (f7 _ _) b2X (by simp [hs2]) (by rw [hi]; simp [hs0, hs2]) one2 sp2 fun Y hY bY => ?_
  exact H Y _ (below_put hBX hY (by have := hBa.size; omega)) hBa.size (hY.blk bX (by omega)) bY
end Go.Proofs.YtoiampgfnidfdaaGreatDoor
namespace Go.Proofs.YtoiampgfnidfdaaGreatDoor
open Go.RowKit

theorem step_move {P : Program} {o : Oper} {a : Act} {w : World} {x : Operand} {u : Value} (h : o.op = .move x) (hx : a.eval x = u) : stepAt P o a w fun v w' => v = u ∧ w' = w := by
  unfold stepAt execOp
  rw [h]
  exact ⟨hx, rfl⟩
theorem tone_val (h e f g kk ww : B32) : ((bv h + bits .xor .u32 (bits .xor .u32 (bv (rotr e 6)) (bv (rotr e 11))) (bv (rotr e 25)) + bits .xor .u32 (bits .and .u32 (bv e) (bv f)) (bits .and .u32 ((4294967295 - bv e) % 4294967296) (bv g)) + bv kk) % 4294967296 + bv ww) % 4294967296 = bv (h + bs1 e + chE e f g + kk + ww) := by
  rw [bv_not', bv_and, bv_and, bv_xor, bv_xor, bv_xor, bv_add4, bv_add']
  rfl
theorem two_val (T a b c : B32) : (bv T + (bits .xor .u32 (bits .xor .u32 (bv (rotr a 2)) (bv (rotr a 13))) (bv (rotr a 22)) + bits .or .u32 (bits .or .u32 (bits .and .u32 (bv a) (bv b)) (bits .and .u32 (bv a) (bv c))) (bits .and .u32 (bv b) (bv c))) % 4294967296) % 4294967296 = bv (T + (bs0 a + maj a b c)) := by
  rw [bv_and, bv_and, bv_and, bv_or, bv_or, bv_xor, bv_xor, bv_add', bv_add']
  rfl
theorem en_attestor_attestorref07_Compress : ∀ args w, (callFunc 141 args).run Tryz.prog w = .ok (.enter 141 args) w := enters_of Tryz.func141 (by kernel_rfl) rfl
theorem u32c_cell {w : World} {g : Nat} {t : TypeId} {l : List B32} (b : Blk w g t (u32c l).toArray) (k : Nat) (h : k < l.length) : w.cell? ⟨g, k, none⟩ = some (.int .u32 (bv (l.getD k 0))) := by
  rw [b.cell, List.getElem?_toArray]
  unfold u32c
  rw [List.getElem?_map, List.getElem?_eq_getElem h, List.getD_eq_getElem?_getD, List.getElem?_eq_getElem h]
  rfl
attribute [local irreducible] wpRg
set_option maxRecDepth 100000 in
set_option maxHeartbeats 4000000 in
theorem rComp (s : S8) (b : List Nat) (hb : b.length = 64) (hb8 : ∀ x ∈ b, x < 256) (v : Value) (lo hi : Nat) (w : World) (h : ByS lo hi w v b) : Calls Tryz.prog 141 #[s8v s, v] w (Ret (s8v (comp s b)) w) := by
  have HV := Lib.hid h
  have HB := Lib.hid hb
  have H8 := Lib.hid hb8
  clear h hb hb8
  obtain ⟨S, hS⟩ : ∃ S, S = s8v s := ⟨_, rfl⟩
  rw [← hS]
  go_enter Tryz.func141, Tryz.ntmps141
  obtain ⟨i64', hi64, iz0, iz1, iz2⟩ := info_parts w64_info
  go_upto_region 1 with (fail)
  refine wp_stk2 fun W hB hz b1 b2 => ?_
  have b1' : Blk W w.heap.size 172 s.cells.toArray := by first | exact b1 | (rw [hS] at b1; exact b1)
  obtain ⟨cs0, hcs0, b2'⟩ : ∃ cs : Array Value, cs.size = 8 ∧ Blk W (w.heap.size + 1) 172 cs := ⟨_, rfl, b2⟩
  have hWs : W.heap.size = w.heap.size + 1 + 1 := hz.out
  clear b1 b2 hz
  refine wp_prep (u1 := v) 188 i64' (zl 64) (u32c (sched b)) (u32c kTabB) _ _ _ _ rfl rfl rfl rfl rfl rfl rfl (step_move rfl rfl) (step_callv en_attestor_attestorref07_schedule (rSched b HB.out H8.out v lo hi W (HV.out.keep hB)) rfl rfl) (fun W1 hW1 => step_callv en_attestor_attestorref07_constants (rConst W1) rfl rfl) rfl rfl rfl rfl hi64 iz0 (by rw [iz1, zl_len]) (by rw [u32c_len, sched_length, zl_len]) (by rw [u32c_len, kTabB_length, zl_len]) (u32c_one _) (u32c_one _) (fun _ _ => rfl) (fun _ _ => rfl) (fun _ _ => rfl) (fun _ _ => rfl) fun X n hX hn b5 b6 => ?_
  have b1X := b1'.keep hX
  have b2X := b2'.keep hX
  have hBX := hB.trans (hX.mono hB.size)
  have hn1 : w.heap.size + 1 < n := by omega
  obtain ⟨n6, hn6⟩ : ∃ m, m = n + 1 := ⟨_, rfl⟩
  rw [← hn6] at b6 ⊢
  have hn7 : w.heap.size + 1 < n6 := by omega
  clear b1' b2' hWs hX hn hB hn6
  generalize Value.agg (u32c (sched b)).toArray = V1
  generalize Value.agg (u32c kTabB).toArray = V2
  have l1 := b1X.lt
  have c0 := gw_cell l1 (show X.cell? ⟨w.heap.size, 0, none⟩ = some (.int .u32 (bv s.a)) from (b1X.cell 0).trans rfl)
  have c1 := gw_cell l1 (show X.cell? ⟨w.heap.size, 1, none⟩ = some (.int .u32 (bv s.b)) from (b1X.cell 1).trans rfl)
  have c2 := gw_cell l1 (show X.cell? ⟨w.heap.size, 2, none⟩ = some (.int .u32 (bv s.c)) from (b1X.cell 2).trans rfl)
  have c3 := gw_cell l1 (show X.cell? ⟨w.heap.size, 3, none⟩ = some (.int .u32 (bv s.d)) from (b1X.cell 3).trans rfl)
  go_upto_region 2 with (fail)
  simp only [Act.put, List.setIfInBounds_toArray, List.set_cons_succ, List.set_cons_zero]
  refine wp_region_rg 11 [] (by kernel_rfl) (by kernel_rfl) (by kernel_rfl) trivial ?_
  iterate 11 (refine rg_det rfl rfl rfl (fun K hK => ?_); go_big_quiet_op; refine hK _ ?_; clear hK K)
  refine rg_nil (fun w' hw' hF => ?_)
  obtain ⟨z, rfl⟩ := hw'
  simp only [List.drop_succ_cons, List.drop_zero]
  clear hF c0 c1 c2 c3
  have b1z := b1X.gw z
  have b2z := b2X.gw z
  have b5z := b5.gw z
  have b6z := b6.gw z
  have hBz := hBX.trans (z.h.mono hBX.size)
  have l1 := b1z.lt
  have c0 := gw_cell l1 (show z.w.cell? ⟨w.heap.size, 4, none⟩ = some (.int .u32 (bv s.e)) from (b1z.cell 4).trans rfl)
  have c1 := gw_cell l1 (show z.w.cell? ⟨w.heap.size, 5, none⟩ = some (.int .u32 (bv s.f)) from (b1z.cell 5).trans rfl)
  have c2 := gw_cell l1 (show z.w.cell? ⟨w.heap.size, 6, none⟩ = some (.int .u32 (bv s.g)) from (b1z.cell 6).trans rfl)
  have c3 := gw_cell l1 (show z.w.cell? ⟨w.heap.size, 7, none⟩ = some (.int .u32 (bv s.h)) from (b1z.cell 7).trans rfl)
  clear b1X b2X b5 b6 hBX
  go_wp2_with fail
  refine wp_region_rg 11 [] (by kernel_rfl) (by kernel_rfl) (by kernel_rfl) trivial ?_
  iterate 11 (refine rg_det rfl rfl rfl (fun K hK => ?_); go_big_quiet_op; refine hK _ ?_; clear hK K)
  refine rg_nil (fun w' hw' hF => ?_)
  obtain ⟨y, rfl⟩ := hw'
  simp only [List.drop_succ_cons, List.drop_zero]
  clear hF c0 c1 c2 c3
  have b1y := b1z.gw y
  have b2y := b2z.gw y
  have b5y := b5z.gw y
  have b6y := b6z.gw y
  have hBy := hBz.trans (y.h.mono hBz.size)
  clear b1z b2z b5z b6z hBz
  go_wp2_with fail
  go_loopw [7, 8, 9, 10, 11, 12, 13, 14, 15] (fun va vb vc vd ve vf vg vh i wr => ∃ k : Nat, k ≤ 64 ∧ i = .int .i64 k ∧ va = .int .u32 (bv (rndK b s k).a) ∧ vb = .int .u32 (bv (rndK b s k).b) ∧ vc = .int .u32 (bv (rndK b s k).c) ∧ vd = .int .u32 (bv (rndK b s k).d) ∧ ve = .int .u32 (bv (rndK b s k).e) ∧ vf = .int .u32 (bv (rndK b s k).f) ∧ vg = .int .u32 (bv (rndK b s k).g) ∧ vh = .int .u32 (bv (rndK b s k).h) ∧ Blk wr w.heap.size 172 s.cells.toArray ∧ Blk wr (w.heap.size + 1) 172 cs0 ∧ Blk wr n 188 (u32c (sched b)).toArray ∧ Blk wr n6 188 (u32c kTabB).toArray ∧ Below w.heap.size w wr) (fun _ _ _ _ _ _ _ _ i _ => 64 - (intOf i).toNat)
  case atStart => exact ⟨0, Nat.zero_le _, rfl, rfl, rfl, rfl, rfl, rfl, rfl, rfl, rfl, b1y, b2y, b5y, b6y, hBy⟩
  case round =>
    obtain ⟨k, hk, rfl, rfl, rfl, rfl, rfl, rfl, rfl, rfl, rfl, b1, b2, b5, b6, hBr⟩ := hrel
    generalize hR : rndK b s k = r at *
    by_cases hlt : k < 64
    · have f5 := gw_cell b5.lt (u32c_cell b5 k (by rw [sched_length]; exact hlt))
      have f6 := gw_cell b6.lt (u32c_cell b6 k (by rw [kTabB_length]; exact hlt))
      have hN : rndK b s (k + 1) = rnd (kTabB.getD k 0) ((sched b).getD k 0) r := by rw [rndK, hR]
      have HN := Lib.hid hN
      clear hN hR
      generalize kTabB.getD k 0 = kk at *
      generalize (sched b).getD k 0 = ww at *
      go_wp2_with fail
      refine wp_region_rg 27 [(2, Spec.val (.int .u32 (bv (rotr r.e 6)))), (4, Spec.val (.int .u32 (bv (rotr r.e 11)))), (7, Spec.val (.int .u32 (bv (rotr r.e 25))))] (by kernel_rfl) (by kernel_rfl) (by kernel_rfl) trivial ?_
      iterate 2 (refine rg_det rfl rfl rfl (fun K hK => ?_); go_big_quiet_op; refine hK _ ?_; clear hK K)
      refine rg_val rfl rfl (fun W1 hW1 hF => step_callv en_attestor_attestorref07_rotate (rRot r.e 6 (by decide) (by decide) W1) rfl rfl) ?_
      intro a' ha
      simp only [Act.put, List.setIfInBounds_toArray, List.set_cons_succ, List.set_cons_zero] at ha
      subst ha
      refine rg_det rfl rfl rfl (fun K hK => ?_)
      go_big_quiet_op
      refine hK _ ?_; clear hK K
      refine rg_val rfl rfl (fun W1 hW1 hF => step_callv en_attestor_attestorref07_rotate (rRot r.e 11 (by decide) (by decide) W1) rfl rfl) ?_
      intro a' ha
      simp only [Act.put, List.setIfInBounds_toArray, List.set_cons_succ, List.set_cons_zero] at ha
      subst ha
      iterate 2 (refine rg_det rfl rfl rfl (fun K hK => ?_); go_big_quiet_op; refine hK _ ?_; clear hK K)
      refine rg_val rfl rfl (fun W1 hW1 hF => step_callv en_attestor_attestorref07_rotate (rRot r.e 25 (by decide) (by decide) W1) rfl rfl) ?_
      intro a' ha
      simp only [Act.put, List.setIfInBounds_toArray, List.set_cons_succ, List.set_cons_zero] at ha
      subst ha
      iterate 19 (refine rg_det rfl rfl rfl (fun K hK => ?_); go_big_quiet_op; refine hK _ ?_; clear hK K)
      refine rg_nil (fun w' hw' hF => ?_)
      obtain ⟨z1, rfl⟩ := hw'
      simp only [List.drop_succ_cons, List.drop_zero]
      clear hF f5 f6
      have b1z := b1.gw z1
      have b2z := b2.gw z1
      have b5z := b5.gw z1
      have b6z := b6.gw z1
      have hBz := hBr.trans (z1.h.mono hBr.size)
      clear b1 b2 b5 b6 hBr
      rw [tone_val]
      generalize hT : r.h + bs1 r.e + chE r.e r.f r.g + kk + ww = T
      have HT := Lib.hid hT
      clear hT
      go_wp2_with fail
      refine (rRot r.a 2 (by decide) (by decide) z1.w).mono ?_
      rintro e w1 ⟨rfl, hb1⟩
      simp only []
      go_wp2_with fail
      refine (rRot r.a 13 (by decide) (by decide) w1).mono ?_
      rintro e w2 ⟨rfl, hb2⟩
      simp only []
      go_wp2_with fail
      refine (rRot r.a 22 (by decide) (by decide) w2).mono ?_
      rintro e w3 ⟨rfl, hb3⟩
      simp only []
      have B2 := hb1.trans (hb2.mono hb1.size)
      have B3 := B2.trans (hb3.mono B2.size)
      have c1 := b1z.keep B3
      have c2 := b2z.keep B3
      have c5 := b5z.keep B3
      have c6 := b6z.keep B3
      have hBy := hBz.trans (B3.mono hBz.size)
      clear hb1 hb2 hb3 B2 B3 b1z b2z b5z b6z hBz
      go_wp2_with fail
      have hTo : tOne kk ww r = T := HT.out
      refine ⟨⟨k + 1, by omega, by go_num, ?_, ?_, ?_, ?_, ?_, ?_, ?_, ?_, c1, c2, c5, c6, hBy⟩, by simp [intOf]; omega⟩
      all_goals rw [HN.out]
      · rw [two_val, ← hTo]
        rfl
      · rfl
      · rfl
      · rfl
      · rw [bv_add', ← hTo]
        rfl
      · rfl
      · rfl
      · rfl
    · obtain rfl : k = 64 := by omega
      have l1 := b1.lt
      have d0 := (show wr.cell? ⟨w.heap.size, 0, none⟩ = some (.int .u32 (bv s.a)) from (b1.cell 0).trans rfl)
      have d1 := (show wr.cell? ⟨w.heap.size, 1, none⟩ = some (.int .u32 (bv s.b)) from (b1.cell 1).trans rfl)
      have d2 := (show wr.cell? ⟨w.heap.size, 2, none⟩ = some (.int .u32 (bv s.c)) from (b1.cell 2).trans rfl)
      have d3 := (show wr.cell? ⟨w.heap.size, 3, none⟩ = some (.int .u32 (bv s.d)) from (b1.cell 3).trans rfl)
      have d4 := (show wr.cell? ⟨w.heap.size, 4, none⟩ = some (.int .u32 (bv s.e)) from (b1.cell 4).trans rfl)
      have d5 := (show wr.cell? ⟨w.heap.size, 5, none⟩ = some (.int .u32 (bv s.f)) from (b1.cell 5).trans rfl)
      have d6 := (show wr.cell? ⟨w.heap.size, 6, none⟩ = some (.int .u32 (bv s.g)) from (b1.cell 6).trans rfl)
      have d7 := (show wr.cell? ⟨w.heap.size, 7, none⟩ = some (.int .u32 (bv s.h)) from (b1.cell 7).trans rfl)
      clear b5 b6
      go_upto_region 17 with (fail)
      refine wp_region_lit ?_
      iterate 33 (refine wpList_plain rfl fun K hK => ?_; go_big_op; refine hK _ _ ?_; clear hK K)
      simp only [bv_add']
      refine wpList_put rfl 172 (.tmp 4) (.tmp 132) rfl rfl (cells := (comp s b).cells) (by unfold comp; rw [hR]; rfl) b2 (by rw [hcs0]; exact Nat.le_refl _) w8_size (s8_one _) (spl_all _ _ hcs0) fun X hX bX => ?_
      have hBX := below_put hBr hX (Nat.le_succ _)
      refine Eq.mp rfl (?_ : Exit.then _ _ .normal _ X)
      go_wp2_with fail
      exact bodyPost_ret (v := s8v (comp s b)) (res_row (g := w.heap.size + 1) rfl rfl w8_under rfl w8_size bX) rfl ⟨rfl, hBX⟩
end Go.Proofs.YtoiampgfnidfdaaGreatDoor
namespace Go.Proofs.YtoiampgfnidfdaaGreatDoor
open Go.RowKit

def zb (n : Nat) : List Value := List.replicate n (.int .u8 0)
theorem arrB_zero (n : Nat) : arrB n [] = zb n := by
  unfold arrB byc zb
  rw [List.length_nil, List.nil_append, Nat.sub_zero, List.map_replicate]
  rfl
theorem zb_len (n : Nat) : (zb n).length = n := by simp [zb]
theorem zb_one (n : Nat) : (zb n).all (·.oneCell') = true := by simp [zb]; exact .inr rfl
theorem b32_info : (Tryz.prog.info? 23).map (fun i => (i.zero, i.size, i.bytes)) = some (some (.agg (zb 32).toArray), 32, 32) := by kernel_rfl
theorem b32_built : Tryz.prog.built 23 [] = some (zb 32).toArray := by kernel_rfl
theorem b32_size : (Tryz.prog.info? 23).map (·.size) = some 32 := by kernel_rfl
theorem b32_under : Tryz.prog.underlying 23 = some (.array 32 5) := by kernel_rfl
theorem byc_all (l : List Nat) : (byc l).all (·.oneCell') = true := List.all_eq_true.2 (byc_one l)
theorem digL_take (s : S8) (k : Nat) (h : k < 32) : (digL s).take (k + 1) = (digL s).take k ++ [digK s k] := by
  rw [List.take_add_one]
  congr 1
  unfold digL
  rw [List.getElem?_map, List.getElem?_range h]
  rfl
theorem dig_val (x : B32) (n : Nat) : bv x / 2 ^ n % 256 = ((x.toNat / 2 ^ n % 256 : Nat) : Int) := by
  unfold bv
  simp
theorem en_attestor_attestorref07_Digest : ∀ args w, (callFunc 142 args).run Tryz.prog w = .ok (.enter 142 args) w := enters_of Tryz.func142 (by kernel_rfl) rfl
attribute [local irreducible] wpRg
set_option maxRecDepth 100000 in
set_option maxHeartbeats 4000000 in
theorem rDig (s : S8) (w : World) : Calls Tryz.prog 142 #[s8v s] w (Ret (dgv (digL s)) w) := by
  obtain ⟨S, hS⟩ : ∃ S, S = s8v s := ⟨_, rfl⟩
  rw [← hS]
  go_enter Tryz.func142, Tryz.ntmps142
  obtain ⟨i32', hi32, iz0, iz1, iz2⟩ := info_parts b32_info
  go_upto_region 1 with (fail)
  refine wp_stk2 fun W hB hz b1 b2 => ?_
  have b1' : Blk W w.heap.size 172 s.cells.toArray := by first | exact b1 | (rw [hS] at b1; exact b1)
  obtain ⟨cs0, hcs0, b2'⟩ : ∃ cs : Array Value, cs.size = 32 ∧ Blk W (w.heap.size + 1) 23 cs := ⟨_, rfl, b2⟩
  have hWs : W.heap.size = w.heap.size + 1 + 1 := hz.out
  clear b1 b2 hz
  refine wp_zvar 23 i32' (zb 32) _ _ rfl rfl rfl rfl rfl rfl hi32 iz0 (by rw [iz1, zb_len]) (zb_one 32) b32_built (fun _ _ => rfl) (fun _ _ => rfl) fun X v7 hX hXs b3 => ?_
  have hB3 := hB.trans (hX.mono hB.size)
  have b3' : Blk X W.heap.size 23 (arrB 32 ((digL s).take 0)).toArray := by rw [List.take_zero, arrB_zero]; exact b3
  have b1X := b1'.keep hX
  have b2X := b2'.keep hX
  obtain ⟨g3, hg3⟩ : ∃ g, g = W.heap.size := ⟨_, rfl⟩
  rw [← hg3] at b3' ⊢
  have hg3a : w.heap.size + 1 < g3 := by omega
  clear b3 b2' b1' hg3 hWs hXs hB hX
  go_wp2_with fail
  go_loopw [4] (fun i wr => ∃ k : Nat, k ≤ 32 ∧ i = .int .i64 k ∧ Blk wr g3 23 (arrB 32 ((digL s).take k)).toArray ∧ Blk wr w.heap.size 172 s.cells.toArray ∧ Blk wr (w.heap.size + 1) 23 cs0 ∧ Below w.heap.size w wr) (fun i _ => 32 - (intOf i).toNat)
  case atStart => exact ⟨0, Nat.zero_le _, rfl, b3', b1X, b2X, hB3⟩
  case round =>
    obtain ⟨k, hk, rfl, b3, b1, b2, hBr⟩ := hrel
    by_cases hlt : k < 32
    · have l1 := b1.lt
      obtain ⟨x, hx⟩ : ∃ x : B32, x = [s.a, s.b, s.c, s.d, s.e, s.f, s.g, s.h].getD (k / 4) 0 := ⟨_, rfl⟩
      have c1 : wr.cell? ⟨w.heap.size, k / 4, none⟩ = some (.int .u32 (bv x)) := by
        have h8 : k / 4 < 8 := by omega
        rw [b1.cell, hx]
        generalize k / 4 = j at h8
        rcases j with _ | _ | _ | _ | _ | _ | _ | _ | j
        all_goals first | rfl | omega
      have e1 := b3.frozen
      have hl : ((digL s).take k).length = k := by rw [List.length_take, digL_length]; omega
      have e2 : wr.cell? ⟨g3, k, none⟩ = some (.int .u8 0) := (b3.cell k).trans (by have := arrB_next 32 ((digL s).take k) (by omega); rw [hl] at this; simpa using this)
      have HX := Lib.hid hx
      clear hx
      go_upto_region 4 with (fail)
      rw [dig_val]
      refine set1 (M := fun W => Code.wp _ _ _ _ W) b3 fun X hX bX => ?_
      have b3X : Blk X g3 23 (arrB 32 ((digL s).take (k + 1))).toArray := by
        have hd : digK s k = x.toNat / 2 ^ (24 - 8 * (k % 4)) % 256 := by rw [HX.out]; rfl
        rw [digL_take s k hlt, ← arrB_set 32 ((digL s).take k) (digK s k) (by omega), hl, hd, ← List.setIfInBounds_toArray]
        exact bX
      have b1X := hX.blk b1 (by omega)
      have b2X := hX.blk b2 (by omega)
      have hBX := below_put hBr hX (by omega)
      clear e1 e2 bX
      go_wp2_with fail
      exact ⟨⟨k + 1, by omega, by go_num, b3X, b1X, b2X, hBX⟩, by simp [intOf]; omega⟩
    · obtain rfl : k = 32 := by omega
      rw [show (digL s).take 32 = digL s from List.take_of_length_le (by rw [digL_length]; exact Nat.le_refl _), arrB_full 32 _ (digL_length s)] at b3
      go_upto_region 6 with (fail)
      refine wp_carry 23 (byc (digL s)) _ _ _ _ rfl rfl rfl rfl b32_under rfl (by rw [b32_size, byc_length, digL_length]) (byc_all _) rfl (fun _ => rfl) (fun _ => rfl) b3 b2 (by rw [hcs0, byc_length, digL_length]) fun X v hX bX => ?_
      have hBX : Below w.heap.size w X := below_put hBr hX (by omega)
      go_wp2_with fail
      exact bodyPost_ret (v := dgv (digL s)) (res_row (g := w.heap.size + 1) rfl rfl b32_under rfl (by rw [b32_size, byc_length, digL_length]) bX) rfl ⟨rfl, hBX⟩
end Go.Proofs.YtoiampgfnidfdaaGreatDoor
namespace Go.Proofs.YtoiampgfnidfdaaGreatDoor
open Go.RowKit

theorem u8_info : (Tryz.prog.info? 5).map (fun i => (i.zero, i.size, i.bytes)) = some (some (.int .u8 0), 1, 1) := by kernel_rfl
theorem u8_slice : Tryz.prog.underlying 56 = some (.slice 5) := by kernel_rfl
def slen : Value → Nat
  | .slice _ n _ => n
  | _ => 0
theorem own_slen {w : World} {base n size : Nat} {e : TypeId} {v : Value} {xs : List Value} (h : w.ownsRow base e size v n xs) : ∃ A cap, v = .slice A n cap := by
  rcases h.2 with ⟨rfl, rfl⟩ | ⟨g, cap, cur, rfl, _⟩
  · exact ⟨none, 0, rfl⟩
  · exact ⟨_, cap, rfl⟩
def padJ (b : List Nat) (j : Nat) : List Nat := b ++ 128 :: List.replicate j 0
theorem padJ_len (b : List Nat) (j : Nat) : (padJ b j).length = b.length + 1 + j := by unfold padJ; simp; omega
theorem padJ_next (b : List Nat) (j : Nat) : padJ b j ++ [0] = padJ b (j + 1) := by unfold padJ; simp [List.replicate_succ']
def padM (b : List Nat) (m : Nat) : List Nat := padJ b (padZ b.length) ++ (lenB b.length).take m
theorem padM_all (b : List Nat) : padM b 8 = pad b := by
  unfold padM padJ pad
  rw [List.take_of_length_le (by simp [lenB])]
theorem padM_next (b : List Nat) (m : Nat) (h : m < 8) : padM b m ++ [b.length * 8 / 2 ^ (56 - 8 * m) % 256] = padM b (m + 1) := by
  unfold padM lenB
  rw [List.take_add_one, List.getElem?_map, List.getElem?_range h, List.append_assoc]
  rfl
theorem padM_len (b : List Nat) (m : Nat) : (padM b m).length ≤ b.length + 1 + padZ b.length + 8 := by
  unfold padM lenB
  rw [List.length_append, padJ_len, List.length_take]
  simp
  omega
theorem wpList_push {ops : Array Oper} {rest : List Oper} {o1 o2 : Oper} {a : Act} {Q : Exit → Act → World → Prop} {X : World} {base : Nat} {l : List Nat} {u : Value} {c : Nat} (g1 : o1.guard = none) (g2 : o2.guard = none) (s p x : Operand)
    (h1 : o1.op = .buildSlice 56 1 #[(0, x)]) (h2 : o2.op = .call { callee := .builtin .append, args := #[s, p], argTypes := #[56, 56] })
    (hx : a.eval x = .int .u8 (c : Int)) (hs : ∀ v, (a.put o1.dst v).eval s = u) (hp : ∀ v, (a.put o1.dst v).eval p = v) (hown : X.ownsRow base 5 1 u l.length (byc l)) (hk : l.length ≤ 10000000) (hbase : base ≤ X.heap.size)
    (h : ∀ v v' w', w'.ownsRow base 5 1 v' (l ++ [c]).length (byc (l ++ [c])) → Below base X w' → wpList Tryz.prog ops Q rest ((a.put o1.dst v).put o2.dst v') w') : wpList Tryz.prog ops Q (o1 :: o2 :: rest) a X := by
  obtain ⟨iu8, hu8, uz0, uz1, uz2⟩ := info_parts u8_info
  refine wpList_plain g1 fun K hK => wp_of_step (stepAt_mono (fun v0 w1 hh => ?_) (step_lit1 (cs := #[.int .u8 (c : Int)]) u8_slice hu8 uz0 uz1 (by decide) (by decide) h1 (by rw [hx]; rfl) rfl))
  obtain ⟨⟨rfl, hl1, b1⟩, hB1⟩ := hh
  refine hK _ _ ?_
  refine wpList_app3 g2 s p h2 u8_slice hu8 uz0 uz1 uz2 rfl (by decide) (cl := [.int .u8 (c : Int)]) rfl (fun v hv => by rw [List.mem_singleton.1 hv]; rfl) (hs _) (hp _) (own_below hown (Nat.le_refl _) hB1) b1 (by unfold maxLen; omega) (by omega) (Nat.le_trans hbase hB1.size) fun v' w' hown' _ hB' _ => ?_
  refine h _ v' w' ?_ ((hB1.mono hbase).trans hB')
  rw [byc_app, List.length_append]
  exact hown'
theorem en_attestor_attestorref07_Pad : ∀ args w, (callFunc 140 args).run Tryz.prog w = .ok (.enter 140 args) w := enters_of Tryz.func140 (by kernel_rfl) rfl
attribute [local irreducible] wpRg
set_option maxRecDepth 100000 in
set_option maxHeartbeats 4000000 in
theorem rPad (b : List Nat) (hn : b.length ≤ 1000000) (v : Value) (lo hi : Nat) (w : World) (h : ByS lo hi w v b) : Calls Tryz.prog 140 #[v] w (RetR (fun lo hi v w => ByS lo hi w v (pad b)) w) := by
  obtain ⟨A, cap, rfl⟩ := h.len
  have HV := Lib.hid h
  have HN := Lib.hid hn
  clear h hn
  go_enter Tryz.func140, Tryz.ntmps140
  obtain ⟨iu8, hu8, uz0, uz1, uz2⟩ := info_parts u8_info
  go_upto_region 1 with (fail)
  refine wp_region_lit ?_
  refine wpList_plain rfl fun K hK => wp_of_step (stepAt_mono (fun v0 w1 hh => ?_) (step_lit0 u8_slice hu8 uz0 rfl))
  obtain ⟨⟨rfl, hl1, b1⟩, hB1⟩ := hh
  refine hK _ _ (wpList_plain rfl fun K2 hK2 => wp_of_step (stepAt_mono (fun v1 w1' hh => ?_) (step_move (u := .slice A b.length cap) rfl rfl)))
  obtain ⟨rfl, hw1⟩ := hh
  rw [hw1]
  refine hK2 _ _ ?_
  clear hw1 hl1
  have hown0 : w1.ownsRow w.heap.size 5 1 (.slice (some ⟨w.heap.size, 0, none⟩) 0 0) 0 (byc []) := ⟨rfl, .inr ⟨w.heap.size, 0, #[], rfl, Nat.le_refl _, b1, Nat.le_refl _, by simp, by simp [byc]⟩⟩
  have hNn := HN.out
  refine wpList_appB rfl _ _ rfl u8_slice hu8 uz0 uz1 uz2 rfl (by decide) (byc_one b) rfl rfl (HV.out.keep hB1) hown0 (by unfold maxLen; omega) (by omega) hB1.size fun v2 w2 hown1 _ hB2 => ?_
  have hown : w2.ownsRow w.heap.size 5 1 v2 b.length (byc b) := by simpa [byc] using hown1
  have HB := hB1.trans hB2
  clear hown0 hown1 hB1 hB2 b1
  go_upto_region 2 with (fail)
  refine wp_region_lit ?_
  refine wpList_plain rfl fun K hK => wp_of_step (stepAt_mono (fun v1 w1' hh => ?_) (step_move (u := v2) rfl rfl))
  obtain ⟨rfl, hw1⟩ := hh
  rw [hw1]
  refine hK _ _ ?_
  refine wpList_push (c := 128) rfl rfl _ _ _ rfl rfl rfl (fun _ => rfl) (fun _ => rfl) hown (by omega) HB.size fun v3 v4 w4 hown4 hB4 => ?_
  have hBw := HB.trans (hB4.mono (Nat.le_refl _))
  clear hown hB4 HB hw1
  rw [show b ++ [128] = padJ b 0 from rfl] at hown4
  go_wp2_with fail
  go_loopw [3] (fun u wr => ∃ j : Nat, j ≤ padZ b.length ∧ wr.ownsRow w.heap.size 5 1 u (padJ b j).length (byc (padJ b j)) ∧ Below w.heap.size w wr) (fun u _ => 100000000 - slen u)
  case atStart => exact ⟨0, Nat.zero_le _, hown4, hBw⟩
  case round =>
    obtain ⟨j, hj, hown, hBr⟩ := hrel
    obtain ⟨A3, c3, rfl⟩ := own_slen hown
    have hlen := padJ_len b j
    have hz := padZ_iff b.length j hj
    rw [← hlen] at hz
    have hsm : (padJ b j).length ≤ 1000100 := by have := padZ_lt b.length; omega
    by_cases hlt : j < padZ b.length
    · have hmod : (padJ b j).length % 64 ≠ 56 := fun h => by have := hz.1 h; omega
      obtain ⟨D, hD⟩ : ∃ D, D = (padJ b j).length := ⟨_, rfl⟩
      rw [← hD] at hmod hsm ⊢
      clear hz hlen
      go_upto_region 4 with (fail)
      refine wp_region_lit ?_
      refine wpList_plain rfl fun K hK => wp_of_step (stepAt_mono (fun v1 w1' hh => ?_) (step_move (u := .slice A3 D c3) rfl rfl))
      obtain ⟨rfl, hw1⟩ := hh
      rw [hw1]
      refine hK _ _ ?_
      rw [hD]
      rw [hD] at hsm
      refine wpList_push (c := 0) rfl rfl _ _ _ rfl rfl rfl (fun _ => rfl) (fun _ => rfl) hown (by omega) hBr.size fun v5 v6 w6 hown6 hB6 => ?_
      rw [padJ_next] at hown6
      have hBw6 := hBr.trans (hB6.mono (Nat.le_refl _))
      clear hown hB6 hw1
      obtain ⟨A6, c6, rfl⟩ := own_slen hown6
      go_wp2_with fail
      have hl6 := padJ_len b (j + 1)
      have hl5 := padJ_len b j
      exact ⟨⟨j + 1, by omega, hown6, hBw6⟩, by simp [slen]; omega⟩
    ·
      have hmod : (padJ b j).length % 64 = 56 := hz.2 (by omega)
      obtain rfl : j = padZ b.length := by omega
      have hp0 : padJ b (padZ b.length) = padM b 0 := by unfold padM; simp
      rw [hp0] at hown hsm hmod ⊢
      clear hz hlen hlt hj hp0
      obtain ⟨L0, hL0⟩ : ∃ L, L = (padM b 0).length := ⟨_, rfl⟩
      rw [← hL0] at hmod hsm ⊢
      have HL := Lib.hid hL0
      clear hL0
      go_wp2_with fail
      have hbn : ((L0 : Int) % 64 != 56) = false := by
        rw [show (L0 : Int) % 64 = 56 by omega]
        rfl
      rw [hbn]
      clear hbn
      go_loopw [3, 5] (fun u i wr => ∃ m : Nat, m ≤ 8 ∧ i = .int .i64 m ∧ wr.ownsRow w.heap.size 5 1 u (padM b m).length (byc (padM b m)) ∧ Below w.heap.size w wr) (fun _ i _ => 8 - (intOf i).toNat)
      case atStart => exact ⟨0, Nat.zero_le _, rfl, by rw [HL.out]; exact hown, hBr⟩
      case round =>
        obtain ⟨m, hm, rfl, hown, hBr⟩ := hrel
        obtain ⟨A5, c5, rfl⟩ := own_slen hown
        by_cases hlt : m < 8
        · go_upto_region 9 with (fail)
          refine wp_region_lit ?_
          iterate 7 (refine wpList_plain rfl fun K hK => ?_; go_big_op; refine hK _ _ ?_; clear hK K)
          have hml := padM_len b m
          have hzl := padZ_lt b.length
          have hNn := HN.out
          refine wpList_push (c := b.length * 8 / 2 ^ (56 - 8 * m) % 256) rfl rfl _ _ _ rfl rfl (by simp [Act.eval]) (fun _ => rfl) (fun _ => rfl) hown (by omega) hBr.size fun v5 v6 w6 hown6 hB6 => ?_
          rw [padM_next b m hlt] at hown6
          have hBw6 := hBr.trans (hB6.mono (Nat.le_refl _))
          clear hown hB6
          obtain ⟨A6, c6, rfl⟩ := own_slen hown6
          have hG := padM_len b (m + 1)
          go_wp2_with fail
          exact ⟨⟨m + 1, by omega, by go_num, hown6, hBw6⟩, by simp [intOf]; omega⟩
        · obtain rfl : m = 8 := by omega
          rw [padM_all] at hown ⊢
          go_wp2_with fail
          refine bodyPost_ret (v := .slice A5 (pad b).length c5) (by simp [results, Tryz.results140, go_sem]) rfl ⟨_, rfl, ?_, hBr⟩
          exact Rd.of_own hown (by rw [← padM_all]; have := padM_len b 8; have := padZ_lt b.length; have := HN.out; omega) (Nat.le_refl _)
end Go.Proofs.YtoiampgfnidfdaaGreatDoor
namespace Go.Proofs.YtoiampgfnidfdaaGreatDoor
open Go.RowKit

theorem w8_info : (Tryz.prog.info? 172).map (fun i => (i.zero, i.size, i.bytes)) = some (some (.agg (List.replicate 8 (Value.int .u32 0)).toArray), 8, 32) := by kernel_rfl
theorem blk64_len (p : List Nat) (k : Nat) (h : 64 * k + 64 ≤ p.length) : (blk64 p k).length = 64 := by
  unfold blk64
  rw [List.length_take, List.length_drop]
  omega
theorem en_attestor_attestorref07_Sum : ∀ args w, (callFunc 116 args).run Tryz.prog w = .ok (.enter 116 args) w := enters_of Tryz.func116 (by kernel_rfl) rfl
attribute [local irreducible] wpRg
set_option maxRecDepth 100000 in
set_option maxHeartbeats 4000000 in
theorem rSum (b : List Nat) (hn : b.length ≤ 1000000) (hb8 : ∀ x ∈ b, x < 256) (v : Value) (lo hi : Nat) (w : World) (h : ByS lo hi w v b) : Calls Tryz.prog 116 #[v] w (Ret (dgv (sha b)) w) := by
  have HV := Lib.hid h
  have HN := Lib.hid hn
  have H8 := Lib.hid (pad_lt b hb8)
  clear h hn hb8
  go_enter Tryz.func116, Tryz.ntmps116
  obtain ⟨i8, hi8, iz0, iz1, iz2⟩ := info_parts w8_info
  go_upto_region 1 with (fail)
  refine wp_stk1 fun W hB hz b2 => ?_
  obtain ⟨cs0, hcs0, b2'⟩ : ∃ cs : Array Value, cs.size = 32 ∧ Blk W w.heap.size 23 cs := ⟨_, rfl, b2⟩
  have hWs : W.heap.size = w.heap.size + 1 := hz.out
  clear b2 hz
  refine wp_region_lit ?_
  refine wpList_plain rfl fun K hK => wp_of_step (stepAt_mono (fun v1 w1 hh => ?_) (step_callv en_attestor_attestorref07_Initial (rInit W) rfl rfl))
  obtain ⟨rfl, hB1⟩ := hh
  refine hK _ _ (wpList_plain rfl fun K2 hK2 => wp_of_step (stepAt_mono (fun v1 w1' hh => ?_) (step_move (u := v) rfl rfl)))
  obtain ⟨rfl, hw1⟩ := hh
  rw [hw1]
  have hBa := hB.trans (hB1.mono hB.size)
  refine hK2 _ _ (wpList_plain rfl fun K3 hK3 => wp_of_step (stepAt_mono (fun v3 w3 hh => ?_) (step_callr en_attestor_attestorref07_Pad (rPad b HN.out v1 lo hi w1 (HV.out.keep hBa)) rfl rfl)))
  obtain ⟨hp3, hB3⟩ := hh
  refine hK3 _ _ (wpList_plain rfl fun K4 hK4 => wp_of_step (stepAt_mono (fun v4 w4 hh => ?_) (step_new0 hi8 iz0 rfl)))
  obtain ⟨rfl, rfl⟩ := hh
  refine hK4 _ _ ?_
  have b4 : Blk (w3.alloc (.cells (Value.agg (List.replicate 8 (Value.int .u32 0)).toArray).cells 172)) w3.heap.size 172 (List.replicate 8 (Value.int .u32 0)).toArray := World.alloc_heap_new w3 _
  have hBw3 := hBa.trans (hB3.mono hBa.size)
  have b23 := (b2'.keep hB1).keep hB3
  have b24 := b23.alloc (.cells (Value.agg (List.replicate 8 (Value.int .u32 0)).toArray).cells 172)
  have hB4 := hBw3.alloc hBw3.size (.cells (Value.agg (List.replicate 8 (Value.int .u32 0)).toArray).cells 172)
  have hp4 := hp3.keep ((Below.refl _ _).alloc (Nat.le_refl _) (.cells (Value.agg (List.replicate 8 (Value.int .u32 0)).toArray).cells 172))
  refine wpList_put rfl 172 (.tmp 3) (.tmp 6) rfl rfl (cells := init8.cells) rfl b4 (by simp [S8.cells]) w8_size (s8_one _) (spl_all _ _ (by simp [S8.cells])) fun X hX bX => ?_
  have hn3 : w.heap.size < w3.heap.size := by
    have h1 := hB1.size
    have h3 := hB3.size
    omega
  obtain ⟨n3, hn3e⟩ : ∃ n, n = w3.heap.size := ⟨_, rfl⟩
  rw [← hn3e] at bX hX hp4 hn3 ⊢
  have hpX : ByS w.heap.size n3 X v3 (pad b) := hX.rd (hp4.wide (by have := hBa.size; omega) (Nat.le_refl _)) (.inr (Nat.le_refl _))
  have b2X := hX.blk b24 (by omega)
  have hBX := below_put hB4 hX (by omega)
  clear hp4 hp3 b23 b24 b4 hB4 hBw3 hB3 hBa hK hK2 hK3 hK4 K K2 K3 K4 hB1 hw1 b2' hn3e hX hB hWs HV
  obtain ⟨A, cap, rfl⟩ := hpX.len
  obtain ⟨N, hN⟩ : ∃ N, N = (pad b).length / 64 := ⟨_, rfl⟩
  have hN64 : (pad b).length = 64 * N := by have := pad_64 b; omega
  have hNs : N ≤ 20000 := by have := pad_length b; have := padZ_lt b.length; have := HN.out; omega
  have HP := Lib.hid hN64
  have HQ := Lib.hid hpX
  have hs0 : shaK (pad b) 0 = init8 := rfl
  rw [← hs0] at bX
  rw [hN64]
  have HE := Lib.hid hN
  clear hN64 hpX hs0 hN
  go_upto_region 2 with (fail)
  go_wp2_with fail
  go_loopw [5] (fun i wr => ∃ k : Nat, k ≤ N ∧ i = .int .i64 ((64 * k : Nat) : Int) ∧ Blk wr n3 172 (shaK (pad b) k).cells.toArray ∧ Blk wr w.heap.size 23 cs0 ∧ ByS w.heap.size n3 wr (.slice A (pad b).length cap) (pad b) ∧ Below w.heap.size w wr) (fun i _ => 64 * N - (intOf i).toNat)
  case atStart => exact ⟨0, Nat.zero_le _, rfl, bX, b2X, HQ.out, hBX⟩
  case round =>
    obtain ⟨k, hk, rfl, b3, b2, hp, hBr⟩ := hrel
    by_cases hlt : k < N
    · have hL := HP.out
      have h0 : 0 < (pad b).length := by omega
      obtain ⟨g, off, cap', hA, hcl, hg1, hg2, hg3, hcell⟩ := bys_cells hp h0
      injection hA with hA1 hA2 hA3
      subst hA1
      subst hA3
      have hcut : ByS w.heap.size n3 wr (.slice (some ⟨g, off + 64 * k, none⟩) (64 * k + 64 - 64 * k) (cap - 64 * k)) (blk64 (pad b) k) := by
        rw [show 64 * k + 64 - 64 * k = 64 by omega]
        exact bys_cut hp (64 * k) 64 (cap - 64 * k) (by omega) (by decide) (by omega)
      have hcp : 64 * k + 64 ≤ cap := by omega
      clear hcell h0 hcl hA2
      have HL := Lib.hid hL
      clear hL
      go_wp2_with fail
      have hcd : decide ((64 * (k : Int)) < 64 * (N : Int)) = true := by simp; omega
      first | rw [hcd] | skip
      clear hcd
      go_upto_region 5 with (fail)
      refine wp_region_rg 7 [(0, Spec.val (s8v (shaK (pad b) k))), (6, Spec.val (s8v (comp (shaK (pad b) k) (blk64 (pad b) k))))] (by kernel_rfl) (by kernel_rfl) (by kernel_rfl) trivial ?_
      refine rg_val rfl rfl (fun W1 hW1 hF => step_loadR (cs := (shaK (pad b) k).cells) w8_under rfl w8_size rfl rfl (blk_range (b3.below (grw_below hW1) b3.lt))) ?_
      intro a' ha
      simp only [Act.put, List.setIfInBounds_toArray, List.set_cons_succ, List.set_cons_zero] at ha
      subst ha
      iterate 5 (refine rg_det rfl rfl rfl (fun K hK => ?_); go_big_quiet_op; refine hK _ ?_; clear hK K)
      refine rg_val rfl rfl (fun W1 hW1 hF => step_callv en_attestor_attestorref07_Compress (rComp (shaK (pad b) k) (blk64 (pad b) k) (blk64_len _ _ (by have := HP.out; omega)) (fun x hx => H8.out x (List.mem_of_mem_drop (List.mem_of_mem_take hx))) _ _ _ W1 (hcut.keep (grw_below hW1))) rfl rfl) ?_
      intro a' ha
      simp only [Act.put, List.setIfInBounds_toArray, List.set_cons_succ, List.set_cons_zero] at ha
      subst ha
      refine rg_nil (fun w' hw' hF => ?_)
      obtain ⟨z, rfl⟩ := hw'
      simp only [List.drop_succ_cons, List.drop_zero]
      have b3z := b3.gw z
      have b2z := b2.gw z
      have hpz : ByS w.heap.size n3 z.w (.slice (some ⟨g, off, none⟩) (pad b).length cap) (pad b) := hp.keep z.h
      have hBz := hBr.trans (z.h.mono hBr.size)
      refine wpList_put rfl 172 (.tmp 3) (.tmp 21) rfl rfl (cells := (shaK (pad b) (k + 1)).cells) rfl b3z (by simp [S8.cells]) w8_size (s8_one _) (spl_all _ _ (by simp [S8.cells])) fun Y hY bY => ?_
      have b2Y := hY.blk b2z (by omega)
      have hpY : ByS w.heap.size n3 Y (.slice (some ⟨g, off, none⟩) (pad b).length cap) (pad b) := hY.rd hpz (.inr (Nat.le_refl _))
      have hBY := below_put hBz hY (by omega)
      clear b3z b2z hpz hBz b3 b2 hp hBr hcut
      go_wp2_with fail
      exact ⟨⟨k + 1, by omega, by congr 1, bY, b2Y, hpY, hBY⟩, by simp [intOf]; omega⟩
    · obtain rfl : k = N := by omega
      have hfin : shaK (pad b) k = shaK (pad b) ((pad b).length / 64) := by rw [← HE.out]
      have HF := Lib.hid hfin
      clear hfin
      go_upto_region 6 with (fail)
      refine wp_region_lit ?_
      refine wpList_plain rfl fun K hK => wp_of_step (stepAt_mono (fun v w' hh => ?_) (step_loadR0 (cs := (shaK (pad b) k).cells) w8_under rfl w8_size rfl rfl (blk_range b3)))
      obtain ⟨rfl, rfl⟩ := hh
      refine hK _ _ (wpList_plain rfl fun K1 hK1 => wp_of_step (stepAt_mono (fun v1 w1 hh => ?_) (step_callv en_attestor_attestorref07_Digest (rDig (shaK (pad b) k) _) rfl rfl)))
      obtain ⟨rfl, hB9⟩ := hh
      refine hK1 _ _ ?_
      refine wpList_put rfl 23 (.tmp 2) (.tmp 23) rfl rfl (cells := byc (digL (shaK (pad b) k))) rfl (b2.keep hB9) (by rw [byc_length, digL_length, hcs0]; decide) (by rw [b32_size, byc_length, digL_length]) (byc_all _) (spl_all _ _ (by rw [hcs0, byc_length, digL_length])) fun Y hY bY => ?_
      have hBY := below_put (hBr.trans (hB9.mono hBr.size)) hY (Nat.le_refl _)
      go_wp2_with fail
      rw [show digL (shaK (pad b) k) = sha b by rw [HF.out]; rfl] at bY
      exact bodyPost_ret (v := dgv (sha b)) (res_row (g := w.heap.size) rfl rfl b32_under rfl (by rw [b32_size, byc_length, sha_length]) bY) rfl ⟨rfl, hBY⟩
end Go.Proofs.YtoiampgfnidfdaaGreatDoor
