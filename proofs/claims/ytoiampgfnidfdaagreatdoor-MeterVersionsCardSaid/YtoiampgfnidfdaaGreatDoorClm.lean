/-
  The program's SHA-256: the schedule.
  The program's SHA-256: one block.
  What the package variables of SHA-256 hold: the laws of their reading.
  A range over an iterator that keeps a variable of its own in a box and stores into it between the rounds; the rounds all go on.
  The law of a region that draws its order, for a region in which some moves may come late: behind the first of the forced stores, which may store where they please.
  Round of package sumcheck, by contract.
  Prove of package sumcheck, by contract.
  Verify of package sumcheck: the iterator over the results of the rounds, by contract.
  Verify of package sumcheck, by contract.
  A range over an iterator that keeps variables of its own in blocks that it makes itself; two values a round; the rounds all go on.
  Claims as they lie in memory; the iterator over claims and powers, by contract.
-/
import Derived.Test.YtoiampgfnidfdaaGreatDoorGb3
import Derived.Laws.CopyRow
import Derived.Test.YtoiampgfnidfdaaGreatDoorShc
import Derived.Test.YtoiampgfnidfdaaGreatDoorZv
import Derived.Sort.CutIn
namespace Go.Proofs.YtoiampgfnidfdaaGreatDoor
open Go.RowKit

theorem en_attestor_sha256_schedule : ∀ args w, (callFunc 161 args).run Tryz.prog w = .ok (.enter 161 args) w := enters_of Tryz.func161 (by kernel_rfl) rfl
def pwN (b : List Nat) (k : Nat) : Nat → Nat
  | 0 => 0
  | j + 1 => pwN b k j * 256 + b.getD (4 * k + j) 0
theorem pwN_lt (b : List Nat) (h : ∀ x ∈ b, x < 256) (k : Nat) : ∀ j, pwN b k j < 256 ^ j
  | 0 => Nat.one_pos
  | j + 1 => by
    have h1 := pwN_lt b h k j
    have h2 : b.getD (4 * k + j) 0 < 256 := by
      rw [List.getD_eq_getElem?_getD]
      cases hx : b[4 * k + j]? with
      | none => decide
      | some x => exact h x (List.mem_of_getElem? hx)
    rw [pwN, Nat.pow_succ]
    omega
theorem pwN_four (b : List Nat) (k : Nat) : BitVec.ofNat 32 (pwN b k 4) = word4 b k := by
  have h : pwN b k 4 = b.getD (4 * k) 0 * 16777216 + b.getD (4 * k + 1) 0 * 65536 + b.getD (4 * k + 2) 0 * 256 + b.getD (4 * k + 3) 0 := by
    unfold pwN
    unfold pwN
    unfold pwN
    unfold pwN
    unfold pwN
    rw [Nat.add_zero]
    omega
  rw [h]
  rfl
theorem arrN_put (n : Nat) (l : List B32) (x y : B32) : (arrN n (l ++ [x])).set l.length (.int .u32 (bv y)) = arrN n (l ++ [y]) := by
  unfold arrN u32c
  simp
theorem arrN_pad (n : Nat) (l : List B32) (h : l.length < n) : arrN n l = arrN n (l ++ [0]) := by
  unfold arrN
  congr 1
  rw [List.append_assoc, show n - l.length = (n - (l ++ [0]).length) + 1 by rw [List.length_append, List.length_singleton]; omega, List.replicate_succ]
  rfl
theorem arrN_at (n : Nat) (l : List B32) (x : B32) : (arrN n (l ++ [x]))[l.length]? = some (.int .u32 (bv x)) := arrN_get n (l ++ [x]) l.length x (by simp)
theorem u32_shl_or (y x : Nat) (hy : y < 16777216) (hx : x < 256) : bits .or .u32 ((y : Int) * 256) (x : Int) = ((y * 256 + x : Nat) : Int) := by
  rw [show (y : Int) * 256 = ((y * 256 : Nat) : Int) by omega, u32_or_nat _ _ (by omega) (by omega)]
  congr 1
  rw [show y * 256 = 2 ^ 8 * y by omega]
  exact (Nat.two_pow_add_eq_or_of_lt (i := 8) (by omega) y).symm
theorem sg_val (x : B32) (p q s : Nat) : bits .xor .u32 (bits .xor .u32 (bv (rotr x p)) (bv (rotr x q))) (bv x / 2 ^ s) = bv (rotr x p ^^^ rotr x q ^^^ x >>> s) := by
  rw [bv_shr, bv_xor, bv_xor]
attribute [local irreducible] wpRg
set_option maxRecDepth 100000 in
set_option maxHeartbeats 4000000 in
theorem gSched (b : List Nat) (hb : b.length = 64) (hb8 : ∀ x ∈ b, x < 256) (v : Value) (lo hi : Nat) (w : World) (h : ByS lo hi w v b) : Calls Tryz.prog 161 #[v] w (Ret (arrV (sched b)) w) := by
  obtain ⟨g, off, cap, rfl, hcap, -, -, lg, qg⟩ := bys_cells h (by omega)
  rw [hb] at hcap ⊢
  have HQ := Lib.hid qg
  have HB := Lib.hid hb
  have H8 := Lib.hid hb8
  clear h hb hb8 qg
  go_enter Tryz.func161, Tryz.ntmps161
  go_upto_region 2 with (fail)
  refine wp_stk2 fun W hB hz b2 b3 => ?_
  obtain ⟨cs0, hcs0, b2'⟩ : ∃ cs : Array Value, cs.size = 64 ∧ Blk W w.heap.size 188 cs := ⟨_, rfl, b2⟩
  have b3' : Blk W (w.heap.size + 1) 188 (arrN 64 (schK b 0)).toArray := by rw [schK_zero, arrN_zero]; exact b3
  clear b2 b3 hz
  obtain ⟨g3, hg3⟩ : ∃ g, g = w.heap.size + 1 := ⟨_, rfl⟩
  rw [← hg3] at b3' ⊢
  have hg3a : w.heap.size < g3 := by omega
  clear hg3
  go_wp2_with fail
  go_loopw [12] (fun i wr => ∃ k : Nat, k ≤ 16 ∧ i = .int .i64 k ∧ Blk wr g3 188 (arrN 64 (schK b k)).toArray ∧ (∃ cs, Blk wr w.heap.size 188 cs ∧ cs.size = 64) ∧ Below w.heap.size w wr) (fun i _ => 16 - (intOf i).toNat)
  case atStart => exact ⟨0, Nat.zero_le _, rfl, b3', ⟨cs0, b2', hcs0⟩, hB⟩
  case round =>
    obtain ⟨k, hk, rfl, b3, ⟨cs, b2, hcs⟩, hBr⟩ := hrel
    by_cases hlt : k < 16
    · have hk4 : 4 * k + 4 ≤ cap := by omega
      rw [arrN_pad 64 _ (by rw [schK_length]; omega)] at b3
      go_wp2_with fail
      go_loopw [23] (fun i wr => ∃ j : Nat, j ≤ 4 ∧ i = .int .i64 j ∧ Blk wr g3 188 (arrN 64 (schK b k ++ [BitVec.ofNat 32 (pwN b k j)])).toArray ∧ (∃ cs, Blk wr w.heap.size 188 cs ∧ cs.size = 64) ∧ Below w.heap.size w wr) (fun i _ => 4 - (intOf i).toNat)
      case atStart => exact ⟨0, Nat.zero_le _, rfl, b3, ⟨cs, b2, hcs⟩, hBr⟩
      case round =>
        clear b2 hcs cs b3 hBr
        obtain ⟨j, hj, rfl, b3, ⟨cs, b2, hcs⟩, hBr⟩ := hrel
        by_cases hlj : j < 4
        · obtain ⟨x, hx⟩ : ∃ x, b[4 * k + j]? = some x := ⟨_, List.getElem?_eq_getElem (by rw [HB.out]; omega)⟩
          have hx8 := H8.out x (List.mem_of_getElem? hx)
          have c1 := (hBr.cell (p := ⟨g, off + (4 * k + j), none⟩) lg).trans (HQ.out _ x hx)
          rw [show off + (4 * k + j) = off + 4 * k + j by omega] at c1
          have hN : pwN b k (j + 1) = pwN b k j * 256 + x := by
            rw [pwN, List.getD_eq_getElem?_getD, hx]
            rfl
          have hle : pwN b k j < 16777216 := by
            have h1 := pwN_lt b H8.out k j
            have h2 : 256 ^ j ≤ 256 ^ 3 := Nat.pow_le_pow_right (by decide) (by omega)
            omega
          have c2 : wr.cell? ⟨g3, k, none⟩ = some (.int .u32 ((pwN b k j : Nat) : Int)) := by
            rw [b3.cell, ← bv_ofNat (pwN b k j) (by omega)]
            have := arrN_at 64 (schK b k) (BitVec.ofNat 32 (pwN b k j))
            rw [schK_length] at this
            simpa using this
          have e1 := b3.frozen
          have HN := Lib.hid hN
          clear hN
          obtain ⟨y, hy⟩ : ∃ y, y = pwN b k j := ⟨_, rfl⟩
          rw [← hy] at c2 hle
          have HY := Lib.hid hy
          clear hy
          have HOR := Lib.hid (u32_shl_or y x hle hx8)
          go_wp2_with fail
          rw [HOR.out]
          refine ⟨⟨j + 1, by omega, by go_num, ?_⟩, by simp [intOf]; omega⟩
          refine set1 (M := fun W => Blk W g3 188 (arrN 64 (schK b k ++ [BitVec.ofNat 32 (pwN b k (j + 1))])).toArray ∧ (∃ cs, Blk W w.heap.size 188 cs ∧ cs.size = 64) ∧ Below w.heap.size w W) b3 fun X hX bX => ⟨?_, ⟨cs, hX.blk b2 (by omega), hcs⟩, below_put hBr hX (by omega)⟩
          rw [HN.out, ← HY.out, ← arrN_put 64 (schK b k) (BitVec.ofNat 32 y) (BitVec.ofNat 32 (y * 256 + x)), bv_ofNat _ (by omega), schK_length, HY.out, ← List.setIfInBounds_toArray, ← HY.out]
          rw [← HY.out] at bX
          exact bX
        · obtain rfl : j = 4 := by omega
          rw [pwN_four, ← schK_low b k hlt] at b3
          go_wp2_with fail
          exact ⟨⟨k + 1, by omega, by go_num, b3, ⟨cs, b2, hcs⟩, hBr⟩, by simp [intOf]; omega⟩
    · obtain rfl : k = 16 := by omega
      go_wp2_with fail
      go_loopw [7] (fun i wr => ∃ k : Nat, 16 ≤ k ∧ k ≤ 64 ∧ i = .int .i64 k ∧ Blk wr g3 188 (arrN 64 (schK b k)).toArray ∧ (∃ cs, Blk wr w.heap.size 188 cs ∧ cs.size = 64) ∧ Below w.heap.size w wr) (fun i _ => 64 - (intOf i).toNat)
      case atStart => exact ⟨16, by omega, by omega, rfl, b3, ⟨cs, b2, hcs⟩, hBr⟩
      case round =>
        clear b2 hcs cs b3 hBr
        obtain ⟨k, hk16, hk, rfl, b3, ⟨cs, b2, hcs⟩, hBr⟩ := hrel
        by_cases hlt : k < 64
        · have q : ∀ j, j < k → wr.cell? ⟨g3, j, none⟩ = some (.int .u32 (bv ((schK b k).getD j 0))) := fun j hj => by
            rw [b3.cell]
            have := arrN_get 64 (schK b k) j ((schK b k).getD j 0) (by rw [List.getD_eq_getElem?_getD, List.getElem?_eq_getElem (by rw [schK_length]; exact hj)]; rfl)
            simpa using this
          have hS := schK_high b k (by omega)
          obtain ⟨v16, e16⟩ : ∃ x, x = (schK b k).getD (k - 16) 0 := ⟨_, rfl⟩
          obtain ⟨v15, e15⟩ : ∃ x, x = (schK b k).getD (k - 15) 0 := ⟨_, rfl⟩
          obtain ⟨v7', e7⟩ : ∃ x, x = (schK b k).getD (k - 7) 0 := ⟨_, rfl⟩
          obtain ⟨v2, e2'⟩ : ∃ x, x = (schK b k).getD (k - 2) 0 := ⟨_, rfl⟩
          have q16 := q (k - 16) (by omega)
          have q15 := q (k - 15) (by omega)
          have q7 := q (k - 7) (by omega)
          have q2 := q (k - 2) (by omega)
          rw [← e16, ← e15, ← e7, ← e2'] at hS
          rw [← e16] at q16
          rw [← e15] at q15
          rw [← e7] at q7
          rw [← e2'] at q2
          have HS := Lib.hid hS
          have l3 := b3.lt
          have f16 := gw_cell l3 q16
          have f15 := gw_cell l3 q15
          have f7 := gw_cell l3 q7
          have f2 := gw_cell l3 q2
          clear q hS e16 e15 e7 e2' q16 q15 q7 q2
          go_wp2_with fail
          refine wp_region_rg 9 [] (by kernel_rfl) (by kernel_rfl) (by kernel_rfl) trivial ?_
          iterate 9 (refine rg_det rfl rfl rfl (fun K hK => ?_); go_big_quiet_op; refine hK _ ?_; clear hK K)
          refine rg_nil (fun w' hw' hF => ?_)
          obtain ⟨z, rfl⟩ := hw'
          simp only [List.drop_succ_cons, List.drop_zero]
          have b3z := b3.gw z
          have b2z := b2.gw z
          have hBz := hBr.trans (z.h.mono hBr.size)
          have l3z := b3z.lt
          have y16 := (f16 z)
          have y7 := (f7 z)
          clear hF f16 f15 f7 f2
          have hB0 := Below.refl z.w.heap.size z.w
          go_wp2_with fail
          refine (gRotL v15 7 (by decide) (by decide) z.w).mono ?_
          rintro e w1 ⟨rfl, hbw1⟩
          simp only []
          have hB1 := hB0.trans (hbw1.mono hB0.size)
          go_wp2_with fail
          refine (gRotL v15 18 (by decide) (by decide) w1).mono ?_
          rintro e w2 ⟨rfl, hbw2⟩
          simp only []
          have hB2 := hB1.trans (hbw2.mono hB1.size)
          go_upto_region 16 with (fail)
          rw [show bits .xor .u32 (bits .xor .u32 (bv (rotr v15 7)) (bv (rotr v15 18))) (bv v15 / 8) = bv (sg0 v15) from sg_val v15 7 18 3]
          go_wp2_with fail
          refine (gRotL v2 17 (by decide) (by decide) w2).mono ?_
          rintro e w3 ⟨rfl, hbw3⟩
          simp only []
          have hB3 := hB2.trans (hbw3.mono hB2.size)
          go_wp2_with fail
          refine (gRotL v2 19 (by decide) (by decide) w3).mono ?_
          rintro e w4 ⟨rfl, hbw4⟩
          simp only []
          have hB4 := hB3.trans (hbw4.mono hB3.size)
          go_upto_region 17 with (fail)
          rw [show bits .xor .u32 (bits .xor .u32 (bv (rotr v2 17)) (bv (rotr v2 19))) (bv v2 / 1024) = bv (sg1 v2) from sg_val v2 17 19 10]
          have b3w := b3z.keep hB4
          have b2w := b2z.keep hB4
          have hBw := hBz.trans (hB4.mono hBz.size)
          have f16 := gw_cell (W := w4) b3w.lt ((hB4.cell (p := ⟨g3, k - 16, none⟩) l3z).trans y16)
          have f7 := gw_cell (W := w4) b3w.lt ((hB4.cell (p := ⟨g3, k - 7, none⟩) l3z).trans y7)
          clear hbw1 hbw2 hbw3 hbw4 hB0 hB1 hB2 hB3 hB4 y16 y7 b3z b2z hBz l3z
          refine wp_region_rg 14 [] (by kernel_rfl) (by kernel_rfl) (by kernel_rfl) trivial ?_
          iterate 14 (refine rg_det rfl rfl rfl (fun K hK => ?_); go_big_quiet_op; refine hK _ ?_; clear hK K)
          refine rg_nil (fun w' hw' hF => ?_)
          obtain ⟨y, rfl⟩ := hw'
          simp only [List.drop_succ_cons, List.drop_zero]
          have b3y := b3w.gw y
          have b2y := b2w.gw y
          have hBy := hBw.trans (y.h.mono hBw.size)
          have e1 := b3y.frozen
          have e2 : y.w.cell? ⟨g3, k, none⟩ = some (.int .u32 0) := (b3y.cell k).trans (by have := arrN_next 64 (schK b k) (by rw [schK_length]; exact hlt); rw [schK_length] at this; simpa using this)
          clear hF f16 f7 b3w b2w hBw
          go_upto_region 13 with (fail)
          rw [bv_add4]
          refine set1 (M := fun W => Code.wp _ _ _ _ W) b3y fun X hX bX => ?_
          have b3X : Blk X g3 188 (arrN 64 (schK b (k + 1))).toArray := by
            rw [HS.out, ← arrN_set 64 (schK b k) _ (by rw [schK_length]; exact hlt), schK_length]
            rw [← List.setIfInBounds_toArray]
            exact bX
          have b2X := hX.blk b2y (by omega)
          have hBX := below_put hBy hX (by omega)
          clear e1 e2 bX b3y b2y
          go_wp2_with fail
          exact ⟨⟨k + 1, by omega, by omega, by go_num, b3X, ⟨cs, b2X, hcs⟩, hBX⟩, by simp [intOf]; omega⟩
        · obtain rfl : k = 64 := by omega
          rw [schK_all, arrN_full 64 _ (sched_length b)] at b3
          clear HQ HB H8
          go_upto_region 18 with (fail)
          refine wp_carry 188 (u32c (sched b)) _ _ _ _ rfl rfl rfl rfl w64_under rfl (by rw [w64_size, u32c_len, sched_length]) (u32c_one _) rfl (fun _ => rfl) (fun _ => rfl) b3 b2 (by rw [hcs, u32c_len, sched_length]) fun X v hX bX => ?_
          have hBX : Below w.heap.size w X := below_put hBr hX (by omega)
          go_wp2_with fail
          exact bodyPost_ret (v := arrV (sched b)) (res_row (g := w.heap.size) rfl rfl w64_under rfl (by rw [w64_size, u32c_len, sched_length]) bX) rfl ⟨rfl, hBX⟩
end Go.Proofs.YtoiampgfnidfdaaGreatDoor
namespace Go.Proofs.YtoiampgfnidfdaaGreatDoor
open Go.RowKit

structure Lsh (w : World) : Prop where
  i8 : w.rangeAt 0 0 init8.cells
  kt : w.rangeAt 4 0 (u32c kTabB)
  sz : 0 < w.heap.size ∧ 4 < w.heap.size
theorem Lsh.keep {w X : World} (h : Lsh w) (hb : Below w.heap.size w X) : Lsh X :=
  ⟨fun j v hv => (hb.cell (p := ⟨0, 0 + j, none⟩) h.sz.1).trans (h.i8 j v hv), fun j v hv => (hb.cell (p := ⟨4, 0 + j, none⟩) h.sz.2).trans (h.kt j v hv), Nat.lt_of_lt_of_le h.sz.1 hb.size, Nat.lt_of_lt_of_le h.sz.2 hb.size⟩
theorem Lsh.below {w X : World} {N : Nat} (h : Lsh w) (hb : Below N w X) (hN : 0 < N ∧ 4 < N) : Lsh X :=
  ⟨fun j v hv => (hb.cell (p := ⟨0, 0 + j, none⟩) hN.1).trans (h.i8 j v hv), fun j v hv => (hb.cell (p := ⟨4, 0 + j, none⟩) hN.2).trans (h.kt j v hv), Nat.lt_of_lt_of_le h.sz.1 hb.size, Nat.lt_of_lt_of_le h.sz.2 hb.size⟩
theorem Lsh.put {w X : World} {g : Nat} (h : Lsh w) (hp : Put w X g) (hg : 0 < g ∧ 4 < g) : Lsh X := h.below (hp.below (Nat.le_refl _)) hg
theorem Lsh.const {w : World} (h : Lsh w) (k : Nat) (hk : k < 64) : w.cell? ⟨4, k, none⟩ = some (.int .u32 (bv (kTabB.getD k 0))) := by
  have hl : k < kTabB.length := by rw [kTabB_length]; exact hk
  have := h.kt k (.int .u32 (bv (kTabB.getD k 0))) (by
    unfold u32c
    rw [List.getElem?_map, List.getElem?_eq_getElem hl, List.getD_eq_getElem?_getD, List.getElem?_eq_getElem hl]
    rfl)
  rwa [Nat.zero_add] at this
structure Mut (w X : World) (g : Nat) : Prop where
  os : X.os = w.os
  tape : X.tape = w.tape
  output : X.output = w.output
  size : w.heap.size ≤ X.heap.size
  other : ∀ k, k < w.heap.size → k ≠ g → X.heap[k]? = w.heap[k]?
theorem Mut.of_below {w X : World} {g : Nat} (h : Below w.heap.size w X) : Mut w X g := ⟨h.os, h.tape, h.output, h.size, fun k hk _ => h.block k hk⟩
theorem Mut.put {w X Y : World} {g : Nat} (h : Mut w X g) (p : Put X Y g) : Mut w Y g := ⟨p.os.trans h.os, p.tape.trans h.tape, p.output.trans h.output, by rw [p.size]; exact h.size, fun k hk hne => (p.other k hne).trans (h.other k hk hne)⟩
theorem Mut.below {w X Y : World} {g : Nat} (h : Mut w X g) (p : Below X.heap.size X Y) : Mut w Y g := ⟨p.os.trans h.os, p.tape.trans h.tape, p.output.trans h.output, Nat.le_trans h.size p.size, fun k hk hne => (p.block k (Nat.lt_of_lt_of_le hk h.size)).trans (h.other k hk hne)⟩
theorem st_info : (Tryz.prog.info? 178).map (fun i => (i.zero, i.size, i.bytes)) = some (some (.agg (List.replicate 8 (Value.int .u32 0)).toArray), 8, 32) := by kernel_rfl
theorem st_size : (Tryz.prog.info? 178).map (·.size) = some 8 := by kernel_rfl
theorem st_under : Tryz.prog.underlying 178 = some (.array 8 169) := by kernel_rfl
structure CmpS (w W : World) (n4 n5 g0 : Nat) (ty : TypeId) (sc : List B32) (r s : S8) : Prop where
  b4 : Blk W n4 188 (u32c sc).toArray
  b5 : Blk W n5 178 r.cells.toArray
  bg : Blk W g0 ty s.cells.toArray
  hB : Below w.heap.size w W
section
variable {w W X : World} {n4 n5 g0 : Nat} {ty : TypeId} {sc : List B32} {r s : S8}
theorem CmpS.keep (h : CmpS w W n4 n5 g0 ty sc r s) (hb : Below W.heap.size W X) : CmpS w X n4 n5 g0 ty sc r s := ⟨h.b4.keep hb, h.b5.keep hb, h.bg.keep hb, h.hB.trans (hb.mono h.hB.size)⟩
theorem CmpS.c0 (h : CmpS w W n4 n5 g0 ty sc r s) : W.cell? ⟨n5, 0, none⟩ = some (.int .u32 (bv r.a)) := (h.b5.cell 0).trans rfl
theorem CmpS.c1 (h : CmpS w W n4 n5 g0 ty sc r s) : W.cell? ⟨n5, 1, none⟩ = some (.int .u32 (bv r.b)) := (h.b5.cell 1).trans rfl
theorem CmpS.c2 (h : CmpS w W n4 n5 g0 ty sc r s) : W.cell? ⟨n5, 2, none⟩ = some (.int .u32 (bv r.c)) := (h.b5.cell 2).trans rfl
theorem CmpS.c4 (h : CmpS w W n4 n5 g0 ty sc r s) : W.cell? ⟨n5, 4, none⟩ = some (.int .u32 (bv r.e)) := (h.b5.cell 4).trans rfl
theorem CmpS.c5 (h : CmpS w W n4 n5 g0 ty sc r s) : W.cell? ⟨n5, 5, none⟩ = some (.int .u32 (bv r.f)) := (h.b5.cell 5).trans rfl
theorem CmpS.c6 (h : CmpS w W n4 n5 g0 ty sc r s) : W.cell? ⟨n5, 6, none⟩ = some (.int .u32 (bv r.g)) := (h.b5.cell 6).trans rfl
theorem CmpS.c7 (h : CmpS w W n4 n5 g0 ty sc r s) : W.cell? ⟨n5, 7, none⟩ = some (.int .u32 (bv r.h)) := (h.b5.cell 7).trans rfl
end
theorem ch_val (e f g : B32) : bits .xor .u32 (bits .and .u32 (bv e) (bv f)) (bits .and .u32 (bits .xor .u32 (if IntKind.u32.signed = true then -1 else IntKind.u32.max) (bv e)) (bv g)) = bv (chE e f g) := by
  rw [show (if IntKind.u32.signed = true then (-1 : Int) else IntKind.u32.max) = bv (BitVec.allOnes 32) by decide, bv_xor, bv_and, bv_and, bv_xor, BitVec.allOnes_xor]
  rfl
theorem b3_val (x : B32) (p q s : Nat) : bits .xor .u32 (bits .xor .u32 (bv (rotr x p)) (bv (rotr x q))) (bv (rotr x s)) = bv (rotr x p ^^^ rotr x q ^^^ rotr x s) := by
  rw [bv_xor, bv_xor]
theorem mj_val (a b c : B32) : bits .xor .u32 (bits .xor .u32 (bits .and .u32 (bv a) (bv b)) (bits .and .u32 (bv a) (bv c))) (bits .and .u32 (bv b) (bv c)) = bv (maj a b c) := by
  rw [bv_and, bv_and, bv_and, bv_xor, bv_xor, maj_xor]
theorem bv_add5 (a b c d e : B32) : (bv a + bv b + bv c + bv d + bv e) % 4294967296 = bv (a + b + c + d + e) := by
  unfold bv
  rw [BitVec.toNat_add, BitVec.toNat_add, BitVec.toNat_add, BitVec.toNat_add]
  omega
theorem bv_add3 (a b c : B32) : (bv a + bv b + bv c) % 4294967296 = bv (a + b + c) := by
  unfold bv
  rw [BitVec.toNat_add, BitVec.toNat_add]
  omega
def S8.get (s : S8) (j : Nat) : B32 := [s.a, s.b, s.c, s.d, s.e, s.f, s.g, s.h].getD j 0
theorem S8.at {s : S8} {j : Nat} (h : j < 8) : s.cells[j]? = some (.int .u32 (bv (s.get j))) := by
  rcases j with _ | _ | _ | _ | _ | _ | _ | _ | j
  all_goals first | rfl | omega
def adK (s r : S8) (j : Nat) : List Value := (s.add r).cells.take j ++ s.cells.drop j
theorem adK_at (s r : S8) (j : Nat) (h : j < 8) : (adK s r j)[j]? = some (.int .u32 (bv (s.get j))) := by
  rcases j with _ | _ | _ | _ | _ | _ | _ | _ | j
  all_goals first | rfl | omega
theorem adK_set (s r : S8) (j : Nat) (h : j < 8) : (adK s r j).set j (.int .u32 (bv (s.get j + r.get j))) = adK s r (j + 1) := by
  rcases j with _ | _ | _ | _ | _ | _ | _ | _ | j
  all_goals first | rfl | omega
theorem put_setRow {w : World} {g : Nat} {t : TypeId} {cs ds : Array Value} (b : Blk w g t cs) : Put w (w.setRow g ds) g ∧ Blk (w.setRow g ds) g t ds :=
  ⟨⟨rfl, rfl, rfl, by simp [World.setRow], fun k hk => setRow_other w g k ds (fun e => hk e)⟩, setRow_heap w g cs ds t _ b⟩
theorem step_copy {P : Program} {o : Oper} {a : Act} {w : World} {d s : Operand} {dT sT elem : TypeId} {g og os dLen dCap sLen sCap : Nat} {cur : Array Value} {t : TypeId} (cs : List Value) (ho : o.op = .call { callee := .builtin .copy, args := #[d, s], argTypes := #[dT, sT] })
    (hd : a.eval d = .slice (some ⟨g, og, none⟩) dLen dCap) (hs : a.eval s = .slice (some ⟨g, os, none⟩) sLen sCap) (hu : P.underlying dT = some (.slice elem)) (hi : (P.info? elem).map (·.size) = some 1) (b : Blk w g t cur) (hn : cs.length = Nat.min sLen dLen)
    (hsrc : ∀ j v, cs[j]? = some v → cur[os + j]? = some v) (hfit : og + cs.length ≤ cur.size) (h1 : ∀ v ∈ cs, v.oneCell' = true) :
    stepAt P o a w fun v w' => Put w w' g ∧ Blk w' g t (cur.toList.take og ++ cs ++ cur.toList.drop (og + cs.length)).toArray := by
  have hr := run_copy_row (P := P) w dT sT o.type elem g og dLen dCap ⟨g, os, none⟩ sLen sCap cur t cs hu hi b hn (fun j v hv => by
    have := hsrc j v hv
    rw [show (⟨g, os, none⟩ : Addr).add j = ⟨g, os + j, none⟩ by unfold Addr.add; split <;> simp_all, b.cell]
    exact this) hfit h1
  unfold stepAt execOp
  simp only [ho, resolve, invoke, builtin, Sem.run_bind, Sem.run_pure, Result.andThen_ok, List.map_toArray, List.map_cons, List.map_nil, hd, hs, hr]
  exact put_setRow b
theorem u32s_under : Tryz.prog.underlying 194 = some (.slice 169) := by kernel_rfl
theorem u32_size1 : (Tryz.prog.info? 169).map (·.size) = some 1 := by kernel_rfl
def sh8 (r : S8) : S8 := ⟨r.a, r.a, r.b, r.c, r.d, r.e, r.f, r.g⟩
theorem step_cp8 {o : Oper} {a : Act} {w : World} {d s : Operand} {g : Nat} {t : TypeId} {r : S8} (ho : o.op = .call { callee := .builtin .copy, args := #[d, s], argTypes := #[194, 194] })
    (hd : a.eval d = .slice (some ⟨g, 1, none⟩) 7 7) (hs : a.eval s = .slice (some ⟨g, 0, none⟩) 7 8) (b : Blk w g t r.cells.toArray) : stepAt Tryz.prog o a w fun _ w' => Put w w' g ∧ Blk w' g t (sh8 r).cells.toArray := by
  refine stepAt_mono (fun v w' hh => hh) (step_copy (cs := [.int .u32 (bv r.a), .int .u32 (bv r.b), .int .u32 (bv r.c), .int .u32 (bv r.d), .int .u32 (bv r.e), .int .u32 (bv r.f), .int .u32 (bv r.g)]) ho hd hs u32s_under u32_size1 b rfl (fun j v hv => ?_) (by simp [S8.cells]) (fun v hv => ?_))
  · rcases j with _ | _ | _ | _ | _ | _ | _ | j
    all_goals first | exact hv | cases hv
  · simp only [List.mem_cons, List.not_mem_nil, or_false] at hv
    rcases hv with rfl | rfl | rfl | rfl | rfl | rfl | rfl <;> rfl
theorem u32_under : Tryz.prog.underlying 169 = some (.int .u32) := by kernel_rfl
theorem run_ix8 (r : S8) (k : Nat) (hk : k < 8) (w : World) : (Instr.index 178 (.agg r.cells.toArray) (.int .i64 (k : Int))).run Tryz.prog w = .ok (.int .u32 (bv (r.get k))) w := by
  obtain ⟨i, hi, hs⟩ : ∃ i, Tryz.prog.info? 169 = some i ∧ i.size = 1 := by
    have := u32_size1
    cases h : Tryz.prog.info? 169 with
    | none => rw [h] at this; cases this
    | some i => rw [h] at this; exact ⟨i, rfl, by simpa using this⟩
  have h1 : (k : Int) < 8 := by omega
  rcases k with _ | _ | _ | _ | _ | _ | _ | _ | k
  all_goals first | omega | simp [Instr.index, asIntOf, run_underlying st_under, run_underlying u32_under, part, sizeOf, typeInfo, hi, hs, S8.cells, S8.get]
theorem bv_add2 (a b : B32) : (bv a + bv b) % 4294967296 = bv (a + b) := bv_add' a b
attribute [local irreducible] wpRg
set_option maxRecDepth 100000 in
set_option maxHeartbeats 4000000 in
theorem gCompress (s : S8) (b : List Nat) (hb : b.length = 64) (hb8 : ∀ x ∈ b, x < 256) (v : Value) (lo hi g0 : Nat) (ty : TypeId) (w : World) (hL : Lsh w) (h0 : Blk w g0 ty s.cells.toArray) (h : ByS lo hi w v b) :
    Calls Tryz.prog 145 #[.pointer (some ⟨g0, 0, none⟩), v] w fun e w' => e = .returned (.tuple #[]) ∧ Blk w' g0 ty (comp s b).cells.toArray ∧ Mut w w' g0 := by
  have HV := Lib.hid h
  have HB := Lib.hid hb
  have H8 := Lib.hid hb8
  clear h hb hb8
  go_enter Tryz.func145, Tryz.ntmps145
  obtain ⟨i64', hi64, iz0, iz1, iz2⟩ := info_parts w64_info
  obtain ⟨ist, hist, sz0, sz1, sz2⟩ := info_parts st_info
  go_upto_region 0 with (fail)
  refine wp_region_lit ?_
  iterate 1 (refine wpList_plain rfl fun K hK => ?_; go_big_op; refine hK _ _ ?_; clear hK K)
  refine wpList_plain rfl fun K2 hK2 => wp_of_step (stepAt_mono (fun v17 w1 hh => ?_) (step_callv en_attestor_sha256_schedule (gSched b HB.out H8.out _ lo hi w HV.out) rfl rfl))
  obtain ⟨rfl, B1⟩ := hh
  refine hK2 _ _ ?_
  clear hK2 K2
  try simp only [Act.put, List.setIfInBounds_toArray, List.set_cons_succ, List.set_cons_zero]
  refine wpList_plain rfl fun K3 hK3 => wp_of_step (stepAt_mono (fun v4 w2 hh => ?_) (step_new0 hi64 iz0 rfl))
  obtain ⟨rfl, rfl⟩ := hh
  refine hK3 _ _ ?_
  clear hK3 K3
  try simp only [Act.put, List.setIfInBounds_toArray, List.set_cons_succ, List.set_cons_zero]
  have b4 : Blk (w1.alloc (.cells (Value.agg (zl 64).toArray).cells 188)) w1.heap.size 188 (zl 64).toArray := World.alloc_heap_new w1 _
  have B2 := B1.alloc B1.size (.cells (Value.agg (zl 64).toArray).cells 188)
  refine wpList_put rfl 188 (.tmp 4) (.tmp 17) rfl rfl (cells := u32c (sched b)) rfl b4 (by rw [u32c_len, sched_length]; simp [zl]) (by rw [w64_size, u32c_len, sched_length]) (u32c_one _) (spl_all _ _ (by rw [u32c_len, sched_length]; simp [zl])) fun X hX bX => ?_
  have hn4 : g0 < w1.heap.size := Nat.lt_of_lt_of_le h0.lt B1.size
  have hn4w : w.heap.size ≤ w1.heap.size := B1.size
  have bg := hX.blk (h0.below B2 h0.lt) (by omega)
  have BX := below_put B2 hX hn4w
  obtain ⟨n4, hn4e⟩ : ∃ n, n = w1.heap.size := ⟨_, rfl⟩
  rw [← hn4e] at bX hn4 hn4w ⊢
  clear b4 B2 B1 hX hn4e iz0 iz1 iz2 hi64
  go_upto_region 1 with (fail)
  refine wp_region_lit ?_
  try simp only [Act.put, List.setIfInBounds_toArray, List.set_cons_succ, List.set_cons_zero]
  iterate 2 (refine wpList_plain rfl fun K hK => ?_; go_big_op; refine hK _ _ ?_; clear hK K)
  refine wpList_plain rfl fun K6 hK6 => wp_of_step (stepAt_mono (fun v20 w20 hh => ?_) (step_loadR0 (cs := s.cells) st_under rfl st_size rfl rfl (blk_range bg)))
  obtain ⟨rfl, rfl⟩ := hh
  refine hK6 _ _ ?_
  clear hK6 K6
  try simp only [Act.put, List.setIfInBounds_toArray, List.set_cons_succ, List.set_cons_zero]
  refine wpList_plain rfl fun K7 hK7 => wp_of_step (stepAt_mono (fun v5 w5 hh => ?_) (step_new0 hist sz0 rfl))
  obtain ⟨rfl, rfl⟩ := hh
  refine hK7 _ _ ?_
  clear hK7 K7
  try simp only [Act.put, List.setIfInBounds_toArray, List.set_cons_succ, List.set_cons_zero]
  have b5 : Blk (w20.alloc (.cells (Value.agg (List.replicate 8 (Value.int .u32 0)).toArray).cells 178)) w20.heap.size 178 (List.replicate 8 (Value.int .u32 0)).toArray := World.alloc_heap_new w20 _
  have B5 := BX.alloc BX.size (.cells (Value.agg (List.replicate 8 (Value.int .u32 0)).toArray).cells 178)
  have BA := (Below.refl _ w20).alloc (Nat.le_refl _) (.cells (Value.agg (List.replicate 8 (Value.int .u32 0)).toArray).cells 178)
  refine wpList_put rfl 178 (.tmp 5) (.tmp 20) rfl rfl (cells := s.cells) rfl b5 (by simp [S8.cells]) st_size (s8_one _) (spl_all _ _ (by simp [S8.cells])) fun Y hY bY => ?_
  have hn5w : w.heap.size ≤ w20.heap.size := BX.size
  have hn5 : n4 < w20.heap.size := bX.lt
  have bgY := hY.blk (bg.keep BA) (by omega)
  have b4Y := hY.blk (bX.keep BA) (by omega)
  have BY := below_put B5 hY hn5w
  obtain ⟨n5, hn5e⟩ : ∃ n, n = w20.heap.size := ⟨_, rfl⟩
  rw [← hn5e] at bY hn5 hn5w ⊢
  have bY0 : Blk Y n5 178 (rndK b s 0).cells.toArray := bY
  have hLw := hL.sz
  clear b5 B5 BA hY hn5e sz0 sz1 sz2 hist bg bX BX bY
  try simp only [Act.put, List.setIfInBounds_toArray, List.set_cons_succ, List.set_cons_zero]
  go_wp2_with fail
  go_loopw [21] (fun i wr => ∃ k : Nat, k ≤ 64 ∧ i = .int .i64 k ∧ Blk wr n4 188 (u32c (sched b)).toArray ∧ Blk wr n5 178 (rndK b s k).cells.toArray ∧ Blk wr g0 ty s.cells.toArray ∧ Below w.heap.size w wr) (fun i _ => 64 - (intOf i).toNat)
  case atStart => exact ⟨0, Nat.zero_le _, rfl, b4Y, bY0, bgY, BY⟩
  case round =>
    obtain ⟨k, hk, rfl, b4, b5, bg, hBr⟩ := hrel
    clear b4Y bY0 bgY BY
    by_cases hlt : k < 64
    · have hN : rndK b s (k + 1) = rnd (kTabB.getD k 0) ((sched b).getD k 0) (rndK b s k) := by rw [rndK]
      have hcw := u32c_cell b4 k (by rw [sched_length]; exact hlt)
      have hck := (hL.below hBr (by omega)).const k hlt
      have HN := Lib.hid hN
      generalize hR : rndK b s k = r at *
      generalize kTabB.getD k 0 = kk at *
      generalize (sched b).getD k 0 = ww at *
      have C : CmpS w wr n4 n5 g0 ty (sched b) r s := ⟨b4, b5, bg, hBr⟩
      clear b4 b5 bg hBr hN hR
      have f0 := gw_cell C.b5.lt C.c0
      have f4 := gw_cell C.b5.lt C.c4
      have fk := gw_cell (show 4 < wr.heap.size by have := C.hB.size; omega) hck
      have fw := gw_cell C.b4.lt hcw
      clear hck hcw
      go_upto_region 5 with (fail)
      refine wp_region_rg 5 [] (by kernel_rfl) (by kernel_rfl) (by kernel_rfl) trivial ?_
      iterate 5 (refine rg_det rfl rfl rfl (fun K hK => ?_); go_big_quiet_op; refine hK _ ?_; clear hK K)
      refine rg_nil (fun w' hw' hF => ?_)
      obtain ⟨z, rfl⟩ := hw'
      simp only [List.drop_succ_cons, List.drop_zero]
      have C := C.keep z.h
      have kz := fk z
      have wz := fw z
      clear hF f0 f4 fk fw
      go_wp2_with fail
      have hB0 := Below.refl z.w.heap.size z.w
      go_wp2_with fail
      refine (gRotL r.e 6 (by decide) (by decide) z.w).mono ?_
      rintro e w1 ⟨rfl, hbw1⟩
      simp only []
      have hB1 := hB0.trans (hbw1.mono hB0.size)
      go_wp2_with fail
      refine (gRotL r.e 11 (by decide) (by decide) w1).mono ?_
      rintro e w2 ⟨rfl, hbw2⟩
      simp only []
      have hB2 := hB1.trans (hbw2.mono hB1.size)
      go_wp2_with fail
      refine (gRotL r.e 25 (by decide) (by decide) w2).mono ?_
      rintro e w3 ⟨rfl, hbw3⟩
      simp only []
      have hB3 := hB2.trans (hbw3.mono hB2.size)
      have C3 := C.keep hB3
      have c5 := C3.c5
      have c6 := C3.c6
      go_upto_region 8 with (fail)
      rw [ch_val, b3_val]
      rw [show rotr r.e 6 ^^^ rotr r.e 11 ^^^ rotr r.e 25 = bs1 r.e from rfl]
      have f7 := gw_cell C3.b5.lt C3.c7
      have fk := gw_cell (show 4 < w3.heap.size by have := C3.hB.size; omega) ((hB3.cell (p := ⟨4, k, none⟩) (show 4 < z.w.heap.size by have := C.hB.size; omega)).trans kz)
      have fw := gw_cell C3.b4.lt ((hB3.cell (p := ⟨n4, k, none⟩) C.b4.lt).trans wz)
      clear C hB0 hB1 hB2 hB3 hbw1 hbw2 hbw3 kz wz c5 c6
      refine wp_region_rg 14 [] (by kernel_rfl) (by kernel_rfl) (by kernel_rfl) trivial ?_
      iterate 14 (refine rg_det rfl rfl rfl (fun K hK => ?_); go_big_quiet_op; refine hK _ ?_; clear hK K)
      refine rg_nil (fun w' hw' hF => ?_)
      obtain ⟨y, rfl⟩ := hw'
      simp only [List.drop_succ_cons, List.drop_zero]
      have C := C3.keep y.h
      clear hF f7 fk fw C3
      go_wp2_with fail
      have hB0 := Below.refl y.w.heap.size y.w
      go_wp2_with fail
      refine (gRotL r.a 2 (by decide) (by decide) y.w).mono ?_
      rintro e w4 ⟨rfl, hbw4⟩
      simp only []
      have hB4 := hB0.trans (hbw4.mono hB0.size)
      go_wp2_with fail
      refine (gRotL r.a 13 (by decide) (by decide) w4).mono ?_
      rintro e w5 ⟨rfl, hbw5⟩
      simp only []
      have hB5 := hB4.trans (hbw5.mono hB4.size)
      go_wp2_with fail
      refine (gRotL r.a 22 (by decide) (by decide) w5).mono ?_
      rintro e w6 ⟨rfl, hbw6⟩
      simp only []
      have hB6 := hB5.trans (hbw6.mono hB5.size)
      have C6 := C.keep hB6
      have c1 := C6.c1
      have c2 := C6.c2
      go_upto_region 11 with (fail)
      rw [b3_val, mj_val, bv_add5]
      rw [show rotr r.a 2 ^^^ rotr r.a 13 ^^^ rotr r.a 22 = bs0 r.a from rfl, show r.h + bs1 r.e + chE r.e r.f r.g + kk + ww = tOne kk ww r from rfl]
      clear C hB0 hB4 hB5 hB6 hbw4 hbw5 hbw6 c1 c2
      generalize hT : tOne kk ww r = T at *
      refine wp_region_rg 2 [] (by kernel_rfl) (by kernel_rfl) (by kernel_rfl) trivial ?_
      iterate 2 (refine rg_det rfl rfl rfl (fun K hK => ?_); go_big_quiet_op; refine hK _ ?_; clear hK K)
      refine rg_nil (fun w' hw' hF => ?_)
      obtain ⟨x, rfl⟩ := hw'
      simp only [List.drop_succ_cons, List.drop_zero]
      have C := C6.keep x.h
      clear hF C6
      refine wpList_plain rfl fun K15 hK15 => wp_of_step (stepAt_mono (fun v85 w7 hh => ?_) (step_cp8 rfl rfl rfl C.b5))
      obtain ⟨hP7, b5s⟩ := hh
      refine hK15 _ _ ?_
      clear hK15 K15
      try simp only [Act.put, List.setIfInBounds_toArray, List.set_cons_succ, List.set_cons_zero]
      have b4s := hP7.blk C.b4 (by omega)
      have bgs := hP7.blk C.bg (by omega)
      have hBs := below_put C.hB hP7 hn5w
      clear hP7 C
      have c4 : w7.cell? ⟨n5, 4, none⟩ = some (.int .u32 (bv r.d)) := (b5s.cell 4).trans rfl
      have e5 := b5s.frozen
      go_upto_region 12 with (fail)
      go_upto_region 13 with (fail)
      rw [bv_add2]
      refine set1 (M := fun W => Code.wp _ _ _ _ W) b5s fun X hX bX => ?_
      have b4X := hX.blk b4s (by omega)
      have bgX := hX.blk bgs (by omega)
      have hBX := below_put hBs hX hn5w
      have b5X : Blk X n5 178 (⟨r.a, r.a, r.b, r.c, r.d + T, r.e, r.f, r.g⟩ : S8).cells.toArray := bX
      clear b5s b4s bgs hBs c4 e5 hX bX
      have c0 : X.cell? ⟨n5, 0, none⟩ = some (.int .u32 (bv r.a)) := (b5X.cell 0).trans rfl
      have e5 := b5X.frozen
      go_upto_region 14 with (fail)
      rw [bv_add3]
      refine set1 (M := fun W => Code.wp _ _ _ _ W) b5X fun Z hZ bZ => ?_
      have b4Z := hZ.blk b4X (by omega)
      have bgZ := hZ.blk bgX (by omega)
      have hBZ := below_put hBX hZ hn5w
      have b5Z : Blk Z n5 178 (rndK b s (k + 1)).cells.toArray := by
        rw [HN.out]
        unfold rnd
        rw [hT, ← BitVec.add_assoc]
        rw [bv_add3] at bZ
        exact bZ
      clear c0 e5 b5X b4X bgX hBX bZ hZ
      go_wp2_with fail
      exact ⟨⟨k + 1, by omega, by go_num, b4Z, b5Z, bgZ, hBZ⟩, by simp [intOf]; omega⟩
    · obtain rfl : k = 64 := by omega
      generalize hR : rndK b s 64 = r at *
      go_upto_region 15 with (fail)
      refine wp_region_lit ?_
      refine wpList_plain rfl fun K16 hK16 => wp_of_step (stepAt_mono (fun v98 w98 hh => ?_) (step_loadR0 (cs := r.cells) st_under rfl st_size rfl rfl (blk_range b5)))
      obtain ⟨rfl, rfl⟩ := hh
      refine hK16 _ _ ?_
      clear hK16 K16
      try simp only [Act.put, List.setIfInBounds_toArray, List.set_cons_succ, List.set_cons_zero]
      have hMr : Mut w w98 g0 := Mut.of_below hBr
      have bg0 : Blk w98 g0 ty (adK s r 0).toArray := bg
      clear b4 b5 bg hBr
      go_wp2_with fail
      go_loopw [99] (fun i wr => ∃ k : Nat, k ≤ 8 ∧ i = .int .i64 k ∧ Blk wr g0 ty (adK s r k).toArray ∧ Mut w wr g0) (fun i _ => 8 - (intOf i).toNat)
      case atStart => exact ⟨0, Nat.zero_le _, rfl, bg0, hMr⟩
      case round =>
        clear bg0 hMr
        obtain ⟨k, hk, rfl, bg, hM⟩ := hrel
        by_cases hlt : k < 8
        · have c1 := (bg.cell k).trans (show (adK s r k).toArray[k]? = some (.int .u32 (bv (s.get k))) by rw [List.getElem?_toArray]; exact adK_at s r k hlt)
          have f1 := gw_cell bg.lt c1
          have hix := run_ix8 r k hlt
          have e1 := bg.frozen
          go_wp2_with fail
          refine wp_region_rg 9 [] (by kernel_rfl) (by kernel_rfl) (by kernel_rfl) trivial ?_
          iterate 9 (refine rg_det rfl rfl rfl (fun K hK => ?_); go_big_quiet_op; refine hK _ ?_; clear hK K)
          refine rg_nil (fun w' hw' hF => ?_)
          obtain ⟨z, rfl⟩ := hw'
          simp only [List.drop_succ_cons, List.drop_zero]
          have bgz := bg.gw z
          have hMz := hM.below z.h
          have e1 := bgz.frozen
          have c1 := f1 z
          clear hF f1 hix
          go_upto_region 19 with (fail)
          rw [bv_add2]
          refine set1 (M := fun W => Code.wp _ _ _ _ W) bgz fun X hX bX => ?_
          rw [List.setIfInBounds_toArray, adK_set s r k hlt] at bX
          have hMX := hMz.put hX
          clear e1 c1 bgz hMz hX
          go_wp2_with fail
          exact ⟨⟨k + 1, by omega, by go_num, bX, hMX⟩, by simp [intOf]; omega⟩
        · obtain rfl : k = 8 := by omega
          have hfin : adK s r 8 = (comp s b).cells := by
            rw [show comp s b = s.add r by unfold comp; rw [hR]]
            rfl
          rw [hfin] at bg
          go_wp2_with fail
          exact bodyPost_end (v := .tuple #[]) (by simp [results, Tryz.results145, go_sem]) rfl ⟨rfl, bg, hM⟩
end Go.Proofs.YtoiampgfnidfdaaGreatDoor
namespace Go.Proofs.YtoiampgfnidfdaaGreatDoor
open Go.RowKit

theorem u32_laid {W : World} {nm : String} {g : Nat} {t : TypeId} {cs : Array Value} {fuel n : Nat} {d : DataW Unit} {p : List MemPlace} (zs : List Int) (hg : Tryz.prog.globalNamed nm = some g) (ht : Tryz.prog.underlying t = some (.array n 169)) (hv : W.var? Tryz.prog nm = some cs)
    (hd : DataW.trod (fun _ => ()) Tryz.prog W 0 (fun _ => true) false fuel t cs.toList = some (d, p)) (hz : d = .agg (zs.map fun z => .lit (.int .u32 z))) (hn : zs.length = n) : W.rangeAt g 0 (zs.map fun z => Value.int .u32 z) := by
  obtain ⟨xs, m, _, ex, _, hl, hel⟩ := DataW.trod_array ht hd
  have c5 : Tryz.prog.cellsOf 169 = 1 := by kernel_rfl
  intro r v hr
  have hr' : r < n := by
    rw [← hn]
    have := (List.getElem?_eq_some_iff.1 hr).1
    rwa [List.length_map] at this
  have hE := hel r hr'
  rw [c5, Nat.mul_one, List.getElem?_eq_getElem (by omega)] at hE
  obtain ⟨z, e1, e2, _⟩ := DataW.trod_int Tryz.underlying169 hE
  have e3 : (xs.map (·.1)) = zs.map fun n => .lit (.int .u32 n) := (DataW.agg.inj ((Prod.mk.inj ex).1.symm.trans hz))
  have e4 : (xs.map (·.1))[r]? = (zs.map fun n => (DataW.lit (.int .u32 n) : DataW Unit))[r]? := by rw [e3]
  rw [List.getElem?_map, List.getElem?_map, List.getElem?_eq_getElem (by omega : r < xs.length), List.getElem?_eq_getElem (by omega : r < zs.length), e2] at e4
  rw [List.getElem?_map, List.getElem?_eq_getElem (by omega : r < zs.length)] at hr
  simp only [Option.map_some, Option.some.injEq, DataW.lit.injEq, Lit.int.injEq, true_and] at e4 hr
  rw [← e4] at hr
  rw [Nat.zero_add, World.var?_cell hg hv r, ← hr]
  have : cs.toList[r]? = some (.int .u32 z) := by
    have h0 : ((cs.toList.drop r).take 1)[0]? = some (.int .u32 z) := by rw [e1]; rfl
    simpa using h0
  simpa using this
theorem gIni : Tryz.prog.globalNamed "attestor/sha256.initial" = some 0 := by kernel_rfl
theorem tIni : (Tryz.prog.globals[0]?).map (·.type) = some 172 := by kernel_rfl
theorem gCon : Tryz.prog.globalNamed "attestor/sha256.constants" = some 4 := by kernel_rfl
theorem tCon : (Tryz.prog.globals[4]?).map (·.type) = some 188 := by kernel_rfl
theorem ini_zs : (init8.cells) = ([1779033703, 3144134277, 1013904242, 2773480762, 1359893119, 2600822924, 528734635, 1541459225] : List Int).map fun z => Value.int .u32 z := by kernel_rfl
def conZ : List Int := kTabB.map fun x : B32 => bv x
theorem con_zs : u32c kTabB = conZ.map fun z => Value.int .u32 z := by unfold u32c conZ; rw [List.map_map]; rfl
theorem con_laid : (Rows.laid_attestor_sha256_constants : DataW Unit) = .agg (conZ.map fun z => .lit (.int .u32 z)) := by kernel_rfl
end Go.Proofs.YtoiampgfnidfdaaGreatDoor
namespace Go.Proofs.YtoiampgfnidfdaaGreatDoor
open Go.RowKit

theorem put_same {A B : World} {g k : Nat} (h : Put A B g) (hk : k ≠ g) {o : Obj} (ho : A.heap[k]? = some o) : B.heap[k]? = some o := (h.other k hk).trans ho
theorem below_same {A B : World} {k : Nat} (h : Below A.heap.size A B) {o : Obj} (ho : A.heap[k]? = some o) : B.heap[k]? = some o := (h.block k (Array.getElem?_eq_some_iff.1 ho).1).trans ho
end Go.Proofs.YtoiampgfnidfdaaGreatDoor
namespace Go.Proofs.YtoiampgfnidfdaaGreatDoor
open Go Go.RowKit

def isMove (o : Oper) : Bool := match o.op with | .move _ => true | _ => false
def lateM (ops : Array Oper) (n : Nat) : List Nat → Array Bool → Bool
  | [], _ => true
  | i :: L, listed => decide (i < n) && (Region.ready .any ops listed).contains i && Region.free .any ops listed i && (match ops[i]? with | some o => isMove o && o.guard.isNone | none => false) && lateM ops n L (listed.setIfInBounds i true)
def rgLM (ops : Array Oper) (n : Nat) (L : List Nat) : Bool :=
  let B := befores ops.toList []
  ops.toList.all noDefer && Region.noSelect ops && decide (n ≤ ops.size) && (List.range n).all (headB ops n B) && sinkL ops n L && Region.chainB .any ops n &&
    Region.seqB .any ops (ops.size - n) n (firstN n ops.size) && lateM ops n L (Array.replicate ops.size false)
section
variable {P : Program} {ops : Array Oper} {n : Nat} {B : List Nat} {Sp : List (Nat × Spec)} {C : World → Prop} {N0 : Nat} {a0 : Act}
theorem wpAnyH_of_seqM {Q : Exit → Act → World → Prop} : ∀ (l : List Oper) (k : Nat) (listed : Array Bool) (a : Act) (w : World), (∀ j, l[j]? = ops[k + j]?) →
    Region.seqB .any ops l.length k listed = true → wpList P ops Q l a w → wpAnyH P .any ops Q (fun _ => True) l.length listed a w
  | [], _, _, _, _, _, hB, h => ⟨by simpa [Region.seqB] using hB, h⟩
  | o :: l, k, listed, a, w, hl, hB, h => by
    have h0 : ops[k]? = some o := by simpa using (hl 0).symm
    simp only [List.length_cons, Region.seqB, Bool.and_eq_true, decide_eq_true_eq] at hB
    refine ⟨fun h1 => (by rw [hB.1] at h1; cases h1), fun i hi => ?_⟩
    rw [hB.1] at hi
    have hik : i = k := by simpa using hi
    subst hik
    unfold wpList at h
    unfold wpOp
    simp only [h0]
    have next : ∀ a' w', wpList P ops Q l a' w' → (fun _ => True) w' ∧ wpAnyH P .any ops Q (fun _ => True) l.length (listed.setIfInBounds i true) a' w' := fun a' w' h' =>
      ⟨trivial, wpAnyH_of_seqM l (i + 1) _ a' w' (fun j => by have := hl (j + 1); simpa [Nat.add_assoc, Nat.add_comm 1 j] using this) hB.2 h'⟩
    by_cases hw : Region.wanted o (yielded ops a.tmps) = true
    · rw [if_pos hw] at h ⊢
      exact h.imp (Oper.wp_mono fun a' w' h' => next a' w' h') id
    · rw [if_neg hw] at h ⊢
      exact next _ _ h
theorem anyH_of_goodM {Q : Exit → Act → World → Prop} {L : List Nat} (hst : ∀ i A F, specOf Sp i = some (.rel A F) → Fit A F) (hns : ∀ i u, specOf Sp i ≠ some (.skip u)) (hC : ∀ w w', C w → Below w.heap.size w w' → C w') (hN : ∀ w, C w → N0 ≤ w.heap.size)
    (hnd : ∀ (k : Nat) (o : Oper), ops[k]? = some o → noDefer o = true) (hle : n ≤ ops.size) (H : ∀ k, k < n → ∃ o d, HeadOk ops n B k o d) (hsink : sinkL ops n L = true) (hchain : Region.chainB .any ops n = true) (hseq : Region.seqB .any ops (ops.size - n) n (firstN n ops.size) = true)
    (hsz : ∀ (k : Nat) (d : Tmp), k < n → dstOf ops k = some d → d < a0.tmps.size)
    (htree : wpRg P ops B Sp C N0 (fun a w => wpList P ops Q (ops.toList.drop n) a w) (ops.toList.take n) 0 a0 [] []) :
    ∀ (f : Nat) (listed : Array Bool) (a : Act) (w : World) (r : Nat → Nat × Nat), unl n listed = f → (∀ i ∈ L, i < n → listed.getD i true = true) → HeadInv .any ops n listed → Good P ops n Sp C N0 a0 listed a w r → wpAnyH P .any ops Q (fun _ => True) (f + (ops.size - n)) listed a w := by
  intro f
  induction f with
  | zero =>
    intro listed a w r hf hLl inv hG
    have hall : ∀ k, k < n → listed.getD k false = true := fun k hk => by
      have h1 := unl_zero hf k hk
      have h2 : k < listed.size := by rw [inv.size]; omega
      simp [h2] at h1 ⊢
      exact h1
    have hfin := good_end hst hns hN hnd H hsz hle htree hG hall
    have hls := firstN_of inv.size hf inv.tail
    have hdl : (ops.toList.drop n).length = ops.size - n := by simp
    have := wpAnyH_of_seqM (Q := Q) (ops.toList.drop n) n listed a w (fun j => by simp [List.getElem?_drop]) (by rw [hdl, hls]; exact hseq) hfin
    rw [hdl] at this
    rw [Nat.zero_add]
    exact this
  | succ f ih =>
    intro listed a w r hf hLl inv hG
    rw [show f + 1 + (ops.size - n) = (f + (ops.size - n)) + 1 by omega]
    have hex : ∃ i, i < n ∧ listed.getD i true = false := by
      refine Classical.byContradiction fun hno => ?_
      have : unl n listed = 0 := List.countP_eq_zero.2 fun i hi => by
        have hi' := List.mem_range.1 hi
        cases hd : listed.getD i true with
        | true => simp
        | false => exact absurd ⟨i, hi', hd⟩ hno
      omega
    obtain ⟨i0, hi0, hun0⟩ := hex
    obtain ⟨j0, _, hj0⟩ := ready_head H inv.size hle i0 hi0 hun0
    refine ⟨fun h0 => (by rw [h0] at hj0; cases hj0), fun i hi => ?_⟩
    obtain ⟨hun, oi, hoi, _⟩ := mem_ready.1 hi
    have hin : i < n := by
      rcases Nat.lt_or_ge i n with h | h
      · exact h
      · have hlt : i < ops.size := (Array.getElem?_eq_some_iff.1 hoi).1
        exact absurd hi (tail_waitsL hsink hchain (by omega) inv hLl _ i0 rfl hi0 hun0 i h)
    obtain ⟨o, d, h⟩ := H i hin
    have hs := good_step hst hns hC hN hnd H hsz hle htree hG inv hin h hi
    have hisz : i < listed.size := by rw [inv.size]; omega
    have hunl := unl_set hisz hun n hin
    have next : ∀ a' w', (∃ r', Good P ops n Sp C N0 a0 (listed.setIfInBounds i true) a' w' r') → (fun _ => True) w' ∧ wpAnyH P .any ops Q (fun _ => True) (f + (ops.size - n)) (listed.setIfInBounds i true) a' w' :=
      fun a' w' ⟨r', hG'⟩ => ⟨trivial, ih _ a' w' r' (by omega) (fun k hk hkn => by
        by_cases hik : i = k
        · subst hik; simp [hisz]
        · rw [getD_set_ne true hik]; exact hLl k hk hkn) (inv.set hi hin) hG'⟩
    unfold wpOp
    simp only [h.op]
    by_cases hw : Region.wanted o (yielded ops a.tmps) = true
    · rw [if_pos hw] at hs ⊢
      exact .inl (wp_of_step (stepAt_mono (fun v w' hv => next _ _ hv) hs))
    · rw [if_neg hw] at hs ⊢
      exact next _ _ hs

theorem good_lateM {Fin : Act → World → Prop} (hst : ∀ i A F, specOf Sp i = some (.rel A F) → Fit A F) (hns : ∀ i u, specOf Sp i ≠ some (.skip u)) (hC : ∀ w w', C w → Below w.heap.size w w' → C w') (hN : ∀ w, C w → N0 ≤ w.heap.size)
    (hnd : ∀ (k : Nat) (o : Oper), ops[k]? = some o → noDefer o = true) (H : ∀ k, k < n → ∃ o d, HeadOk ops n B k o d) (hsz : ∀ (k : Nat) (d : Tmp), k < n → dstOf ops k = some d → d < a0.tmps.size)
    (hn : n ≤ ops.size) (htree : wpRg P ops B Sp C N0 Fin (ops.toList.take n) 0 a0 [] [])
    {listed : Array Bool} {a : Act} {w : World} {r : Nat → Nat × Nat} (hG : Good P ops n Sp C N0 a0 listed a w r) (inv : HeadInv .any ops n listed)
    {i : Nat} {o : Oper} {d : Tmp} (hi : i < n) (h : HeadOk ops n B i o d) (hr : i ∈ Region.ready .any ops listed) (hs : specOf Sp i = none) (hlo : isMove o = true) (hg : o.guard = none) :
    ∃ v, YieldsIf P ops (fun _ => True) o v a ∧ ∃ r', Good P ops n Sp C N0 a0 (listed.setIfInBounds i true) (a.put o.dst v) w r' := by
  obtain ⟨hun, o', ho', hall⟩ := mem_ready.1 hr
  obtain rfl : o = o' := Option.some.inj (h.op.symm.trans ho')
  have hdi : dstOf ops i = some d := by unfold dstOf; rw [h.op]; exact h.dst
  have hlt : d < a.tmps.size := by rw [hG.size]; exact hsz i d hi hdi
  have hPl : ∀ k, k < n → isBefore B k i = true → listed.getD k false = true := fun k _ hk =>
    before_listed H inv hi (fun o2 ho2 e he hb => by
      obtain rfl : o = o2 := Option.some.inj (h.op.symm.trans ho2)
      exact hall e he hb) k hk
  have hPb : ∀ k j, k < n → isBefore B k i = true → isBefore B j k = true → isBefore B j i = true := fun k j _ h1 h2 => before_trans H hi k j h1 h2
  have htl : (ops.toList.take n).length = n := by simp; omega
  obtain ⟨l', b, G, rs, hl1, hl2, R, hw⟩ := descend hnd H hsz hG hPl hPb hst (fun k u h => absurd h (hns k u)) hN (Nat.le_of_lt hi) (ops.toList.take n) 0 a0 [] [] (Nat.zero_le _) (by rw [htl]; omega)
    (fun j hj => by rw [htl] at hj; simp [hj]) ⟨rfl, rfl, fun _ _ => rfl, fun j hj => absurd hj (by omega), fun φ hφ => (by cases hφ), fun ρ hρ => (by cases hρ), fun φ hφ => (by cases hφ)⟩ htree
  have hag : ∀ t ∈ o.looksAt ops, b.tmps[t]? = a.tmps[t]? := rel_agree H hG hi (fun j hj => hj) h R
  have hex := exec_agree (hnd i o h.op) hag
  have hwa : Region.wanted o (yielded ops b.tmps) = true := by unfold Region.wanted; rw [hg]
  have hwant : Region.wanted o (yielded ops a.tmps) = true := by unfold Region.wanted; rw [hg]
  have hself : ∀ v, ∀ t ∈ o.looksAt ops, (a.put o.dst v).tmps[t]? = a.tmps[t]? := fun v t ht => by
    rw [h.dst]
    refine put_ne fun e => ?_
    subst e
    have := before_lt H hi i (h.wr t ht i hi hdi)
    omega
  have hself2 : ∀ v, execOp (a.put o.dst v).eval o = execOp a.eval o := fun v => exec_agree (hnd i o h.op) (hself v)
  have hself3 : ∀ v, Region.wanted o (yielded ops (a.put o.dst v).tmps) = Region.wanted o (yielded ops a.tmps) := fun v => wanted_agree (hself v)
  have hval : ∀ v, (a.put o.dst v).tmps.getD d undef = v := fun v => by rw [h.dst]; exact put_getD hlt
  cases l' with
  | nil => simp only [List.length_nil] at hl1; omega
  | cons o2 l' =>
    have : o2 = o := by
      have := hl2 0 (by simp)
      rw [Nat.add_zero, h.op] at this
      simpa using this
    subst this
    unfold wpRg at hw
    rw [if_pos hwa, hs] at hw
    obtain ⟨hcalm, v, hv, _⟩ := hw
    have hq : ∀ w, C w → o2.quietAt P a C w v := fun w hw => quietAt_same hex.symm (hv w hw)
    refine ⟨v, .inl ⟨hwant, fun w' hw' => ?_⟩, _, good_next hst hC hN hnd H hsz hG inv hi h hun (Below.refl _ _) (fun r' _ => ⟨fun e => ?_, fun _ _ => ⟨hcalm, w, hG.c, ?_⟩, fun _ u' hs' => ?_, fun _ A F hs' => ?_⟩)⟩
    · obtain ⟨x, hx⟩ : ∃ x, o2.op = .move x := by
        revert hlo
        unfold isMove
        cases o2.op <;> intro h0 <;> first | exact ⟨_, rfl⟩ | cases h0
      have hq' := hq w hG.c
      unfold Oper.quietAt at hq'
      unfold execOp at hq' ⊢
      simp only [hx] at hq' ⊢
      obtain ⟨_, rfl⟩ := hq'
      rfl
    · rw [hself3, hwant] at e; cases e
    · rw [hval]; exact quietAt_same (hself2 _) (hq w hG.c)
    · rw [hs] at hs'; cases hs'
    · rw [hs] at hs'; cases hs'

theorem late_takeM {L0 : List Nat} {Q : Exit → Act → World → Prop} {Fin : Act → World → Prop} (hst : ∀ i A F, specOf Sp i = some (.rel A F) → Fit A F) (hns : ∀ i u, specOf Sp i ≠ some (.skip u)) (hC : ∀ w w', C w → Below w.heap.size w w' → C w') (hN : ∀ w, C w → N0 ≤ w.heap.size)
    (hnd : ∀ (k : Nat) (o : Oper), ops[k]? = some o → noDefer o = true) (hsel : Region.noSelect ops = true) (H : ∀ k, k < n → ∃ o d, HeadOk ops n B k o d) (hsz : ∀ (k : Nat) (d : Tmp), k < n → dstOf ops k = some d → d < a0.tmps.size)
    (hn : n ≤ ops.size) (htree : wpRg P ops B Sp C N0 Fin (ops.toList.take n) 0 a0 [] []) (hQ : ∀ c (a : Act) d v w, Q (.panic c) (a.put d v) w → Q (.panic c) a w)
    (fin : ∀ (listed : Array Bool) (a : Act) (w : World) (r : Nat → Nat × Nat), HeadInv .any ops n listed → Good P ops n Sp C N0 a0 listed a w r → (∀ i, i ∈ L0 → i < n → listed.getD i true = true) → wpAnyH P .any ops Q (fun _ => True) (unl n listed + (ops.size - n)) listed a w) :
    ∀ (L : List Nat) (listed : Array Bool) (a : Act) (w : World) (r : Nat → Nat × Nat), HeadInv .any ops n listed → Good P ops n Sp C N0 a0 listed a w r → lateM ops n L listed = true → (∀ i ∈ L, specOf Sp i = none) → (∀ i ∈ L0, i < n → i ∈ L ∨ listed.getD i true = true) →
      wpAnyH P .any ops Q (fun _ => True) (unl n listed + (ops.size - n)) listed a w
  | [], listed, a, w, r, inv, hG, _, _, hl => fin listed a w r inv hG fun i hi hin => (hl i hi hin).resolve_left (by simp)
  | i :: L, listed, a, w, r, inv, hG, hB, hs, hl => by
    simp only [lateM, Bool.and_eq_true, decide_eq_true_eq] at hB
    obtain ⟨⟨⟨⟨h1, h2⟩, h3⟩, h4⟩, h5⟩ := hB
    have hr : i ∈ Region.ready .any ops listed := by simpa using h2
    obtain ⟨o, d, h⟩ := H i h1
    rw [h.op] at h4
    simp only [Bool.and_eq_true, Option.isNone_iff_eq_none] at h4
    obtain ⟨v, hy, r', hG'⟩ := good_lateM hst hns hC hN hnd H hsz hn htree hG inv h1 h hr (hs i (List.mem_cons_self ..)) h4.1 h4.2
    have hun := (mem_ready.1 hr).1
    have hisz : i < listed.size := by rw [inv.size]; omega
    have hunl := unl_set hisz hun n h1
    rw [← hunl, show unl n (listed.setIfInBounds i true) + 1 + (ops.size - n) = (unl n (listed.setIfInBounds i true) + (ops.size - n)) + 1 by omega]
    refine wpAnyH_take h.op hsel h3 h2 (fun c a w => hQ c a _ _ w) hy trivial ?_
    refine late_takeM hst hns hC hN hnd hsel H hsz hn htree hQ fin L _ _ w r' (inv.set hr h1) hG' h5 (fun k hk => hs k (List.mem_cons_of_mem _ hk)) fun k hk hkn => ?_
    by_cases hik : i = k
    · subst hik; exact .inr (by simp [hisz])
    · rcases hl k hk hkn with h | h
      · rcases List.mem_cons.1 h with h | h
        · exact absurd h.symm hik
        · exact .inl h
      · exact .inr (by rw [getD_set_ne true hik]; exact h)
end

theorem wp_region_lateM {P : Program} {id : Nat} {l : List Oper} {Q : Exit → Act → World → Prop} {a : Act} {W : World} (n : Nat) (L : List Nat) (Sp : List (Nat × Spec)) (hm : P.follows .mixedOrders = true) (hB : rgLM l.toArray n L = true) (hz : sizesB l.toArray n a.tmps.size = true) (hs : (L.all fun i => (specOf Sp i).isNone) = true)
    (hQ : ∀ c (a : Act) d v w, Q (.panic c) (a.put d v) w → Q (.panic c) a w)
    (st : stables Sp) (walk : wpRg P l.toArray (befores l []) Sp (Grw W) W.heap.size (fun a' w' => wpList P l.toArray Q (l.drop n) a' w') (l.take n) 0 a [] []) : (Code.region id l.toArray true).wp P Q a W := by
  refine wp_region_any hm ?_
  unfold rgLM at hB
  simp only [Bool.and_eq_true, decide_eq_true_eq] at hB
  obtain ⟨⟨⟨⟨⟨⟨⟨h1, h2⟩, h3⟩, h4⟩, h5⟩, h6⟩, h7⟩, h8⟩ := hB
  have hnd : ∀ (k : Nat) (o : Oper), l.toArray[k]? = some o → noDefer o = true := fun k o ho => List.all_eq_true.1 h1 o (by
    have : l[k]? = some o := by simpa using ho
    exact List.mem_of_getElem? this)
  have hH : ∀ k, k < n → ∃ o d, HeadOk l.toArray n (befores l []) k o d := fun k hk => headOk_of (List.all_eq_true.1 h4 k (List.mem_range.2 hk))
  have h0 : unl n (Array.replicate l.toArray.size false) = n := by
    unfold unl
    have : (List.range n).countP (fun i => !(Array.replicate l.toArray.size false).getD i true) = (List.range n).length := List.countP_eq_length.2 fun i hi => by
      have hi' := List.mem_range.1 hi
      have h1 : i < l.length := by simp only [List.size_toArray] at h3; omega
      simp [h1]
    rw [this, List.length_range]
  have inv0 : HeadInv .any l.toArray n (Array.replicate l.toArray.size false) :=
    ⟨by simp, fun j oj _ hl => (by rw [getD_replicate_false] at hl; cases hl), fun t _ ht => getD_in (by simpa using ht) (getD_replicate_false _ _)⟩
  have hst := stables_spec st
  have walk' : wpRg P l.toArray (befores l []) Sp (Grw W) W.heap.size (fun a' w' => wpList P l.toArray Q (l.toArray.toList.drop n) a' w') (l.toArray.toList.take n) 0 a [] [] := by simpa using walk
  have fin := fun (listed : Array Bool) (a' : Act) (w' : World) (r : Nat → Nat × Nat) (inv : HeadInv .any l.toArray n listed) (hG : Good P l.toArray n Sp (Grw W) W.heap.size a listed a' w' r) (hl : ∀ i, i ∈ L → i < n → listed.getD i true = true) =>
    anyH_of_goodM (P := P) (Q := Q) (L := L) hst (stables_ns st) (fun w w' h h' => grw_next h h') (fun w h => (grw_below h).size) hnd h3 hH h5 h6 h7 (a0 := a) (sizesB_spec hz) walk' (unl n listed) listed a' w' r rfl hl inv hG
  have := late_takeM (P := P) (Q := Q) (L0 := L) hst (stables_ns st) (fun w w' h h' => grw_next h h') (fun w h => (grw_below h).size) hnd h2 hH (a0 := a) (sizesB_spec hz) h3 walk' hQ fin L _ a { W with drawn := W.drawn + 1 } (fun _ => (0, 0)) inv0
    ⟨grw_of (Below.refl _ W).drew, rfl, rfl, fun _ _ => rfl, fun k o d _ _ _ hl => (by rw [getD_replicate_false] at hl; cases hl), fun k j _ _ _ hl => (by rw [getD_replicate_false] at hl; cases hl)⟩ h8
    (fun i hi => by simpa using List.all_eq_true.1 hs i hi) (fun i hi _ => .inl hi)
  rw [h0, show n + (l.toArray.size - n) = l.toArray.size by omega] at this
  exact wpAny_of_held _ _ _ _ this
end Go.Proofs.YtoiampgfnidfdaaGreatDoor
namespace Go.Proofs.YtoiampgfnidfdaaGreatDoor
open Go.RowKit

section
variable (tabs : List (List E)) (ps : List Trm)
end
section
variable {w wr X : World} {D N go gc gs : Nat} {vt vp : Value} {fo fc fs f' : Nat → E}
end
end Go.Proofs.YtoiampgfnidfdaaGreatDoor
namespace Go.Proofs.YtoiampgfnidfdaaGreatDoor
open Go.RowKit

theorem TrmS.base {lo hi : Nat} {w : World} {v : Value} {ps : List Trm} (h : TrmS lo hi w v ps) : TrmS 0 w.heap.size w v ps := by
  obtain ⟨us, h1, h2, h3⟩ := h
  have key : ∀ {n size : Nat} {v : Value} {cs : List Value}, Rd lo hi size w v n cs → Rd 0 w.heap.size size w v n cs := fun ⟨q1, q2, A, cap, q3, q4, q5⟩ => ⟨q1, q2, A, cap, q3, q4, fun h0 => by
    obtain ⟨g, off, r1, r2, r3, r4, r5⟩ := q5 h0
    exact ⟨g, off, r1, Nat.zero_le _, r4, r4, r5⟩⟩
  exact ⟨us, h1, key h2, fun k u t hu ht => key (h3 k u t hu ht)⟩
end Go.Proofs.YtoiampgfnidfdaaGreatDoor
namespace Go.Proofs.YtoiampgfnidfdaaGreatDoor
open Go.RowKit
attribute [local go_sem] Oper.semAt_some

def StS6 (n0 Bv : Nat) (g : Nat) : Prop := g < n0 ∨ g = Bv ∨ g = Bv + 1 ∨ g = Bv + 2
def StD6 (n0 Bv : Nat) (g : Nat) : Prop := g < n0 ∨ g = Bv + 1 ∨ g = Bv + 2
theorem StD6.keeps {n0 Bv : Nat} {A B : World} (h : Keeps (StS6 n0 Bv) A B) : Keeps (StD6 n0 Bv) A B := ⟨h.size, fun g hg hl => h.same g (by unfold StD6 at hg; unfold StS6; omega) hl⟩
end Go.Proofs.YtoiampgfnidfdaaGreatDoor
namespace Go.Proofs.YtoiampgfnidfdaaGreatDoor
open Go.RowKit
attribute [local go_sem] Oper.semAt_some

theorem below_putObj {N : Nat} {w W : World} (h : Below N w W) (l : Nat) (o : Obj) (hl : N ≤ l) : Below N w (W.putObj l o) :=
  ⟨h.os, h.tape, h.output, by simpa using h.size, fun k hk => (World.putObj_heap_other (by omega)).trans (h.block k hk)⟩
end Go.Proofs.YtoiampgfnidfdaaGreatDoor
namespace Go.Proofs.YtoiampgfnidfdaaGreatDoor
open Go.RowKit

end Go.Proofs.YtoiampgfnidfdaaGreatDoor
namespace Go.Proofs.YtoiampgfnidfdaaGreatDoor
open Go.RowKit

structure Clm where
  p : List E
  v : E
abbrev ClW := Clm × (Option Addr × Nat)
def ptV (x : ClW) : Value := .slice x.2.1 x.1.p.length x.2.2
def clc (x : ClW) : List Value := [ptV x, .int .u64 (fv x.1.v.a), .int .u64 (fv x.1.v.b)]
theorem clc_len (x : ClW) : (clc x).length = 3 := rfl
def ClmU (lo hi : Nat) (w : World) (v : Value) (cs : List ClW) : Prop := Rd lo hi 3 w v cs.length (cs.flatMap clc) ∧ ∀ x ∈ cs, ExtS lo hi w (ptV x) x.1.p
theorem ClmU.keep {lo hi : Nat} {w w' : World} {v : Value} {cs : List ClW} (h : ClmU lo hi w v cs) (hb : Below w.heap.size w w') : ClmU lo hi w' v cs :=
  ⟨h.1.keep hb, fun x hx => Rd.keep (h.2 x hx) hb⟩
theorem ClmU.wide {lo hi lo' hi' : Nat} {w : World} {v : Value} {cs : List ClW} (h : ClmU lo hi w v cs) (h1 : lo' ≤ lo) (h2 : hi ≤ hi') : ClmU lo' hi' w v cs :=
  ⟨h.1.wide h1 h2, fun x hx => Rd.wide (h.2 x hx) h1 h2⟩
theorem ClmU.len {lo hi : Nat} {w : World} {v : Value} {cs : List ClW} (h : ClmU lo hi w v cs) : ∃ A cap, v = .slice A cs.length cap := h.1.len
theorem ClmU.small {lo hi : Nat} {w : World} {v : Value} {cs : List ClW} (h : ClmU lo hi w v cs) : cs.length ≤ 140737488355327 := h.1.2.1
theorem ClmU.cells {lo hi : Nat} {w : World} {v : Value} {cs : List ClW} (h : ClmU lo hi w v cs) (h0 : 0 < cs.length) : ∃ g off cap, v = .slice (some ⟨g, off, none⟩) cs.length cap ∧ cs.length ≤ cap ∧ lo ≤ g ∧ g < hi ∧ g < w.heap.size ∧
    ∀ k x, cs[k]? = some x → ExtS lo hi w (ptV x) x.1.p ∧ w.cell? ⟨g, off + k * 3, none⟩ = some (ptV x) ∧ w.cell? ⟨g, off + k * 3 + 1, none⟩ = some (.int .u64 (fv x.1.v.a)) ∧ w.cell? ⟨g, off + k * 3 + 2, none⟩ = some (.int .u64 (fv x.1.v.b)) := by
  obtain ⟨g, off, cap, q1, q2, q3, q4, q5, q6⟩ := Rd.form h.1 h0
  refine ⟨g, off, cap, q1, q2, q3, q4, q5, fun k x hx => ?_⟩
  have e : ∀ j u, (clc x)[j]? = some u → w.cell? ⟨g, off + k * 3 + j, none⟩ = some u := fun j u hu => by
    have := q6 (k * 3 + j) _ (flat_get clc_len _ k j _ _ hx hu)
    rwa [← Nat.add_assoc] at this
  exact ⟨h.2 x (List.mem_of_getElem? hx), e 0 _ rfl, e 1 _ rfl, e 2 _ rfl⟩

/-! ### Powers -/
attribute [local go_sem] Oper.semAt_some
end Go.Proofs.YtoiampgfnidfdaaGreatDoor
