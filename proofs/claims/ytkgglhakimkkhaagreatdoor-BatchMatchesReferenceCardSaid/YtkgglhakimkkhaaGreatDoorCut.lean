/-
  The library's Grow of nil and Concat, of bytes.
  The program's SHA-256: the schedule.
  The program's SHA-256: one block.
  A range over an iterator of one value a round, told by what the memory holds behind the value; the rounds all go on.
  The program's SHA-256: the blocks of the padded message.
  Slices cut from an index on.
-/
import Derived.Test.YtkgglhakimkkhaaGreatDoorGb2
import Derived.Lib.AppendZeros
import Derived.Lib.AppendZerosOnto
import Derived.Laws.CopyRow
import Derived.Test.YtkgglhakimkkhaaGreatDoorMr3
import Derived.Test.YtkgglhakimkkhaaGreatDoorWt2
namespace Go.Proofs.YtkgglhakimkkhaaGreatDoor
open Go.RowKit

theorem en_slices_Concat : ∀ args w, (callFunc 137 args).run Tryz.prog w = .ok (.enter 137 args) w := enters_of Tryz.func137 (by kernel_rfl) rfl
theorem int_under : Tryz.prog.underlying 3 = some (.int .i64) := by kernel_rfl
attribute [local irreducible] wpRg
set_option maxRecDepth 100000 in
set_option maxHeartbeats 4000000 in
theorem gGrow0 (n : Nat) (hn : n ≤ 10000000) (w : World) : Calls Tryz.prog 147 #[.slice none 0 0, .int .i64 (n : Int)] w (RetR (OwA []) w) := by
  obtain ⟨iu8, hu8, uz0, uz1, uz2⟩ := info_parts u8_info
  by_cases h0 : n = 0
  · subst h0
    go_enter Tryz.func147, Tryz.ntmps147
    go_wp2_with fail
    exact bodyPost_ret (v := .slice none 0 0) (by simp [results, Tryz.results147, go_sem]) rfl ⟨_, rfl, ⟨⟨rfl, .inl ⟨rfl, rfl⟩⟩, fun g hg => by cases hg⟩, Below.refl _ _⟩
  · obtain ⟨G, hG⟩ : ∃ G, G = grownCap w n 0 5 := ⟨_, rfl⟩
    have hG1 : n ≤ G := by rw [hG]; exact grownCap_ge _ _ _ _
    have hG2 : G ≤ maxLen := by rw [hG]; exact grownCap_le_maxLen _ _ _ _ (by unfold maxLen; omega)
    have hG3 : G ≤ 9223372036854775807 := by unfold maxLen at hG2; omega
    have hpos : (n : Int) > 0 := by omega
    have hrz := fun ty => Lib.run_append_nil_zeros (P := Tryz.prog) w 92 3 ty _ iu8 _ .i64 .i64 u8_slice int_under hu8 uz0 n (by omega) (by rw [uz1]; decide) (by omega) (by rw [uz2]; omega)
    rw [← hG] at hrz
    obtain ⟨C, hC⟩ : ∃ C, C = Builtin.zeroCells (Value.int .u8 0).cells n ++ Builtin.zeroCells (Value.int .u8 0).cells (G - n) := ⟨_, rfl⟩
    have hCs : C.size = G := by
      rw [hC]
      simp [Builtin.zeroCells, Value.cells]
      omega
    rw [← hC] at hrz
    have HR := Lib.hid hrz
    clear hC hG hrz
    go_enter Tryz.func147, Tryz.ntmps147
    go_wp2_with (at_builtin; refine Lib.wpList_append_run _ rfl _ _ _ _ rfl _ _ rfl rfl _ _ (HR.out _) ?_)
    refine bodyPost_ret (v := .slice (some ⟨w.heap.size, 0, none⟩) 0 G) (by simp [results, Tryz.results147, go_sem]) rfl ⟨_, rfl, ⟨⟨rfl, .inr ⟨w.heap.size, G, C, rfl, Nat.le_refl _, ?_, Nat.zero_le _, hG2, by rw [hCs, Nat.mul_one], by simp [byc]⟩⟩, fun g hg => ?_⟩, ?_⟩
    · exact World.alloc_heap_new w _
    · cases hg
      show w.heap.size < (w.alloc (.cells C 5)).heap.size
      simp
    · have hb := (Below.refl w.heap.size w).alloc (Nat.le_refl _) (.cells C 5)
      exact ⟨hb.os, hb.tape, hb.output, hb.size, hb.block⟩
def BylS (lo hi : Nat) (w : World) (v : Value) (ps : List (List Nat)) : Prop := ∃ us : List Value, us.length = ps.length ∧ Rd lo hi 1 w v ps.length us ∧ ∀ (i : Nat) (u : Value) (p : List Nat), us[i]? = some u → ps[i]? = some p → ∃ lo hi, ByS lo hi w u p
theorem BylS.len {lo hi : Nat} {w : World} {v : Value} {ps : List (List Nat)} (h : BylS lo hi w v ps) : ∃ A cap, v = .slice A ps.length cap := by
  obtain ⟨us, _, h2, _⟩ := h
  exact Rd.len h2
theorem BylS.keep {lo hi : Nat} {w X : World} {v : Value} {ps : List (List Nat)} (h : BylS lo hi w v ps) (hb : Below w.heap.size w X) : BylS lo hi X v ps := by
  obtain ⟨us, h1, h2, h3⟩ := h
  refine ⟨us, h1, h2.keep hb, fun i u p hu hp => ?_⟩
  obtain ⟨l, r, h4⟩ := h3 i u p hu hp
  exact ⟨l, r, h4.keep hb⟩
theorem byls_at {lo hi : Nat} {w : World} {v : Value} {ps : List (List Nat)} (h : BylS lo hi w v ps) (i : Nat) (hi' : i < ps.length) : ∃ g off cap B c, v = .slice (some ⟨g, off, none⟩) ps.length cap ∧ ps.length ≤ cap ∧ g < w.heap.size ∧ w.cell? ⟨g, off + i, none⟩ = some (.slice B (ps[i]).length c) ∧ ∃ lo hi, ByS lo hi w (.slice B (ps[i]).length c) ps[i] := by
  obtain ⟨us, h1, h2, h3⟩ := h
  obtain ⟨g, off, cap, q1, q2, q3, q4, q5, q6⟩ := Rd.form h2 (by omega)
  obtain ⟨u, hu⟩ : ∃ u, us[i]? = some u := ⟨_, List.getElem?_eq_getElem (by omega)⟩
  obtain ⟨l, r, hb⟩ := h3 i u ps[i] hu (List.getElem?_eq_getElem hi')
  obtain ⟨B, c, rfl⟩ := hb.len
  exact ⟨g, off, cap, B, c, q1, q2, q5, q6 i _ hu, l, r, hb⟩
def catK (k : Nat) (ps : List (List Nat)) : List Nat := (ps.take k).flatten
theorem catK_zero (ps : List (List Nat)) : catK 0 ps = [] := rfl
theorem catK_next (ps : List (List Nat)) (k : Nat) (h : k < ps.length) : catK k ps ++ ps[k] = catK (k + 1) ps := by
  unfold catK
  rw [List.take_add_one, List.getElem?_eq_getElem h, List.flatten_append]
  simp
theorem catK_all (ps : List (List Nat)) : catK ps.length ps = ps.flatten := by unfold catK; rw [List.take_length]
theorem catK_le (ps : List (List Nat)) (k : Nat) : (catK k ps).length ≤ ps.flatten.length := by
  unfold catK
  conv => rhs; rw [← List.take_append_drop k ps]
  rw [List.flatten_append, List.length_append]
  omega
set_option maxRecDepth 100000 in
set_option maxHeartbeats 4000000 in
theorem gConcat (ps : List (List Nat)) (hn : ps.flatten.length ≤ 1000000) (hp : ps.length ≤ 1000000) (v : Value) (lo hi : Nat) (w : World) (h : BylS lo hi w v ps) : Calls Tryz.prog 137 #[v] w (RetR (OwA ps.flatten) w) := by
  obtain ⟨A, cap, rfl⟩ := h.len
  have HV := Lib.hid h
  have HN := Lib.hid hn
  clear h hn
  go_enter Tryz.func137, Tryz.ntmps137
  go_wp2_with fail
  go_loopw [3, 5, 11] (fun t s i wr => ∃ k : Nat, k ≤ ps.length ∧ i = .int .i64 k ∧ t = .int .i64 ((catK k ps).length : Int) ∧ Below w.heap.size w wr) (fun _ _ i _ => ps.length - (intOf i).toNat)
  case atStart => exact ⟨0, Nat.zero_le _, rfl, rfl, Below.refl _ _⟩
  case round =>
    obtain ⟨k, hk, rfl, rfl, hBr⟩ := hrel
    by_cases hlt : k < ps.length
    · obtain ⟨g, off, cap', B, c, hv, hc1, hg, hcell, l1, r1, hby⟩ := byls_at HV.out k hlt
      cases hv
      have e1 := (hBr.cell (p := ⟨g, off + k, none⟩) hg).trans hcell
      have hle := catK_le ps (k + 1)
      have hnx := catK_next ps k hlt
      have hnl : (catK (k + 1) ps).length = (catK k ps).length + (ps[k]).length := by rw [← hnx, List.length_append]
      have hNo := HN.out
      generalize ps[k] = p at *
      clear hnx hcell hby
      have HNL := Lib.hid hnl
      obtain ⟨D, hD⟩ : ∃ D, D = (catK k ps).length := ⟨_, rfl⟩
      rw [← hD] at hnl ⊢
      have hDs : D + p.length ≤ 1000000 := by omega
      have HDD := Lib.hid hD
      clear hnl hD hle hNo
      go_wp2_with fail
      exact ⟨⟨k + 1, by omega, by go_num, by rw [HNL.out, ← HDD.out]; go_num, hBr⟩, by simp [intOf]; omega⟩
    · obtain rfl : k = ps.length := by omega
      have hNo := HN.out
      have hDs := catK_le ps ps.length
      obtain ⟨D, hD⟩ : ∃ D, D = (catK ps.length ps).length := ⟨_, rfl⟩
      rw [← hD] at hDs ⊢
      replace hDs : D ≤ 1000000 := by omega
      clear hD hNo
      go_wp2_with fail
      refine (gGrow0 D (by omega) wr).mono ?_
      rintro e w1 ⟨v1, rfl, ⟨o1, -⟩, B1⟩
      simp only []
      have BX := hBr.trans (B1.mono hBr.size)
      have o1' : OwB w.heap.size w1 v1 (catK 0 ps) := by
        rw [catK_zero]
        exact ⟨o1.1, o1.2.imp id fun ⟨g, cap, cur, q1, q2, q3⟩ => ⟨g, cap, cur, q1, Nat.le_trans hBr.size q2, q3⟩⟩
      clear o1 B1 hBr
      go_wp2_with fail
      go_loopw [6, 8, 27] (fun t s i wr => ∃ k : Nat, k ≤ ps.length ∧ i = .int .i64 k ∧ OwB w.heap.size wr t (catK k ps) ∧ Below w.heap.size w wr) (fun _ _ i _ => ps.length - (intOf i).toNat)
      case atStart => exact ⟨0, Nat.zero_le _, rfl, o1', BX⟩
      case round =>
        obtain ⟨k, hk, rfl, ho, hBr⟩ := hrel
        obtain ⟨A1, c1, rfl⟩ := ho.len
        by_cases hlt : k < ps.length
        · obtain ⟨g, off, cap', B, c, hv, hc1, hg, hcell, l1, r1, hby⟩ := byls_at HV.out k hlt
          cases hv
          have e1 := (hBr.cell (p := ⟨g, off + k, none⟩) hg).trans hcell
          have hle := catK_le ps (k + 1)
          have hle0 := catK_le ps k
          have hnx := catK_next ps k hlt
          have hNo := HN.out
          have hpl : (ps[k]).length ≤ 1000000 := by
            have : (catK (k + 1) ps).length = (catK k ps).length + (ps[k]).length := by rw [← hnx, List.length_append]
            omega
          have hBz := hBr.size
          generalize ps[k] = p at *
          have HNX := Lib.hid hnx
          clear hnx hcell
          go_upto_region 13 with (fail)
          refine wp_region_lit ?_
          iterate 2 (refine wpList_plain rfl fun K hK => ?_; go_big_op; refine hK _ _ ?_; clear hK K)
          refine wpList_cat rfl _ _ rfl rfl rfl (Rd.keep hby hBr) ho (by omega) (by omega) hBz fun v3 w3 o3 B3 => ?_
          rw [HNX.out] at o3
          have B4 := hBr.trans B3
          clear ho B3 e1 hby hBr hle hle0 hBz
          obtain ⟨A3, c3, rfl⟩ := o3.len
          go_wp2_with fail
          exact ⟨⟨k + 1, by omega, by go_num, o3, B4⟩, by simp [intOf]; omega⟩
        · obtain rfl : k = ps.length := by omega
          rw [catK_all] at ho ⊢
          obtain ⟨L, hL⟩ : ∃ L, L = ps.flatten := ⟨_, rfl⟩
          rw [← hL] at ho ⊢
          have HLL := Lib.hid hL
          have HO := Lib.hid ho
          clear ho
          go_wp2_with fail
          exact bodyPost_ret (v := .slice A1 L.length c1) (by simp [results, Tryz.results137, go_sem]) rfl ⟨_, rfl, by rw [← HLL.out]; exact HO.out.a, hBr⟩
end Go.Proofs.YtkgglhakimkkhaaGreatDoor
namespace Go.Proofs.YtkgglhakimkkhaaGreatDoor
open Go.RowKit

theorem en_attestor_sha256_schedule : ∀ args w, (callFunc 155 args).run Tryz.prog w = .ok (.enter 155 args) w := enters_of Tryz.func155 (by kernel_rfl) rfl
def pwN (b : List Nat) (k : Nat) : Nat → Nat
  | 0 => 0
  | j + 1 => pwN b k j * 256 + b.getD (4 * k + j) 0
theorem pwN_lt (b : List Nat) (h : ∀ x ∈ b, x < 256) (k : Nat) : ∀ j, pwN b k j < 256 ^ j
  | 0 => Nat.one_pos
  | j + 1 => by
    have h1 := pwN_lt b h k j
    have h2 : b.getD (4 * k + j) 0 < 256 := by
      rw [List.getD_eq_getElem?_getD]
      cases hx : b[4 * k + j]? with
      | none => decide
      | some x => exact h x (List.mem_of_getElem? hx)
    rw [pwN, Nat.pow_succ]
    omega
theorem pwN_four (b : List Nat) (k : Nat) : BitVec.ofNat 32 (pwN b k 4) = word4 b k := by
  have h : pwN b k 4 = b.getD (4 * k) 0 * 16777216 + b.getD (4 * k + 1) 0 * 65536 + b.getD (4 * k + 2) 0 * 256 + b.getD (4 * k + 3) 0 := by
    unfold pwN
    unfold pwN
    unfold pwN
    unfold pwN
    unfold pwN
    rw [Nat.add_zero]
    omega
  rw [h]
  rfl
theorem arrN_put (n : Nat) (l : List B32) (x y : B32) : (arrN n (l ++ [x])).set l.length (.int .u32 (bv y)) = arrN n (l ++ [y]) := by
  unfold arrN u32c
  simp
theorem arrN_pad (n : Nat) (l : List B32) (h : l.length < n) : arrN n l = arrN n (l ++ [0]) := by
  unfold arrN
  congr 1
  rw [List.append_assoc, show n - l.length = (n - (l ++ [0]).length) + 1 by rw [List.length_append, List.length_singleton]; omega, List.replicate_succ]
  rfl
theorem arrN_at (n : Nat) (l : List B32) (x : B32) : (arrN n (l ++ [x]))[l.length]? = some (.int .u32 (bv x)) := arrN_get n (l ++ [x]) l.length x (by simp)
theorem u32_shl_or (y x : Nat) (hy : y < 16777216) (hx : x < 256) : bits .or .u32 ((y : Int) * 256) (x : Int) = ((y * 256 + x : Nat) : Int) := by
  rw [show (y : Int) * 256 = ((y * 256 : Nat) : Int) by omega, u32_or_nat _ _ (by omega) (by omega)]
  congr 1
  rw [show y * 256 = 2 ^ 8 * y by omega]
  exact (Nat.two_pow_add_eq_or_of_lt (i := 8) (by omega) y).symm
theorem sg_val (x : B32) (p q s : Nat) : bits .xor .u32 (bits .xor .u32 (bv (rotr x p)) (bv (rotr x q))) (bv x / 2 ^ s) = bv (rotr x p ^^^ rotr x q ^^^ x >>> s) := by
  rw [bv_shr, bv_xor, bv_xor]
attribute [local irreducible] wpRg
set_option maxRecDepth 100000 in
set_option maxHeartbeats 4000000 in
theorem gSched (b : List Nat) (hb : b.length = 64) (hb8 : ∀ x ∈ b, x < 256) (v : Value) (lo hi : Nat) (w : World) (h : ByS lo hi w v b) : Calls Tryz.prog 155 #[v] w (Ret (arrV (sched b)) w) := by
  obtain ⟨g, off, cap, rfl, hcap, -, -, lg, qg⟩ := bys_cells h (by omega)
  rw [hb] at hcap ⊢
  have HQ := Lib.hid qg
  have HB := Lib.hid hb
  have H8 := Lib.hid hb8
  clear h hb hb8 qg
  go_enter Tryz.func155, Tryz.ntmps155
  go_upto_region 2 with (fail)
  refine wp_stk2 fun W hB hz b2 b3 => ?_
  obtain ⟨cs0, hcs0, b2'⟩ : ∃ cs : Array Value, cs.size = 64 ∧ Blk W w.heap.size 137 cs := ⟨_, rfl, b2⟩
  have b3' : Blk W (w.heap.size + 1) 137 (arrN 64 (schK b 0)).toArray := by rw [schK_zero, arrN_zero]; exact b3
  clear b2 b3 hz
  obtain ⟨g3, hg3⟩ : ∃ g, g = w.heap.size + 1 := ⟨_, rfl⟩
  rw [← hg3] at b3' ⊢
  have hg3a : w.heap.size < g3 := by omega
  clear hg3
  go_wp2_with fail
  go_loopw [12] (fun i wr => ∃ k : Nat, k ≤ 16 ∧ i = .int .i64 k ∧ Blk wr g3 137 (arrN 64 (schK b k)).toArray ∧ (∃ cs, Blk wr w.heap.size 137 cs ∧ cs.size = 64) ∧ Below w.heap.size w wr) (fun i _ => 16 - (intOf i).toNat)
  case atStart => exact ⟨0, Nat.zero_le _, rfl, b3', ⟨cs0, b2', hcs0⟩, hB⟩
  case round =>
    obtain ⟨k, hk, rfl, b3, ⟨cs, b2, hcs⟩, hBr⟩ := hrel
    by_cases hlt : k < 16
    · have hk4 : 4 * k + 4 ≤ cap := by omega
      rw [arrN_pad 64 _ (by rw [schK_length]; omega)] at b3
      go_wp2_with fail
      go_loopw [23] (fun i wr => ∃ j : Nat, j ≤ 4 ∧ i = .int .i64 j ∧ Blk wr g3 137 (arrN 64 (schK b k ++ [BitVec.ofNat 32 (pwN b k j)])).toArray ∧ (∃ cs, Blk wr w.heap.size 137 cs ∧ cs.size = 64) ∧ Below w.heap.size w wr) (fun i _ => 4 - (intOf i).toNat)
      case atStart => exact ⟨0, Nat.zero_le _, rfl, b3, ⟨cs, b2, hcs⟩, hBr⟩
      case round =>
        clear b2 hcs cs b3 hBr
        obtain ⟨j, hj, rfl, b3, ⟨cs, b2, hcs⟩, hBr⟩ := hrel
        by_cases hlj : j < 4
        · obtain ⟨x, hx⟩ : ∃ x, b[4 * k + j]? = some x := ⟨_, List.getElem?_eq_getElem (by rw [HB.out]; omega)⟩
          have hx8 := H8.out x (List.mem_of_getElem? hx)
          have c1 := (hBr.cell (p := ⟨g, off + (4 * k + j), none⟩) lg).trans (HQ.out _ x hx)
          rw [show off + (4 * k + j) = off + 4 * k + j by omega] at c1
          have hN : pwN b k (j + 1) = pwN b k j * 256 + x := by
            rw [pwN, List.getD_eq_getElem?_getD, hx]
            rfl
          have hle : pwN b k j < 16777216 := by
            have h1 := pwN_lt b H8.out k j
            have h2 : 256 ^ j ≤ 256 ^ 3 := Nat.pow_le_pow_right (by decide) (by omega)
            omega
          have c2 : wr.cell? ⟨g3, k, none⟩ = some (.int .u32 ((pwN b k j : Nat) : Int)) := by
            rw [b3.cell, ← bv_ofNat (pwN b k j) (by omega)]
            have := arrN_at 64 (schK b k) (BitVec.ofNat 32 (pwN b k j))
            rw [schK_length] at this
            simpa using this
          have e1 := b3.frozen
          have HN := Lib.hid hN
          clear hN
          obtain ⟨y, hy⟩ : ∃ y, y = pwN b k j := ⟨_, rfl⟩
          rw [← hy] at c2 hle
          have HY := Lib.hid hy
          clear hy
          have HOR := Lib.hid (u32_shl_or y x hle hx8)
          go_wp2_with fail
          rw [HOR.out]
          refine ⟨⟨j + 1, by omega, by go_num, ?_⟩, by simp [intOf]; omega⟩
          refine set1 (M := fun W => Blk W g3 137 (arrN 64 (schK b k ++ [BitVec.ofNat 32 (pwN b k (j + 1))])).toArray ∧ (∃ cs, Blk W w.heap.size 137 cs ∧ cs.size = 64) ∧ Below w.heap.size w W) b3 fun X hX bX => ⟨?_, ⟨cs, hX.blk b2 (by omega), hcs⟩, below_put hBr hX (by omega)⟩
          rw [HN.out, ← HY.out, ← arrN_put 64 (schK b k) (BitVec.ofNat 32 y) (BitVec.ofNat 32 (y * 256 + x)), bv_ofNat _ (by omega), schK_length, HY.out, ← List.setIfInBounds_toArray, ← HY.out]
          rw [← HY.out] at bX
          exact bX
        · obtain rfl : j = 4 := by omega
          rw [pwN_four, ← schK_low b k hlt] at b3
          go_wp2_with fail
          exact ⟨⟨k + 1, by omega, by go_num, b3, ⟨cs, b2, hcs⟩, hBr⟩, by simp [intOf]; omega⟩
    · obtain rfl : k = 16 := by omega
      go_wp2_with fail
      go_loopw [7] (fun i wr => ∃ k : Nat, 16 ≤ k ∧ k ≤ 64 ∧ i = .int .i64 k ∧ Blk wr g3 137 (arrN 64 (schK b k)).toArray ∧ (∃ cs, Blk wr w.heap.size 137 cs ∧ cs.size = 64) ∧ Below w.heap.size w wr) (fun i _ => 64 - (intOf i).toNat)
      case atStart => exact ⟨16, by omega, by omega, rfl, b3, ⟨cs, b2, hcs⟩, hBr⟩
      case round =>
        clear b2 hcs cs b3 hBr
        obtain ⟨k, hk16, hk, rfl, b3, ⟨cs, b2, hcs⟩, hBr⟩ := hrel
        by_cases hlt : k < 64
        · have q : ∀ j, j < k → wr.cell? ⟨g3, j, none⟩ = some (.int .u32 (bv ((schK b k).getD j 0))) := fun j hj => by
            rw [b3.cell]
            have := arrN_get 64 (schK b k) j ((schK b k).getD j 0) (by rw [List.getD_eq_getElem?_getD, List.getElem?_eq_getElem (by rw [schK_length]; exact hj)]; rfl)
            simpa using this
          have hS := schK_high b k (by omega)
          obtain ⟨v16, e16⟩ : ∃ x, x = (schK b k).getD (k - 16) 0 := ⟨_, rfl⟩
          obtain ⟨v15, e15⟩ : ∃ x, x = (schK b k).getD (k - 15) 0 := ⟨_, rfl⟩
          obtain ⟨v7', e7⟩ : ∃ x, x = (schK b k).getD (k - 7) 0 := ⟨_, rfl⟩
          obtain ⟨v2, e2'⟩ : ∃ x, x = (schK b k).getD (k - 2) 0 := ⟨_, rfl⟩
          have q16 := q (k - 16) (by omega)
          have q15 := q (k - 15) (by omega)
          have q7 := q (k - 7) (by omega)
          have q2 := q (k - 2) (by omega)
          rw [← e16, ← e15, ← e7, ← e2'] at hS
          rw [← e16] at q16
          rw [← e15] at q15
          rw [← e7] at q7
          rw [← e2'] at q2
          have HS := Lib.hid hS
          have l3 := b3.lt
          have f16 := gw_cell l3 q16
          have f15 := gw_cell l3 q15
          have f7 := gw_cell l3 q7
          have f2 := gw_cell l3 q2
          clear q hS e16 e15 e7 e2' q16 q15 q7 q2
          go_wp2_with fail
          refine wp_region_rg 9 [] (by kernel_rfl) (by kernel_rfl) (by kernel_rfl) trivial ?_
          iterate 9 (refine rg_det rfl rfl rfl (fun K hK => ?_); go_big_quiet_op; refine hK _ ?_; clear hK K)
          refine rg_nil (fun w' hw' hF => ?_)
          obtain ⟨z, rfl⟩ := hw'
          simp only [List.drop_succ_cons, List.drop_zero]
          have b3z := b3.gw z
          have b2z := b2.gw z
          have hBz := hBr.trans (z.h.mono hBr.size)
          have l3z := b3z.lt
          have y16 := (f16 z)
          have y7 := (f7 z)
          clear hF f16 f15 f7 f2
          have hB0 := Below.refl z.w.heap.size z.w
          go_wp2_with fail
          refine (gRotL v15 7 (by decide) (by decide) z.w).mono ?_
          rintro e w1 ⟨rfl, hbw1⟩
          simp only []
          have hB1 := hB0.trans (hbw1.mono hB0.size)
          go_wp2_with fail
          refine (gRotL v15 18 (by decide) (by decide) w1).mono ?_
          rintro e w2 ⟨rfl, hbw2⟩
          simp only []
          have hB2 := hB1.trans (hbw2.mono hB1.size)
          go_upto_region 16 with (fail)
          rw [show bits .xor .u32 (bits .xor .u32 (bv (rotr v15 7)) (bv (rotr v15 18))) (bv v15 / 8) = bv (sg0 v15) from sg_val v15 7 18 3]
          go_wp2_with fail
          refine (gRotL v2 17 (by decide) (by decide) w2).mono ?_
          rintro e w3 ⟨rfl, hbw3⟩
          simp only []
          have hB3 := hB2.trans (hbw3.mono hB2.size)
          go_wp2_with fail
          refine (gRotL v2 19 (by decide) (by decide) w3).mono ?_
          rintro e w4 ⟨rfl, hbw4⟩
          simp only []
          have hB4 := hB3.trans (hbw4.mono hB3.size)
          go_upto_region 17 with (fail)
          rw [show bits .xor .u32 (bits .xor .u32 (bv (rotr v2 17)) (bv (rotr v2 19))) (bv v2 / 1024) = bv (sg1 v2) from sg_val v2 17 19 10]
          have b3w := b3z.keep hB4
          have b2w := b2z.keep hB4
          have hBw := hBz.trans (hB4.mono hBz.size)
          have f16 := gw_cell (W := w4) b3w.lt ((hB4.cell (p := ⟨g3, k - 16, none⟩) l3z).trans y16)
          have f7 := gw_cell (W := w4) b3w.lt ((hB4.cell (p := ⟨g3, k - 7, none⟩) l3z).trans y7)
          clear hbw1 hbw2 hbw3 hbw4 hB0 hB1 hB2 hB3 hB4 y16 y7 b3z b2z hBz l3z
          refine wp_region_rg 14 [] (by kernel_rfl) (by kernel_rfl) (by kernel_rfl) trivial ?_
          iterate 14 (refine rg_det rfl rfl rfl (fun K hK => ?_); go_big_quiet_op; refine hK _ ?_; clear hK K)
          refine rg_nil (fun w' hw' hF => ?_)
          obtain ⟨y, rfl⟩ := hw'
          simp only [List.drop_succ_cons, List.drop_zero]
          have b3y := b3w.gw y
          have b2y := b2w.gw y
          have hBy := hBw.trans (y.h.mono hBw.size)
          have e1 := b3y.frozen
          have e2 : y.w.cell? ⟨g3, k, none⟩ = some (.int .u32 0) := (b3y.cell k).trans (by have := arrN_next 64 (schK b k) (by rw [schK_length]; exact hlt); rw [schK_length] at this; simpa using this)
          clear hF f16 f7 b3w b2w hBw
          go_upto_region 13 with (fail)
          rw [bv_add4]
          refine set1 (M := fun W => Code.wp _ _ _ _ W) b3y fun X hX bX => ?_
          have b3X : Blk X g3 137 (arrN 64 (schK b (k + 1))).toArray := by
            rw [HS.out, ← arrN_set 64 (schK b k) _ (by rw [schK_length]; exact hlt), schK_length]
            rw [← List.setIfInBounds_toArray]
            exact bX
          have b2X := hX.blk b2y (by omega)
          have hBX := below_put hBy hX (by omega)
          clear e1 e2 bX b3y b2y
          go_wp2_with fail
          exact ⟨⟨k + 1, by omega, by omega, by go_num, b3X, ⟨cs, b2X, hcs⟩, hBX⟩, by simp [intOf]; omega⟩
        · obtain rfl : k = 64 := by omega
          rw [schK_all, arrN_full 64 _ (sched_length b)] at b3
          clear HQ HB H8
          go_upto_region 18 with (fail)
          refine wp_carry 137 (u32c (sched b)) _ _ _ _ rfl rfl rfl rfl w64_under rfl (by rw [w64_size, u32c_len, sched_length]) (u32c_one _) rfl (fun _ => rfl) (fun _ => rfl) b3 b2 (by rw [hcs, u32c_len, sched_length]) fun X v hX bX => ?_
          have hBX : Below w.heap.size w X := below_put hBr hX (by omega)
          go_wp2_with fail
          exact bodyPost_ret (v := arrV (sched b)) (res_row (g := w.heap.size) rfl rfl w64_under rfl (by rw [w64_size, u32c_len, sched_length]) bX) rfl ⟨rfl, hBX⟩
end Go.Proofs.YtkgglhakimkkhaaGreatDoor
namespace Go.Proofs.YtkgglhakimkkhaaGreatDoor
open Go.RowKit

structure Lsh (w : World) : Prop where
  i8 : w.rangeAt 1 0 init8.cells
  kt : w.rangeAt 2 0 (u32c kTabB)
  sz : 2 < w.heap.size
theorem Lsh.keep {w X : World} (h : Lsh w) (hb : Below w.heap.size w X) : Lsh X :=
  ⟨fun j v hv => (hb.cell (p := ⟨1, 0 + j, none⟩) (show 1 < w.heap.size by have := h.sz; omega)).trans (h.i8 j v hv), fun j v hv => (hb.cell (p := ⟨2, 0 + j, none⟩) h.sz).trans (h.kt j v hv), Nat.lt_of_lt_of_le h.sz hb.size⟩
theorem Lsh.below {w X : World} {N : Nat} (h : Lsh w) (hb : Below N w X) (hN : 2 < N) : Lsh X :=
  ⟨fun j v hv => (hb.cell (p := ⟨1, 0 + j, none⟩) (show 1 < N by omega)).trans (h.i8 j v hv), fun j v hv => (hb.cell (p := ⟨2, 0 + j, none⟩) hN).trans (h.kt j v hv), Nat.lt_of_lt_of_le h.sz hb.size⟩
theorem Lsh.put {w X : World} {g : Nat} (h : Lsh w) (hp : Put w X g) (hg : 2 < g) : Lsh X := h.below (hp.below (Nat.le_refl _)) hg
theorem Lsh.const {w : World} (h : Lsh w) (k : Nat) (hk : k < 64) : w.cell? ⟨2, k, none⟩ = some (.int .u32 (bv (kTabB.getD k 0))) := by
  have hl : k < kTabB.length := by rw [kTabB_length]; exact hk
  have := h.kt k (.int .u32 (bv (kTabB.getD k 0))) (by
    unfold u32c
    rw [List.getElem?_map, List.getElem?_eq_getElem hl, List.getD_eq_getElem?_getD, List.getElem?_eq_getElem hl]
    rfl)
  rwa [Nat.zero_add] at this
structure Mut (w X : World) (g : Nat) : Prop where
  os : X.os = w.os
  tape : X.tape = w.tape
  output : X.output = w.output
  size : w.heap.size ≤ X.heap.size
  other : ∀ k, k < w.heap.size → k ≠ g → X.heap[k]? = w.heap[k]?
theorem Mut.of_below {w X : World} {g : Nat} (h : Below w.heap.size w X) : Mut w X g := ⟨h.os, h.tape, h.output, h.size, fun k hk _ => h.block k hk⟩
theorem Mut.put {w X Y : World} {g : Nat} (h : Mut w X g) (p : Put X Y g) : Mut w Y g := ⟨p.os.trans h.os, p.tape.trans h.tape, p.output.trans h.output, by rw [p.size]; exact h.size, fun k hk hne => (p.other k hne).trans (h.other k hk hne)⟩
theorem Mut.below {w X Y : World} {g : Nat} (h : Mut w X g) (p : Below X.heap.size X Y) : Mut w Y g := ⟨p.os.trans h.os, p.tape.trans h.tape, p.output.trans h.output, Nat.le_trans h.size p.size, fun k hk hne => (p.block k (Nat.lt_of_lt_of_le hk h.size)).trans (h.other k hk hne)⟩
theorem st_info : (Tryz.prog.info? 159).map (fun i => (i.zero, i.size, i.bytes)) = some (some (.agg (List.replicate 8 (Value.int .u32 0)).toArray), 8, 32) := by kernel_rfl
theorem st_size : (Tryz.prog.info? 159).map (·.size) = some 8 := by kernel_rfl
theorem st_under : Tryz.prog.underlying 159 = some (.array 8 116) := by kernel_rfl
structure CmpS (w W : World) (n4 n5 g0 : Nat) (ty : TypeId) (sc : List B32) (r s : S8) : Prop where
  b4 : Blk W n4 137 (u32c sc).toArray
  b5 : Blk W n5 159 r.cells.toArray
  bg : Blk W g0 ty s.cells.toArray
  hB : Below w.heap.size w W
section
variable {w W X : World} {n4 n5 g0 : Nat} {ty : TypeId} {sc : List B32} {r s : S8}
theorem CmpS.keep (h : CmpS w W n4 n5 g0 ty sc r s) (hb : Below W.heap.size W X) : CmpS w X n4 n5 g0 ty sc r s := ⟨h.b4.keep hb, h.b5.keep hb, h.bg.keep hb, h.hB.trans (hb.mono h.hB.size)⟩
theorem CmpS.c0 (h : CmpS w W n4 n5 g0 ty sc r s) : W.cell? ⟨n5, 0, none⟩ = some (.int .u32 (bv r.a)) := (h.b5.cell 0).trans rfl
theorem CmpS.c1 (h : CmpS w W n4 n5 g0 ty sc r s) : W.cell? ⟨n5, 1, none⟩ = some (.int .u32 (bv r.b)) := (h.b5.cell 1).trans rfl
theorem CmpS.c2 (h : CmpS w W n4 n5 g0 ty sc r s) : W.cell? ⟨n5, 2, none⟩ = some (.int .u32 (bv r.c)) := (h.b5.cell 2).trans rfl
theorem CmpS.c4 (h : CmpS w W n4 n5 g0 ty sc r s) : W.cell? ⟨n5, 4, none⟩ = some (.int .u32 (bv r.e)) := (h.b5.cell 4).trans rfl
theorem CmpS.c5 (h : CmpS w W n4 n5 g0 ty sc r s) : W.cell? ⟨n5, 5, none⟩ = some (.int .u32 (bv r.f)) := (h.b5.cell 5).trans rfl
theorem CmpS.c6 (h : CmpS w W n4 n5 g0 ty sc r s) : W.cell? ⟨n5, 6, none⟩ = some (.int .u32 (bv r.g)) := (h.b5.cell 6).trans rfl
theorem CmpS.c7 (h : CmpS w W n4 n5 g0 ty sc r s) : W.cell? ⟨n5, 7, none⟩ = some (.int .u32 (bv r.h)) := (h.b5.cell 7).trans rfl
end
theorem ch_val (e f g : B32) : bits .xor .u32 (bits .and .u32 (bv e) (bv f)) (bits .and .u32 (bits .xor .u32 (if IntKind.u32.signed = true then -1 else IntKind.u32.max) (bv e)) (bv g)) = bv (chE e f g) := by
  rw [show (if IntKind.u32.signed = true then (-1 : Int) else IntKind.u32.max) = bv (BitVec.allOnes 32) by decide, bv_xor, bv_and, bv_and, bv_xor, BitVec.allOnes_xor]
  rfl
theorem b3_val (x : B32) (p q s : Nat) : bits .xor .u32 (bits .xor .u32 (bv (rotr x p)) (bv (rotr x q))) (bv (rotr x s)) = bv (rotr x p ^^^ rotr x q ^^^ rotr x s) := by
  rw [bv_xor, bv_xor]
theorem mj_val (a b c : B32) : bits .xor .u32 (bits .xor .u32 (bits .and .u32 (bv a) (bv b)) (bits .and .u32 (bv a) (bv c))) (bits .and .u32 (bv b) (bv c)) = bv (maj a b c) := by
  rw [bv_and, bv_and, bv_and, bv_xor, bv_xor, maj_xor]
theorem bv_add5 (a b c d e : B32) : (bv a + bv b + bv c + bv d + bv e) % 4294967296 = bv (a + b + c + d + e) := by
  unfold bv
  rw [BitVec.toNat_add, BitVec.toNat_add, BitVec.toNat_add, BitVec.toNat_add]
  omega
theorem bv_add3 (a b c : B32) : (bv a + bv b + bv c) % 4294967296 = bv (a + b + c) := by
  unfold bv
  rw [BitVec.toNat_add, BitVec.toNat_add]
  omega
def S8.get (s : S8) (j : Nat) : B32 := [s.a, s.b, s.c, s.d, s.e, s.f, s.g, s.h].getD j 0
theorem S8.at {s : S8} {j : Nat} (h : j < 8) : s.cells[j]? = some (.int .u32 (bv (s.get j))) := by
  rcases j with _ | _ | _ | _ | _ | _ | _ | _ | j
  all_goals first | rfl | omega
def adK (s r : S8) (j : Nat) : List Value := (s.add r).cells.take j ++ s.cells.drop j
theorem adK_at (s r : S8) (j : Nat) (h : j < 8) : (adK s r j)[j]? = some (.int .u32 (bv (s.get j))) := by
  rcases j with _ | _ | _ | _ | _ | _ | _ | _ | j
  all_goals first | rfl | omega
theorem adK_set (s r : S8) (j : Nat) (h : j < 8) : (adK s r j).set j (.int .u32 (bv (s.get j + r.get j))) = adK s r (j + 1) := by
  rcases j with _ | _ | _ | _ | _ | _ | _ | _ | j
  all_goals first | rfl | omega
theorem put_setRow {w : World} {g : Nat} {t : TypeId} {cs ds : Array Value} (b : Blk w g t cs) : Put w (w.setRow g ds) g ∧ Blk (w.setRow g ds) g t ds :=
  ⟨⟨rfl, rfl, rfl, by simp [World.setRow], fun k hk => setRow_other w g k ds (fun e => hk e)⟩, setRow_heap w g cs ds t _ b⟩
theorem step_copy {P : Program} {o : Oper} {a : Act} {w : World} {d s : Operand} {dT sT elem : TypeId} {g og os dLen dCap sLen sCap : Nat} {cur : Array Value} {t : TypeId} (cs : List Value) (ho : o.op = .call { callee := .builtin .copy, args := #[d, s], argTypes := #[dT, sT] })
    (hd : a.eval d = .slice (some ⟨g, og, none⟩) dLen dCap) (hs : a.eval s = .slice (some ⟨g, os, none⟩) sLen sCap) (hu : P.underlying dT = some (.slice elem)) (hi : (P.info? elem).map (·.size) = some 1) (b : Blk w g t cur) (hn : cs.length = Nat.min sLen dLen)
    (hsrc : ∀ j v, cs[j]? = some v → cur[os + j]? = some v) (hfit : og + cs.length ≤ cur.size) (h1 : ∀ v ∈ cs, v.oneCell' = true) :
    stepAt P o a w fun v w' => Put w w' g ∧ Blk w' g t (cur.toList.take og ++ cs ++ cur.toList.drop (og + cs.length)).toArray := by
  have hr := run_copy_row (P := P) w dT sT o.type elem g og dLen dCap ⟨g, os, none⟩ sLen sCap cur t cs hu hi b hn (fun j v hv => by
    have := hsrc j v hv
    rw [show (⟨g, os, none⟩ : Addr).add j = ⟨g, os + j, none⟩ by unfold Addr.add; split <;> simp_all, b.cell]
    exact this) hfit h1
  unfold stepAt execOp
  simp only [ho, resolve, invoke, builtin, Sem.run_bind, Sem.run_pure, Result.andThen_ok, List.map_toArray, List.map_cons, List.map_nil, hd, hs, hr]
  exact put_setRow b
theorem u32s_under : Tryz.prog.underlying 167 = some (.slice 116) := by kernel_rfl
theorem u32_size1 : (Tryz.prog.info? 116).map (·.size) = some 1 := by kernel_rfl
def sh8 (r : S8) : S8 := ⟨r.a, r.a, r.b, r.c, r.d, r.e, r.f, r.g⟩
theorem step_cp8 {o : Oper} {a : Act} {w : World} {d s : Operand} {g : Nat} {t : TypeId} {r : S8} (ho : o.op = .call { callee := .builtin .copy, args := #[d, s], argTypes := #[167, 167] })
    (hd : a.eval d = .slice (some ⟨g, 1, none⟩) 7 7) (hs : a.eval s = .slice (some ⟨g, 0, none⟩) 7 8) (b : Blk w g t r.cells.toArray) : stepAt Tryz.prog o a w fun _ w' => Put w w' g ∧ Blk w' g t (sh8 r).cells.toArray := by
  refine stepAt_mono (fun v w' hh => hh) (step_copy (cs := [.int .u32 (bv r.a), .int .u32 (bv r.b), .int .u32 (bv r.c), .int .u32 (bv r.d), .int .u32 (bv r.e), .int .u32 (bv r.f), .int .u32 (bv r.g)]) ho hd hs u32s_under u32_size1 b rfl (fun j v hv => ?_) (by simp [S8.cells]) (fun v hv => ?_))
  · rcases j with _ | _ | _ | _ | _ | _ | _ | j
    all_goals first | exact hv | cases hv
  · simp only [List.mem_cons, List.not_mem_nil, or_false] at hv
    rcases hv with rfl | rfl | rfl | rfl | rfl | rfl | rfl <;> rfl
theorem u32_under : Tryz.prog.underlying 116 = some (.int .u32) := by kernel_rfl
theorem run_ix8 (r : S8) (k : Nat) (hk : k < 8) (w : World) : (Instr.index 159 (.agg r.cells.toArray) (.int .i64 (k : Int))).run Tryz.prog w = .ok (.int .u32 (bv (r.get k))) w := by
  obtain ⟨i, hi, hs⟩ : ∃ i, Tryz.prog.info? 116 = some i ∧ i.size = 1 := by
    have := u32_size1
    cases h : Tryz.prog.info? 116 with
    | none => rw [h] at this; cases this
    | some i => rw [h] at this; exact ⟨i, rfl, by simpa using this⟩
  have h1 : (k : Int) < 8 := by omega
  rcases k with _ | _ | _ | _ | _ | _ | _ | _ | k
  all_goals first | omega | simp [Instr.index, asIntOf, run_underlying st_under, run_underlying u32_under, part, sizeOf, typeInfo, hi, hs, S8.cells, S8.get]
theorem bv_add2 (a b : B32) : (bv a + bv b) % 4294967296 = bv (a + b) := bv_add' a b
attribute [local irreducible] wpRg
set_option maxRecDepth 100000 in
set_option maxHeartbeats 4000000 in
theorem gCompress (s : S8) (b : List Nat) (hb : b.length = 64) (hb8 : ∀ x ∈ b, x < 256) (v : Value) (lo hi g0 : Nat) (ty : TypeId) (w : World) (hL : Lsh w) (h0 : Blk w g0 ty s.cells.toArray) (h : ByS lo hi w v b) :
    Calls Tryz.prog 146 #[.pointer (some ⟨g0, 0, none⟩), v] w fun e w' => e = .returned (.tuple #[]) ∧ Blk w' g0 ty (comp s b).cells.toArray ∧ Mut w w' g0 := by
  have HV := Lib.hid h
  have HB := Lib.hid hb
  have H8 := Lib.hid hb8
  clear h hb hb8
  go_enter Tryz.func146, Tryz.ntmps146
  obtain ⟨i64', hi64, iz0, iz1, iz2⟩ := info_parts w64_info
  obtain ⟨ist, hist, sz0, sz1, sz2⟩ := info_parts st_info
  go_upto_region 0 with (fail)
  refine wp_region_lit ?_
  iterate 1 (refine wpList_plain rfl fun K hK => ?_; go_big_op; refine hK _ _ ?_; clear hK K)
  refine wpList_plain rfl fun K2 hK2 => wp_of_step (stepAt_mono (fun v17 w1 hh => ?_) (step_callv en_attestor_sha256_schedule (gSched b HB.out H8.out _ lo hi w HV.out) rfl rfl))
  obtain ⟨rfl, B1⟩ := hh
  refine hK2 _ _ ?_
  clear hK2 K2
  try simp only [Act.put, List.setIfInBounds_toArray, List.set_cons_succ, List.set_cons_zero]
  refine wpList_plain rfl fun K3 hK3 => wp_of_step (stepAt_mono (fun v4 w2 hh => ?_) (step_new0 hi64 iz0 rfl))
  obtain ⟨rfl, rfl⟩ := hh
  refine hK3 _ _ ?_
  clear hK3 K3
  try simp only [Act.put, List.setIfInBounds_toArray, List.set_cons_succ, List.set_cons_zero]
  have b4 : Blk (w1.alloc (.cells (Value.agg (zl 64).toArray).cells 137)) w1.heap.size 137 (zl 64).toArray := World.alloc_heap_new w1 _
  have B2 := B1.alloc B1.size (.cells (Value.agg (zl 64).toArray).cells 137)
  refine wpList_put rfl 137 (.tmp 4) (.tmp 17) rfl rfl (cells := u32c (sched b)) rfl b4 (by rw [u32c_len, sched_length]; simp [zl]) (by rw [w64_size, u32c_len, sched_length]) (u32c_one _) (spl_all _ _ (by rw [u32c_len, sched_length]; simp [zl])) fun X hX bX => ?_
  have hn4 : g0 < w1.heap.size := Nat.lt_of_lt_of_le h0.lt B1.size
  have hn4w : w.heap.size ≤ w1.heap.size := B1.size
  have bg := hX.blk (h0.below B2 h0.lt) (by omega)
  have BX := below_put B2 hX hn4w
  obtain ⟨n4, hn4e⟩ : ∃ n, n = w1.heap.size := ⟨_, rfl⟩
  rw [← hn4e] at bX hn4 hn4w ⊢
  clear b4 B2 B1 hX hn4e iz0 iz1 iz2 hi64
  go_upto_region 1 with (fail)
  refine wp_region_lit ?_
  try simp only [Act.put, List.setIfInBounds_toArray, List.set_cons_succ, List.set_cons_zero]
  iterate 2 (refine wpList_plain rfl fun K hK => ?_; go_big_op; refine hK _ _ ?_; clear hK K)
  refine wpList_plain rfl fun K6 hK6 => wp_of_step (stepAt_mono (fun v20 w20 hh => ?_) (step_loadR0 (cs := s.cells) st_under rfl st_size rfl rfl (blk_range bg)))
  obtain ⟨rfl, rfl⟩ := hh
  refine hK6 _ _ ?_
  clear hK6 K6
  try simp only [Act.put, List.setIfInBounds_toArray, List.set_cons_succ, List.set_cons_zero]
  refine wpList_plain rfl fun K7 hK7 => wp_of_step (stepAt_mono (fun v5 w5 hh => ?_) (step_new0 hist sz0 rfl))
  obtain ⟨rfl, rfl⟩ := hh
  refine hK7 _ _ ?_
  clear hK7 K7
  try simp only [Act.put, List.setIfInBounds_toArray, List.set_cons_succ, List.set_cons_zero]
  have b5 : Blk (w20.alloc (.cells (Value.agg (List.replicate 8 (Value.int .u32 0)).toArray).cells 159)) w20.heap.size 159 (List.replicate 8 (Value.int .u32 0)).toArray := World.alloc_heap_new w20 _
  have B5 := BX.alloc BX.size (.cells (Value.agg (List.replicate 8 (Value.int .u32 0)).toArray).cells 159)
  have BA := (Below.refl _ w20).alloc (Nat.le_refl _) (.cells (Value.agg (List.replicate 8 (Value.int .u32 0)).toArray).cells 159)
  refine wpList_put rfl 159 (.tmp 5) (.tmp 20) rfl rfl (cells := s.cells) rfl b5 (by simp [S8.cells]) st_size (s8_one _) (spl_all _ _ (by simp [S8.cells])) fun Y hY bY => ?_
  have hn5w : w.heap.size ≤ w20.heap.size := BX.size
  have hn5 : n4 < w20.heap.size := bX.lt
  have bgY := hY.blk (bg.keep BA) (by omega)
  have b4Y := hY.blk (bX.keep BA) (by omega)
  have BY := below_put B5 hY hn5w
  obtain ⟨n5, hn5e⟩ : ∃ n, n = w20.heap.size := ⟨_, rfl⟩
  rw [← hn5e] at bY hn5 hn5w ⊢
  have bY0 : Blk Y n5 159 (rndK b s 0).cells.toArray := bY
  have hLw := hL.sz
  clear b5 B5 BA hY hn5e sz0 sz1 sz2 hist bg bX BX bY
  try simp only [Act.put, List.setIfInBounds_toArray, List.set_cons_succ, List.set_cons_zero]
  go_wp2_with fail
  go_loopw [21] (fun i wr => ∃ k : Nat, k ≤ 64 ∧ i = .int .i64 k ∧ Blk wr n4 137 (u32c (sched b)).toArray ∧ Blk wr n5 159 (rndK b s k).cells.toArray ∧ Blk wr g0 ty s.cells.toArray ∧ Below w.heap.size w wr) (fun i _ => 64 - (intOf i).toNat)
  case atStart => exact ⟨0, Nat.zero_le _, rfl, b4Y, bY0, bgY, BY⟩
  case round =>
    obtain ⟨k, hk, rfl, b4, b5, bg, hBr⟩ := hrel
    clear b4Y bY0 bgY BY
    by_cases hlt : k < 64
    · have hN : rndK b s (k + 1) = rnd (kTabB.getD k 0) ((sched b).getD k 0) (rndK b s k) := by rw [rndK]
      have hcw := u32c_cell b4 k (by rw [sched_length]; exact hlt)
      have hck := (hL.below hBr (by omega)).const k hlt
      have HN := Lib.hid hN
      generalize hR : rndK b s k = r at *
      generalize kTabB.getD k 0 = kk at *
      generalize (sched b).getD k 0 = ww at *
      have C : CmpS w wr n4 n5 g0 ty (sched b) r s := ⟨b4, b5, bg, hBr⟩
      clear b4 b5 bg hBr hN hR
      have f0 := gw_cell C.b5.lt C.c0
      have f4 := gw_cell C.b5.lt C.c4
      have fk := gw_cell (show 2 < wr.heap.size by have := C.hB.size; omega) hck
      have fw := gw_cell C.b4.lt hcw
      clear hck hcw
      go_upto_region 5 with (fail)
      refine wp_region_rg 5 [] (by kernel_rfl) (by kernel_rfl) (by kernel_rfl) trivial ?_
      iterate 5 (refine rg_det rfl rfl rfl (fun K hK => ?_); go_big_quiet_op; refine hK _ ?_; clear hK K)
      refine rg_nil (fun w' hw' hF => ?_)
      obtain ⟨z, rfl⟩ := hw'
      simp only [List.drop_succ_cons, List.drop_zero]
      have C := C.keep z.h
      have kz := fk z
      have wz := fw z
      clear hF f0 f4 fk fw
      go_wp2_with fail
      have hB0 := Below.refl z.w.heap.size z.w
      go_wp2_with fail
      refine (gRotL r.e 6 (by decide) (by decide) z.w).mono ?_
      rintro e w1 ⟨rfl, hbw1⟩
      simp only []
      have hB1 := hB0.trans (hbw1.mono hB0.size)
      go_wp2_with fail
      refine (gRotL r.e 11 (by decide) (by decide) w1).mono ?_
      rintro e w2 ⟨rfl, hbw2⟩
      simp only []
      have hB2 := hB1.trans (hbw2.mono hB1.size)
      go_wp2_with fail
      refine (gRotL r.e 25 (by decide) (by decide) w2).mono ?_
      rintro e w3 ⟨rfl, hbw3⟩
      simp only []
      have hB3 := hB2.trans (hbw3.mono hB2.size)
      have C3 := C.keep hB3
      have c5 := C3.c5
      have c6 := C3.c6
      go_upto_region 8 with (fail)
      rw [ch_val, b3_val]
      rw [show rotr r.e 6 ^^^ rotr r.e 11 ^^^ rotr r.e 25 = bs1 r.e from rfl]
      have f7 := gw_cell C3.b5.lt C3.c7
      have fk := gw_cell (show 2 < w3.heap.size by have := C3.hB.size; omega) ((hB3.cell (p := ⟨2, k, none⟩) (show 2 < z.w.heap.size by have := C.hB.size; omega)).trans kz)
      have fw := gw_cell C3.b4.lt ((hB3.cell (p := ⟨n4, k, none⟩) C.b4.lt).trans wz)
      clear C hB0 hB1 hB2 hB3 hbw1 hbw2 hbw3 kz wz c5 c6
      refine wp_region_rg 14 [] (by kernel_rfl) (by kernel_rfl) (by kernel_rfl) trivial ?_
      iterate 14 (refine rg_det rfl rfl rfl (fun K hK => ?_); go_big_quiet_op; refine hK _ ?_; clear hK K)
      refine rg_nil (fun w' hw' hF => ?_)
      obtain ⟨y, rfl⟩ := hw'
      simp only [List.drop_succ_cons, List.drop_zero]
      have C := C3.keep y.h
      clear hF f7 fk fw C3
      go_wp2_with fail
      have hB0 := Below.refl y.w.heap.size y.w
      go_wp2_with fail
      refine (gRotL r.a 2 (by decide) (by decide) y.w).mono ?_
      rintro e w4 ⟨rfl, hbw4⟩
      simp only []
      have hB4 := hB0.trans (hbw4.mono hB0.size)
      go_wp2_with fail
      refine (gRotL r.a 13 (by decide) (by decide) w4).mono ?_
      rintro e w5 ⟨rfl, hbw5⟩
      simp only []
      have hB5 := hB4.trans (hbw5.mono hB4.size)
      go_wp2_with fail
      refine (gRotL r.a 22 (by decide) (by decide) w5).mono ?_
      rintro e w6 ⟨rfl, hbw6⟩
      simp only []
      have hB6 := hB5.trans (hbw6.mono hB5.size)
      have C6 := C.keep hB6
      have c1 := C6.c1
      have c2 := C6.c2
      go_upto_region 11 with (fail)
      rw [b3_val, mj_val, bv_add5]
      rw [show rotr r.a 2 ^^^ rotr r.a 13 ^^^ rotr r.a 22 = bs0 r.a from rfl, show r.h + bs1 r.e + chE r.e r.f r.g + kk + ww = tOne kk ww r from rfl]
      clear C hB0 hB4 hB5 hB6 hbw4 hbw5 hbw6 c1 c2
      generalize hT : tOne kk ww r = T at *
      refine wp_region_rg 2 [] (by kernel_rfl) (by kernel_rfl) (by kernel_rfl) trivial ?_
      iterate 2 (refine rg_det rfl rfl rfl (fun K hK => ?_); go_big_quiet_op; refine hK _ ?_; clear hK K)
      refine rg_nil (fun w' hw' hF => ?_)
      obtain ⟨x, rfl⟩ := hw'
      simp only [List.drop_succ_cons, List.drop_zero]
      have C := C6.keep x.h
      clear hF C6
      refine wpList_plain rfl fun K15 hK15 => wp_of_step (stepAt_mono (fun v85 w7 hh => ?_) (step_cp8 rfl rfl rfl C.b5))
      obtain ⟨hP7, b5s⟩ := hh
      refine hK15 _ _ ?_
      clear hK15 K15
      try simp only [Act.put, List.setIfInBounds_toArray, List.set_cons_succ, List.set_cons_zero]
      have b4s := hP7.blk C.b4 (by omega)
      have bgs := hP7.blk C.bg (by omega)
      have hBs := below_put C.hB hP7 hn5w
      clear hP7 C
      have c4 : w7.cell? ⟨n5, 4, none⟩ = some (.int .u32 (bv r.d)) := (b5s.cell 4).trans rfl
      have e5 := b5s.frozen
      go_upto_region 12 with (fail)
      go_upto_region 13 with (fail)
      rw [bv_add2]
      refine set1 (M := fun W => Code.wp _ _ _ _ W) b5s fun X hX bX => ?_
      have b4X := hX.blk b4s (by omega)
      have bgX := hX.blk bgs (by omega)
      have hBX := below_put hBs hX hn5w
      have b5X : Blk X n5 159 (⟨r.a, r.a, r.b, r.c, r.d + T, r.e, r.f, r.g⟩ : S8).cells.toArray := bX
      clear b5s b4s bgs hBs c4 e5 hX bX
      have c0 : X.cell? ⟨n5, 0, none⟩ = some (.int .u32 (bv r.a)) := (b5X.cell 0).trans rfl
      have e5 := b5X.frozen
      go_upto_region 14 with (fail)
      rw [bv_add3]
      refine set1 (M := fun W => Code.wp _ _ _ _ W) b5X fun Z hZ bZ => ?_
      have b4Z := hZ.blk b4X (by omega)
      have bgZ := hZ.blk bgX (by omega)
      have hBZ := below_put hBX hZ hn5w
      have b5Z : Blk Z n5 159 (rndK b s (k + 1)).cells.toArray := by
        rw [HN.out]
        unfold rnd
        rw [hT, ← BitVec.add_assoc]
        rw [bv_add3] at bZ
        exact bZ
      clear c0 e5 b5X b4X bgX hBX bZ hZ
      go_wp2_with fail
      exact ⟨⟨k + 1, by omega, by go_num, b4Z, b5Z, bgZ, hBZ⟩, by simp [intOf]; omega⟩
    · obtain rfl : k = 64 := by omega
      generalize hR : rndK b s 64 = r at *
      go_upto_region 15 with (fail)
      refine wp_region_lit ?_
      refine wpList_plain rfl fun K16 hK16 => wp_of_step (stepAt_mono (fun v98 w98 hh => ?_) (step_loadR0 (cs := r.cells) st_under rfl st_size rfl rfl (blk_range b5)))
      obtain ⟨rfl, rfl⟩ := hh
      refine hK16 _ _ ?_
      clear hK16 K16
      try simp only [Act.put, List.setIfInBounds_toArray, List.set_cons_succ, List.set_cons_zero]
      have hMr : Mut w w98 g0 := Mut.of_below hBr
      have bg0 : Blk w98 g0 ty (adK s r 0).toArray := bg
      clear b4 b5 bg hBr
      go_wp2_with fail
      go_loopw [99] (fun i wr => ∃ k : Nat, k ≤ 8 ∧ i = .int .i64 k ∧ Blk wr g0 ty (adK s r k).toArray ∧ Mut w wr g0) (fun i _ => 8 - (intOf i).toNat)
      case atStart => exact ⟨0, Nat.zero_le _, rfl, bg0, hMr⟩
      case round =>
        clear bg0 hMr
        obtain ⟨k, hk, rfl, bg, hM⟩ := hrel
        by_cases hlt : k < 8
        · have c1 := (bg.cell k).trans (show (adK s r k).toArray[k]? = some (.int .u32 (bv (s.get k))) by rw [List.getElem?_toArray]; exact adK_at s r k hlt)
          have f1 := gw_cell bg.lt c1
          have hix := run_ix8 r k hlt
          have e1 := bg.frozen
          go_wp2_with fail
          refine wp_region_rg 9 [] (by kernel_rfl) (by kernel_rfl) (by kernel_rfl) trivial ?_
          iterate 9 (refine rg_det rfl rfl rfl (fun K hK => ?_); go_big_quiet_op; refine hK _ ?_; clear hK K)
          refine rg_nil (fun w' hw' hF => ?_)
          obtain ⟨z, rfl⟩ := hw'
          simp only [List.drop_succ_cons, List.drop_zero]
          have bgz := bg.gw z
          have hMz := hM.below z.h
          have e1 := bgz.frozen
          have c1 := f1 z
          clear hF f1 hix
          go_upto_region 19 with (fail)
          rw [bv_add2]
          refine set1 (M := fun W => Code.wp _ _ _ _ W) bgz fun X hX bX => ?_
          rw [List.setIfInBounds_toArray, adK_set s r k hlt] at bX
          have hMX := hMz.put hX
          clear e1 c1 bgz hMz hX
          go_wp2_with fail
          exact ⟨⟨k + 1, by omega, by go_num, bX, hMX⟩, by simp [intOf]; omega⟩
        · obtain rfl : k = 8 := by omega
          have hfin : adK s r 8 = (comp s b).cells := by
            rw [show comp s b = s.add r by unfold comp; rw [hR]]
            rfl
          rw [hfin] at bg
          go_wp2_with fail
          exact bodyPost_end (v := .tuple #[]) (by simp [results, Tryz.results146, go_sem]) rfl ⟨rfl, bg, hM⟩
end Go.Proofs.YtkgglhakimkkhaaGreatDoor
namespace Go.Proofs.YtkgglhakimkkhaaGreatDoor
open Go.RowKit

def SeqM (n : Nat) (P : Program) (gf : Nat) (lb : Array Value) (Own S : Nat → Nat → Prop) (k N : Nat) (Av : Nat → Value → World → Prop) (w : World) : Prop :=
  ∀ (l : Nat) (J : Nat → World → Prop) (W : World), Below w.heap.size w W → (∀ s A B, J s A → Below A.heap.size A B → J s B) → (∀ s A B g, Own W.heap.size g → J s A → Put A B g → J s B) →
    (∀ pre x W1, J pre W1 → W.heap.size + k ≤ W1.heap.size → pre < N → Av pre x W1 → YieldAt .wide (n - 1) P l #[x] W1 fun e W' => e = .returned (.bool true) ∧ J (pre + 1) W' ∧ Keeps (S W.heap.size) W1 W') → J 0 W →
    CallsIn .wide n P gf (#[.func (.yield l) #[] #[]] ++ lb) W fun e W' => (∃ v, e = .returned v) ∧ J N W'
theorem wpIn_seqM {n : Nat} {P : Program} {g : Operand} {p1 : Tmp} {assign body : Code} {Q : Exit → Act → World → Prop} {a : Act} {w w0 : World} {gf : Nat} {Own S : Nat → Nat → Prop} {k N : Nat} {Av : Nat → Value → World → Prop} {lb : Array Value}
    (hseq : SeqM (n - 1) P gf lb Own S k N Av w0) (hb0 : Below w0.heap.size w0 w) (h1 : 1 ≤ n) (hg : a.eval g = .func (.func gf) #[] lb) (eg : ∀ args w, (callFunc gf args).run P w = .ok (.enter gf args) w)
    (hO : ∀ g, Own (w.heap.size + 2) g → g ≠ w.heap.size ∧ g ≠ w.heap.size + 1) (hS : ∀ g, S (w.heap.size + 2) g → g ≠ w.heap.size + 1)
    (I : Nat → World → Prop) (hI1 : ∀ s A B, I s A → Below A.heap.size A B → I s B) (hI2 : ∀ s A B g, Own (w.heap.size + 2) g → I s A → Put A B g → I s B) (hI3 : ∀ s (W : World) (o : Obj), I s W → I s (W.putObj (w.heap.size + 1) o)) (h0 : I 0 w)
    (Ax : Nat → Value → Act → World → Prop) (hAx : ∀ i x a' (W : World) (o : Obj) (L : Loop), W.heap[w.heap.size + 1]? = some (.loop L) → Ax i x a' W → Ax i x a' (W.putObj (w.heap.size + 1) o))
    (hassign : ∀ (l i : Nat) (x : Value) (W : World) (K : Act → World → Prop), w.heap.size + 2 + k ≤ W.heap.size → Av i x W → (∀ a' W', Below W.heap.size W W' → Ax i x a' W' → K a' W') →
      assign.wpIn (Fence.wide.inRound l) (n - 1 - 1) P (Exit.then K (fun _ _ _ => False)) { tmps := a.tmps.setIfInBounds p1 x, defers := [] } W)
    (hbody : ∀ (l : Nat) (pre : Nat) (x : Value) (W : World) (a' : Act), I pre W → w.heap.size + 2 + k ≤ W.heap.size → Ax pre x a' W → pre < N →
      body.wpIn (Fence.wide.inRound l) (n - 1 - 1) P (fun e _ W' => e = .normal ∧ Keeps (fun g => S (w.heap.size + 2) g ∨ g = w.heap.size ∨ g = w.heap.size + 1) W W' ∧ I (pre + 1) W') a' W)
    (hdone : ∀ (D : Nat) (W : World), Hid (D = w.heap.size) → I N W → W.heap[D]? = some (.deferred (some [])) → Q .normal { a with defers := { target := .collected D, args := #[] } :: a.defers } W) :
    (Code.rangeFunc g #[p1] assign body).wpIn .wide n P Q a w := by
  refine wpIn_rangeFunc fun fn hfn => ?_
  obtain ⟨rec, hrec⟩ : ∃ rec : LoopState → Loop, rec = fun st => { state := st, pending := none, fn, tmps := a.tmps, params := #[p1], assign, body, defers := w.heap.size } := ⟨_, rfl⟩
  obtain ⟨W1, hW1⟩ : ∃ W1, (w.alloc (.deferred (some []))).alloc (.loop (rec .ready)) = W1 := ⟨_, rfl⟩
  have hb1 : Below w.heap.size w W1 := by rw [← hW1]; exact ((Below.refl _ w).alloc (Nat.le_refl _) _).alloc (by simp) _
  have hW1s : W1.heap.size = w.heap.size + 2 := by rw [← hW1]; simp
  have hL1 : W1.heap[w.heap.size + 1]? = some (.loop (rec .ready)) := by
    rw [← hW1]; have := World.alloc_heap_new (w.alloc (.deferred (some []))) (.loop (rec .ready)); rwa [World.size_alloc] at this
  have hK1 : W1.heap[w.heap.size]? = some (.deferred (some [])) := by
    rw [← hW1]; exact (Below.heap_alloc _ _ _ (by simp)).trans (World.alloc_heap_new w _)
  refine ⟨w.heap.size + 1, [{ target := .collected w.heap.size, args := #[] }], W1, { target := .fn (.func gf) lb, args := #[.func (.yield (w.heap.size + 1)) #[] #[]] }, W1, gf,
    #[.func (.yield (w.heap.size + 1)) #[] #[]] ++ lb, W1, ?_, ?_, ?_, ?_, fun _ => h1, ?_⟩
  · rw [← hW1, hrec]; exact run_enterLoop_outer _ _ _ _ _
  · simp only [resolve, hg]
    simp [go_sem]
  · intro f' hf'; trivial
  · simp [invoke, go_sem, eg]
  refine (hseq (w.heap.size + 1) (fun pre W => I pre W ∧ W.heap[w.heap.size + 1]? = some (.loop (rec .ready)) ∧ W.heap[w.heap.size]? = some (.deferred (some []))) W1 (hb0.trans (hb1.mono hb0.size))
    (fun s A B hs hb => ⟨hI1 s A B hs.1 hb, below_same hb hs.2.1, below_same hb hs.2.2⟩) (fun s A B g hg hs hp => by
      rw [hW1s] at hg
      obtain ⟨o1, o2⟩ := hO g hg
      exact ⟨hI2 s A B g hg hs.1 hp, put_same hp (fun e => o2 e.symm) hs.2.1, put_same hp (fun e => o1 e.symm) hs.2.2⟩) ?_ ⟨hI1 _ _ _ h0 hb1, hL1, hK1⟩).mono ?_
  · rintro pre x W ⟨hi, hl, hk⟩ hWW hlen hav
    rw [hW1s] at hWW ⊢
    have hy := run_yield (P := P) (args := #[x]) hl (by rw [hrec]; rfl)
    rw [hrec] at hy
    refine ⟨fn, _, assign, body, hy, roundIn_of_wpIn hfn ?_⟩
    rw [show ((#[p1] : Array Tmp).zip (#[x] : Array Value)).foldl (fun t (p, v) => t.setIfInBounds p v) a.tmps = a.tmps.setIfInBounds p1 x by simp]
    refine hassign _ pre x W _ hWW hav ?_
    intro a' Wa hba hax
    have hla := below_same hba hl
    have hka := below_same hba hk
    refine ⟨_, run_beginRound hla (by rw [hrec]), ?_⟩
    obtain ⟨Wb, hWb⟩ : ∃ Wb, Wb = Wa.putObj (w.heap.size + 1) (.loop { rec .ready with state := .busy }) := ⟨_, rfl⟩
    have hlt := (Array.getElem?_eq_some_iff.1 hla).1
    have hl2 : Wb.heap[w.heap.size + 1]? = some (.loop { rec .ready with state := .busy }) := by rw [hWb]; exact World.putObj_heap_same hlt
    have hk2 : Wb.heap[w.heap.size]? = some (.deferred (some [])) := by rw [hWb]; exact (World.putObj_heap_other (by omega)).trans hka
    have hi2 : I pre Wb := by rw [hWb]; exact hI3 _ _ _ (hI1 _ _ _ hi hba)
    have hax2 : Ax pre x a' Wb := by rw [hWb]; exact hAx pre x a' Wa _ _ hla hax
    have hsb : w.heap.size + 2 + k ≤ Wb.heap.size := by rw [hWb]; have := hba.size; simp; omega
    have hkS : Keeps (S (w.heap.size + 2)) W Wb := by
      rw [hWb]
      exact (Keeps.of_below hba).trans ⟨by simp, fun g hg _ => World.putObj_heap_other (hS g hg)⟩
    rw [← hWb]
    refine wpIn_mono (hbody _ pre x Wb a' hi2 hsb hax2 hlen) ?_
    rintro e a3 W3 ⟨rfl, hkp3, hi3⟩
    have hl3 := (hkp3.same (w.heap.size + 1) (.inr (.inr rfl)) (by omega)).trans hl2
    have hkk3 := (hkp3.same w.heap.size (.inr (.inl rfl)) (by omega)).trans hk2
    have hend := run_endRound (P := P) none hl3
    have hl4 : (W3.putObj (w.heap.size + 1) (.loop (rec .ready))).heap[w.heap.size + 1]? = some (.loop (rec .ready)) := World.putObj_heap_same (Array.getElem?_eq_some_iff.1 hl3).1
    have hk4 : (W3.putObj (w.heap.size + 1) (.loop (rec .ready))).heap[w.heap.size]? = some (.deferred (some [])) := (World.putObj_heap_other (by omega)).trans hkk3
    have hkp4 : Keeps (S (w.heap.size + 2)) Wb W3 := ⟨hkp3.size, fun g hg hl => hkp3.same g (.inl hg) hl⟩
    refine ⟨_, W3.putObj (w.heap.size + 1) (.loop (rec .ready)), ?_, rfl, ⟨hI3 _ _ _ hi3, hl4, hk4⟩, (hkS.trans hkp4).trans ⟨by simp, fun g hg _ => World.putObj_heap_other (hS g hg)⟩⟩
    rw [hrec] at hend ⊢
    exact hend
  · rintro e W2 ⟨⟨v, rfl⟩, hi, hl, hk⟩
    exact ⟨none, _, by have := run_endLoop (P := P) hl (by rw [hrec]; simp); rw [hrec] at this; exact this, hdone _ _ (Lib.hid rfl) (hI3 _ _ _ hi) ((World.putObj_heap_other (by omega)).trans hk)⟩
end Go.Proofs.YtkgglhakimkkhaaGreatDoor
namespace Go.Proofs.YtkgglhakimkkhaaGreatDoor
open Go.RowKit

theorem gBlocks (A : Option Addr) (m cap : Nat) (w : World) : Calls Tryz.prog 145 #[.slice A m cap] w fun e w' =>
    e = .returned (.func (.func 154) #[] #[.pointer (some ⟨w.heap.size, 0, none⟩)]) ∧ w' = w.alloc (.cells #[.slice A m cap] 92) := by
  go_enter Tryz.func145, Tryz.ntmps145
  go_wp2
  go_ret
  exact ⟨rfl, rfl⟩
theorem grown_split {A B : World} {g : Nat} (h : A.grownBy B (some g)) (hg : g < A.heap.size) : ∃ M, Below A.heap.size A M ∧ Put M B g := by
  refine ⟨B.putObj g A.heap[g], ⟨h.os, h.tape, h.output, by simpa using h.size, fun k hk => ?_⟩, ⟨rfl, rfl, rfl, by simp, fun k hk => (World.putObj_heap_other (by omega)).symm⟩⟩
  by_cases e : k = g
  · subst e
    rw [World.putObj_heap_same (Nat.lt_of_lt_of_le hk h.size), Array.getElem?_eq_getElem hk]
  · rw [World.putObj_heap_other (by omega)]
    exact h.block k hk (fun e' => by cases e'; exact e rfl)
structure Calm (base : Nat) (I : World → Prop) : Prop where
  up : ∀ A B, I A → Below A.heap.size A B → I B
  put : ∀ A B g, base ≤ g → I A → Put A B g → I B
theorem Calm.grown {base : Nat} {I : World → Prop} (h : Calm base I) {A B : World} {r : Option Nat} (hI : I A) (hg : A.grownBy B r) (hr : ∀ g, r = some g → base ≤ g ∧ g < A.heap.size) : I B := by
  cases r with
  | none => exact h.up A B hI ⟨hg.os, hg.tape, hg.output, hg.size, fun k hk => hg.block k hk (fun e => by cases e)⟩
  | some g =>
    obtain ⟨h1, h2⟩ := hr g rfl
    obtain ⟨M, hM, hP⟩ := grown_split hg h2
    exact h.put _ _ _ h1 (h.up _ _ hI hM) hP
theorem Calm.and {base : Nat} {I K : World → Prop} (h : Calm base I) (k : Calm base K) : Calm base (fun w => I w ∧ K w) := ⟨fun A B i b => ⟨h.up A B i.1 b, k.up A B i.2 b⟩, fun A B g hg i p => ⟨h.put A B g hg i.1 p, k.put A B g hg i.2 p⟩⟩
theorem calm_keeps {S : Nat → Prop} {W : World} {base : Nat} (hb : W.heap.size ≤ base) : Calm base (Keeps S W) := ⟨fun A B i b => i.trans (Keeps.of_below b), fun A B g hg i p => ⟨by rw [p.size]; exact i.size, fun k hk hl => (p.other k (by omega)).trans (i.same k hk hl)⟩⟩
theorem wpList_pushJ {ops : Array Oper} {rest : List Oper} {o1 o2 : Oper} {a : Act} {Q : Exit → Act → World → Prop} {X : World} {base : Nat} {I : World → Prop} {l : List Nat} {u : Value} {c : Nat} (g1 : o1.guard = none) (g2 : o2.guard = none) (s p x : Operand)
    (h1 : o1.op = .buildSlice 92 1 #[(0, x)]) (h2 : o2.op = .call { callee := .builtin .append, args := #[s, p], argTypes := #[92, 92] })
    (hx : a.eval x = .int .u8 (c : Int)) (hs : ∀ v, (a.put o1.dst v).eval s = u) (hp : ∀ v, (a.put o1.dst v).eval p = v) (hown : OwB base X u l) (hC : Calm base I) (hI : I X) (hk : l.length ≤ 10000000) (hbase : base ≤ X.heap.size)
    (h : ∀ v v' w', OwB base w' v' (l ++ [c]) → I w' → base ≤ w'.heap.size → wpList Tryz.prog ops Q rest ((a.put o1.dst v).put o2.dst v') w') : wpList Tryz.prog ops Q (o1 :: o2 :: rest) a X := by
  obtain ⟨iu8, hu8, uz0, uz1, uz2⟩ := info_parts u8_info
  refine wpList_plain g1 fun K hK => wp_of_step (stepAt_mono (fun v0 w1 hh => ?_) (step_lit1 (cs := #[.int .u8 (c : Int)]) u8_slice hu8 uz0 uz1 (by decide) (by decide) h1 (by rw [hx]; rfl) rfl))
  obtain ⟨⟨rfl, hl1, b1⟩, hB1⟩ := hh
  refine hK _ _ ?_
  have hown1 := own_below hown (Nat.le_refl _) hB1
  have hI1 := hC.up _ _ hI hB1
  refine wpList_append_own _ g2 s p 92 h2 base 5 iu8 (.int .u8 0) 1 1 u8_slice hu8 uz0 uz1 uz2 rfl (by decide) u l.length (byc l) (hs _) hown1 ⟨X.heap.size, 0, none⟩ 1 1 [.int .u8 (c : Int)] (hp _) rfl (blk_news b1) (fun v hv => by rw [List.mem_singleton.1 hv]; rfl) (by unfold maxLen; omega) (by omega) (Nat.le_trans hbase hB1.size) fun v' w' hown' hgr _ => ?_
  refine h _ v' w' ?_ (hC.grown hI1 hgr fun g hg => own_block hown1 hg) (Nat.le_trans hbase (Nat.le_trans hB1.size hgr.size))
  unfold OwB
  rw [byc_app, List.length_append]
  exact hown'
theorem own_keeps {S : Nat → Prop} {base : Nat} {A B : World} {v : Value} {l : List Nat} (h : OwB base A v l) (k : Keeps S A B) (hS : ∀ g, base ≤ g → S g) : OwB base B v l := by
  obtain ⟨h1, h2⟩ := h
  refine ⟨h1, h2.imp id ?_⟩
  rintro ⟨g, cap, cur, rfl, q2, q3, q4⟩
  exact ⟨g, cap, cur, rfl, q2, (k.same g (hS g q2) (Array.getElem?_eq_some_iff.1 q3).1).trans q3, q4⟩
end Go.Proofs.YtkgglhakimkkhaaGreatDoor
namespace Go.Proofs.YtkgglhakimkkhaaGreatDoor
open Go.RowKit

theorem step_cut {P : Program} {o : Oper} {a : Act} {w : World} {t : TypeId} {x lo : Operand} {v k u : Value} (ho : o.op = .slice t x (some lo) none none) (hx : a.eval x = v) (hlo : a.eval lo = k) (h : ∀ w, (Instr.sliceAt t v (some k) none none).run P w = .ok u w) :
    stepAt P o a w (fun v w' => v = u ∧ Below w.heap.size w w') := by
  unfold stepAt
  have e : (execOp a.eval o).run P w = .ok (.value u) w := by
    unfold execOp
    rw [ho]
    simp only [Sem.run_bind, Option.map_some, Option.map_none, hx, hlo, h w, Result.andThen, Sem.run_pure]
  rw [e]
  exact ⟨rfl, Below.refl _ _⟩
end Go.Proofs.YtkgglhakimkkhaaGreatDoor
