/-
  The fixed examples of chapter 05.
-/
import Derived.Test.YtnfiomccgakooaaDoorMd5
import Derived.Test.YtnfiomccgakooaaDoorMm3
import Derived.Test.YtnfiomccgakooaaDoorMm4
import Derived.Test.YtnfiomccgakooaaDoorMm6
import Derived.Test.YtnfiomccgakooaaDoorMm1
import Derived.Test.YtnfiomccgakooaaDoorMr2
import Derived.Test.YtnfiomccgakooaaDoorTab2
import Derived.Test.YtnfiomccgakooaaDoorInts
import Derived.Test.YtnfiomccgakooaaDoorSame
import Derived.Test.YtnfiomccgakooaaDoorRaw
namespace Go.Proofs.YtnfiomccgakooaaDoor
open Go.RowKit

theorem u64_info : (Tryd.prog.info? 25).map (fun i => (i.zero, i.size, i.bytes)) = some (some (.int .u64 0), 1, 8) := by kernel_rfl
theorem u64s_of_blk {W : World} {g : Nat} {t : TypeId} {zs : List Int} {n lo hi : Nat} (h : Blk W g t ((zs.map fun z => Value.int .u64 z).toArray)) (hn : zs.length = n) (hb : n ≤ 1000000) (hlo : lo ≤ g) (hhi : g < hi) : Rd lo hi 1 W (.slice (some ⟨g, 0, none⟩) n n) n (zs.map fun z => Value.int .u64 z) := by
  subst hn
  refine ⟨by simp, by omega, some ⟨g, 0, none⟩, zs.length, rfl, Nat.le_refl _, fun _ => ⟨g, 0, rfl, hlo, hhi, h.lt, fun j u hu => ?_⟩⟩
  rw [Nat.zero_add, h.cell]
  simpa using hu
theorem vr_rawE (xs : List E) (n : Nat) (h : xs.length = 2 ^ n) (hn : n ≤ 16) : VR (rawE xs) n true := .inl ⟨rfl, by simpa [rawE] using h, hn, rawE_vld xs⟩
theorem gValidK (xs : List Raw) (n : Nat) (b : Bool) (hv : VR xs n b) (v : Value) (lo hi : Nat) (w : World) (h : RawS lo hi w v xs) :
    Calls Tryd.prog 5 #[v] w (Ret (.tuple #[.int .i64 n, .bool b]) w) :=
  (gValid xs v lo hi w h).mono fun e w' ⟨v, h1, ⟨m, c, h2, h3⟩, h4⟩ => by
    obtain ⟨rfl, rfl⟩ := vr_unique hv h3
    subst h2
    exact ⟨h1, h4⟩
theorem s5a : mev (intsE [1, 2, 5, 9]) (intsE [2, 3]) = eb (fz 33) := by kernel_rfl
theorem s5b : mev (intsE [1]) [] = eb (fz 1) := by kernel_rfl
theorem s5c : bindL (intsE [1, 2, 5, 9]) (eb (fz 2)) = intsE [3, 13] := by kernel_rfl
theorem s5d : tabE (intsE [2, 3]) = intsE [2, -4, -3, 6] := by kernel_rfl
theorem s5e : tabE [] = intsE [1] := by kernel_rfl
theorem s5f : eqi 2 (intsE [2, 3]) = eb (fz (-3)) := by kernel_rfl
theorem s5g : pfac (intsE [2, 3]) (intsE [2, 3]) (intsE [2, 3]).length = eb (fz 65) := by kernel_rfl
theorem s5h : eb (fz 33) + eb (fz 2) * eqi 3 (intsE [2, 3]) = eb (fz 45) := by kernel_rfl
theorem s5i : lineE (intsE [1, 5]) (intsE [4, 3]) (eb (fz 2)) (intsE [1, 5]).length = intsE [7, 1] := by kernel_rfl
theorem s5j : liftE [7, 0] = intsE [7, 0] := by kernel_rfl
theorem vr4 : VR (rawE (intsE [1, 2, 5, 9])) 2 true := vr_rawE _ 2 rfl (by decide)
theorem vr3 : VR (rawE (intsE [1, 2, 5])) 0 false := .inr ⟨rfl, rfl, fun ⟨m, h, _, _⟩ => by
  have h : 3 = 2 ^ m := h
  match m, h with
  | 0, h => cases h
  | 1, h => cases h
  | m + 2, h => rw [Nat.pow_add] at h; have := Nat.two_pow_pos m; omega⟩
theorem vr0 : VR [] 0 false := .inr ⟨rfl, rfl, fun ⟨m, h, _, _⟩ => by
  have h : 0 = 2 ^ m := h
  have := Nat.two_pow_pos m; omega⟩
theorem vrB : VR [(18446744069414584321, 0)] 0 false := .inr ⟨rfl, rfl, fun ⟨m, _, _, h⟩ => by cases h⟩
set_option maxRecDepth 100000 in
set_option maxHeartbeats 8000000 in
theorem lSanity5 (w : World) (hL : Laid w) : Calls Tryd.prog 4 #[] w (Ret (.bool true) w) := by
  obtain ⟨j0, hj0, hjz0, hjz1, hjz2⟩ := info_parts i64_info
  obtain ⟨k0, hk0, hkz0, hkz1, hkz2⟩ := info_parts u64_info
  go_enter Tryd.func4, Tryd.ntmps4
  go_wp2_with fail
  refine calls_stk1 fun W hB hz b1 => ?_
  refine (lInts [1, 2, 5, 9] _ 0 W.heap.size W (ints_of_blk (zs := [1, 2, 5, 9]) b1 rfl (by decide) (Nat.zero_le _) b1.lt (by decide)) (by decide)).mono ?_
  rintro e w2 ⟨v2, rfl, h2, hb2⟩
  have h2 : ExtS W.heap.size w2.heap.size w2 v2 (intsE [1, 2, 5, 9]) := h2
  obtain ⟨gT, oT, capT, rfl, cT, q1, q2, q3, q4⟩ := exts_cells h2 (by decide)
  have hB2 := hB.trans (hb2.mono hB.size)
  have h2 : ExtS W.heap.size w2.heap.size w2 (.slice (some ⟨gT, oT, none⟩) 4 capT) (intsE [1, 2, 5, 9]) := h2
  have cT : 4 ≤ capT := cT
  clear q1 q2 q3 q4
  go_wp2_with fail
  refine calls_stk1 fun W3 hB3 hz3 b3 => ?_
  refine (lInts [2, 3] _ 0 W3.heap.size W3 (ints_of_blk (zs := [2, 3]) b3 rfl (by decide) (Nat.zero_le _) b3.lt (by decide)) (by decide)).mono ?_
  rintro e w4 ⟨v4, rfl, h4, hb4⟩
  obtain ⟨A4, cap4, rfl⟩ := Rd.len h4
  have hB4 := hB3.trans (hb4.mono hB3.size)
  have T4 : ExtS 0 w4.heap.size w4 _ _ := (Rd.keep h2 hB4).wide (Nat.zero_le _) hB4.size
  have P4 : ExtS 0 w4.heap.size w4 (.slice A4 2 cap4) (intsE [2, 3]) := Rd.wide h4 (Nat.zero_le _) (Nat.le_refl _)
  have hBw4 := hB2.trans (hB4.mono hB2.size)
  have L4 := hL.keep hBw4
  clear h2 h4 hL
  go_wp2_with fail
  refine (gValidK _ 2 true vr4 _ 0 w4.heap.size w4 (raws_of_exts T4)).mono ?_
  rintro e w5 ⟨rfl, hb5⟩
  have T5 : ExtS 0 w5.heap.size w5 _ _ := (Rd.keep T4 hb5).wide (Nat.zero_le _) hb5.size
  go_wp2_with fail
  refine (gValidK _ 0 false vr3 _ 0 w5.heap.size w5 (raws_of_exts (exts_take (k := 3) T5 (by decide)))).mono ?_
  rintro e w6 ⟨rfl, hb6⟩
  go_wp2_with fail
  refine (gValidK _ 0 false vr0 _ 0 0 w6 ⟨rd_nil _ _ _ _ _ _, fun p hp => by cases hp⟩).mono ?_
  rintro e w7 ⟨rfl, hb7⟩
  go_wp2_with fail
  refine calls_stk1 fun W8 hB8 hz8 b8 => ?_
  refine (gValidK [(18446744069414584321, 0)] 0 false vrB _ 0 W8.heap.size W8 ?_).mono ?_
  · exact ⟨⟨rfl, by decide, _, _, rfl, Nat.le_refl _, fun _ => ⟨_, 0, rfl, Nat.zero_le _, b8.lt, b8.lt, fun j u hu => by rw [Nat.zero_add, b8.cell, ← hu]; simp [rc]⟩⟩, fun p hp => by cases hp with | head => exact ⟨⟨by decide, by decide⟩, ⟨by decide, by decide⟩⟩ | tail _ h => cases h⟩
  rintro e w9 ⟨rfl, hb9⟩
  have hB59 := ((hb5.trans (hb6.mono hb5.size)).trans (hb7.mono (Nat.le_trans hb5.size hb6.size))).trans ((hB8.trans (hb9.mono hB8.size)).mono (Nat.le_trans (Nat.le_trans hb5.size hb6.size) hb7.size))
  have T9 : ExtS 0 w9.heap.size w9 (.slice (some ⟨gT, oT, none⟩) 4 capT) (intsE [1, 2, 5, 9]) := (Rd.keep T4 hB59).wide (Nat.zero_le _) hB59.size
  have P9 : ExtS 0 w9.heap.size w9 (.slice A4 2 cap4) (intsE [2, 3]) := (Rd.keep P4 hB59).wide (Nat.zero_le _) hB59.size
  have L9 := L4.keep hB59
  have hBw9 := hBw4.trans (hB59.mono hBw4.size)
  clear T4 P4 L4 T5 hB59
  have TK : ∀ W1, Below w9.heap.size w9 W1 → ExtS 0 w9.heap.size W1 _ _ := fun W1 h => Rd.keep T9 h
  have PK : ∀ W1, Below w9.heap.size w9 W1 → ExtS 0 w9.heap.size W1 _ _ := fun W1 h => Rd.keep P9 h
  obtain ⟨e33, h33⟩ : ∃ e, eb (fz 33) = e := ⟨_, rfl⟩
  obtain ⟨e1, h1⟩ : ∃ e, eb (fz 1) = e := ⟨_, rfl⟩
  obtain ⟨e2, h2⟩ : ∃ e, eb (fz 2) = e := ⟨_, rfl⟩
  obtain ⟨e3, h3⟩ : ∃ e, eb (fz (-3)) = e := ⟨_, rfl⟩
  obtain ⟨e65, h65⟩ : ∃ e, eb (fz 65) = e := ⟨_, rfl⟩
  obtain ⟨e45, h45⟩ : ∃ e, eb (fz 45) = e := ⟨_, rfl⟩
  have X20 : ∀ W1, Below w9.heap.size w9 W1 → Calls Tryd.prog 12 #[.slice (some ⟨gT, oT, none⟩) 4 capT, .slice A4 2 cap4] W1 (Ret (ev e33) W1) := fun W1 h => by
    rw [← h33, ← s5a]; exact gEval _ _ rfl (by decide) _ _ _ _ _ _ W1 (TK W1 h) (PK W1 h) h.size
  have X27 : ∀ W1, Below w9.heap.size w9 W1 → Calls Tryd.prog 12 #[.slice (some ⟨gT, oT, none⟩) 1 capT, .slice none 0 0] W1 (Ret (ev e1) W1) := fun W1 h => by
    rw [← h1, ← s5b]; exact gEval [_] [] rfl (by decide) _ _ _ _ 0 0 W1 (exts_take (k := 1) (TK W1 h) (by decide)) (rd_nil _ _ _ _ _ _) (Nat.zero_le _)
  have X34 : ∀ W1, Below w9.heap.size w9 W1 → Calls Tryd.prog 10 #[.slice (some ⟨gT, oT, none⟩) 4 capT, ev e2] W1 (RetR (ExtA (intsE [3, 13])) W1) := fun W1 h => by
    rw [← h2, ← s5c]; exact gBind _ _ 2 rfl (by decide) (by decide) _ _ _ W1 (TK W1 h)
  have X41 : ∀ W1, Below w9.heap.size w9 W1 → Calls Tryd.prog 18 #[.slice A4 2 cap4] W1 (RetR (ExtA (intsE [2, -4, -3, 6])) W1) := fun W1 h => by
    rw [← s5d]; exact wEqTable _ _ _ _ W1 (PK W1 h) h.size (L9.keep h) (by decide)
  have X47 : ∀ W1, Below w9.heap.size w9 W1 → Calls Tryd.prog 18 #[.slice none 0 0] W1 (RetR (ExtA (intsE [1])) W1) := fun W1 h => by
    rw [← s5e]; exact wEqTable [] _ 0 0 W1 (rd_nil _ _ _ _ _ _) (Nat.zero_le _) (L9.keep h) (by decide)
  have X54 : ∀ W1, Below w9.heap.size w9 W1 → Calls Tryd.prog 16 #[.int .i64 2, .slice A4 2 cap4] W1 (Ret (ev e3) W1) := fun W1 h => by
    rw [← h3, ← s5f]; exact gEqIndex 2 _ (by decide) (by decide) _ _ _ W1 (PK W1 h) h.size (L9.keep h)
  have X61 : ∀ W1, Below w9.heap.size w9 W1 → Calls Tryd.prog 14 #[.slice A4 2 cap4, .slice A4 2 cap4] W1 (Ret (ev e65) W1) := fun W1 h => by
    rw [← h65, ← s5g]; exact gEq _ _ rfl _ _ _ _ _ _ W1 (PK W1 h) (PK W1 h) (L9.keep h)
  have X69 : ∀ W1, Below w9.heap.size w9 W1 → Calls Tryd.prog 20 #[ev e33, .int .i64 3, ev e2, .slice A4 2 cap4] W1 (Ret (ev e45) W1) := fun W1 h => by
    rw [← h33, ← h2, ← h45, ← s5h]; exact gAccumulate _ _ 3 _ (by decide) (by decide) _ _ _ W1 (PK W1 h) h.size (L9.keep h)
  have XF : ∀ z e, -1000000 ≤ z → z ≤ 1000000 → eb (fz z) = e → ∀ W1, Calls Tryd.prog 27 #[.int .i64 z] W1 (Ret (ev e) W1) := fun z e a b h W1 => by rw [← h]; exact xFromInt z (by omega) (by omega) W1
  replace X20 := Lib.hid X20
  replace X27 := Lib.hid X27
  replace X34 := Lib.hid X34
  replace X41 := Lib.hid X41
  replace X47 := Lib.hid X47
  replace X54 := Lib.hid X54
  replace X61 := Lib.hid X61
  replace X69 := Lib.hid X69
  have XL : ∀ W1 a b lo1 hi1 lo2 hi2, ExtS lo1 hi1 W1 a (intsE [1, 5]) → ExtS lo2 hi2 W1 b (intsE [4, 3]) → Calls Tryd.prog 22 #[a, b, ev e2] W1 (RetR (ExtA (intsE [7, 1])) W1) := fun W1 a b lo1 hi1 lo2 hi2 k1 k2 => by
    rw [← h2, ← s5i]; exact gLine (intsE [1, 5]) (intsE [4, 3]) _ rfl (by decide) _ _ _ _ _ _ W1 k1 k2
  replace XL := Lib.hid XL
  have XG : ∀ W1 a lo1 hi1, Rd lo1 hi1 1 W1 a 2 ([7, 0].map fun z => Value.int .u64 z) → Calls Tryd.prog 24 #[a] W1 (RetR (ExtA (intsE [7, 0])) W1) := fun W1 a lo1 hi1 k1 => by
    rw [← s5j]; exact gLift [7, 0] (by decide) _ _ _ W1 k1 (by decide)
  replace XG := Lib.hid XG
  replace XF := Lib.hid XF
  have F33 := Lib.hid (XF.out 33 e33 (by decide) (by decide) h33)
  have F1 := Lib.hid (XF.out 1 e1 (by decide) (by decide) h1)
  have F2 := Lib.hid (XF.out 2 e2 (by decide) (by decide) h2)
  have F3 := Lib.hid (XF.out (-3) e3 (by decide) (by decide) h3)
  have F65 := Lib.hid (XF.out 65 e65 (by decide) (by decide) h65)
  have F45 := Lib.hid (XF.out 45 e45 (by decide) (by decide) h45)
  clear XF h33 h1 h2 h3 h65 h45 TK PK
  have B9 := Below.refl w9.heap.size w9
  go_wp2_with fail
  refine (X20.out w9 B9).mono ?_
  rintro e x1 ⟨he1, hbx1⟩
  try unfold ev at he1
  subst he1
  have B1 := B9.trans (hbx1.mono B9.size)
  go_wp2_with fail
  refine (F33.out x1).mono ?_
  rintro e x2 ⟨he2, hbx2⟩
  try unfold ev at he2
  subst he2
  have B2 := B1.trans (hbx2.mono B1.size)
  go_wp2_with fail
  refine (X27.out x2 B2).mono ?_
  rintro e x3 ⟨he3, hbx3⟩
  try unfold ev at he3
  subst he3
  have B3 := B2.trans (hbx3.mono B2.size)
  go_wp2_with fail
  refine (F1.out x3).mono ?_
  rintro e x4 ⟨he4, hbx4⟩
  try unfold ev at he4
  subst he4
  have B4 := B3.trans (hbx4.mono B3.size)
  go_wp2_with fail
  refine (F2.out x4).mono ?_
  rintro e x5 ⟨he5, hbx5⟩
  try unfold ev at he5
  subst he5
  have B5 := B4.trans (hbx5.mono B4.size)
  go_wp2_with fail
  refine (X34.out x5 B5).mono ?_
  rintro e x6 ⟨vx6, rfl, tx6, hbx6⟩
  replace tx6 : ExtS _ _ x6 vx6 (intsE [3, 13]) := tx6
  obtain ⟨Ax6, capx6, rfl⟩ := Rd.len tx6
  have B6 := B5.trans (hbx6.mono B5.size)
  go_wp2_with fail
  refine calls_stk1 fun Wx7 hBWx7 hzWx7 bWx7 => ?_
  refine (lInts [3, 13] _ 0 Wx7.heap.size Wx7 (ints_of_blk (zs := [3, 13]) bWx7 rfl (by decide) (Nat.zero_le _) bWx7.lt (by decide)) (by decide)).mono ?_
  rintro e x7 ⟨vx7, rfl, tx7, hcx7⟩
  replace tx7 : ExtS _ _ x7 vx7 (intsE [3, 13]) := tx7
  obtain ⟨Ax7, capx7, rfl⟩ := Rd.len tx7
  have hbx7 := hBWx7.trans (hcx7.mono hBWx7.size)
  have B7 := B6.trans (hbx7.mono B6.size)
  go_wp2_with fail
  refine (xSame (intsE [3, 13]) _ _ _ _ _ _ x7 (Rd.keep tx6 hbx7) tx7).mono ?_
  rintro e x8 ⟨he8, hbx8⟩
  try unfold ev at he8
  subst he8
  have B8 := B7.trans (hbx8.mono B7.size)
  go_wp2_with fail
  refine (X41.out x8 B8).mono ?_
  rintro e x9 ⟨vx9, rfl, tx9, hbx9⟩
  replace tx9 : ExtS _ _ x9 vx9 (intsE [2, -4, -3, 6]) := tx9
  obtain ⟨Ax9, capx9, rfl⟩ := Rd.len tx9
  have B09 := B8.trans (hbx9.mono B8.size)
  go_wp2_with fail
  refine calls_stk1 fun Wx10 hBWx10 hzWx10 bWx10 => ?_
  refine (lInts [2, -4, -3, 6] _ 0 Wx10.heap.size Wx10 (ints_of_blk (zs := [2, -4, -3, 6]) bWx10 rfl (by decide) (Nat.zero_le _) bWx10.lt (by decide)) (by decide)).mono ?_
  rintro e x10 ⟨vx10, rfl, tx10, hcx10⟩
  replace tx10 : ExtS _ _ x10 vx10 (intsE [2, -4, -3, 6]) := tx10
  obtain ⟨Ax10, capx10, rfl⟩ := Rd.len tx10
  have hbx10 := hBWx10.trans (hcx10.mono hBWx10.size)
  have B10 := B09.trans (hbx10.mono B09.size)
  go_wp2_with fail
  refine (xSame (intsE [2, -4, -3, 6]) _ _ _ _ _ _ x10 (Rd.keep tx9 hbx10) tx10).mono ?_
  rintro e x11 ⟨he11, hbx11⟩
  try unfold ev at he11
  subst he11
  have B11 := B10.trans (hbx11.mono B10.size)
  go_wp2_with fail
  refine (X47.out x11 B11).mono ?_
  rintro e x12 ⟨vx12, rfl, tx12, hbx12⟩
  replace tx12 : ExtS _ _ x12 vx12 (intsE [1]) := tx12
  obtain ⟨Ax12, capx12, rfl⟩ := Rd.len tx12
  have B12 := B11.trans (hbx12.mono B11.size)
  go_wp2_with fail
  refine calls_stk1 fun Wx13 hBWx13 hzWx13 bWx13 => ?_
  refine (lInts [1] _ 0 Wx13.heap.size Wx13 (ints_of_blk (zs := [1]) bWx13 rfl (by decide) (Nat.zero_le _) bWx13.lt (by decide)) (by decide)).mono ?_
  rintro e x13 ⟨vx13, rfl, tx13, hcx13⟩
  replace tx13 : ExtS _ _ x13 vx13 (intsE [1]) := tx13
  obtain ⟨Ax13, capx13, rfl⟩ := Rd.len tx13
  have hbx13 := hBWx13.trans (hcx13.mono hBWx13.size)
  have B13 := B12.trans (hbx13.mono B12.size)
  go_wp2_with fail
  refine (xSame (intsE [1]) _ _ _ _ _ _ x13 (Rd.keep tx12 hbx13) tx13).mono ?_
  rintro e x14 ⟨he14, hbx14⟩
  try unfold ev at he14
  subst he14
  have B14 := B13.trans (hbx14.mono B13.size)
  go_wp2_with fail
  refine (X54.out x14 B14).mono ?_
  rintro e x15 ⟨he15, hbx15⟩
  try unfold ev at he15
  subst he15
  have B15 := B14.trans (hbx15.mono B14.size)
  go_wp2_with fail
  refine (F3.out x15).mono ?_
  rintro e x16 ⟨he16, hbx16⟩
  try unfold ev at he16
  subst he16
  have B16 := B15.trans (hbx16.mono B15.size)
  go_wp2_with fail
  refine (X61.out x16 B16).mono ?_
  rintro e x17 ⟨he17, hbx17⟩
  try unfold ev at he17
  subst he17
  have B17 := B16.trans (hbx17.mono B16.size)
  go_wp2_with fail
  refine (F65.out x17).mono ?_
  rintro e x18 ⟨he18, hbx18⟩
  try unfold ev at he18
  subst he18
  have B18 := B17.trans (hbx18.mono B17.size)
  go_wp2_with fail
  refine (F33.out x18).mono ?_
  rintro e x19 ⟨he19, hbx19⟩
  try unfold ev at he19
  subst he19
  have B19 := B18.trans (hbx19.mono B18.size)
  go_wp2_with fail
  refine (F2.out x19).mono ?_
  rintro e x20 ⟨he20, hbx20⟩
  try unfold ev at he20
  subst he20
  have B20 := B19.trans (hbx20.mono B19.size)
  go_wp2_with fail
  refine (X69.out x20 B20).mono ?_
  rintro e x21 ⟨he21, hbx21⟩
  try unfold ev at he21
  subst he21
  have B21 := B20.trans (hbx21.mono B20.size)
  go_wp2_with fail
  refine (F45.out x21).mono ?_
  rintro e x22 ⟨he22, hbx22⟩
  try unfold ev at he22
  subst he22
  have B22 := B21.trans (hbx22.mono B21.size)
  clear tx6 tx7 tx9 tx10 tx12 tx13
  go_wp2_with fail
  refine calls_stk1 fun Wx23 hBWx23 hzWx23 bWx23 => ?_
  refine (lInts [1, 5] _ 0 Wx23.heap.size Wx23 (ints_of_blk (zs := [1, 5]) bWx23 rfl (by decide) (Nat.zero_le _) bWx23.lt (by decide)) (by decide)).mono ?_
  rintro e x23 ⟨vx23, rfl, tx23, hcx23⟩
  replace tx23 : ExtS _ _ x23 vx23 (intsE [1, 5]) := tx23
  obtain ⟨Ax23, capx23, rfl⟩ := Rd.len tx23
  have hbx23 := hBWx23.trans (hcx23.mono hBWx23.size)
  have B23 := B22.trans (hbx23.mono B22.size)
  go_wp2_with fail
  refine calls_stk1 fun Wx24 hBWx24 hzWx24 bWx24 => ?_
  refine (lInts [4, 3] _ 0 Wx24.heap.size Wx24 (ints_of_blk (zs := [4, 3]) bWx24 rfl (by decide) (Nat.zero_le _) bWx24.lt (by decide)) (by decide)).mono ?_
  rintro e x24 ⟨vx24, rfl, tx24, hcx24⟩
  replace tx24 : ExtS _ _ x24 vx24 (intsE [4, 3]) := tx24
  obtain ⟨Ax24, capx24, rfl⟩ := Rd.len tx24
  have hbx24 := hBWx24.trans (hcx24.mono hBWx24.size)
  have B24 := B23.trans (hbx24.mono B23.size)
  go_wp2_with fail
  refine (F2.out x24).mono ?_
  rintro e x25 ⟨he25, hbx25⟩
  try unfold ev at he25
  subst he25
  have B25 := B24.trans (hbx25.mono B24.size)
  go_wp2_with fail
  refine (XL.out x25 _ _ _ _ _ _ (Rd.keep (Rd.keep tx23 hbx24) hbx25) (Rd.keep tx24 hbx25)).mono ?_
  rintro e x26 ⟨vx26, rfl, tx26, hbx26⟩
  replace tx26 : ExtS _ _ x26 vx26 (intsE [7, 1]) := tx26
  obtain ⟨Ax26, capx26, rfl⟩ := Rd.len tx26
  have B26 := B25.trans (hbx26.mono B25.size)
  go_wp2_with fail
  refine calls_stk1 fun Wx27 hBWx27 hzWx27 bWx27 => ?_
  refine (lInts [7, 1] _ 0 Wx27.heap.size Wx27 (ints_of_blk (zs := [7, 1]) bWx27 rfl (by decide) (Nat.zero_le _) bWx27.lt (by decide)) (by decide)).mono ?_
  rintro e x27 ⟨vx27, rfl, tx27, hcx27⟩
  replace tx27 : ExtS _ _ x27 vx27 (intsE [7, 1]) := tx27
  obtain ⟨Ax27, capx27, rfl⟩ := Rd.len tx27
  have hbx27 := hBWx27.trans (hcx27.mono hBWx27.size)
  have B27 := B26.trans (hbx27.mono B26.size)
  go_wp2_with fail
  refine (xSame (intsE [7, 1]) _ _ _ _ _ _ x27 (Rd.keep tx26 hbx27) tx27).mono ?_
  rintro e x28 ⟨he28, hbx28⟩
  try unfold ev at he28
  subst he28
  have B28 := B27.trans (hbx28.mono B27.size)
  go_wp2_with fail
  refine calls_stk1 fun W29 hB29 hz29 b29 => ?_
  refine (XG.out W29 _ 0 W29.heap.size (u64s_of_blk (zs := [7, 0]) b29 rfl (by decide) (Nat.zero_le _) b29.lt)).mono ?_
  rintro e x29 ⟨v29, rfl, t29, hb29⟩
  replace t29 : ExtS _ _ x29 v29 (intsE [7, 0]) := t29
  obtain ⟨A29, cap29, rfl⟩ := Rd.len t29
  have hb29' := hB29.trans (hb29.mono hB29.size)
  have B29 := B28.trans (hb29'.mono B28.size)
  go_wp2_with fail
  refine calls_stk1 fun Wx30 hBWx30 hzWx30 bWx30 => ?_
  refine (lInts [7, 0] _ 0 Wx30.heap.size Wx30 (ints_of_blk (zs := [7, 0]) bWx30 rfl (by decide) (Nat.zero_le _) bWx30.lt (by decide)) (by decide)).mono ?_
  rintro e x30 ⟨vx30, rfl, tx30, hcx30⟩
  replace tx30 : ExtS _ _ x30 vx30 (intsE [7, 0]) := tx30
  obtain ⟨Ax30, capx30, rfl⟩ := Rd.len tx30
  have hbx30 := hBWx30.trans (hcx30.mono hBWx30.size)
  have B30 := B29.trans (hbx30.mono B29.size)
  go_wp2_with fail
  refine (xSame (intsE [7, 0]) _ _ _ _ _ _ x30 (Rd.keep t29 hbx30) tx30).mono ?_
  rintro e x31 ⟨he30, hbx31⟩
  try unfold ev at he30
  subst he30
  have B31 := B30.trans (hbx31.mono B30.size)
  go_wp2_with fail
  go_ret
  exact ⟨rfl, hBw9.trans (B31.mono hBw9.size)⟩
end Go.Proofs.YtnfiomccgakooaaDoor
