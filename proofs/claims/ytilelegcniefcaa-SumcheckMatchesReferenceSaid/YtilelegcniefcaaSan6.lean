/-
  The fixed examples of chapter 06.
-/
import Derived.Test.YtilelegcniefcaaSm6
import Derived.Test.YtilelegcniefcaaRgS
import Derived.Deep.Cut
namespace Go.Proofs.Ytilelegcniefcaa
open Go.RowKit

/-- The one term's slice, and the block of its indices. -/
def LitQ (ti tp : TypeId) (n m : Nat) (v : Value) (w : World) : Prop := v = .slice (some ⟨n, 0, none⟩) 1 1 ∧ n < m ∧ ∃ n', n' < m ∧ Blk w n' ti #[.int .i64 1] ∧ Blk w n tp #[.int .u64 0, .int .u64 0, .slice (some ⟨n', 0, none⟩) 1 1]
theorem fit_litQ {ti tp : TypeId} : Fit (LitQ ti tp) (LitF 1) := ⟨fun _ _ _ _ _ ⟨h1, h2, n', h3, h4, h5⟩ hb => ⟨h1, h2, n', h3, h4.below hb h3, h5.below hb h2⟩, fun _ => ⟨_, rfl⟩, fun _ _ _ _ h => h.1⟩
theorem int_info6 : (Try.prog.info? 3).map (fun i => (i.zero, i.size, i.bytes)) = some (some (.int .i64 0), 1, 8) := by kernel_rfl
theorem prod_info : (Try.prog.info? 66).map (fun i => (i.zero, i.size, i.bytes)) = some (some (.agg #[.int .u64 0, .int .u64 0, .slice none 0 0]), 3, 40) := by kernel_rfl
theorem rtrms_one {W : World} {g lo hi : Nat} {t : TypeId} {v : Value} {a b : Int} {l : List Int} (h : Blk W g t #[.int .u64 a, .int .u64 b, v]) (hx : IntS lo hi W v l) (hlo : lo ≤ g) (hhi : g < hi) : RTrmS lo hi W (.slice (some ⟨g, 0, none⟩) 1 1) [⟨(a, b), l⟩] :=
  ⟨[v], rfl, rd_blk (cs := [.int .u64 a, .int .u64 b, v]) h rfl (by decide) hlo hhi, fun k u t hu ht => by
    match k with
    | 0 => simp only [List.getElem?_cons_zero, Option.some.injEq] at hu ht; subst hu; subst ht; exact hx
    | k + 1 => simp at hu⟩
theorem p1_ix : ∀ p ∈ p1, ∀ k ∈ p.t, k < [tT].length := by decide
theorem p2_ix : ∀ p ∈ p2, ∀ k ∈ p.t, k < [tT].length := by decide
theorem p1_sh : ∀ p ∈ p1, p.t.length ≤ 1000 := by decide
theorem p2_sh : ∀ p ∈ p2, p.t.length ≤ 1000 := by decide
theorem s6r : 1 ≤ 2 ∧ ∀ p ∈ p2, 1 ≤ p.t.length ∧ p.t.length ≤ 3 := by decide
set_option maxRecDepth 100000 in
set_option maxHeartbeats 16000000 in
theorem lSanity6 (w : World) : Calls Try.prog 9 #[] w (Ret (.bool true) w) := by
  obtain ⟨j0, hj0, hjz0, hjz1, hjz2⟩ := info_parts i64_info
  obtain ⟨i0, hi0, iz0, iz1, iz2⟩ := info_parts ext_info
  obtain ⟨s0, hs0, hsz0, hsz1, hsz2⟩ := info_parts sl_info
  obtain ⟨k0, hk0, hkz0, hkz1, hkz2⟩ := info_parts int_info6
  obtain ⟨r0, hp0, hpz0, hpz1, hpz2⟩ := info_parts prod_info
  go_enter Try.func9, Try.ntmps9
  go_wp2_with fail
  refine calls_stk1 fun W hB hz b1 => ?_
  refine (lInts [1, 2, 3, 4] _ 0 W.heap.size W (ints_of_blk (zs := [1, 2, 3, 4]) b1 rfl (by decide) (Nat.zero_le _) b1.lt (by decide)) (by decide)).mono ?_
  rintro e w2 ⟨v2, rfl, h2, hb2⟩
  replace h2 : ExtS W.heap.size w2.heap.size w2 v2 tT := h2
  obtain ⟨gT, oT, capT, hv, cT, q1, q2, q3, q4⟩ := exts_cells h2 (by decide)
  have hB2 := hB.trans (hb2.mono hB.size)
  replace hv : v2 = .slice (some ⟨gT, oT, none⟩) 4 capT := hv
  replace cT : 4 ≤ capT := cT
  subst hv
  clear q1 q2 q3 q4
  have T2 : ExtS 0 w2.heap.size w2 _ _ := h2.wide (Nat.zero_le _) (Nat.le_refl _)
  go_wp2_with fail
  refine calls_stk1 fun W3 hB3 hz3 b3 => ?_
  refine (xFromInt 1 (by decide) (by decide) W3).mono ?_
  rintro e w3 ⟨he, hb3⟩
  unfold ev at he
  subst he
  have b3' := b3.keep hb3
  have hBw3 := hB3.trans (hb3.mono hB3.size)
  go_upto_region 3 with (fail)
  refine wp_stk3 fun W4 hB4 hz4 b41 b42 b43 => ?_
  have hBw4 := hBw3.trans (hB4.mono hBw3.size)
  go_wp2_with fail
  refine calls_stk1 fun W5 hB5 hz5 b5 => ?_
  refine (xFromInt 1 (by decide) (by decide) W5).mono ?_
  rintro e w6 ⟨he, hb6⟩
  unfold ev at he
  subst he
  have hBw6 := hB5.trans (hb6.mono hB5.size)
  go_upto_region 4 with (fail)
  refine wp_stk3 fun W7 hB7 hz7 b71 b72 b73 => ?_
  have h46 := hBw6.trans (hB7.mono hBw6.size)
  have hBw7 := hBw4.trans (h46.mono hBw4.size)
  have hs4 := hz4.out
  have hs7 := hz7.out
  have T7 : ExtS 0 w2.heap.size W7 _ _ := Rd.keep T2 hBw7
  have hl7 := hBw7.size
  have hl74 := h46.size
  have hl67 := hB7.size
  have hl42 := hBw3.size
  have hl56 := hb6.size
  have hl5 := hz5.out
  have hl3 := hz3.out
  have hl33 := hb3.size
  have S1 : SumS 0 W7.heap.size W7 (.slice (some ⟨w2.heap.size, 0, none⟩) 1 1) (.slice (some ⟨w3.heap.size + 1, 0, none⟩) 1 1) [tT] p1 :=
    ⟨tabs_one (b3'.keep (hB4.trans (h46.mono hB4.size))) (T7.wide (Nat.le_refl _) (by omega)) (Nat.zero_le _) (by omega), trms_one (c := eb (fz 1)) (b42.keep h46) (idxs_blk (l := [0]) (b41.keep h46) rfl (by decide) (Nat.zero_le _) (by omega)) (Nat.zero_le _) (by omega), p1_ix, by decide, p1_sh⟩
  have S2 : SumS 0 W7.heap.size W7 (.slice (some ⟨W4.heap.size, 0, none⟩) 1 1) (.slice (some ⟨w6.heap.size + 1, 0, none⟩) 1 1) [tT] p2 :=
    ⟨tabs_one ((b5.keep hb6).keep hB7) (T7.wide (Nat.le_refl _) (by omega)) (Nat.zero_le _) (by omega), trms_one (c := eb (fz 1)) b72 (idxs_blk (l := [0, 0]) b71 rfl (by decide) (Nat.zero_le _) (by omega)) (Nat.zero_le _) (by omega), p2_ix, by decide, p2_sh⟩
  have T7' : ExtS 0 W7.heap.size W7 _ _ := T7.wide (Nat.le_refl _) (by omega)
  have b2 := b73
  have b1 := b43.keep h46
  have hBB := hB2.trans (hBw7.mono hB2.size)
  clear b3 b3' b41 b42 b43 b5 b71 b72 b73 T2 T7 h2 hs4 hs7 hl7 hl74 hl67 hl42 hl56 hl5 hl3 hl33
  go_wp2_with fail
  refine calls_stk1 fun W8 hB8 hz8 b8 => ?_
  refine (lInts [5, 3] _ 0 W8.heap.size W8 (ints_of_blk (zs := [5, 3]) b8 rfl (by decide) (Nat.zero_le _) b8.lt (by decide)) (by decide)).mono ?_
  rintro e w8 ⟨v8, rfl, h8, hb8⟩
  replace h8 : ExtS W8.heap.size w8.heap.size w8 v8 tC := h8
  obtain ⟨gC, oC, capC, hv, cC, q1, q2, q3, q4⟩ := exts_cells h8 (by decide)
  replace hv : v8 = .slice (some ⟨gC, oC, none⟩) 2 capC := hv
  replace cC : 2 ≤ capC := cC
  subst hv
  clear q1 q2 q3 q4
  have h78 := hB8.trans (hb8.mono hB8.size)
  have f2 := (b2.keep h78).cell
  have C8 : ExtS 0 w8.heap.size w8 _ _ := h8.wide (Nat.zero_le _) (Nat.le_refl _)
  go_wp2_with fail
  refine (gProve [tT] p2 tC 2 rfl (by decide) tT_all (by decide) (by decide) _ _ _ _ _ _ _ w8 (S2.keep h78) C8).mono ?_
  rintro e w9 ⟨vR, vV, rfl, hR, hV, hb9⟩
  obtain ⟨AR, capR, hv⟩ := hR.len
  rw [prvR_length] at hv
  replace hv : vR = .slice AR 2 capR := hv
  subst hv
  rw [s6e] at hV
  obtain ⟨gV, oV, capV, hv, cV, q1, q2, lV, q4⟩ := exts_cells hV (by decide)
  replace hv : vV = .slice (some ⟨gV, oV, none⟩) 1 capV := hv
  subst hv
  obtain ⟨dV1, dV2⟩ := q4 0 _ rfl
  rw [Nat.zero_mul, Nat.add_zero] at dV1 dV2
  clear q1 q2 q4
  have h79 := h78.trans (hb9.mono h78.size)
  have S1' := S1.keep h79
  have S2' := S2.keep h79
  have C9 := Rd.keep C8 hb9
  have T9 := Rd.keep T7' h79
  have R9 := hR
  have b1' := b1.keep h79
  have b2' := b2.keep h79
  have hBB9 := hBB.trans (h79.mono hBB.size)
  clear S1 S2 C8 T7' hR hV b1 b2 f2 h8 hb8 b8
  have b1 := b1'
  have b2 := b2'
  clear b1' b2'
  obtain ⟨e1, h1⟩ : ∃ e, eb (fz 1) = e := ⟨_, rfl⟩
  obtain ⟨e30, h30⟩ : ∃ e, eb (fz 30) = e := ⟨_, rfl⟩
  obtain ⟨e31, h31⟩ : ∃ e, eb (fz 31) = e := ⟨_, rfl⟩
  obtain ⟨e8, h8⟩ : ∃ e, eb (fz 8) = e := ⟨_, rfl⟩
  obtain ⟨e10, h10⟩ : ∃ e, eb (fz 10) = e := ⟨_, rfl⟩
  obtain ⟨e12, h12⟩ : ∃ e, eb (fz 12) = e := ⟨_, rfl⟩
  obtain ⟨e144, h144⟩ : ∃ e, eb (fz 144) = e := ⟨_, rfl⟩
  obtain ⟨e49, h49⟩ : ∃ e, eb (fz 49) = e := ⟨_, rfl⟩
  have XF : ∀ z e, -1000000 ≤ z → z ≤ 1000000 → eb (fz z) = e → ∀ W1, Calls Try.prog 40 #[.int .i64 z] W1 (Ret (ev e) W1) := fun z e a b h W1 => by rw [← h]; exact xFromInt z (by omega) (by omega) W1
  have F30 := Lib.hid (XF 30 e30 (by decide) (by decide) h30)
  have F31 := Lib.hid (XF 31 e31 (by decide) (by decide) h31)
  have F8 := Lib.hid (XF 8 e8 (by decide) (by decide) h8)
  have F10 := Lib.hid (XF 10 e10 (by decide) (by decide) h10)
  have F12 := Lib.hid (XF 12 e12 (by decide) (by decide) h12)
  have F144 := Lib.hid (XF 144 e144 (by decide) (by decide) h144)
  have F49 := Lib.hid (XF 49 e49 (by decide) (by decide) h49)
  have XV1 := Lib.hid (show ∀ W1, Below w9.heap.size w9 W1 → Calls Try.prog 33 #[ev e30, .slice AR 2 capR, .agg #[.slice (some ⟨gC, oC, none⟩) 2 capC, .int .i64 2]] W1 (Ret (.tuple #[ev e144, .int .i64 0]) W1) from fun W1 h => by
    have := gVerify e30 _ _ 2 (by decide) (by rw [prvR_length]; decide) _ _ _ _ _ _ W1 (R9.keep h) (Rd.keep C9 h)
    rw [← h30, s6j, h30, h144] at this; exact this)
  have XV2 := Lib.hid (show ∀ W1, Below w9.heap.size w9 W1 → Calls Try.prog 33 #[ev e31, .slice AR 2 capR, .agg #[.slice (some ⟨gC, oC, none⟩) 2 capC, .int .i64 2]] W1 (Ret (.tuple #[ev 0, .int .i64 60]) W1) from fun W1 h => by
    have := gVerify e31 _ _ 2 (by decide) (by rw [prvR_length]; decide) _ _ _ _ _ _ W1 (R9.keep h) (Rd.keep C9 h)
    rw [← h31, s6k, h31] at this; exact this)
  have XV3 := Lib.hid (show ∀ W1, Below w9.heap.size w9 W1 → Calls Try.prog 33 #[ev e30, .slice AR 2 capR, .agg #[.slice (some ⟨gC, oC, none⟩) 2 capC, .int .i64 3]] W1 (Ret (.tuple #[ev 0, .int .i64 61]) W1) from fun W1 h => by
    have := gVerify e30 _ _ 3 (by decide) (by rw [prvR_length]; decide) _ _ _ _ _ _ W1 (R9.keep h) (Rd.keep C9 h)
    rw [← h30, s6l, h30] at this; exact this)
  have XV4 := Lib.hid (show ∀ W1, Below w9.heap.size w9 W1 → Calls Try.prog 33 #[ev e30, .slice AR 2 capR, .agg #[.slice (some ⟨gC, oC, none⟩) 1 capC, .int .i64 2]] W1 (Ret (.tuple #[ev 0, .int .i64 1]) W1) from fun W1 h => by
    have := gVerify e30 _ _ 2 (by decide) (by rw [prvR_length]; decide) _ _ _ _ _ _ W1 (R9.keep h) (exts_take (k := 1) (Rd.keep C9 h) (by decide))
    rw [← h30, s6m, h30] at this; exact this)
  have XV5 := Lib.hid (show ∀ W1, Below w9.heap.size w9 W1 → Calls Try.prog 33 #[ev e8, .slice none 0 0, .agg #[.slice none 0 0, .int .i64 1]] W1 (Ret (.tuple #[ev e8, .int .i64 0]) W1) from fun W1 h => by
    have := gVerify e8 [] [] 1 (by decide) (by decide) (.slice none 0 0) (.slice none 0 0) 0 0 0 0 W1 (tabs_nil _ _ _) (rd_nil _ _ _ _ _ _)
    rw [← h8, s6n, h8] at this; exact this)
  have XT1 := Lib.hid (show ∀ W1, Below w9.heap.size w9 W1 → Calls Try.prog 22 #[sv (.slice (some ⟨w2.heap.size, 0, none⟩) 1 1) (.slice (some ⟨w3.heap.size + 1, 0, none⟩) 1 1)] W1 (Ret (ev e10) W1) from fun W1 h => by
    rw [← h10, ← s6a]; exact gTotal _ 4 _ _ _ _ _ W1 (S1'.keep h) (by decide) tT_all (by decide))
  have XT2 := Lib.hid (show ∀ W1, Below w9.heap.size w9 W1 → Calls Try.prog 22 #[sv (.slice (some ⟨W4.heap.size, 0, none⟩) 1 1) (.slice (some ⟨w6.heap.size + 1, 0, none⟩) 1 1)] W1 (Ret (ev e30) W1) from fun W1 h => by
    rw [← h30, ← s6c]; exact gTotal _ 4 _ _ _ _ _ W1 (S2'.keep h) (by decide) tT_all (by decide))
  have XR1 := Lib.hid (show ∀ W1, Below w9.heap.size w9 W1 → Calls Try.prog 28 #[sv (.slice (some ⟨w2.heap.size, 0, none⟩) 1 1) (.slice (some ⟨w3.heap.size + 1, 0, none⟩) 1 1)] W1 (RetR (ExtA (intsE [4, 6])) W1) from fun W1 h => by
    rw [← s6b]; exact gRound _ _ 2 tT_all (by decide) (by decide) (by decide) _ _ _ _ W1 (S1'.keep h))
  have XR2 := Lib.hid (show ∀ W1, Below w9.heap.size w9 W1 → Calls Try.prog 28 #[sv (.slice (some ⟨W4.heap.size, 0, none⟩) 1 1) (.slice (some ⟨w6.heap.size + 1, 0, none⟩) 1 1)] W1 (RetR (ExtA (intsE [10, 20, 34])) W1) from fun W1 h => by
    rw [← s6d]; exact gRound _ _ 2 tT_all (by decide) (by decide) (by decide) _ _ _ _ W1 (S2'.keep h))
  have XD1 := Lib.hid (show ∀ W1, Below w9.heap.size w9 W1 → Calls Try.prog 20 #[sv (.slice (some ⟨w2.heap.size, 0, none⟩) 1 1) (.slice (some ⟨w3.heap.size + 1, 0, none⟩) 1 1)] W1 (Ret (.int .i64 1) W1) from fun W1 h => gDegree _ _ p1 _ _ W1 (S1'.keep h).hp p1_sh)
  have XD2 := Lib.hid (show ∀ W1, Below w9.heap.size w9 W1 → Calls Try.prog 20 #[sv (.slice (some ⟨W4.heap.size, 0, none⟩) 1 1) (.slice (some ⟨w6.heap.size + 1, 0, none⟩) 1 1)] W1 (Ret (.int .i64 2) W1) from fun W1 h => gDegree _ _ p2 _ _ W1 (S2'.keep h).hp p2_sh)
  have XA1 := Lib.hid (show ∀ W1, Below w9.heap.size w9 W1 → Calls Try.prog 11 #[sv (.slice (some ⟨W4.heap.size, 0, none⟩) 1 1) (.slice (some ⟨w6.heap.size + 1, 0, none⟩) 1 1)] W1 (Ret (.bool true) W1) from fun W1 h => gValidGood _ _ 2 (by decide) tT_all (by decide) (by decide) s6r.2 _ _ _ _ W1 (S2'.keep h))
  have XA2 := Lib.hid (show ∀ W1, Below w9.heap.size w9 W1 → Calls Try.prog 11 #[sv (.slice none 0 0) (.slice none 0 0)] W1 (Ret (.bool false) W1) from fun W1 h => gValidS [] [] _ _ 0 0 W1 (rtabs_of (tabs_nil _ _ _)) (rtrms_nil _ _ _))
  have XA3 := Lib.hid (show ∀ W1 g, Below w9.heap.size w9 W1 → Blk W1 g 22 #[.slice (some ⟨gT, oT, none⟩) 3 capT] → Calls Try.prog 11 #[sv (.slice (some ⟨g, 0, none⟩) 1 1) (.slice none 0 0)] W1 (Ret (.bool false) W1) from fun W1 g h hb => by
    have := gValidS [rawE (tT.take 3)] [] _ (.slice none 0 0) 0 (W1.heap.size) W1 (rtabs_of (tabs_one hb ((exts_take (k := 3) (Rd.keep T9 h) (by decide)).wide (Nat.le_refl _) (Nat.le_trans h79.size h.size)) (Nat.zero_le _) hb.lt)) (rtrms_nil _ _ _)
    rwa [s6o] at this)
  have XA4 := Lib.hid (show ∀ W1 g gi gp (ti tp : TypeId), Below w9.heap.size w9 W1 → Blk W1 g 22 #[.slice (some ⟨gT, oT, none⟩) 4 capT] → Blk W1 gi ti #[.int .i64 1] → Blk W1 gp tp #[.int .u64 0, .int .u64 0, .slice (some ⟨gi, 0, none⟩) 1 1] → Calls Try.prog 11 #[sv (.slice (some ⟨g, 0, none⟩) 1 1) (.slice (some ⟨gp, 0, none⟩) 1 1)] W1 (Ret (.bool false) W1) from fun W1 g gi gp ti tp h hb h1 h2 => by
    have := gValidS [rawE tT] [⟨(0, 0), [1]⟩] _ _ 0 (W1.heap.size) W1 (rtabs_of (tabs_one hb ((Rd.keep T9 h).wide (Nat.le_refl _) (Nat.le_trans h79.size h.size)) (Nat.zero_le _) hb.lt)) (rtrms_one h2 (ints_of_blk (zs := [1]) h1 rfl (by decide) (Nat.zero_le _) h1.lt (by decide)) (Nat.zero_le _) h2.lt)
    rwa [s6p] at this)
  have XN := Lib.hid (show ∀ W1 v lo hi, Below w9.heap.size w9 W1 → ExtS lo hi W1 v (intsE [7]) → Calls Try.prog 24 #[sv (.slice (some ⟨W4.heap.size, 0, none⟩) 1 1) (.slice (some ⟨w6.heap.size + 1, 0, none⟩) 1 1), v] W1 (Ret (ev e49) W1) from fun W1 v lo hi h hv => by
    rw [← h49, ← s6g]; exact gFinal (intsE [7]) _ _ _ p2 _ _ _ _ W1 (S2'.keep h).hp hv (by decide) (by decide) p2_sh)
  replace dV1 : w9.cell? ⟨gV, oV, none⟩ = some (.int .u64 (fv e12.a)) := by rw [← h12]; exact dV1
  replace dV2 : w9.cell? ⟨gV, oV + 1, none⟩ = some (.int .u64 (fv e12.b)) := by rw [← h12]; exact dV2
  have B9 := Below.refl w9.heap.size w9
  clear XF h30 h31 h8 h10 h12 h144 h49 h1 S1' S2' C9 T9 R9
  unfold sv at *
  go_wp2_with fail
  refine (F30.out _).mono ?_
  rintro e y1 ⟨hey1, hy1⟩
  try unfold ev at hey1
  subst hey1
  have By1 := B9.trans (hy1.mono B9.size)
  go_wp2_with fail
  refine (XV1.out y1 By1).mono ?_
  rintro e z1 ⟨hez1, hz1⟩
  try unfold ev at hez1
  subst hez1
  have Bz1 := By1.trans (hz1.mono By1.size)
  go_upto_region 9 with (fail)
  refine wp_stk1 fun V1 hV1 _ bV1 => ?_
  have B1 := Bz1.trans (hV1.mono Bz1.size)
  go_wp2_with fail
  refine (F31.out _).mono ?_
  rintro e y2 ⟨hey2, hy2⟩
  try unfold ev at hey2
  subst hey2
  have By2 := B1.trans (hy2.mono B1.size)
  go_wp2_with fail
  refine (XV2.out y2 By2).mono ?_
  rintro e z2 ⟨hez2, hz2⟩
  try unfold ev at hez2
  subst hez2
  have Bz2 := By2.trans (hz2.mono By2.size)
  go_upto_region 10 with (fail)
  refine wp_stk1 fun V2 hV2 _ bV2 => ?_
  have B2 := Bz2.trans (hV2.mono Bz2.size)
  go_wp2_with fail
  refine (F30.out _).mono ?_
  rintro e y3 ⟨hey3, hy3⟩
  try unfold ev at hey3
  subst hey3
  have By3 := B2.trans (hy3.mono B2.size)
  go_wp2_with fail
  refine (XV3.out y3 By3).mono ?_
  rintro e z3 ⟨hez3, hz3⟩
  try unfold ev at hez3
  subst hez3
  have Bz3 := By3.trans (hz3.mono By3.size)
  go_upto_region 11 with (fail)
  refine wp_stk1 fun V3 hV3 _ bV3 => ?_
  have B3 := Bz3.trans (hV3.mono Bz3.size)
  refine wp_region_swap 10 8 undef [(0, Spec.val (.agg #[.int .u64 (fv (e30).a), .int .u64 (fv (e30).b)])), (5, Spec.val (.tuple #[.agg #[.int .u64 (fv ((0 : E)).a), .int .u64 (fv ((0 : E)).b)], .int .i64 1])), (9, Spec.rel (New 43 #[.int .u64 0, .int .u64 0]) (NewF))] (by kernel_rfl) (by kernel_rfl) (by kernel_rfl) rfl rfl rfl rfl ⟨fit_new, trivial⟩ ?_ ?_
  refine rg_val rfl rfl (fun W1 hW1 hF => step_callv en_attestor_attestorref02_FromInt (F30.out W1) rfl rfl) ?_
  intro a' ha
  simp only [Act.put, List.setIfInBounds_toArray, List.set_cons_succ, List.set_cons_zero] at ha
  subst ha
  refine rg_det rfl rfl rfl (fun K hK => ?_)
  go_big_quiet_op
  refine hK _ ?_; clear hK K
  refine rg_det rfl rfl rfl (fun K hK => ?_)
  go_big_quiet_op
  refine hK _ ?_; clear hK K
  refine rg_det rfl rfl rfl (fun K hK => ?_)
  go_big_quiet_op
  refine hK _ ?_; clear hK K
  refine rg_det rfl rfl rfl (fun K hK => ?_)
  go_big_quiet_op
  refine hK _ ?_; clear hK K
  refine rg_val rfl rfl (fun W1 hW1 hF => step_callv en_attestor_sumcheck_Verify (XV4.out W1 (B3.trans ((grw_below hW1).mono B3.size))) rfl rfl) ?_
  intro a' ha
  simp only [Act.put, List.setIfInBounds_toArray, List.set_cons_succ, List.set_cons_zero] at ha
  subst ha
  refine rg_det rfl rfl rfl (fun K hK => ?_)
  go_big_quiet_op
  refine hK _ ?_; clear hK K
  refine rg_det rfl rfl rfl (fun K hK => ?_)
  go_big_quiet_op
  refine hK _ ?_; clear hK K
  refine rg_det rfl rfl rfl (fun K hK => ?_)
  go_big_quiet_op
  refine hK _ ?_; clear hK K
  refine rg_rel rfl rfl (fun W1 hW1 hF => step_new hi0 iz0 rfl) ?_
  intro n9 m9 v9 hn9 hm9 hd9 hf9 a' ha
  simp only [Act.put, List.setIfInBounds_toArray, List.set_cons_succ, List.set_cons_zero] at ha
  subst ha
  obtain rfl := hf9
  refine rg_nil (fun w' hw' hF => ?_)
  obtain ⟨z, rfl⟩ := hw'
  simp only [List.drop_succ_cons, List.drop_zero]
  rotate_left 1
  refine rg_val rfl rfl (fun W1 hW1 hF => step_callv en_attestor_attestorref02_FromInt (F30.out W1) rfl rfl) ?_
  intro a' ha
  simp only [Act.put, List.setIfInBounds_toArray, List.set_cons_succ, List.set_cons_zero] at ha
  subst ha
  refine rg_det rfl rfl rfl (fun K hK => ?_)
  go_big_quiet_op
  refine hK _ ?_; clear hK K
  refine rg_det rfl rfl rfl (fun K hK => ?_)
  go_big_quiet_op
  refine hK _ ?_; clear hK K
  refine rg_det rfl rfl rfl (fun K hK => ?_)
  go_big_quiet_op
  refine hK _ ?_; clear hK K
  refine rg_det rfl rfl rfl (fun K hK => ?_)
  go_big_quiet_op
  refine hK _ ?_; clear hK K
  refine rg_val rfl rfl (fun W1 hW1 hF => step_callv en_attestor_sumcheck_Verify (XV4.out W1 (B3.trans ((grw_below hW1).mono B3.size))) rfl rfl) ?_
  intro a' ha
  simp only [Act.put, List.setIfInBounds_toArray, List.set_cons_succ, List.set_cons_zero] at ha
  subst ha
  refine rg_det rfl rfl rfl (fun K hK => ?_)
  go_big_quiet_op
  refine hK _ ?_; clear hK K
  refine rg_det rfl rfl rfl (fun K hK => ?_)
  go_big_quiet_op
  refine hK _ ?_; clear hK K
  refine rg_pass rfl rfl ?_
  intro a' ha
  simp only [Act.put, List.setIfInBounds_toArray, List.set_cons_succ, List.set_cons_zero] at ha
  subst ha
  refine rg_rel rfl rfl (fun W1 hW1 hF => step_new hi0 iz0 rfl) ?_
  intro n9 m9 v9 hn9 hm9 hd9 hf9 a' ha
  simp only [Act.put, List.setIfInBounds_toArray, List.set_cons_succ, List.set_cons_zero] at ha
  subst ha
  obtain rfl := hf9
  refine rg_nil (fun w' hw' hF => ?_)
  obtain ⟨z, rfl⟩ := hw'
  simp only [List.drop_succ_cons, List.drop_zero]
  refine wpList_putS ?_
  intro a' ha
  simp only [Act.put, List.setIfInBounds_toArray, List.set_cons_succ, List.set_cons_zero] at ha
  subst ha
  rotate_right 1
  all_goals
    obtain ⟨hm9, -, hl9, b9⟩ := end_last hF
    have B4z := B3.trans (z.h.mono B3.size)
    have e2 := b9.frozen
    have e3 := b9.cell
    clear hF hd9
    go_upto_region 12 with (fail)
    refine set2 (M := fun W => Code.wp _ _ _ _ W) b9 fun V4 hV4 bV4 => ?_
    have B4 := B3.trans ((below_put z.h hV4 hn9).mono B3.size)
    clear e2 e3 b9 bV4 B4z
    go_wp2_with fail
    refine (F8.out _).mono ?_
    rintro e y5 ⟨hey5, hy5⟩
    try unfold ev at hey5
    subst hey5
    have By5 := B4.trans (hy5.mono B4.size)
    go_wp2_with fail
    refine (XV5.out y5 By5).mono ?_
    rintro e z5 ⟨hez5, hz5⟩
    try unfold ev at hez5
    subst hez5
    have Bz5 := By5.trans (hz5.mono By5.size)
    go_upto_region 13 with (fail)
    refine wp_stk1 fun V5 hV5 _ bV5 => ?_
    have B5 := Bz5.trans (hV5.mono Bz5.size)
    have k2 := hy2.trans ((hz2.trans (hV2.mono hz2.size)).mono hy2.size)
    have k3 := hy3.trans ((hz3.trans (hV3.mono hz3.size)).mono hy3.size)
    have k4 := below_put z.h hV4 hn9
    have k5 := hy5.trans ((hz5.trans (hV5.mono hz5.size)).mono hy5.size)
    have b7 := bV1.keep (((k2.trans (k3.mono k2.size)).trans (k4.mono (Nat.le_trans k2.size k3.size))).trans (k5.mono (Nat.le_trans (Nat.le_trans k2.size k3.size) k4.size)))
    clear k2 k3 k4 k5
    have b15 := bV5
    replace b1 := b1.keep B5
    replace b2 := b2.keep B5
    have dV1' := (B5.cell (p := ⟨gV, oV, none⟩) lV).trans dV1
    have dV2' := (B5.cell (p := ⟨gV, oV + 1, none⟩) lV).trans dV2
    replace lV := Nat.lt_of_lt_of_le lV B5.size
    clear dV1 dV2
    have dV1 := dV1'
    have dV2 := dV2'
    clear dV1' dV2'
    have YT1 := Lib.hid (fun W1 (h : Below V5.heap.size V5 W1) => XT1.out W1 (B5.trans (h.mono B5.size)))
    have YT2 := Lib.hid (fun W1 (h : Below V5.heap.size V5 W1) => XT2.out W1 (B5.trans (h.mono B5.size)))
    have YR1 := Lib.hid (fun W1 (h : Below V5.heap.size V5 W1) => XR1.out W1 (B5.trans (h.mono B5.size)))
    have YR2 := Lib.hid (fun W1 (h : Below V5.heap.size V5 W1) => XR2.out W1 (B5.trans (h.mono B5.size)))
    have YD1 := Lib.hid (fun W1 (h : Below V5.heap.size V5 W1) => XD1.out W1 (B5.trans (h.mono B5.size)))
    have YD2 := Lib.hid (fun W1 (h : Below V5.heap.size V5 W1) => XD2.out W1 (B5.trans (h.mono B5.size)))
    have YA1 := Lib.hid (fun W1 (h : Below V5.heap.size V5 W1) => XA1.out W1 (B5.trans (h.mono B5.size)))
    have YA2 := Lib.hid (fun W1 (h : Below V5.heap.size V5 W1) => XA2.out W1 (B5.trans (h.mono B5.size)))
    have YA3 := Lib.hid (fun W1 g (h : Below V5.heap.size V5 W1) => XA3.out W1 g (B5.trans (h.mono B5.size)))
    have YA4 := Lib.hid (fun W1 g n m v (h : Below V5.heap.size V5 W1) hb (q : LitQ 3 66 n m v W1) => (show Calls Try.prog 11 #[.agg #[.slice (some ⟨g, 0, none⟩) 1 1, .slice (some ⟨n, 0, none⟩) 1 1]] W1 (Ret (.bool false) W1) from q.2.2.elim fun n' q' => XA4.out W1 g n' n _ _ (B5.trans (h.mono B5.size)) hb q'.2.1 q'.2.2))
    have YN := Lib.hid (fun W1 v lo hi (h : Below V5.heap.size V5 W1) => XN.out W1 v lo hi (B5.trans (h.mono B5.size)))
    have hBV := hBB9.trans (B5.mono hBB9.size)
    clear XT1 XT2 XR1 XR2 XD1 XD2 XA1 XA2 XA3 XA4 XN XV1 XV2 XV3 XV4 XV5 B1 B2 B3 B4 B5
    have c1 := gw_blk b1
    have c2 := gw_blk b2
    have c7 := gw_blk b7
    have c15 := gw_blk b15
    have cV1 := gw_cell lV dV1
    have cV2 := gw_cell lV dV2
    clear dV1 dV2
    refine wp_region_rg 106 [(1, Spec.val (.agg #[.int .u64 (fv (e10).a), .int .u64 (fv (e10).b)])), (2, Spec.val (.agg #[.int .u64 (fv (e10).a), .int .u64 (fv (e10).b)])), (6, Spec.rel (ExtA (intsE [4, 6])) (SlF 2)), (7, Spec.rel (Lit 2 2 #[.int .i64 4, .int .i64 6]) (LitF 2)), (8, Spec.rel (ExtA (intsE [4, 6])) (SlF 2)), (9, Spec.val (.bool true)), (13, Spec.val (.agg #[.int .u64 (fv (e30).a), .int .u64 (fv (e30).b)])), (14, Spec.val (.agg #[.int .u64 (fv (e30).a), .int .u64 (fv (e30).b)])), (19, Spec.rel (ExtA (intsE [10, 20, 34])) (SlF 3)), (20, Spec.rel (Lit 2 3 #[.int .i64 10, .int .i64 20, .int .i64 34]) (LitF 3)), (21, Spec.rel (ExtA (intsE [10, 20, 34])) (SlF 3)), (22, Spec.val (.bool true)), (28, Spec.val (.agg #[.int .u64 (fv (e12).a), .int .u64 (fv (e12).b)])), (33, Spec.val (.agg #[.int .u64 (fv (e144).a), .int .u64 (fv (e144).b)])), (54, Spec.val (.agg #[.int .u64 (fv (e8).a), .int .u64 (fv (e8).b)])), (63, Spec.val (.int .i64 1)), (68, Spec.val (.int .i64 2)), (73, Spec.val (.bool true)), (77, Spec.val (.bool false)), (83, Spec.rel (Lit 22 1 #[.slice (some ⟨gT, oT, none⟩) 3 capT]) (LitF 1)), (85, Spec.val (.bool false)), (90, Spec.rel (Lit 22 1 #[.slice (some ⟨gT, oT, none⟩) 4 capT]) (LitF 1)), (91, Spec.rel (Lit 3 1 #[.int .i64 1]) (LitF 1)), (93, Spec.rel (LitQ 3 66) (LitF 1)), (95, Spec.val (.bool false)), (100, Spec.rel (Lit 2 1 #[.int .i64 7]) (LitF 1)), (101, Spec.rel (ExtA (intsE [7])) (SlF 1)), (102, Spec.val (.agg #[.int .u64 (fv (e49).a), .int .u64 (fv (e49).b)])), (103, Spec.val (.agg #[.int .u64 (fv (e49).a), .int .u64 (fv (e49).b)]))] (by kernel_rfl) (by kernel_rfl) (by kernel_rfl) ⟨fit_ext, fit_lit, fit_ext, fit_ext, fit_lit, fit_ext, fit_lit, fit_lit, fit_lit, fit_litQ, fit_lit, fit_ext, trivial⟩ ?_
    refine rg_det rfl rfl rfl (fun K hK => ?_)
    go_big_quiet_op
    refine hK _ ?_; clear hK K
    refine rg_val rfl rfl (fun W1 hW1 hF => step_callv en_attestor_sumcheck_Total (YT1.out W1 (grw_below hW1)) rfl rfl) ?_
    intro a' ha
    simp only [Act.put, List.setIfInBounds_toArray, List.set_cons_succ, List.set_cons_zero] at ha
    subst ha
    refine rg_val rfl rfl (fun W1 hW1 hF => step_callv en_attestor_attestorref02_FromInt (F10.out W1) rfl rfl) ?_
    intro a' ha
    simp only [Act.put, List.setIfInBounds_toArray, List.set_cons_succ, List.set_cons_zero] at ha
    subst ha
    refine rg_det rfl rfl rfl (fun K hK => ?_)
    go_big_quiet_op
    refine hK _ ?_; clear hK K
    refine rg_det rfl rfl rfl (fun K hK => ?_)
    go_big_quiet_op
    refine hK _ ?_; clear hK K
    refine rg_det rfl rfl rfl (fun K hK => ?_)
    go_big_quiet_op
    refine hK _ ?_; clear hK K
    refine rg_rel rfl rfl (fun W1 hW1 hF => step_callr en_attestor_sumcheck_Round (YR1.out W1 (grw_below hW1)) rfl rfl) ?_
    intro n6 m6 v6 hn6 hm6 hd6 hf6 a' ha
    simp only [Act.put, List.setIfInBounds_toArray, List.set_cons_succ, List.set_cons_zero] at ha
    subst ha
    obtain ⟨A6, cap6, rfl⟩ := hf6
    refine rg_rel rfl rfl (fun W1 hW1 hF => step_litF (parts := [(0, Operand.const (.int .i64 4)), (1, Operand.const (.int .i64 6))]) (vs := [.int .i64 4, .int .i64 6]) Try.underlying70 hj0 hjz0 hjz1 rfl (by decide) (by decide) rfl rfl (by simp [Value.cells])) ?_
    intro n7 m7 v7 hn7 hm7 hd7 hf7 a' ha
    simp only [Act.put, List.setIfInBounds_toArray, List.set_cons_succ, List.set_cons_zero] at ha
    subst ha
    obtain rfl := hf7
    refine rg_rel rfl rfl (fun W1 hW1 hF => step_callr en_attestor_attestorlaw06_ints (lInts [4, 6] _ 0 W1.heap.size W1 (ints_of_blk (zs := [4, 6]) (pick_last hF (by kernel_rfl)).2.2.2 rfl (by decide) (Nat.zero_le _) (pick_last hF (by kernel_rfl)).2.2.2.lt (by decide)) (by decide)) rfl rfl) ?_
    intro n8 m8 v8 hn8 hm8 hd8 hf8 a' ha
    simp only [Act.put, List.setIfInBounds_toArray, List.set_cons_succ, List.set_cons_zero] at ha
    subst ha
    obtain ⟨A8, cap8, rfl⟩ := hf8
    refine rg_val rfl rfl (fun W1 hW1 hF => step_callv en_attestor_attestorref03_Same (xSame3 (intsE [4, 6]) _ _ _ _ _ _ W1 (pick_last (pick_init (pick_init hF)) (by kernel_rfl)).2 (pick_last hF (by kernel_rfl)).2) rfl rfl) ?_
    intro a' ha
    simp only [Act.put, List.setIfInBounds_toArray, List.set_cons_succ, List.set_cons_zero] at ha
    subst ha
    refine rg_det rfl rfl rfl (fun K hK => ?_)
    go_big_quiet_op
    refine hK _ ?_; clear hK K
    refine rg_det rfl rfl rfl (fun K hK => ?_)
    go_big_quiet_op
    refine hK _ ?_; clear hK K
    refine rg_det rfl rfl rfl (fun K hK => ?_)
    go_big_quiet_op
    refine hK _ ?_; clear hK K
    refine rg_val rfl rfl (fun W1 hW1 hF => step_callv en_attestor_sumcheck_Total (YT2.out W1 (grw_below hW1)) rfl rfl) ?_
    intro a' ha
    simp only [Act.put, List.setIfInBounds_toArray, List.set_cons_succ, List.set_cons_zero] at ha
    subst ha
    refine rg_val rfl rfl (fun W1 hW1 hF => step_callv en_attestor_attestorref02_FromInt (F30.out W1) rfl rfl) ?_
    intro a' ha
    simp only [Act.put, List.setIfInBounds_toArray, List.set_cons_succ, List.set_cons_zero] at ha
    subst ha
    refine rg_det rfl rfl rfl (fun K hK => ?_)
    go_big_quiet_op
    refine hK _ ?_; clear hK K
    refine rg_det rfl rfl rfl (fun K hK => ?_)
    go_big_quiet_op
    refine hK _ ?_; clear hK K
    refine rg_det rfl rfl rfl (fun K hK => ?_)
    go_big_quiet_op
    refine hK _ ?_; clear hK K
    refine rg_det rfl rfl rfl (fun K hK => ?_)
    go_big_quiet_op
    refine hK _ ?_; clear hK K
    refine rg_rel rfl rfl (fun W1 hW1 hF => step_callr en_attestor_sumcheck_Round (YR2.out W1 (grw_below hW1)) rfl rfl) ?_
    intro n19 m19 v19 hn19 hm19 hd19 hf19 a' ha
    simp only [Act.put, List.setIfInBounds_toArray, List.set_cons_succ, List.set_cons_zero] at ha
    subst ha
    obtain ⟨A19, cap19, rfl⟩ := hf19
    refine rg_rel rfl rfl (fun W1 hW1 hF => step_litF (parts := [(0, Operand.const (.int .i64 10)), (1, Operand.const (.int .i64 20)), (2, Operand.const (.int .i64 34))]) (vs := [.int .i64 10, .int .i64 20, .int .i64 34]) Try.underlying70 hj0 hjz0 hjz1 rfl (by decide) (by decide) rfl rfl (by simp [Value.cells])) ?_
    intro n20 m20 v20 hn20 hm20 hd20 hf20 a' ha
    simp only [Act.put, List.setIfInBounds_toArray, List.set_cons_succ, List.set_cons_zero] at ha
    subst ha
    obtain rfl := hf20
    refine rg_rel rfl rfl (fun W1 hW1 hF => step_callr en_attestor_attestorlaw06_ints (lInts [10, 20, 34] _ 0 W1.heap.size W1 (ints_of_blk (zs := [10, 20, 34]) (pick_last hF (by kernel_rfl)).2.2.2 rfl (by decide) (Nat.zero_le _) (pick_last hF (by kernel_rfl)).2.2.2.lt (by decide)) (by decide)) rfl rfl) ?_
    intro n21 m21 v21 hn21 hm21 hd21 hf21 a' ha
    simp only [Act.put, List.setIfInBounds_toArray, List.set_cons_succ, List.set_cons_zero] at ha
    subst ha
    obtain ⟨A21, cap21, rfl⟩ := hf21
    refine rg_val rfl rfl (fun W1 hW1 hF => step_callv en_attestor_attestorref03_Same (xSame3 (intsE [10, 20, 34]) _ _ _ _ _ _ W1 (pick_last (pick_init (pick_init hF)) (by kernel_rfl)).2 (pick_last hF (by kernel_rfl)).2) rfl rfl) ?_
    intro a' ha
    simp only [Act.put, List.setIfInBounds_toArray, List.set_cons_succ, List.set_cons_zero] at ha
    subst ha
    refine rg_det rfl rfl rfl (fun K hK => ?_)
    go_big_quiet_op
    refine hK _ ?_; clear hK K
    refine rg_det rfl rfl rfl (fun K hK => ?_)
    go_big_quiet_op
    refine hK _ ?_; clear hK K
    refine rg_det rfl rfl rfl (fun K hK => ?_)
    go_big_quiet_op
    refine hK _ ?_; clear hK K
    refine rg_det rfl rfl rfl (fun K hK => ?_)
    go_big_quiet_op
    refine hK _ ?_; clear hK K
    refine rg_det rfl rfl rfl (fun K hK => ?_)
    go_big_quiet_op
    refine hK _ ?_; clear hK K
    refine rg_val rfl rfl (fun W1 hW1 hF => step_callv en_attestor_attestorref02_FromInt (F12.out W1) rfl rfl) ?_
    intro a' ha
    simp only [Act.put, List.setIfInBounds_toArray, List.set_cons_succ, List.set_cons_zero] at ha
    subst ha
    refine rg_det rfl rfl rfl (fun K hK => ?_)
    go_big_quiet_op
    refine hK _ ?_; clear hK K
    refine rg_det rfl rfl rfl (fun K hK => ?_)
    go_big_quiet_op
    refine hK _ ?_; clear hK K
    refine rg_det rfl rfl rfl (fun K hK => ?_)
    go_big_quiet_op
    refine hK _ ?_; clear hK K
    refine rg_det rfl rfl rfl (fun K hK => ?_)
    go_big_quiet_op
    refine hK _ ?_; clear hK K
    refine rg_val rfl rfl (fun W1 hW1 hF => step_callv en_attestor_attestorref02_FromInt (F144.out W1) rfl rfl) ?_
    intro a' ha
    simp only [Act.put, List.setIfInBounds_toArray, List.set_cons_succ, List.set_cons_zero] at ha
    subst ha
    refine rg_det rfl rfl rfl (fun K hK => ?_)
    go_big_quiet_op
    refine hK _ ?_; clear hK K
    refine rg_det rfl rfl rfl (fun K hK => ?_)
    go_big_quiet_op
    refine hK _ ?_; clear hK K
    refine rg_det rfl rfl rfl (fun K hK => ?_)
    go_big_quiet_op
    refine hK _ ?_; clear hK K
    refine rg_det rfl rfl rfl (fun K hK => ?_)
    go_big_quiet_op
    refine hK _ ?_; clear hK K
    refine rg_det rfl rfl rfl (fun K hK => ?_)
    go_big_quiet_op
    refine hK _ ?_; clear hK K
    refine rg_det rfl rfl rfl (fun K hK => ?_)
    go_big_quiet_op
    refine hK _ ?_; clear hK K
    refine rg_det rfl rfl rfl (fun K hK => ?_)
    go_big_quiet_op
    refine hK _ ?_; clear hK K
    refine rg_det rfl rfl rfl (fun K hK => ?_)
    go_big_quiet_op
    refine hK _ ?_; clear hK K
    refine rg_det rfl rfl rfl (fun K hK => ?_)
    go_big_quiet_op
    refine hK _ ?_; clear hK K
    refine rg_det rfl rfl rfl (fun K hK => ?_)
    go_big_quiet_op
    refine hK _ ?_; clear hK K
    refine rg_det rfl rfl rfl (fun K hK => ?_)
    go_big_quiet_op
    refine hK _ ?_; clear hK K
    refine rg_det rfl rfl rfl (fun K hK => ?_)
    go_big_quiet_op
    refine hK _ ?_; clear hK K
    refine rg_det rfl rfl rfl (fun K hK => ?_)
    go_big_quiet_op
    refine hK _ ?_; clear hK K
    refine rg_det rfl rfl rfl (fun K hK => ?_)
    go_big_quiet_op
    refine hK _ ?_; clear hK K
    refine rg_det rfl rfl rfl (fun K hK => ?_)
    go_big_quiet_op
    refine hK _ ?_; clear hK K
    refine rg_det rfl rfl rfl (fun K hK => ?_)
    go_big_quiet_op
    refine hK _ ?_; clear hK K
    refine rg_det rfl rfl rfl (fun K hK => ?_)
    go_big_quiet_op
    refine hK _ ?_; clear hK K
    refine rg_det rfl rfl rfl (fun K hK => ?_)
    go_big_quiet_op
    refine hK _ ?_; clear hK K
    refine rg_det rfl rfl rfl (fun K hK => ?_)
    go_big_quiet_op
    refine hK _ ?_; clear hK K
    refine rg_det rfl rfl rfl (fun K hK => ?_)
    go_big_quiet_op
    refine hK _ ?_; clear hK K
    refine rg_val rfl rfl (fun W1 hW1 hF => step_callv en_attestor_attestorref02_FromInt (F8.out W1) rfl rfl) ?_
    intro a' ha
    simp only [Act.put, List.setIfInBounds_toArray, List.set_cons_succ, List.set_cons_zero] at ha
    subst ha
    refine rg_det rfl rfl rfl (fun K hK => ?_)
    go_big_quiet_op
    refine hK _ ?_; clear hK K
    refine rg_det rfl rfl rfl (fun K hK => ?_)
    go_big_quiet_op
    refine hK _ ?_; clear hK K
    refine rg_det rfl rfl rfl (fun K hK => ?_)
    go_big_quiet_op
    refine hK _ ?_; clear hK K
    refine rg_det rfl rfl rfl (fun K hK => ?_)
    go_big_quiet_op
    refine hK _ ?_; clear hK K
    refine rg_det rfl rfl rfl (fun K hK => ?_)
    go_big_quiet_op
    refine hK _ ?_; clear hK K
    refine rg_det rfl rfl rfl (fun K hK => ?_)
    go_big_quiet_op
    refine hK _ ?_; clear hK K
    refine rg_det rfl rfl rfl (fun K hK => ?_)
    go_big_quiet_op
    refine hK _ ?_; clear hK K
    refine rg_det rfl rfl rfl (fun K hK => ?_)
    go_big_quiet_op
    refine hK _ ?_; clear hK K
    refine rg_val rfl rfl (fun W1 hW1 hF => step_callv en_attestor_sumcheck_Degree (YD1.out W1 (grw_below hW1)) rfl rfl) ?_
    intro a' ha
    simp only [Act.put, List.setIfInBounds_toArray, List.set_cons_succ, List.set_cons_zero] at ha
    subst ha
    refine rg_det rfl rfl rfl (fun K hK => ?_)
    go_big_quiet_op
    refine hK _ ?_; clear hK K
    refine rg_det rfl rfl rfl (fun K hK => ?_)
    go_big_quiet_op
    refine hK _ ?_; clear hK K
    refine rg_det rfl rfl rfl (fun K hK => ?_)
    go_big_quiet_op
    refine hK _ ?_; clear hK K
    refine rg_det rfl rfl rfl (fun K hK => ?_)
    go_big_quiet_op
    refine hK _ ?_; clear hK K
    refine rg_val rfl rfl (fun W1 hW1 hF => step_callv en_attestor_sumcheck_Degree (YD2.out W1 (grw_below hW1)) rfl rfl) ?_
    intro a' ha
    simp only [Act.put, List.setIfInBounds_toArray, List.set_cons_succ, List.set_cons_zero] at ha
    subst ha
    refine rg_det rfl rfl rfl (fun K hK => ?_)
    go_big_quiet_op
    refine hK _ ?_; clear hK K
    refine rg_det rfl rfl rfl (fun K hK => ?_)
    go_big_quiet_op
    refine hK _ ?_; clear hK K
    refine rg_det rfl rfl rfl (fun K hK => ?_)
    go_big_quiet_op
    refine hK _ ?_; clear hK K
    refine rg_det rfl rfl rfl (fun K hK => ?_)
    go_big_quiet_op
    refine hK _ ?_; clear hK K
    refine rg_val rfl rfl (fun W1 hW1 hF => step_callv en_attestor_sumcheck_Valid (YA1.out W1 (grw_below hW1)) rfl rfl) ?_
    intro a' ha
    simp only [Act.put, List.setIfInBounds_toArray, List.set_cons_succ, List.set_cons_zero] at ha
    subst ha
    refine rg_det rfl rfl rfl (fun K hK => ?_)
    go_big_quiet_op
    refine hK _ ?_; clear hK K
    refine rg_det rfl rfl rfl (fun K hK => ?_)
    go_big_quiet_op
    refine hK _ ?_; clear hK K
    refine rg_det rfl rfl rfl (fun K hK => ?_)
    go_big_quiet_op
    refine hK _ ?_; clear hK K
    refine rg_val rfl rfl (fun W1 hW1 hF => step_callv en_attestor_sumcheck_Valid (YA2.out W1 (grw_below hW1)) rfl rfl) ?_
    intro a' ha
    simp only [Act.put, List.setIfInBounds_toArray, List.set_cons_succ, List.set_cons_zero] at ha
    subst ha
    refine rg_det rfl rfl rfl (fun K hK => ?_)
    go_big_quiet_op
    refine hK _ ?_; clear hK K
    refine rg_det rfl rfl rfl (fun K hK => ?_)
    go_big_quiet_op
    refine hK _ ?_; clear hK K
    refine rg_det rfl rfl rfl (fun K hK => ?_)
    go_big_quiet_op
    refine hK _ ?_; clear hK K
    refine rg_det rfl rfl rfl (fun K hK => ?_)
    go_big_quiet_op
    refine hK _ ?_; clear hK K
    refine rg_det rfl rfl rfl (fun K hK => ?_)
    go_big_quiet_op
    refine hK _ ?_; clear hK K
    refine rg_rel rfl rfl (fun W1 hW1 hF => step_litF (parts := [(0, Operand.tmp 170)]) (vs := [.slice (some ⟨gT, oT, none⟩) 3 capT]) Try.underlying27 hs0 hsz0 hsz1 rfl (by decide) (by decide) rfl rfl (by simp [Value.cells])) ?_
    intro n83 m83 v83 hn83 hm83 hd83 hf83 a' ha
    simp only [Act.put, List.setIfInBounds_toArray, List.set_cons_succ, List.set_cons_zero] at ha
    subst ha
    obtain rfl := hf83
    refine rg_det rfl rfl rfl (fun K hK => ?_)
    go_big_quiet_op
    refine hK _ ?_; clear hK K
    refine rg_val rfl rfl (fun W1 hW1 hF => step_callv en_attestor_sumcheck_Valid (YA3.out W1 n83 (grw_below hW1) (pick_last hF (by kernel_rfl)).2.2.2) rfl rfl) ?_
    intro a' ha
    simp only [Act.put, List.setIfInBounds_toArray, List.set_cons_succ, List.set_cons_zero] at ha
    subst ha
    refine rg_det rfl rfl rfl (fun K hK => ?_)
    go_big_quiet_op
    refine hK _ ?_; clear hK K
    refine rg_det rfl rfl rfl (fun K hK => ?_)
    go_big_quiet_op
    refine hK _ ?_; clear hK K
    refine rg_det rfl rfl rfl (fun K hK => ?_)
    go_big_quiet_op
    refine hK _ ?_; clear hK K
    refine rg_det rfl rfl rfl (fun K hK => ?_)
    go_big_quiet_op
    refine hK _ ?_; clear hK K
    refine rg_rel rfl rfl (fun W1 hW1 hF => step_litF (parts := [(0, Operand.tmp 177)]) (vs := [.slice (some ⟨gT, oT, none⟩) 4 capT]) Try.underlying27 hs0 hsz0 hsz1 rfl (by decide) (by decide) rfl rfl (by simp [Value.cells])) ?_
    intro n90 m90 v90 hn90 hm90 hd90 hf90 a' ha
    simp only [Act.put, List.setIfInBounds_toArray, List.set_cons_succ, List.set_cons_zero] at ha
    subst ha
    obtain rfl := hf90
    refine rg_rel rfl rfl (fun W1 hW1 hF => step_litF (parts := [(0, Operand.const (.int .i64 1))]) (vs := [.int .i64 1]) Try.underlying64 hk0 hkz0 hkz1 rfl (by decide) (by decide) rfl rfl (by simp [Value.cells])) ?_
    intro n91 m91 v91 hn91 hm91 hd91 hf91 a' ha
    simp only [Act.put, List.setIfInBounds_toArray, List.set_cons_succ, List.set_cons_zero] at ha
    subst ha
    obtain rfl := hf91
    refine rg_det rfl rfl rfl (fun K hK => ?_)
    go_big_quiet_op
    refine hK _ ?_; clear hK K
    refine rg_rel rfl rfl (fun W1 hW1 hF => stepAt_mono (fun v w' h => ⟨⟨h.1.1, h.1.2.1, n91, Nat.lt_of_lt_of_le (pick_last hF (by kernel_rfl)).2.2.2.lt h.2.size, (pick_last hF (by kernel_rfl)).2.2.2.keep h.2, h.1.2.2⟩, h.2⟩) (step_lit1 Try.underlying28 hp0 hpz0 hpz1 (by decide) (by decide) rfl rfl rfl)) ?_
    intro n93 m93 v93 hn93 hm93 hd93 hf93 a' ha
    simp only [Act.put, List.setIfInBounds_toArray, List.set_cons_succ, List.set_cons_zero] at ha
    subst ha
    obtain rfl := hf93
    refine rg_det rfl rfl rfl (fun K hK => ?_)
    go_big_quiet_op
    refine hK _ ?_; clear hK K
    refine rg_val rfl rfl (fun W1 hW1 hF => step_callv en_attestor_sumcheck_Valid (YA4.out W1 n90 n93 _ _ (grw_below hW1) (pick_last (pick_init (pick_init hF)) (by kernel_rfl)).2.2.2 (pick_last hF (by kernel_rfl)).2) rfl rfl) ?_
    intro a' ha
    simp only [Act.put, List.setIfInBounds_toArray, List.set_cons_succ, List.set_cons_zero] at ha
    subst ha
    refine rg_det rfl rfl rfl (fun K hK => ?_)
    go_big_quiet_op
    refine hK _ ?_; clear hK K
    refine rg_det rfl rfl rfl (fun K hK => ?_)
    go_big_quiet_op
    refine hK _ ?_; clear hK K
    refine rg_det rfl rfl rfl (fun K hK => ?_)
    go_big_quiet_op
    refine hK _ ?_; clear hK K
    refine rg_det rfl rfl rfl (fun K hK => ?_)
    go_big_quiet_op
    refine hK _ ?_; clear hK K
    refine rg_rel rfl rfl (fun W1 hW1 hF => step_litF (parts := [(0, Operand.const (.int .i64 7))]) (vs := [.int .i64 7]) Try.underlying70 hj0 hjz0 hjz1 rfl (by decide) (by decide) rfl rfl (by simp [Value.cells])) ?_
    intro n100 m100 v100 hn100 hm100 hd100 hf100 a' ha
    simp only [Act.put, List.setIfInBounds_toArray, List.set_cons_succ, List.set_cons_zero] at ha
    subst ha
    obtain rfl := hf100
    refine rg_rel rfl rfl (fun W1 hW1 hF => step_callr en_attestor_attestorlaw06_ints (lInts [7] _ 0 W1.heap.size W1 (ints_of_blk (zs := [7]) (pick_last hF (by kernel_rfl)).2.2.2 rfl (by decide) (Nat.zero_le _) (pick_last hF (by kernel_rfl)).2.2.2.lt (by decide)) (by decide)) rfl rfl) ?_
    intro n101 m101 v101 hn101 hm101 hd101 hf101 a' ha
    simp only [Act.put, List.setIfInBounds_toArray, List.set_cons_succ, List.set_cons_zero] at ha
    subst ha
    obtain ⟨A101, cap101, rfl⟩ := hf101
    refine rg_val rfl rfl (fun W1 hW1 hF => step_callv en_attestor_sumcheck_Final (YN.out W1 _ _ _ (grw_below hW1) (pick_last hF (by kernel_rfl)).2) rfl rfl) ?_
    intro a' ha
    simp only [Act.put, List.setIfInBounds_toArray, List.set_cons_succ, List.set_cons_zero] at ha
    subst ha
    refine rg_val rfl rfl (fun W1 hW1 hF => step_callv en_attestor_attestorref02_FromInt (F49.out W1) rfl rfl) ?_
    intro a' ha
    simp only [Act.put, List.setIfInBounds_toArray, List.set_cons_succ, List.set_cons_zero] at ha
    subst ha
    refine rg_det rfl rfl rfl (fun K hK => ?_)
    go_big_quiet_op
    refine hK _ ?_; clear hK K
    refine rg_det rfl rfl rfl (fun K hK => ?_)
    go_big_quiet_op
    refine hK _ ?_; clear hK K
    refine rg_nil (fun w' hw' hF => ?_)
    obtain ⟨z9, rfl⟩ := hw'
    simp only [List.append_eq, List.cons_append, List.nil_append, List.drop_succ_cons, List.drop_zero]
    have hBz := hBV.trans (z9.h.mono hBV.size)
    clear hF
    go_wp2_with fail
    go_ret
    exact ⟨rfl, hBz⟩
end Go.Proofs.Ytilelegcniefcaa
