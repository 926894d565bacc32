/-
  The bounds of the fixed query.
  The kinds of queries: a map of seven entries that hold functions.
  The fixed query is valid: its columns and its condition.
  The fixed query is valid.
  Check of the fixed query.
  The program's Encode.
  The states of a meter: what the contracts ask of them.
  The library contract of math/bits.Len laid at this seat's translation, in plain words, with the numbers named.
  The program's hash tree: split, fold, hashes, Root, for at most eight leaves.
  The program's hash tree: the digests of the leaves, and the root.
  The program's root of a hash tree of at most eight leaves.
  The fixed example of chapter 26 in mathematics.
  The law's first.
  What the law's walks need of the contracts: results in a set of blocks; digests compared; the seed built.
  Streams in memory; the reference's Valid and Reading.
-/
import Derived.Test.YtficeebbbkmhcaaGreatDoorTc19
import Derived.Test.YtficeebbbkmhcaaGreatDoorFw26
import Derived.Shelf.Small.Bits
import Derived.Lib.ItoaNum
import Derived.Test.YtficeebbbkmhcaaGreatDoorProg
import Derived.DeepKeys
import Derived.Laws.StructEq
import Derived.ChangeKeysEq
namespace Go.Proofs.YtficeebbbkmhcaaGreatDoor
open Go.RowKit Go.Maps

theorem en_attestor_typecheck_kinds_3 : ∀ args w, (callFunc 98 args).run Tryz.prog w = .ok (.enter 98 args) w := enters_of Tryz.func98 (by kernel_rfl) rfl
theorem en_attestor_typecheck_moment : ∀ args w, (callFunc 95 args).run Tryz.prog w = .ok (.enter 95 args) w := enters_of Tryz.func95 (by kernel_rfl) rfl
theorem gK3 (F : Value) (w : World) : Calls Tryz.prog 98 #[.agg #[.int .i64 3, .int .i64 3, .int .i64 2, F]] w (Ret (.int .i64 2) w) := by
  go_enter Tryz.func98, Tryz.ntmps98
  go_upto_region 1 with (fail)
  refine wp_stk1 fun W hW hz b1 => ?_
  have HW := Lib.hid hW
  have c1 := b1.cell
  have l1 := b1.lt
  clear hW hz b1
  go_wp2_with fail
  exact bodyPost_ret (v := .int .i64 2) (by simp [results, Tryz.results98, go_sem]) rfl ⟨rfl, HW.out⟩
def fnV (f : Nat) : Value := .func (.func f) #[] #[]
theorem gMoment (f : Nat) (w : World) : Calls Tryz.prog 95 #[.func (.func f) #[] #[]] w fun e w' => e = .returned (.func (.func 121) #[] #[.pointer (some ⟨w.heap.size, 0, none⟩)]) ∧ Blk w' w.heap.size 91 #[fnV f] ∧ Below w.heap.size w w' := by
  have hmf : ∀ (fn : Fn) (first cap : Array Value) (w : World), (Instr.makeFunc fn first cap).run Tryz.prog w = .ok (.func fn first cap) w := fun _ _ _ _ => rfl
  go_enter Tryz.func95, Tryz.ntmps95
  go_upto_region 1 with (fail)
  refine wp_stk1 fun W hW hz b1 => ?_
  have HW := Lib.hid hW
  have HB := Lib.hid b1
  clear hW hz b1
  go_wp2_with fail
  exact bodyPost_ret (v := .func (.func 121) #[] #[.pointer (some ⟨w.heap.size, 0, none⟩)]) (by simp [results, Tryz.results95, go_sem]) rfl ⟨rfl, HB.out, HW.out⟩
theorem spn_high (w : World) : (Instr.field 182 (.agg #[.int .i64 0, .int .i64 255]) 1).run Tryz.prog w = .ok (.int .i64 255) w := by kernel_rfl
theorem rd_blk15 {W : World} {g size : Nat} {t : TypeId} {cs : List Value} {n : Nat} (h : Blk W g t cs.toArray) (hn : cs.length = n * size) (hb : n ≤ 1000000) : Rd 0 W.heap.size size W (.slice (some ⟨g, 0, none⟩) n n) n cs :=
  ⟨hn, by omega, _, _, rfl, Nat.le_refl _, fun _ => ⟨g, 0, rfl, Nat.zero_le _, h.lt, h.lt, fun j u hj => by rw [Nat.zero_add, h.cell]; simpa using hj⟩⟩
theorem qry1_form {w : World} {F : Value} (h : Qry1 w F (cdc 2 5 5)) : ∃ g off cap v, F = .slice (some ⟨g, off, none⟩) 1 cap ∧ 1 ≤ cap ∧ g < w.heap.size ∧ w.cell? ⟨g, off, none⟩ = some v ∧ RdA 3 w v 1 (cdc 2 5 5) := by
  obtain ⟨v, h1, h2⟩ := h
  obtain ⟨g, off, cap, rfl, hc, -, -, h3, h4⟩ := Rd.form h1 (by decide)
  exact ⟨g, off, cap, v, rfl, hc, h3, h4 0 v rfl, h2⟩
set_option maxRecDepth 100000 in
set_option maxHeartbeats 1000000 in
theorem gMoment1 (F : Value) (bx : Nat) (w : World) (hF : Qry1 w F (cdc 2 5 5)) (hL : Lwd w) (hbx : Blk w bx 91 #[fnV 98]) :
    Calls Tryz.prog 121 #[.agg #[.int .i64 3, .int .i64 3, .int .i64 2, F], .int .i64 3, .pointer (some ⟨bx, 0, none⟩)] w fun e w' => ∃ v, e = .returned (.tuple #[v, .bool true]) ∧ Rd w.heap.size w'.heap.size 1 w' v 1 [.int .i64 195075] ∧ Below w.heap.size w w' := by
  obtain ⟨gF, oF, cF, v, rfl, hcF, lF, kF, hv⟩ := qry1_form hF
  obtain ⟨A, cap, rfl⟩ := Rd.len hv
  have HV := Lib.hid hv
  have HL := Lib.hid hL
  have HBX := Lib.hid hbx
  have HKF := Lib.hid kF
  clear hF hv hL hbx kF
  go_enter Tryz.func121, Tryz.ntmps121
  go_upto_region 1 with (fail)
  refine wp_stk1 fun W hW hz b3 => ?_
  obtain ⟨g3, hg3⟩ : ∃ g, g = w.heap.size := ⟨_, rfl⟩
  rw [← hg3] at b3 ⊢
  have HW := Lib.hid hW
  have HB3 := Lib.hid b3
  have c3 := b3.cell
  have l3 := b3.lt
  have kF := (hW.cell (p := ⟨gF, oF, none⟩) lF).trans HKF.out
  have lF2 := Nat.lt_of_lt_of_le lF hW.size
  clear hz hW b3 hg3
  go_wp2_with fail
  refine (gSatis _ W (HV.out.keep HW.out) (HL.out.keep HW.out)).mono ?_
  rintro e V ⟨rfl, hV⟩
  have b3 := HB3.out.keep hV
  have HVV := Lib.hid (HW.out.trans (hV.mono HW.out.size))
  have bx := HBX.out.keep HVV.out
  have kFV := (hV.cell (p := ⟨gF, oF, none⟩) lF2).trans kF
  have lFV := Nat.lt_of_lt_of_le lF2 hV.size
  have f1 := gw_blk b3
  have f2 := gw_blk bx
  have f3 := gw_cell lFV kFV
  have hfd := spn_high
  have HU := Lib.hid (fun X (hX : Below V.heap.size V X) => gUnder3 (.slice A 1 cap) X (HV.out.keep (HVV.out.trans (hX.mono HVV.out.size))) (HL.out.keep (HVV.out.trans (hX.mono HVV.out.size))))
  clear c3 l3 kF lF2 b3 bx kFV hV lFV
  go_upto_region 3 with (fail)
  refine wp_region_rg 17 [(7, Spec.val (.agg #[.int .i64 0, .int .i64 255])), (11, Spec.val (.int .i64 2)), (12, Spec.val (.tuple #[.int .i64 195075, .bool true]))] (by kernel_rfl) (by kernel_rfl) (by kernel_rfl) trivial ?_
  iterate 7 (refine rg_det rfl rfl rfl (fun K hK => ?_); go_big_quiet_op; refine hK _ ?_; clear hK K)
  refine rg_val rfl rfl (fun W1 hW1 hF => step_callv en_attestor_typecheck_under (HU.out W1 (grw_below hW1)) rfl rfl) ?_
  intro a' ha
  simp only [Act.put, List.setIfInBounds_toArray, List.set_cons_succ, List.set_cons_zero] at ha
  subst ha
  iterate 3 (refine rg_det rfl rfl rfl (fun K hK => ?_); go_big_quiet_op; refine hK _ ?_; clear hK K)
  refine rg_val rfl rfl (fun W1 hW1 hF => step_callvs (first := []) (cap := []) en_attestor_typecheck_kinds_3 (gK3 _ W1) rfl rfl rfl rfl) ?_
  intro a' ha
  simp only [Act.put, List.setIfInBounds_toArray, List.set_cons_succ, List.set_cons_zero] at ha
  subst ha
  refine rg_val rfl rfl (fun W1 hW1 hF => step_callv en_attestor_typecheck_power (gPower15 W1) rfl rfl) ?_
  intro a' ha
  simp only [Act.put, List.setIfInBounds_toArray, List.set_cons_succ, List.set_cons_zero] at ha
  subst ha
  iterate 4 (refine rg_det rfl rfl rfl (fun K hK => ?_); go_big_quiet_op; refine hK _ ?_; clear hK K)
  refine rg_nil (fun w' hw' hF => ?_)
  obtain ⟨z, rfl⟩ := hw'
  simp only [List.drop_succ_cons, List.drop_zero]
  obtain ⟨X, hX⟩ : ∃ X, X = z.w := ⟨_, rfl⟩
  have HX := Lib.hid (HVV.out.trans (z.h.mono HVV.out.size))
  rw [← hX] at HX ⊢
  clear hF hX z f1 f2 f3 hfd
  go_wp2_with fail
  refine stk1 (M := fun W => bodyPost _ _ _ _ _ W) fun Y hY hz b1 => ?_
  exact bodyPost_ret (v := .tuple #[.slice (some ⟨X.heap.size, 0, none⟩) 1 1, .bool true]) (by simp [results, Tryz.results121, go_sem]) rfl ⟨_, rfl, ⟨rfl, by decide, _, _, rfl, Nat.le_refl _, fun _ => ⟨_, 0, rfl, HX.out.size, b1.lt, b1.lt, fun j u hj => by rw [Nat.zero_add, b1.cell]; simpa using hj⟩⟩, HX.out.trans (hY.mono HX.out.size)⟩
end Go.Proofs.YtficeebbbkmhcaaGreatDoor
namespace Go.Proofs.YtficeebbbkmhcaaGreatDoor
open Go.RowKit Go.Maps

def kdV (n : Int) (b : Bool) (f : Value) : Value := .agg #[.int .i64 n, .bool b, f]
def mmV (B : Nat) : Value := .func (.func 121) #[] #[.pointer (some ⟨B, 0, none⟩)]
def knd3 (x y z : Nat) : DataW Value := (((DataW.map []).put (.int .i64 1) (.held (kdV 1 false (mmV x)))).put (.int .i64 2) (.held (kdV 1 false (mmV y)))).put (.int .i64 3) (.held (kdV 1 false (mmV z)))
def knd7 (x y z : Nat) : DataW Value := ((((knd3 x y z).put (.int .i64 4) (.held (kdV 16 true (fnV 99)))).put (.int .i64 5) (.held (kdV 16 true (fnV 99)))).put (.int .i64 6) (.held (kdV 16 true (fnV 99)))).put (.int .i64 7) (.held (kdV 32 false (fnV 100)))
theorem knds_map : Tryz.prog.underlying 120 = some (.map 3 119) := by kernel_rfl
theorem kd_zero (w : World) : (zeroValue 119).run Tryz.prog w = .ok (kdV 0 false .nilFunc) w := by kernel_rfl
theorem knd_at2 (x y z : Nat) : (knd7 x y z).atKey (.int .i64 2) (.held (kdV 0 false .nilFunc)) = .held (kdV 1 false (mmV y)) := by rfl
theorem knd_at3 (x y z : Nat) : (knd7 x y z).atKey (.int .i64 3) (.held (kdV 0 false .nilFunc)) = .held (kdV 1 false (mmV z)) := by rfl
theorem en_attestor_typecheck_kinds : ∀ args w, (callFunc 50 args).run Tryz.prog w = .ok (.enter 50 args) w := enters_of Tryz.func50 (by kernel_rfl) rfl
set_option maxRecDepth 100000 in
set_option maxHeartbeats 1000000 in
theorem gKinds (w : World) : Calls Tryz.prog 50 #[] w fun e w' => ∃ b x y z, e = .returned (.map (some b)) ∧ MpO 3 w' b 7 (knd7 x y z) ∧ Blk w' z 91 #[fnV 98] ∧ Below w.heap.size w w' := by
  go_enter Tryz.func50, Tryz.ntmps50
  go_upto_region 1 with (fail)
  refine wp_region_lit ?_
  refine wpList_plain rfl fun K1 hK1 => wp_of_step (stepAt_mono (fun v1 W0 hh => ?_) (step_mnew 3 rfl))
  obtain ⟨rfl, H0, B0⟩ := hh
  refine hK1 _ _ ?_
  clear hK1 K1
  try simp only [Act.put, List.setIfInBounds_toArray, List.set_cons_succ, List.set_cons_zero]
  obtain ⟨b, hb⟩ : ∃ b, b = w.heap.size := ⟨_, rfl⟩
  rw [← hb] at H0 B0 ⊢
  have HB := Lib.hid hb
  clear hb
  have q0 := MpO.lt H0
  refine wpList_plain rfl fun K3 hK3 => wp_of_step (stepAt_mono (fun v1 V1 hh => ?_) (step_call (R := fun v w' => v = mmV W0.heap.size ∧ Blk w' W0.heap.size 91 #[fnV 96] ∧ Below W0.heap.size W0 w') en_attestor_typecheck_moment ((gMoment 96 W0).mono fun e w' h => ⟨_, h.1, rfl, h.2.1, h.2.2⟩) rfl rfl))
  obtain ⟨rfl, bx1, BV1⟩ := hh
  refine hK3 _ _ ?_
  clear hK3 K3
  try simp only [Act.put, List.setIfInBounds_toArray, List.set_cons_succ, List.set_cons_zero]
  replace H0 := MpO.keep H0 BV1
  iterate 1 (refine wpList_plain rfl fun K hK => ?_; go_big_op; refine hK _ _ ?_; clear hK K)
  refine wpList_plain rfl fun K5 hK5 => wp_of_step (stepAt_mono (fun u1 W1 hh => ?_) (step_mput (v := kdV 1 false (mmV W0.heap.size)) int_und knds_map rfl rfl rfl (by decide) rfl H0 (by decide)))
  obtain ⟨H1, C1, O1⟩ := hh
  refine hK5 _ _ ?_
  clear hK5 K5
  try simp only [Act.put, List.setIfInBounds_toArray, List.set_cons_succ, List.set_cons_zero]
  have q1 := MpO.lt H1
  refine wpList_plain rfl fun K7 hK7 => wp_of_step (stepAt_mono (fun v2 V2 hh => ?_) (step_call (R := fun v w' => v = mmV W1.heap.size ∧ Blk w' W1.heap.size 91 #[fnV 97] ∧ Below W1.heap.size W1 w') en_attestor_typecheck_moment ((gMoment 97 W1).mono fun e w' h => ⟨_, h.1, rfl, h.2.1, h.2.2⟩) rfl rfl))
  obtain ⟨rfl, bx2, BV2⟩ := hh
  refine hK7 _ _ ?_
  clear hK7 K7
  try simp only [Act.put, List.setIfInBounds_toArray, List.set_cons_succ, List.set_cons_zero]
  replace H1 := MpO.keep H1 BV2
  iterate 1 (refine wpList_plain rfl fun K hK => ?_; go_big_op; refine hK _ _ ?_; clear hK K)
  refine wpList_plain rfl fun K9 hK9 => wp_of_step (stepAt_mono (fun u2 W2 hh => ?_) (step_mput (v := kdV 1 false (mmV W1.heap.size)) int_und knds_map rfl rfl rfl (by decide) rfl H1 (by decide)))
  obtain ⟨H2, C2, O2⟩ := hh
  refine hK9 _ _ ?_
  clear hK9 K9
  try simp only [Act.put, List.setIfInBounds_toArray, List.set_cons_succ, List.set_cons_zero]
  have q2 := MpO.lt H2
  refine wpList_plain rfl fun K11 hK11 => wp_of_step (stepAt_mono (fun v3 V3 hh => ?_) (step_call (R := fun v w' => v = mmV W2.heap.size ∧ Blk w' W2.heap.size 91 #[fnV 98] ∧ Below W2.heap.size W2 w') en_attestor_typecheck_moment ((gMoment 98 W2).mono fun e w' h => ⟨_, h.1, rfl, h.2.1, h.2.2⟩) rfl rfl))
  obtain ⟨rfl, bx3, BV3⟩ := hh
  refine hK11 _ _ ?_
  clear hK11 K11
  try simp only [Act.put, List.setIfInBounds_toArray, List.set_cons_succ, List.set_cons_zero]
  replace H2 := MpO.keep H2 BV3
  iterate 1 (refine wpList_plain rfl fun K hK => ?_; go_big_op; refine hK _ _ ?_; clear hK K)
  refine wpList_plain rfl fun K13 hK13 => wp_of_step (stepAt_mono (fun u3 W3 hh => ?_) (step_mput (v := kdV 1 false (mmV W2.heap.size)) int_und knds_map rfl rfl rfl (by decide) rfl H2 (by decide)))
  obtain ⟨H3, C3, O3⟩ := hh
  refine hK13 _ _ ?_
  clear hK13 K13
  try simp only [Act.put, List.setIfInBounds_toArray, List.set_cons_succ, List.set_cons_zero]
  iterate 1 (refine wpList_plain rfl fun K hK => ?_; go_big_op; refine hK _ _ ?_; clear hK K)
  refine wpList_plain rfl fun K16 hK16 => wp_of_step (stepAt_mono (fun u4 W4 hh => ?_) (step_mput (v := kdV 16 true (fnV 99)) int_und knds_map rfl rfl rfl (by decide) rfl H3 (by decide)))
  obtain ⟨H4, C4, O4⟩ := hh
  refine hK16 _ _ ?_
  clear hK16 K16
  try simp only [Act.put, List.setIfInBounds_toArray, List.set_cons_succ, List.set_cons_zero]
  iterate 1 (refine wpList_plain rfl fun K hK => ?_; go_big_op; refine hK _ _ ?_; clear hK K)
  refine wpList_plain rfl fun K19 hK19 => wp_of_step (stepAt_mono (fun u5 W5 hh => ?_) (step_mput (v := kdV 16 true (fnV 99)) int_und knds_map rfl rfl rfl (by decide) rfl H4 (by decide)))
  obtain ⟨H5, C5, O5⟩ := hh
  refine hK19 _ _ ?_
  clear hK19 K19
  try simp only [Act.put, List.setIfInBounds_toArray, List.set_cons_succ, List.set_cons_zero]
  iterate 1 (refine wpList_plain rfl fun K hK => ?_; go_big_op; refine hK _ _ ?_; clear hK K)
  refine wpList_plain rfl fun K22 hK22 => wp_of_step (stepAt_mono (fun u6 W6 hh => ?_) (step_mput (v := kdV 16 true (fnV 99)) int_und knds_map rfl rfl rfl (by decide) rfl H5 (by decide)))
  obtain ⟨H6, C6, O6⟩ := hh
  refine hK22 _ _ ?_
  clear hK22 K22
  try simp only [Act.put, List.setIfInBounds_toArray, List.set_cons_succ, List.set_cons_zero]
  iterate 1 (refine wpList_plain rfl fun K hK => ?_; go_big_op; refine hK _ _ ?_; clear hK K)
  refine wpList_plain rfl fun K25 hK25 => wp_of_step (stepAt_mono (fun u7 W7 hh => ?_) (step_mput (v := kdV 32 false (fnV 100)) int_und knds_map rfl rfl rfl (by decide) rfl H6 (by decide)))
  obtain ⟨H7, C7, O7⟩ := hh
  refine hK25 _ _ ?_
  clear hK25 K25
  try simp only [Act.put, List.setIfInBounds_toArray, List.set_cons_succ, List.set_cons_zero]
  have hne : W2.heap.size ≠ b := by omega
  have HZ := Lib.hid ((Onl.blk O7 (Onl.blk O6 (Onl.blk O5 (Onl.blk O4 (Onl.blk O3 bx3 hne) hne) hne) hne) hne))
  have HE := Lib.hid H7
  have hB := ((((((((((B0.trans (BV1.mono (by omega))).trans C1).trans (BV2.mono (by omega))).trans C2).trans (BV3.mono (by omega))).trans C3).trans C4).trans C5).trans C6).trans C7)
  rw [show b = w.heap.size from HB.out] at hB
  have HBB := Lib.hid hB
  obtain ⟨z, hz⟩ : ∃ z, z = W2.heap.size := ⟨_, rfl⟩
  rw [← hz] at HZ HE
  have HE2 : MpO 3 W7 b 7 (knd7 W0.heap.size W1.heap.size z) := HE.out
  have HE3 := Lib.hid HE2
  clear hB B0 H0 H1 H2 H3 H4 H5 H6 H7 C1 C2 C3 C4 C5 C6 C7 O1 O2 O3 O4 O5 O6 O7 BV1 BV2 BV3 bx1 bx2 bx3 q0 q1 q2 hne hz HE2
  go_wp2_with fail
  exact bodyPost_ret (v := .map (some b)) (by simp [results, Tryz.results50, go_sem]) rfl ⟨b, _, _, z, rfl, HE3.out, HZ.out, HBB.out⟩
end Go.Proofs.YtficeebbbkmhcaaGreatDoor
namespace Go.Proofs.YtficeebbbkmhcaaGreatDoor
open Go.RowKit Go.Maps

theorem en_attestor_query_validColumn : ∀ args w, (callFunc 92 args).run Tryz.prog w = .ok (.enter 92 args) w := enters_of Tryz.func92 (by kernel_rfl) rfl
theorem en_attestor_query_Valid_1 : ∀ args w, (callFunc 93 args).run Tryz.prog w = .ok (.enter 93 args) w := enters_of Tryz.func93 (by kernel_rfl) rfl
theorem gValidCol (c : Nat) (hc : c < 4) (w : World) : Calls Tryz.prog 92 #[.int .i64 (c : Int)] w (Ret (.bool true) w) := by
  have h0 : (0 : Int) ≤ (c : Int) := by omega
  have h4 : (c : Int) < 4 := by omega
  go_enter Tryz.func92, Tryz.ntmps92
  go_wp2_with fail
  refine (gColumns15 w).mono ?_
  rintro e W ⟨rfl, -, hW⟩
  have HW := Lib.hid hW
  clear hW
  go_wp2_with fail
  exact bodyPost_ret (v := .bool true) (by simp [results, Tryz.results92, go_sem]) rfl ⟨rfl, HW.out⟩
set_option maxRecDepth 100000 in
theorem gValidCond (w : World) : Calls Tryz.prog 94 #[.agg #[.int .i64 2, .int .i64 5, .int .i64 5]] w (Ret (.bool true) w) := by
  have HC := Lib.hid (fun W => gValidCol 2 (by decide) W)
  have HM := Lib.hid (fun W => gColMax 2 (.inr rfl) W)
  go_enter Tryz.func94, Tryz.ntmps94
  go_upto_region 1 with (fail)
  refine wp_stk1 fun W hW hz b1 => ?_
  have f1 := gw_blk b1
  have HW := Lib.hid hW
  clear hz hW b1
  refine wp_region_rg 23 [(2, Spec.val (.bool true)), (20, Spec.val (.int .i64 15))] (by kernel_rfl) (by kernel_rfl) (by kernel_rfl) trivial ?_
  iterate 2 (refine rg_det rfl rfl rfl (fun K hK => ?_); go_big_quiet_op; refine hK _ ?_; clear hK K)
  refine rg_val rfl rfl (fun W1 hW1 hF => step_callv en_attestor_query_validColumn (HC.out W1) rfl rfl) ?_
  intro a' ha
  simp only [Act.put, List.setIfInBounds_toArray, List.set_cons_succ, List.set_cons_zero] at ha
  subst ha
  iterate 17 (refine rg_det rfl rfl rfl (fun K hK => ?_); go_big_quiet_op; refine hK _ ?_; clear hK K)
  refine rg_val rfl rfl (fun W1 hW1 hF => step_callv en_attestor_query_columnMax (HM.out W1) rfl rfl) ?_
  intro a' ha
  simp only [Act.put, List.setIfInBounds_toArray, List.set_cons_succ, List.set_cons_zero] at ha
  subst ha
  iterate 2 (refine rg_det rfl rfl rfl (fun K hK => ?_); go_big_quiet_op; refine hK _ ?_; clear hK K)
  refine rg_nil (fun w' hw' hF => ?_)
  obtain ⟨z, rfl⟩ := hw'
  simp only [List.drop_succ_cons, List.drop_zero]
  obtain ⟨X, hX⟩ : ∃ X, X = z.w := ⟨_, rfl⟩
  have HX := Lib.hid (HW.out.trans (z.h.mono HW.out.size))
  rw [← hX] at HX ⊢
  clear hF hX z f1
  go_wp2_with fail
  exact bodyPost_ret (v := .bool true) (by simp [results, Tryz.results94, go_sem]) rfl ⟨rfl, HX.out⟩
theorem gValid1 (w : World) : Calls Tryz.prog 93 #[.agg #[.int .i64 2, .int .i64 5, .int .i64 5]] w (Ret (.bool false) w) := by
  go_enter Tryz.func93, Tryz.ntmps93
  go_upto_region 1 with (fail)
  refine wp_stk1 fun W hW hz b1 => ?_
  have HW := Lib.hid hW
  have c1 := b1.cell
  have l1 := b1.lt
  clear hz hW b1
  go_wp2_with fail
  refine (gValidCond W).mono ?_
  rintro e V ⟨rfl, hV⟩
  have HV := Lib.hid (HW.out.trans (hV.mono HW.out.size))
  clear hV c1 l1
  go_wp2_with fail
  exact bodyPost_ret (v := .bool false) (by simp [results, Tryz.results93, go_sem]) rfl ⟨rfl, HV.out⟩
end Go.Proofs.YtficeebbbkmhcaaGreatDoor
namespace Go.Proofs.YtficeebbbkmhcaaGreatDoor
open Go.RowKit Go.Maps

theorem MpO.under {k : TypeId} {w X : World} {b n m : Nat} {D : DataW Value} (h : MpO k w b n D) (hb : Below m w X) (hlt : b < m) : MpO k X b n D := by
  obtain ⟨es, clock, h1, h2, h3, h4⟩ := h
  exact ⟨es, clock, (hb.block b hlt).trans h1, h2, h3, h4⟩
def MapA (k : TypeId) (D : DataW Value) (_ m : Nat) (v : Value) (W : World) : Prop := ∃ b, v = .map (some b) ∧ b < m ∧ MpO k W b 7 D
def MapF (_ : Nat) (v : Value) : Prop := ∃ (b : Nat) (_ : Unit), v = .map (some b)
theorem fit_map {k : TypeId} {D : DataW Value} : Fit (MapA k D) MapF := ⟨fun _ _ _ _ _ ⟨b, h1, h2, h3⟩ hb => ⟨b, h1, h2, h3.under hb h2⟩, fun _ => ⟨.map (some 0), 0, (), rfl⟩, fun _ _ _ _ ⟨b, h1, _⟩ => ⟨b, (), h1⟩⟩
theorem map_of {k : TypeId} {D : DataW Value} {n m b : Nat} {W : World} (h : m ≤ W.heap.size ∧ MapA k D n m (.map (some b)) W) : MpO k W b 7 D := by
  obtain ⟨_, b', h1, _, h3⟩ := h
  cases h1
  exact h3
theorem gFormsA (w : World) : Calls Tryz.prog 82 #[] w (RetR (MapA 3 frm7) w) := (gForms w).mono fun e w' ⟨b, h1, h2, h3, h4⟩ => ⟨_, h1, ⟨b, rfl, MpO.lt h3, h3⟩, h4⟩
theorem step_mgetokB {o : Oper} {a : Act} {w : World} {t k e : TypeId} {m x : Operand} {b n : Nat} {D : DataW Value} {z : Int} {v zv : Value} (hk : Tryz.prog.underlying k = some (.int .i64)) (ht : Tryz.prog.underlying t = some (.map k e)) (hzv : (zeroValue e).run Tryz.prog w = .ok zv w)
    (ho : o.op = .lookup t m x true) (hm : a.eval m = .map (some b)) (hx : a.eval x = .int .i64 z) (hz : (Lit.int .i64 z).wf = true) (h : MpO k w b n D) (hv : D.atKey (.int .i64 z) (.held zv) = .held v) (hh : Maps.has D (.int .i64 z) = true) :
    stepAt Tryz.prog o a w fun u w' => u = .tuple #[v, .bool true] ∧ Below w.heap.size w w' :=
  stepAt_mono (fun _ _ h => ⟨h.1, by rw [h.2]; exact Below.refl _ _⟩) (step_mgetok hk ht hzv ho hm hx hz h hv hh)
theorem step_mgetB {o : Oper} {a : Act} {w : World} {t k e : TypeId} {m x : Operand} {b n : Nat} {D : DataW Value} {z : Int} {v zv : Value} (hk : Tryz.prog.underlying k = some (.int .i64)) (ht : Tryz.prog.underlying t = some (.map k e)) (hzv : (zeroValue e).run Tryz.prog w = .ok zv w)
    (ho : o.op = .lookup t m x false) (hm : a.eval m = .map (some b)) (hx : a.eval x = .int .i64 z) (hz : (Lit.int .i64 z).wf = true) (h : MpO k w b n D) (hv : D.atKey (.int .i64 z) (.held zv) = .held v) :
    stepAt Tryz.prog o a w fun u w' => u = v ∧ Below w.heap.size w w' :=
  stepAt_mono (fun _ _ h => ⟨h.1, by rw [h.2]; exact Below.refl _ _⟩) (step_mget hk ht hzv ho hm hx hz h hv)
theorem frm_has3 : Maps.has frm7 (.int .i64 3) = true := by rfl
theorem frm_info : (Tryz.prog.info? 149).map (fun i => (i.zero, i.size, i.bytes)) = some (some (fmV { data := #[] } false 0 0), 4, 40) := by kernel_rfl
set_option maxRecDepth 100000 in
set_option maxHeartbeats 1000000 in
theorem gValidQ (F : Value) (w : World) (hF : Qry1 w F (cdc 2 5 5)) : Calls Tryz.prog 49 #[.agg #[.int .i64 3, .int .i64 3, .int .i64 2, F]] w (Ret (.bool true) w) := by
  obtain ⟨gF, oF, cF, v, rfl, hcF, lF, kF, hv⟩ := qry1_form hF
  obtain ⟨gv, ov, capv, rfl, hcv, -, -, lv, qv⟩ := Rd.form hv (by decide)
  have HKV := Lib.hid qv
  have HKF := Lib.hid kF
  obtain ⟨i0, hi0, iz0, iz1, iz2⟩ := info_parts frm_info
  clear hF kF hv qv
  go_enter Tryz.func49, Tryz.ntmps49
  go_upto_region 1 with (fail)
  refine wp_stk1 fun W hW hz b1 => ?_
  have f1 := gw_blk b1
  have HW := Lib.hid hW
  have HB1 := Lib.hid b1
  clear hz hW b1
  refine wp_region_swap 8 6 undef [(0, Spec.rel (MapA 3 frm7) (MapF)), (3, Spec.val (.tuple #[.agg #[.string tMoment, .bool true, .int .i64 6, .int .i64 1], .bool true])), (7, Spec.rel (New 149 #[.string { data := #[] }, .bool false, .int .i64 0, .int .i64 0]) (NewF))] (by kernel_rfl) (by kernel_rfl) (by kernel_rfl) rfl rfl rfl rfl ⟨fit_map, fit_new, trivial⟩ ?_ ?_
  refine rg_rel rfl rfl (fun W1 hW1 hF => step_callr en_attestor_query_forms (gFormsA W1) rfl rfl) ?_
  intro n0 m0 v0 hn0 hm0 hd0 hf0 a' ha
  simp only [Act.put, List.setIfInBounds_toArray, List.set_cons_succ, List.set_cons_zero] at ha
  subst ha
  obtain ⟨A0, cap0, rfl⟩ := hf0
  iterate 2 (refine rg_det rfl rfl rfl (fun K hK => ?_); go_big_quiet_op; refine hK _ ?_; clear hK K)
  refine rg_val rfl rfl (fun W1 hW1 hF => step_mgetokB (v := .agg #[.string tMoment, .bool true, .int .i64 6, .int .i64 1]) int_und frms_map (frm_zero W1) rfl rfl rfl rfl (map_of (pick_last hF (by kernel_rfl))) frm_at3 frm_has3) ?_
  intro a' ha
  simp only [Act.put, List.setIfInBounds_toArray, List.set_cons_succ, List.set_cons_zero] at ha
  subst ha
  iterate 3 (refine rg_det rfl rfl rfl (fun K hK => ?_); go_big_quiet_op; refine hK _ ?_; clear hK K)
  refine rg_rel rfl rfl (fun W1 hW1 hF => step_new hi0 iz0 rfl) ?_
  intro n7 m7 v7 hn7 hm7 hd7 hf7 a' ha
  simp only [Act.put, List.setIfInBounds_toArray, List.set_cons_succ, List.set_cons_zero] at ha
  subst ha
  obtain rfl := hf7
  refine rg_nil (fun w' hw' hF => ?_)
  obtain ⟨z, rfl⟩ := hw'
  simp only [List.drop_succ_cons, List.drop_zero]
  rotate_left 1
  refine rg_rel rfl rfl (fun W1 hW1 hF => step_callr en_attestor_query_forms (gFormsA W1) rfl rfl) ?_
  intro n0 m0 v0 hn0 hm0 hd0 hf0 a' ha
  simp only [Act.put, List.setIfInBounds_toArray, List.set_cons_succ, List.set_cons_zero] at ha
  subst ha
  obtain ⟨A0, cap0, rfl⟩ := hf0
  iterate 2 (refine rg_det rfl rfl rfl (fun K hK => ?_); go_big_quiet_op; refine hK _ ?_; clear hK K)
  refine rg_val rfl rfl (fun W1 hW1 hF => step_mgetokB (v := .agg #[.string tMoment, .bool true, .int .i64 6, .int .i64 1]) int_und frms_map (frm_zero W1) rfl rfl rfl rfl (map_of (pick_last hF (by kernel_rfl))) frm_at3 frm_has3) ?_
  intro a' ha
  simp only [Act.put, List.setIfInBounds_toArray, List.set_cons_succ, List.set_cons_zero] at ha
  subst ha
  iterate 2 (refine rg_det rfl rfl rfl (fun K hK => ?_); go_big_quiet_op; refine hK _ ?_; clear hK K)
  refine rg_pass rfl rfl ?_
  intro a' ha
  simp only [Act.put, List.setIfInBounds_toArray, List.set_cons_succ, List.set_cons_zero] at ha
  subst ha
  refine rg_rel rfl rfl (fun W1 hW1 hF => step_new hi0 iz0 rfl) ?_
  intro n7 m7 v7 hn7 hm7 hd7 hf7 a' ha
  simp only [Act.put, List.setIfInBounds_toArray, List.set_cons_succ, List.set_cons_zero] at ha
  subst ha
  obtain rfl := hf7
  refine rg_nil (fun w' hw' hF => ?_)
  obtain ⟨z, rfl⟩ := hw'
  simp only [List.drop_succ_cons, List.drop_zero]
  refine wpList_putS ?_
  intro a' ha
  simp only [Act.put, List.setIfInBounds_toArray, List.set_cons_succ, List.set_cons_zero] at ha
  subst ha
  rotate_right 1
  all_goals
    obtain ⟨-, -, hl7, b7⟩ := end_last hF
    have b1z := HB1.out.keep z.h
    have hzz := z.h
    have hWw := HW.out
    have hn7w : W.heap.size ≤ n7 := hn7
    have lb1 := HB1.out.lt
    have hne : w.heap.size ≠ n7 := by omega
    have hwn : w.heap.size ≤ n7 := by omega
    obtain ⟨Z, hZ⟩ : ∃ Z, Z = z.w := ⟨_, rfl⟩
    rw [← hZ] at b7 b1z hzz ⊢
    have e7 := b7.frozen
    have c7 := b7.cell
    have lz7 := b7.lt
    have HB7 := Lib.hid b7
    have HB1z := Lib.hid b1z
    have HZ := Lib.hid (hWw.trans (hzz.mono hWw.size))
    clear hF hZ z f1 hd7 hd0 hm0 hn0 hm7 hn7 hl7 b7 b1z hzz hWw
    go_upto_region 2 with (fail)
    refine set4P (M := fun X => Code.wp _ _ _ _ X) HB7.out fun Y hY bY => ?_
    have b1 := hY.blk HB1z.out hne
    have HB1y := Lib.hid b1
    have HB7y := Lib.hid bY
    have HY := Lib.hid (below_put HZ.out hY hwn)
    have c1 := b1.cell
    have l1 := b1.lt
    clear c7 e7
    have c7 := bY.cell
    have l7 := bY.lt
    clear hY b1 bY
    go_wp2_with fail
    refine (gValidCol 3 (by decide) Y).mono ?_
    rintro e V ⟨rfl, hV⟩
    have b1 := HB1y.out.keep hV
    have b7 := HB7y.out.keep hV
    have HV := Lib.hid (HY.out.trans (hV.mono HY.out.size))
    clear c1 l1 c7 l7
    have c1 := b1.cell
    have l1 := b1.lt
    have c7 := b7.cell
    have l7 := b7.lt
    clear b1 b7 hV
    go_upto_region 7 with (fail)
    have HC : ∀ X, Below w.heap.size w X → Calls Tryz.prog 67 #[.slice (some ⟨gv, ov, none⟩) 1 capv, .func (.func 93) #[] #[]] X (Ret (.bool false) X) := fun X hX =>
      gConC 1 (by decide) (fun _ => false) (fun _ => .int .i64 2) (fun _ => .int .i64 5) (fun _ => .int .i64 5) (some ⟨gv, ov, none⟩) gv ov capv (fun _ => rfl) X 93 [] en_attestor_query_Valid_1
        (fun k Y hk hY => by
          obtain rfl : k = 0 := by omega
          have h2 := hX.trans (hY.mono hX.size)
          exact ⟨Nat.lt_of_lt_of_le lv h2.size, (h2.cell (p := ⟨gv, ov + 0, none⟩) lv).trans (HKV.out 0 _ rfl), (h2.cell (p := ⟨gv, ov + 1, none⟩) lv).trans (HKV.out 1 _ rfl), (h2.cell (p := ⟨gv, ov + 2, none⟩) lv).trans (HKV.out 2 _ rfl)⟩)
        (fun k Y _ _ => gValid1 Y)
    have HCF := Lib.hid HC
    clear HC c1 l1 c7 l7
    go_loopw [60] (fun i wr => ∃ k : Nat, k ≤ 1 ∧ i = .int .i64 (k : Int) ∧ Below w.heap.size w wr) (fun i _ => 2 - (intOf i).toNat)
    case atStart => exact ⟨0, by decide, rfl, HV.out⟩
    case round =>
      obtain ⟨k, hk, rfl, hb⟩ := hrel
      have HBr := Lib.hid hb
      obtain rfl | rfl : k = 0 ∨ k = 1 := by omega
      · have kF := (hb.cell (p := ⟨gF, oF, none⟩) lF).trans HKF.out
        have lF2 := Nat.lt_of_lt_of_le lF hb.size
        clear hb
        go_wp2_with fail
        refine (HCF.out wr HBr.out).mono ?_
        rintro e X ⟨rfl, hX⟩
        have HX := Lib.hid (HBr.out.trans (hX.mono HBr.out.size))
        clear hX kF
        go_wp2_with fail
        exact ⟨⟨1, by decide, by go_num, HX.out⟩, by simp [intOf]⟩
      · clear hb
        go_wp2_with fail
        exact bodyPost_ret (v := .bool true) (by simp [results, Tryz.results49, go_sem]) rfl ⟨rfl, HBr.out⟩
end Go.Proofs.YtficeebbbkmhcaaGreatDoor
namespace Go.Proofs.YtficeebbbkmhcaaGreatDoor
open Go.RowKit Go.Maps

theorem bnd_under : Tryz.prog.underlying 71 = some (.struct (Tryz.prog.fieldsOf 71)) := by kernel_rfl
theorem bnd_size : (Tryz.prog.info? 71).map (·.size) = some 1 := by kernel_rfl
theorem kd_info : (Tryz.prog.info? 119).map (fun i => (i.zero, i.size, i.bytes)) = some (some (kdV 0 false .nilFunc), 3, 24) := by kernel_rfl
def KndA (_ m : Nat) (v : Value) (W : World) : Prop := ∃ b x y z, v = .map (some b) ∧ b < m ∧ z < m ∧ MpO 3 W b 7 (knd7 x y z) ∧ Blk W z 91 #[fnV 98]
theorem fit_knd : Fit KndA MapF := ⟨fun _ _ _ _ _ ⟨b, x, y, z, h1, h2, h3, h4, h5⟩ hb => ⟨b, x, y, z, h1, h2, h3, h4.under hb h2, (hb.block z h3).trans h5⟩, fun _ => ⟨.map (some 0), 0, (), rfl⟩, fun _ _ _ _ ⟨b, _, _, _, h1, _⟩ => ⟨b, (), h1⟩⟩
def KdA (_ m : Nat) (v : Value) (W : World) : Prop := ∃ z : Nat, v = .agg #[.int .i64 1, .bool false, .func (.func 121) #[] #[.pointer (some ⟨z, 0, none⟩)]] ∧ z < m ∧ Blk W z 91 #[fnV 98]
def KdF (_ : Nat) (v : Value) : Prop := ∃ (z : Nat) (_ : Unit), v = .agg #[.int .i64 1, .bool false, .func (.func 121) #[] #[.pointer (some ⟨z, 0, none⟩)]]
theorem fit_kd : Fit KdA KdF := ⟨fun _ _ _ _ _ ⟨z, h1, h2, h3⟩ hb => ⟨z, h1, h2, (hb.block z h2).trans h3⟩, fun _ => ⟨_, 0, (), rfl⟩, fun _ _ _ _ ⟨z, h1, _⟩ => ⟨z, (), h1⟩⟩
theorem gKindsA (w : World) : Calls Tryz.prog 50 #[] w (RetR KndA w) := (gKinds w).mono fun e w' ⟨b, x, y, z, h1, h2, h3, h4⟩ => ⟨_, h1, ⟨b, x, y, z, rfl, MpO.lt h2, h3.lt, h2, h3⟩, h4⟩
theorem step_mgetK {o : Oper} {a : Act} {w : World} {m x : Operand} {b n m0 : Nat} (ho : o.op = .lookup 120 m x false) (hm : a.eval m = .map (some b)) (hx : a.eval x = .int .i64 3) (h : m0 ≤ w.heap.size ∧ KndA n m0 (.map (some b)) w) :
    stepAt Tryz.prog o a w fun v w' => KdA w.heap.size w'.heap.size v w' ∧ Below w.heap.size w w' := by
  obtain ⟨_, b', x', y', z, h1, _, _, h4, h5⟩ := h
  cases h1
  refine stepAt_mono (fun v w' hh => ?_) (step_mgetB int_und knds_map (kd_zero w) ho hm hx rfl h4 (knd_at3 x' y' z))
  obtain ⟨rfl, hb⟩ := hh
  exact ⟨⟨z, rfl, Nat.lt_of_lt_of_le h5.lt hb.size, h5.keep hb⟩, hb⟩
set_option maxRecDepth 100000 in
set_option maxHeartbeats 1000000 in
theorem gCheck15 (F : Value) (w : World) (hF : Qry1 w F (cdc 2 5 5)) (hL : Lwd w) : Calls Tryz.prog 18 #[.agg #[.int .i64 3, .int .i64 3, .int .i64 2, F], .int .i64 3] w fun e w' => ∃ v, e = .returned (.tuple #[.agg #[v], .int .i64 0]) ∧ RdA 1 w' v 1 [.int .i64 195075] ∧ Below w.heap.size w w' := by
  have HF := Lib.hid hF
  have HL := Lib.hid hL
  obtain ⟨gF, oF, cF, v, rfl, -⟩ := qry1_form hF
  clear hF hL
  go_enter Tryz.func18, Tryz.ntmps18
  go_upto_region 1 with (fail)
  refine wp_stk2 fun W hW hz b2 b4 => ?_
  obtain ⟨g2, hg2⟩ : ∃ g, g = w.heap.size := ⟨_, rfl⟩
  obtain ⟨g4, hg4⟩ : ∃ g, g = w.heap.size + 1 := ⟨_, rfl⟩
  rw [← hg4] at b4 ⊢
  rw [← hg2] at b2 ⊢
  have hne : g2 ≠ g4 := by omega
  have hw4 : w.heap.size ≤ g4 := by omega
  have HW := Lib.hid hW
  have HB2 := Lib.hid b2
  have HB4 := Lib.hid b4
  have c2 := b2.cell
  have l2 := b2.lt
  clear hz hg2 hg4 hW b2 b4
  go_wp2_with fail
  refine (gValidQ _ W (HF.out.keep HW.out)).mono ?_
  rintro e V ⟨rfl, hV⟩
  have HV := Lib.hid (HW.out.trans (hV.mono HW.out.size))
  have b2 := HB2.out.keep hV
  have HB2V := Lib.hid b2
  have HB4V := Lib.hid (HB4.out.keep hV)
  clear c2 l2 hV
  go_upto_region 3 with (fail)
  have f1 := gw_blk b2
  obtain ⟨i0, hi0, iz0, iz1, iz2⟩ := info_parts kd_info
  clear b2
  refine wp_region_rg 5 [(0, Spec.rel (KndA) (MapF)), (3, Spec.rel (KdA) (KdF)), (4, Spec.rel (New 119 #[.int .i64 0, .bool false, .nilFunc]) (NewF))] (by kernel_rfl) (by kernel_rfl) (by kernel_rfl) ⟨fit_knd, fit_kd, fit_new, trivial⟩ ?_
  refine rg_rel rfl rfl (fun W1 hW1 hF => step_callr en_attestor_typecheck_kinds (gKindsA W1) rfl rfl) ?_
  intro n0 m0 v0 hn0 hm0 hd0 hf0 a' ha
  simp only [Act.put, List.setIfInBounds_toArray, List.set_cons_succ, List.set_cons_zero] at ha
  subst ha
  obtain ⟨A0, cap0, rfl⟩ := hf0
  iterate 2 (refine rg_det rfl rfl rfl (fun K hK => ?_); go_big_quiet_op; refine hK _ ?_; clear hK K)
  refine rg_rel rfl rfl (fun W1 hW1 hF => step_mgetK rfl rfl rfl (pick_last hF (by kernel_rfl))) ?_
  intro n3 m3 v3 hn3 hm3 hd3 hf3 a' ha
  simp only [Act.put, List.setIfInBounds_toArray, List.set_cons_succ, List.set_cons_zero] at ha
  subst ha
  obtain ⟨A3, cap3, rfl⟩ := hf3
  refine rg_rel rfl rfl (fun W1 hW1 hF => step_new hi0 iz0 rfl) ?_
  intro n4 m4 v4 hn4 hm4 hd4 hf4 a' ha
  simp only [Act.put, List.setIfInBounds_toArray, List.set_cons_succ, List.set_cons_zero] at ha
  subst ha
  obtain rfl := hf4
  refine rg_nil (fun w' hw' hF => ?_)
  obtain ⟨z, rfl⟩ := hw'
  simp only [List.drop_succ_cons, List.drop_zero]
  obtain ⟨-, -, -, b6⟩ := end_last hF
  obtain ⟨-, z3, hz3, lz3, bz3⟩ := end_last (end_init hF)
  obtain rfl : A3 = z3 := by cases hz3; rfl
  have b2z := HB2V.out.keep z.h
  have b4z := HB4V.out.keep z.h
  have hzz := z.h
  have l24 := HB2V.out.lt
  have l44 := HB4V.out.lt
  have hVs := HV.out.size
  have hne24 : g2 ≠ n4 := by omega
  have hne44 : g4 ≠ n4 := by omega
  have hneA : A3 ≠ n4 := fun e => by
    rw [e] at bz3
    exact absurd (Option.some.inj (bz3.symm.trans b6)) (by intro h; cases h)
  have hwn : w.heap.size ≤ n4 := by omega
  obtain ⟨Z, hZ⟩ : ∃ Z, Z = z.w := ⟨_, rfl⟩
  rw [← hZ] at b6 bz3 b2z b4z hzz ⊢
  have e6 := b6.frozen
  have c6 := b6.cell
  have l6 := b6.lt
  have HB6 := Lib.hid b6
  have HB2z := Lib.hid b2z
  have HB4z := Lib.hid b4z
  have HBA := Lib.hid bz3
  have HZ := Lib.hid (HV.out.trans (hzz.mono hVs))
  have hsf := fun (w : World) (a : Addr) (f : Fn) (xs ys : Array Value) => run_store Tryz.prog w a (.func f xs ys) .plain rfl
  clear hF hZ z f1 hd0 hd3 hd4 hm0 hn0 hm3 hn3 hm4 hn4 b6 b2z b4z bz3 hzz lz3 hz3
  go_upto_region 4 with (fail)
  refine set3P (M := fun X => Code.wp _ _ _ _ X) HB6.out fun Y hY bY => ?_
  have b2 := hY.blk HB2z.out hne24
  have HB2y := Lib.hid b2
  have HB4y := Lib.hid (hY.blk HB4z.out hne44)
  have HAy := Lib.hid (hY.blk HBA.out hneA)
  have HYB := Lib.hid (below_put HZ.out hY hwn)
  clear c6 l6 e6 hsf
  have c6 := bY.cell
  have l6 := bY.lt
  have c2 := b2.cell
  have l2 := b2.lt
  clear hY bY b2
  go_wp2_with fail
  refine (gMoment1 _ A3 Y (HF.out.keep HYB.out) (HL.out.keep HYB.out) HAy.out).mono ?_
  rintro e X ⟨v9, rfl, hv9, hX⟩
  have HX := Lib.hid (HYB.out.trans (hX.mono HYB.out.size))
  have b4 := HB4y.out.keep hX
  have HB4x := Lib.hid b4
  obtain ⟨A9, cap9, rfl⟩ := Rd.len hv9
  have HV9 := Lib.hid hv9
  clear c6 l6 c2 l2 hX hv9
  have c4 := b4.cell
  have e4 := b4.frozen
  have l4 := b4.lt
  clear b4
  have l4y := HB4y.out.lt
  go_wp2_with fail
  refine set1 (M := fun W => bodyPost _ _ _ _ _ W) HB4x.out fun T hT bT => ?_
  exact bodyPost_ret (v := .tuple #[.agg #[.slice A9 1 cap9], .int .i64 0]) (res_mt (c1 := [.slice A9 1 cap9]) (g1 := g4) rfl rfl rfl bnd_under rfl (by rw [bnd_size]; rfl) bT) rfl ⟨_, rfl, RdA.of (hT.rd HV9.out (.inl l4y)), below_put HX.out hT hw4⟩
end Go.Proofs.YtficeebbbkmhcaaGreatDoor
namespace Go.Proofs.YtficeebbbkmhcaaGreatDoor
open Go.RowKit

attribute [local irreducible] wpRg
end Go.Proofs.YtficeebbbkmhcaaGreatDoor
namespace Go.Proofs.YtficeebbbkmhcaaGreatDoor
open Go.RowKit

theorem ones8 : ∀ c : Fin 9, onesN c.val ≤ 8 ∧ (c.val < 8 → tz1 c.val ≤ onesN c.val) := by
  intro ⟨c, hc⟩
  dsimp only
  obtain rfl | rfl | rfl | rfl | rfl | rfl | rfl | rfl | rfl : c = 0 ∨ c = 1 ∨ c = 2 ∨ c = 3 ∨ c = 4 ∨ c = 5 ∨ c = 6 ∨ c = 7 ∨ c = 8 := by omega
  all_goals simp [onesN, tz1]
theorem pow3 (n : Nat) (h : n ≤ 3) : 2 ^ n ≤ 8 := by
  obtain rfl | rfl | rfl | rfl : n = 0 ∨ n = 1 ∨ n = 2 ∨ n = 3 := by omega
  all_goals decide
theorem EpOk.pkl {seed : Dg} {n : Nat} {e : Ep} {l : Stm} (h : EpOk seed n e l) : e.peaks.length = onesN e.count ∧ e.count ≤ 8 := by
  have h8 := pow3 e.log h.log
  have hl := h.le
  refine ⟨?_, by rw [h.cnt]; omega⟩
  rw [h.pk, peaks_ones _ _ (by rw [List.length_map]; omega), List.length_map, h.cnt]
theorem EpOk.pk8 {seed : Dg} {n : Nat} {e : Ep} {l : Stm} (h : EpOk seed n e l) : e.peaks.length ≤ 8 := by
  obtain ⟨h1, h2⟩ := h.pkl
  rw [h1]
  exact (ones8 ⟨e.count, by omega⟩).1
theorem StOk26.epk {k : Nat} {s : St26} (h : StOk26 k s) {i : Nat} {e : Ep} (he : s.1.eps[i]? = some e) : ∃ l, s.2[i]? = some l ∧ EpOk s.1.seed i e l := by
  have hi := (List.getElem?_eq_some_iff.1 he).1
  have hi2 : i < s.2.length := by rw [h.len]; exact hi
  exact ⟨s.2[i], List.getElem?_eq_getElem hi2, h.ep i e _ he (List.getElem?_eq_getElem hi2)⟩
theorem StOk26.n {k : Nat} {s : St26} (h : StOk26 k s) (hk : k ≤ 1000) : MtN s.1 :=
  ⟨h.seed, by have := h.ver; omega, Nat.le_trans h.eps hk, fun i e he => by
    obtain ⟨l, _, hE⟩ := h.epk he
    have := hE.p4
    have := hE.log
    have := hE.pk8
    have := hE.pkl.2
    omega⟩
theorem StOk26.n5 {k : Nat} {s : St26} (h : StOk26 k s) : PtsN5 s.1 := fun e he p hp => by
  obtain ⟨i, hi⟩ := List.getElem?_of_mem he
  obtain ⟨j, hj⟩ := List.getElem?_of_mem hp
  obtain ⟨l, _, hE⟩ := h.epk hi
  obtain ⟨h1, h2, _⟩ := hE.pt j p hj
  have := hE.log
  exact ⟨by rw [h1, coordM_length]; omega, by rw [h2]; simp [valsM]⟩
theorem StOk26.cnt {k : Nat} {s : St26} (h : StOk26 k s) : CntN s.1 := fun e he => by
  obtain ⟨i, hi⟩ := List.getElem?_of_mem he
  obtain ⟨l, _, hE⟩ := h.epk hi
  refine ⟨hE.log, by rw [hE.cnt]; exact hE.le, fun h8 => ?_⟩
  rw [hE.pkl.1]
  exact (ones8 ⟨e.count, by omega⟩).2 h8
theorem pushN_ok2 : ∀ (t : Nat) (ps : List Dg) (d : Dg), (∀ x ∈ ps, DgOk x) → DgOk d → ∀ x ∈ pushN pairD t ps d, DgOk x
  | 0, ps, d, hp, hd, x, hx => by
    rcases List.mem_append.1 hx with h | h
    · exact hp x h
    · rw [List.mem_singleton.1 h]; exact hd
  | t + 1, ps, d, hp, hd, x, hx => pushN_ok2 t ps.dropLast _ (fun y hy => hp y (List.dropLast_subset ps hy)) (pairD_ok _ _) x hx
theorem peaksN_ok : ∀ (l : List (List Nat)) (ps : List Dg) (n : Nat), (∀ x ∈ ps, DgOk x) → ∀ x ∈ peaksN pairD ps n (l.map leafD), DgOk x
  | [], ps, n, hp => hp
  | b :: l, ps, n, hp => peaksN_ok l _ _ (pushN_ok2 _ _ _ hp (leafD_ok b))
theorem EpOk.pkok {seed : Dg} {n : Nat} {e : Ep} {l : Stm} (h : EpOk seed n e l) : ∀ d ∈ e.peaks, DgOk d := by
  rw [h.pk, show (l.map fun x => leafD x.1.enc) = (l.map fun x => x.1.enc).map leafD by rw [List.map_map]; rfl]
  exact peaksN_ok _ _ _ (fun x hx => (by cases hx))
theorem sumLe {α : Type} (f : α → List Nat) (b : Nat) : ∀ l : List α, (∀ x ∈ l, (f x).length ≤ b) → (l.flatMap f).length ≤ l.length * b
  | [], _ => by simp
  | x :: l, h => by
    rw [List.flatMap_cons, List.length_append, List.length_cons, Nat.succ_mul]
    have h1 := h x (List.mem_cons_self ..)
    have h2 := sumLe f b l fun y hy => h y (List.mem_cons_of_mem _ hy)
    omega
theorem extB_len (x : E) : (extB x).length = 16 := by unfold extB; rw [List.length_append, leB_len, leB_len]
theorem ptB_len (p : Pt) (h : p.V.length = 5) : (ptB p).length = 81 := by
  have h2 : (p.V.flatMap extB).length = p.V.length * 16 := by
    generalize p.V = l
    induction l with
    | nil => rfl
    | cons x l ih => rw [List.flatMap_cons, List.length_append, ih, extB_len, List.length_cons, Nat.succ_mul]; omega
  unfold ptB
  rw [List.length_cons, h2, h]
theorem StOk26.enc {k : Nat} {s : St26} (h : StOk26 k s) (hk : k ≤ 1000) : (encM s.1).length ≤ 900000 := by
  rw [encM_form, List.length_append]
  have h1 : (mtH s.1).length = 41 := by unfold mtH; rw [List.length_append, List.length_append, leB_len, h.seed.1]; rfl
  have h2 : (s.1.eps.flatMap epB).length ≤ s.1.eps.length * 600 := sumLe epB 600 _ fun e he => by
    obtain ⟨i, hi⟩ := List.getElem?_of_mem he
    obtain ⟨l, _, hE⟩ := h.epk hi
    have h5 := h.n5 e he
    have p4 := hE.p4
    have pk8 := hE.pk8
    have g1 : (e.pts.flatMap ptB).length ≤ e.pts.length * 81 := sumLe ptB 81 _ fun p hp => by rw [ptB_len p (h5 p hp).2]; exact Nat.le_refl _
    have g2 : (e.peaks.flatMap id).length ≤ e.peaks.length * 32 := sumLe id 32 _ fun d hd => Nat.le_of_eq (hE.pkok d hd).1
    rw [epB_form, List.length_append, List.length_append, List.length_append]
    have g3 : (epH e).length = 7 := by unfold epH; simp [leB_len]
    simp only [List.length_singleton]
    omega
  have := h.eps
  omega
end Go.Proofs.YtficeebbbkmhcaaGreatDoor
namespace Go.Proofs.YtficeebbbkmhcaaGreatDoor
open Go.Shelf
end Go.Proofs.YtficeebbbkmhcaaGreatDoor
namespace Go.Proofs.YtficeebbbkmhcaaGreatDoor
open Go.RowKit

attribute [local irreducible] wpRg
end Go.Proofs.YtficeebbbkmhcaaGreatDoor
namespace Go.Proofs.YtficeebbbkmhcaaGreatDoor
open Go.RowKit

def ByD (W : World) (v : Value) (b : List Nat) : Prop := RdA 1 W v b.length (byc b)
theorem ByD.keep {W W' : World} {v : Value} {b : List Nat} (h : ByD W v b) (hb : Below W.heap.size W W') : ByD W' v b := RdA.keep h hb
def BsA (W : World) (v : Value) (bs : List (List Nat)) : Prop := ∃ us : List Value, RdA 1 W v us.length us ∧ Al (ByD W) us bs
theorem BsA.keep {W W' : World} {v : Value} {bs : List (List Nat)} (h : BsA W v bs) (hb : Below W.heap.size W W') : BsA W' v bs := by
  obtain ⟨us, h1, h2⟩ := h
  exact ⟨us, h1.keep hb, h2.mono fun _ _ h => h.keep hb⟩
theorem BsA.len {W : World} {v : Value} {bs : List (List Nat)} (h : BsA W v bs) : ∃ A cap, v = .slice A bs.length cap := by
  obtain ⟨us, h1, h2⟩ := h
  obtain ⟨A, cap, h3⟩ := Rd.len h1
  exact ⟨A, cap, by rw [h3, h2.1]⟩
attribute [local irreducible] wpRg
end Go.Proofs.YtficeebbbkmhcaaGreatDoor
namespace Go.Proofs.YtficeebbbkmhcaaGreatDoor
open Go.RowKit

attribute [local irreducible] wpRg
end Go.Proofs.YtficeebbbkmhcaaGreatDoor
namespace Go.Proofs.YtficeebbbkmhcaaGreatDoor
open Go.RowKit

def sd26 : Dg := [1, 2, 3] ++ List.replicate 29 0
def r26 : E := cdE (keyD sd26 (cdB 0 0 0))
def w26 : E := eb (fz 3) * (1 - r26) + eb (fz 5) * r26
def v26 : List E := [w26, eb (fz 10) * (1 - r26) + eb (fz 11) * r26, eb (fz 2), eb (fz 100) * (1 - r26) + eb (fz 50) * r26, 1]
end Go.Proofs.YtficeebbbkmhcaaGreatDoor
namespace Go.Proofs.YtficeebbbkmhcaaGreatDoor
open Go.RowKit

attribute [local irreducible] wpRg
end Go.Proofs.YtficeebbbkmhcaaGreatDoor
namespace Go.Proofs.YtficeebbbkmhcaaGreatDoor
open Go.RowKit

theorem EpsB.fwd {X Y : World} {S : Nat → Prop} {v : Value} {es : List Ep} (h : EpsB ⟨X, S⟩ v es) (hb : Below X.heap.size X Y) : EpsB ⟨Y, S⟩ v es := h.le (Bse.le_ok (c := ⟨Y, S⟩) ((Bse.ok_self ⟨X, S⟩).below hb) fun _ hg => hg.1)
theorem EpsB.pt {X Y : World} {S : Nat → Prop} {v : Value} {es : List Ep} {g : Nat} (h : EpsB ⟨X, S⟩ v es) (hp : Put X Y g) (hg : ¬ S g) : EpsB ⟨Y, S⟩ v es := h.le (Bse.le_ok (c := ⟨Y, S⟩) ((Bse.ok_self ⟨X, S⟩).put hp fun h => hg h.1) fun _ hg => hg.1)
theorem EpsB.sub {X : World} {S T : Nat → Prop} {v : Value} {es : List Ep} (h : EpsB ⟨X, S⟩ v es) (hS : ∀ g, S g → g < X.heap.size → T g) : EpsB ⟨X, T⟩ v es := h.le (Bse.le_ok (c := ⟨X, T⟩) (Bse.ok_self ⟨X, S⟩) fun g hg => hS g hg.1 hg.2)
theorem ExB.fwd {X Y : World} {S : Nat → Prop} {v : Value} {xs : List E} (h : ExB ⟨X, S⟩ v xs) (hb : Below X.heap.size X Y) : ExB ⟨Y, S⟩ v xs := fun Z hZ => h Z (Bse.le_ok (c := ⟨Y, S⟩) ((Bse.ok_self ⟨X, S⟩).below hb) (fun _ hg => hg.1) Z hZ)
theorem ExB.pt {X Y : World} {S : Nat → Prop} {v : Value} {xs : List E} {g : Nat} (h : ExB ⟨X, S⟩ v xs) (hp : Put X Y g) (hg : ¬ S g) : ExB ⟨Y, S⟩ v xs := fun Z hZ => h Z (Bse.le_ok (c := ⟨Y, S⟩) ((Bse.ok_self ⟨X, S⟩).put hp fun h => hg h.1) (fun _ hg => hg.1) Z hZ)
theorem ExB.sub {X : World} {S T : Nat → Prop} {v : Value} {xs : List E} (h : ExB ⟨X, S⟩ v xs) (hS : ∀ g, S g → g < X.heap.size → T g) : ExB ⟨X, T⟩ v xs := fun Z hZ => h Z (Bse.le_ok (c := ⟨X, T⟩) (Bse.ok_self ⟨X, S⟩) (fun g hg => hS g hg.1 hg.2) Z hZ)
end Go.Proofs.YtficeebbbkmhcaaGreatDoor
namespace Go.Proofs.YtficeebbbkmhcaaGreatDoor
open Go.RowKit

structure StrW where
  l : Value
  g : Value
def smc (x : StrW) : List Value := [x.l, x.g]
def gnc (s : Stm) : List Value := s.map fun y => Value.bool y.2
theorem gnc_len (s : Stm) : (gnc s).length = s.length := by simp [gnc]
theorem gnc_one (s : Stm) : ∀ v ∈ gnc s, v.oneCell' = true := by
  intro v hv
  obtain ⟨x, _, rfl⟩ := List.mem_map.1 hv
  rfl
def rdsc (s : Stm) : List Value := s.flatMap fun y => rdc y.1
theorem rdsc_one (s : Stm) : ∀ v ∈ rdsc s, v.oneCell' = true := by
  intro v hv
  obtain ⟨x, _, hx⟩ := List.mem_flatMap.1 hv
  simp only [rdc, List.mem_cons, List.not_mem_nil, or_false] at hx
  rcases hx with rfl | rfl | rfl | rfl <;> rfl
def StrIB (b : Bse) (x : StrW) (s : Stm) : Prop := RdB b 4 x.l s.length (rdsc s) ∧ RdB b 1 x.g s.length (gnc s)
def StmsB (b : Bse) (v : Value) (ss : List Stm) : Prop := ∃ us : List StrW, RdB b 2 v us.length (us.flatMap smc) ∧ Al (StrIB b) us ss
def StrIn (W : World) (x : StrW) (s : Stm) : Prop := RdA 4 W x.l s.length (rdsc s) ∧ RdA 1 W x.g s.length (gnc s)
def StmsA (W : World) (v : Value) (ss : List Stm) : Prop := ∃ us : List StrW, RdA 2 W v us.length (us.flatMap smc) ∧ Al (StrIn W) us ss
section
variable {b c : Bse} {X : World}
theorem RdB.le {size n : Nat} {v : Value} {cs : List Value} (h : RdB b size v n cs) (hl : b.le c) : RdB c size v n cs := fun X hX => h X (hl X hX)
theorem StrIB.le {u : StrW} {s : Stm} (h : StrIB b u s) (hl : b.le c) : StrIB c u s := ⟨h.1.le hl, h.2.le hl⟩
theorem StrIB.old {u : StrW} {s : Stm} (h : StrIB b u s) (ho : b.ok X) : StrIn X u s := ⟨h.1 X ho, h.2 X ho⟩
theorem StmsB.le {v : Value} {ss : List Stm} (h : StmsB b v ss) (hl : b.le c) : StmsB c v ss := by
  obtain ⟨us, h1, h2⟩ := h
  exact ⟨us, h1.le hl, h2.mono fun _ _ h => h.le hl⟩
theorem StmsB.old {v : Value} {ss : List Stm} (h : StmsB b v ss) (ho : b.ok X) : StmsA X v ss := by
  obtain ⟨us, h1, h2⟩ := h
  exact ⟨us, h1 X ho, h2.mono fun _ _ h => h.old ho⟩
theorem StmsB.len {v : Value} {ss : List Stm} (h : StmsB b v ss) : ∃ A cap, v = .slice A ss.length cap := by
  obtain ⟨us, h1, h2⟩ := h
  obtain ⟨A, cap, h3⟩ := Rd.len (h1 _ b.ok_self)
  exact ⟨A, cap, by rw [h3, h2.1]⟩
theorem StrIB.len {u : StrW} {s : Stm} (h : StrIB b u s) : (∃ A cap, u.l = .slice A s.length cap) ∧ ∃ A cap, u.g = .slice A s.length cap := ⟨Rd.len (h.1 _ b.ok_self), Rd.len (h.2 _ b.ok_self)⟩
theorem StmsB.fwd {X Y : World} {S : Nat → Prop} {v : Value} {ss : List Stm} (h : StmsB ⟨X, S⟩ v ss) (hb : Below X.heap.size X Y) : StmsB ⟨Y, S⟩ v ss := h.le (Bse.le_ok (c := ⟨Y, S⟩) ((Bse.ok_self ⟨X, S⟩).below hb) fun _ hg => hg.1)
theorem StmsB.pt {X Y : World} {S : Nat → Prop} {v : Value} {ss : List Stm} {g : Nat} (h : StmsB ⟨X, S⟩ v ss) (hp : Put X Y g) (hg : ¬ S g) : StmsB ⟨Y, S⟩ v ss := h.le (Bse.le_ok (c := ⟨Y, S⟩) ((Bse.ok_self ⟨X, S⟩).put hp fun h => hg h.1) fun _ hg => hg.1)
end
theorem own_rdB {X : World} {S : Nat → Prop} {N n size : Nat} {e : TypeId} {v : Value} {cs : List Value} (h : X.ownsRow N e size v n cs) (hs : n ≤ 1000000) (hS : ∀ g, N ≤ g → S g) : RdB ⟨X, S⟩ size v n cs :=
  fun _ hY => RdA.of (Rd.of_own (own_keepsS h hY.keepsS hS) (by omega) (Nat.le_refl _))
theorem en_attestor_attestorref12_Valid : ∀ args w, (callFunc 53 args).run Tryz.prog w = .ok (.enter 53 args) w := enters_of Tryz.func53 (by kernel_rfl) rfl
attribute [local irreducible] wpRg
set_option maxRecDepth 100000 in
set_option maxHeartbeats 4000000 in
theorem rValid12 (r : Rdg) (hr : RdgIn r) (w : World) : Calls Tryz.prog 53 #[rdV r] w (Ret (.bool (decide r.ok)) w) := by
  obtain ⟨a, b, c, d⟩ := r
  unfold rdV rdc
  dsimp only
  go_enter Tryz.func53, Tryz.ntmps53
  go_upto_region 1 with (fail)
  refine wp_stk1 fun W hB hz b1 => ?_
  have e1 := b1.cell
  have HB := Lib.hid hB
  clear hz hB
  by_cases h1 : (0 : Int) ≤ a
  rotate_left 1
  · have HN := Lib.hid (show decide (Rdg.ok ⟨a, b, c, d⟩) = false from decide_eq_false fun h => h1 h.1.1)
    go_wp2_with fail
    exact bodyPost_ret (v := .bool false) (by simp [results, Tryz.results53, go_sem]) rfl ⟨by rw [HN.out], HB.out⟩
  by_cases h2 : a < 16
  rotate_left 1
  · have HN := Lib.hid (show decide (Rdg.ok ⟨a, b, c, d⟩) = false from decide_eq_false fun h => h2 h.1.2)
    go_wp2_with fail
    exact bodyPost_ret (v := .bool false) (by simp [results, Tryz.results53, go_sem]) rfl ⟨by rw [HN.out], HB.out⟩
  by_cases h3 : (0 : Int) ≤ c
  rotate_left 1
  · have HN := Lib.hid (show decide (Rdg.ok ⟨a, b, c, d⟩) = false from decide_eq_false fun h => h3 h.2.2.1.1)
    go_wp2_with fail
    exact bodyPost_ret (v := .bool false) (by simp [results, Tryz.results53, go_sem]) rfl ⟨by rw [HN.out], HB.out⟩
  by_cases h4 : c < 16
  rotate_left 1
  · have HN := Lib.hid (show decide (Rdg.ok ⟨a, b, c, d⟩) = false from decide_eq_false fun h => h4 h.2.2.1.2)
    go_wp2_with fail
    exact bodyPost_ret (v := .bool false) (by simp [results, Tryz.results53, go_sem]) rfl ⟨by rw [HN.out], HB.out⟩
  by_cases h5 : (0 : Int) ≤ b
  rotate_left 1
  · have HN := Lib.hid (show decide (Rdg.ok ⟨a, b, c, d⟩) = false from decide_eq_false fun h => h5 h.2.1.1)
    go_wp2_with fail
    exact bodyPost_ret (v := .bool false) (by simp [results, Tryz.results53, go_sem]) rfl ⟨by rw [HN.out], HB.out⟩
  by_cases h6 : b < 256
  rotate_left 1
  · have HN := Lib.hid (show decide (Rdg.ok ⟨a, b, c, d⟩) = false from decide_eq_false fun h => h6 h.2.1.2)
    go_wp2_with fail
    exact bodyPost_ret (v := .bool false) (by simp [results, Tryz.results53, go_sem]) rfl ⟨by rw [HN.out], HB.out⟩
  by_cases h7 : (0 : Int) ≤ d
  rotate_left 1
  · have HN := Lib.hid (show decide (Rdg.ok ⟨a, b, c, d⟩) = false from decide_eq_false fun h => h7 h.2.2.2.1)
    go_wp2_with fail
    exact bodyPost_ret (v := .bool false) (by simp [results, Tryz.results53, go_sem]) rfl ⟨by rw [HN.out], HB.out⟩
  by_cases h8 : d < 256
  rotate_left 1
  · have HN := Lib.hid (show decide (Rdg.ok ⟨a, b, c, d⟩) = false from decide_eq_false fun h => h8 h.2.2.2.2)
    go_wp2_with fail
    exact bodyPost_ret (v := .bool false) (by simp [results, Tryz.results53, go_sem]) rfl ⟨by rw [HN.out], HB.out⟩
  have HN := Lib.hid (show decide (Rdg.ok ⟨a, b, c, d⟩) = true from decide_eq_true ⟨⟨h1, h2⟩, ⟨h5, h6⟩, ⟨h3, h4⟩, ⟨h7, h8⟩⟩)
  go_wp2_with fail
  exact bodyPost_ret (v := .bool true) (by simp [results, Tryz.results53, go_sem]) rfl ⟨by rw [HN.out], HB.out⟩
end Go.Proofs.YtficeebbbkmhcaaGreatDoor
