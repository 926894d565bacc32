/-
  Match, by contract.
  What a matching reading adds.
  The number of sums; the function that adds a matching reading.
  The sums of a query of one sum and one filter.
  Same of two slices of one equal number.
  The fixed examples of the law.
  A reading out of three bytes.
  The reference's Reading; Retract of a reading that is gone.
  The law's sanity (chapter 26).
  The law's step, to the switch.
-/
import Derived.Test.YtficeebbbkmhcaaGreatDoorEv18
import Derived.Test.YtficeebbbkmhcaaGreatDoorStm26
namespace Go.Proofs.YtficeebbbkmhcaaGreatDoor
open Go.RowKit

theorem gMatch0 (A : Option Addr) (cap : Nat) (r : Rdg) (w : World) : Calls Tryz.prog 33 #[.slice A 0 cap, rdV r] w (Ret (.bool true) w) := by
  have hmf : ∀ (fn : Fn) (first cap : Array Value) (w : World), (Instr.makeFunc fn first cap).run Tryz.prog w = .ok (.func fn first cap) w := fun _ _ _ _ => rfl
  unfold rdV rdc
  go_enter Tryz.func33, Tryz.ntmps33
  go_upto_region 1 with (fail)
  refine wp_stk1 fun W hW hz b3 => ?_
  have HW := Lib.hid hW
  have c3 := b3.cell
  have l3 := b3.lt
  clear hW hz b3
  go_upto_region 2 with (fail)
  refine wp_stk1 fun V hV hz b5 => ?_
  have HV := Lib.hid (HW.out.trans (hV.mono HW.out.size))
  obtain ⟨g5, hg5⟩ : ∃ g, g = W.heap.size := ⟨_, rfl⟩
  rw [← hg5] at b5 ⊢
  have HB5 := Lib.hid b5
  clear c3 l3 hV hz hg5 b5
  go_wp2_with fail
  have HC := gConC 0 (by decide) (fun _ => false) (fun _ => .nilIface) (fun _ => .nilIface) (fun _ => .nilIface) A 0 0 cap (fun h => absurd h (by decide)) V 68 [.pointer (some ⟨g5, 0, none⟩)] en_attestor_query_Match_1 (fun k X hk _ => absurd hk (by omega)) (fun k X hk _ => absurd hk (by omega))
  rw [show anyK 0 (fun _ => false) = false from rfl] at HC
  refine HC.mono ?_
  rintro e X ⟨rfl, hX⟩
  have HX := Lib.hid (HV.out.trans (hX.mono HV.out.size))
  clear hX HC
  go_wp2_with fail
  exact bodyPost_ret (v := .bool true) (by simp [results, Tryz.results33, go_sem]) rfl ⟨rfl, HX.out⟩
theorem gMatchY (r : Rdg) (hr : r.kind = 5) (v : Value) (w : World) (hv : RdA 3 w v 1 (cdc 2 5 5)) : Calls Tryz.prog 33 #[v, rdV r] w (Ret (.bool true) w) := by
  obtain ⟨a, b, k, c⟩ := r
  dsimp only at hr
  subst hr
  obtain ⟨gv, ov, capv, rfl, hcv, -, -, lv, qv⟩ := Rd.form hv (by decide)
  have HKV := Lib.hid qv
  clear hv qv
  have hmf : ∀ (fn : Fn) (first cap : Array Value) (w : World), (Instr.makeFunc fn first cap).run Tryz.prog w = .ok (.func fn first cap) w := fun _ _ _ _ => rfl
  unfold rdV rdc
  go_enter Tryz.func33, Tryz.ntmps33
  go_upto_region 1 with (fail)
  refine wp_stk1 fun W hW hz b3 => ?_
  have HW := Lib.hid hW
  have c3 := b3.cell
  have l3 := b3.lt
  clear hW hz b3
  go_upto_region 2 with (fail)
  refine wp_stk1 fun V hV hz b5 => ?_
  have HV := Lib.hid (HW.out.trans (hV.mono HW.out.size))
  obtain ⟨g5, hg5⟩ : ∃ g, g = W.heap.size := ⟨_, rfl⟩
  rw [← hg5] at b5 ⊢
  have HB5 := Lib.hid b5
  clear c3 l3 hV hz hg5 b5
  have HC := gConC 1 (by decide) (fun _ => false) (fun _ => .int .i64 2) (fun _ => .int .i64 5) (fun _ => .int .i64 5) (some ⟨gv, ov, none⟩) gv ov capv (fun _ => rfl) V 68 [.pointer (some ⟨g5, 0, none⟩)] en_attestor_query_Match_1 (fun k Y hk hY => by
    obtain rfl : k = 0 := by omega
    have h2 := HV.out.trans (hY.mono HV.out.size)
    exact ⟨Nat.lt_of_lt_of_le lv h2.size, (h2.cell (p := ⟨gv, ov + 0, none⟩) lv).trans (HKV.out 0 _ rfl), (h2.cell (p := ⟨gv, ov + 1, none⟩) lv).trans (HKV.out 1 _ rfl), (h2.cell (p := ⟨gv, ov + 2, none⟩) lv).trans (HKV.out 2 _ rfl)⟩) (fun k Y hk hY => gMat5 _ _ _ g5 Y (HB5.out.keep hY))
  rw [show anyK 1 (fun _ => false) = false from rfl] at HC
  go_wp2_with fail
  refine HC.mono ?_
  rintro e X ⟨rfl, hX⟩
  have HX := Lib.hid (HV.out.trans (hX.mono HV.out.size))
  clear hX HC
  go_wp2_with fail
  exact bodyPost_ret (v := .bool true) (by simp [results, Tryz.results33, go_sem]) rfl ⟨rfl, HX.out⟩
theorem gMatchN (r : Rdg) (hr : r.kind = 4) (v : Value) (w : World) (hv : RdA 3 w v 1 (cdc 2 5 5)) : Calls Tryz.prog 33 #[v, rdV r] w (Ret (.bool false) w) := by
  obtain ⟨a, b, k, c⟩ := r
  dsimp only at hr
  subst hr
  obtain ⟨gv, ov, capv, rfl, hcv, -, -, lv, qv⟩ := Rd.form hv (by decide)
  have HKV := Lib.hid qv
  clear hv qv
  have hmf : ∀ (fn : Fn) (first cap : Array Value) (w : World), (Instr.makeFunc fn first cap).run Tryz.prog w = .ok (.func fn first cap) w := fun _ _ _ _ => rfl
  unfold rdV rdc
  go_enter Tryz.func33, Tryz.ntmps33
  go_upto_region 1 with (fail)
  refine wp_stk1 fun W hW hz b3 => ?_
  have HW := Lib.hid hW
  have c3 := b3.cell
  have l3 := b3.lt
  clear hW hz b3
  go_upto_region 2 with (fail)
  refine wp_stk1 fun V hV hz b5 => ?_
  have HV := Lib.hid (HW.out.trans (hV.mono HW.out.size))
  obtain ⟨g5, hg5⟩ : ∃ g, g = W.heap.size := ⟨_, rfl⟩
  rw [← hg5] at b5 ⊢
  have HB5 := Lib.hid b5
  clear c3 l3 hV hz hg5 b5
  have HC := gConC 1 (by decide) (fun _ => true) (fun _ => .int .i64 2) (fun _ => .int .i64 5) (fun _ => .int .i64 5) (some ⟨gv, ov, none⟩) gv ov capv (fun _ => rfl) V 68 [.pointer (some ⟨g5, 0, none⟩)] en_attestor_query_Match_1 (fun k Y hk hY => by
    obtain rfl : k = 0 := by omega
    have h2 := HV.out.trans (hY.mono HV.out.size)
    exact ⟨Nat.lt_of_lt_of_le lv h2.size, (h2.cell (p := ⟨gv, ov + 0, none⟩) lv).trans (HKV.out 0 _ rfl), (h2.cell (p := ⟨gv, ov + 1, none⟩) lv).trans (HKV.out 1 _ rfl), (h2.cell (p := ⟨gv, ov + 2, none⟩) lv).trans (HKV.out 2 _ rfl)⟩) (fun k Y hk hY => gMat4 _ _ _ g5 Y (HB5.out.keep hY))
  rw [show anyK 1 (fun _ => true) = true from rfl] at HC
  go_wp2_with fail
  refine HC.mono ?_
  rintro e X ⟨rfl, hX⟩
  have HX := Lib.hid (HV.out.trans (hX.mono HV.out.size))
  clear hX HC
  go_wp2_with fail
  exact bodyPost_ret (v := .bool false) (by simp [results, Tryz.results33, go_sem]) rfl ⟨rfl, HX.out⟩
end Go.Proofs.YtficeebbbkmhcaaGreatDoor
namespace Go.Proofs.YtficeebbbkmhcaaGreatDoor
open Go.RowKit

structure Acc (w : World) (gs bs bq : Nat) (x kind col k : Int) (F : Value) : Prop where
  s : Blk w gs 2 #[.int .i64 x]
  b : Blk w bs 47 #[.slice (some ⟨gs, 0, none⟩) 1 1]
  q : Blk w bq 52 #[.int .i64 kind, .int .i64 col, .int .i64 k, F]
theorem Acc.keep {w X : World} {gs bs bq : Nat} {x kind col k : Int} {F : Value} (h : Acc w gs bs bq x kind col k F) (hb : Below w.heap.size w X) : Acc X gs bs bq x kind col k F := ⟨h.s.keep hb, h.b.keep hb, h.q.keep hb⟩
theorem en_attestor_eval_contribution_2 : ∀ args w, (callFunc 60 args).run Tryz.prog w = .ok (.enter 60 args) w := enters_of Tryz.func60 (by kernel_rfl) rfl
theorem en_attestor_eval_contribution_3 : ∀ args w, (callFunc 62 args).run Tryz.prog w = .ok (.enter 62 args) w := enters_of Tryz.func62 (by kernel_rfl) rfl
set_option maxRecDepth 100000 in
theorem gAdd2 (c : Nat) (hc : c < 4) (r : Rdg) (gs bs bq : Nat) (x y : Int) (hx : 0 ≤ x ∧ x < 1000000000) (hy : 0 ≤ fldR c r ∧ fldR c r < 1000000) (hxy : x + fldR c r = y) (kind k : Int) (F : Value) (w : World) (h : Acc w gs bs bq x kind (c : Int) k F) :
    Calls Tryz.prog 60 #[rdV r, .pointer (some ⟨bs, 0, none⟩), .pointer (some ⟨bq, 0, none⟩)] w fun e w' => e = .returned (.tuple #[]) ∧ Acc w' gs bs bq y kind (c : Int) k F ∧ Onl gs w w' := by
  obtain ⟨x0, x1⟩ := hx
  obtain ⟨y0, y1⟩ := hy
  have hne1 : bs ≠ gs := fun e => by
    have h1 := h.b
    rw [e] at h1
    exact absurd (Option.some.inj (h1.symm.trans h.s)) (by intro h; cases h)
  have hne2 : bq ≠ gs := fun e => by
    have h1 := h.q
    rw [e] at h1
    exact absurd (Option.some.inj (h1.symm.trans h.s)) (by intro h; cases h)
  have HC := Lib.hid (fun W => gColV c hc r W)
  have HH := Lib.hid h
  clear h
  unfold rdV rdc at *
  obtain ⟨f, hf⟩ : ∃ f, f = fldR c r := ⟨_, rfl⟩
  rw [← hf] at HC y0 y1 hxy
  have hw : IntKind.i64.wrap y = y := IntWalk.i64_in _ (by omega)
  have hw2 : IntKind.i64.wrap (x + f) = y := by rw [hxy]; exact hw
  clear hf
  go_enter Tryz.func60, Tryz.ntmps60
  go_upto_region 1 with (fail)
  refine wp_stk1 fun W hW hz b3 => ?_
  have hA := HH.out.keep hW
  have f1 := gw_blk b3
  have f2 := gw_blk hA.s
  have f3 := gw_blk hA.b
  have f4 := gw_blk hA.q
  have HW := Lib.hid (Onl.of gs hW)
  have HA := Lib.hid hA
  clear hW hz b3 hA
  refine wp_region_rg 9 [(6, Spec.val (.int .i64 f))] (by kernel_rfl) (by kernel_rfl) (by kernel_rfl) trivial ?_
  iterate 6 (refine rg_det rfl rfl rfl (fun K hK => ?_); go_big_quiet_op; refine hK _ ?_; clear hK K)
  refine rg_val rfl rfl (fun W1 hW1 hF => step_callv en_attestor_eval_column (HC.out W1) rfl rfl) ?_
  intro a' ha
  simp only [Act.put, List.setIfInBounds_toArray, List.set_cons_succ, List.set_cons_zero] at ha
  subst ha
  iterate 2 (refine rg_det rfl rfl rfl (fun K hK => ?_); go_big_quiet_op; refine hK _ ?_; clear hK K)
  refine rg_nil (fun w' hw' hF => ?_)
  obtain ⟨z, rfl⟩ := hw'
  simp only [List.drop_succ_cons, List.drop_zero]
  obtain ⟨X, hX⟩ : ∃ X, X = z.w := ⟨_, rfl⟩
  have hAX := HA.out.keep z.h
  have HX := Lib.hid (HW.out.below z.h)
  rw [← hX] at HX hAX ⊢
  have c1 := hAX.s.cell
  have e1 := hAX.s.frozen
  have l1 := hAX.s.lt
  have HAX := Lib.hid hAX
  clear hF hX z f1 f2 f3 f4 hAX
  go_wp2_with fail
  refine set1 (M := fun W => bodyPost _ _ _ _ _ W) HAX.out.s fun Y hY bY => ?_
  go_end0
  exact ⟨rfl, ⟨bY, hY.blk HAX.out.b hne1, hY.blk HAX.out.q hne2⟩, HX.out.put hY⟩
set_option maxRecDepth 100000 in
theorem gAdd3 (c : Nat) (hc : c < 4) (r : Rdg) (gs bs bq : Nat) (x y m : Int) (hx : 0 ≤ x ∧ x < 1000000000) (hv : 0 ≤ fldR c r ∧ fldR c r < 256) (hm : fldR c r * fldR c r = m) (hy : 0 ≤ m ∧ m < 1000000) (hxy : x + m = y) (kind : Int) (F : Value) (w : World) (h : Acc w gs bs bq x kind (c : Int) 2 F) :
    Calls Tryz.prog 62 #[rdV r, .pointer (some ⟨bs, 0, none⟩), .pointer (some ⟨bq, 0, none⟩)] w fun e w' => e = .returned (.tuple #[]) ∧ Acc w' gs bs bq y kind (c : Int) 2 F ∧ Onl gs w w' := by
  obtain ⟨x0, x1⟩ := hx
  obtain ⟨y0, y1⟩ := hy
  have HPw := Lib.hid (fun W => gPow2 (fldR c r) m hv.1 hv.2 hm W)
  have hne1 : bs ≠ gs := fun e => by
    have h1 := h.b
    rw [e] at h1
    exact absurd (Option.some.inj (h1.symm.trans h.s)) (by intro h; cases h)
  have hne2 : bq ≠ gs := fun e => by
    have h1 := h.q
    rw [e] at h1
    exact absurd (Option.some.inj (h1.symm.trans h.s)) (by intro h; cases h)
  have HC := Lib.hid (fun W => gColV c hc r W)
  have HH := Lib.hid h
  clear h
  unfold rdV rdc at *
  obtain ⟨f, hf⟩ : ∃ f, f = fldR c r := ⟨_, rfl⟩
  rw [← hf] at HC HPw
  have hw : IntKind.i64.wrap y = y := IntWalk.i64_in _ (by omega)
  have hw2 : IntKind.i64.wrap (x + m) = y := by rw [hxy]; exact hw
  clear hf hm hv
  go_enter Tryz.func62, Tryz.ntmps62
  go_upto_region 1 with (fail)
  refine wp_stk1 fun W hW hz b3 => ?_
  have hA := HH.out.keep hW
  have f1 := gw_blk b3
  have f2 := gw_blk hA.s
  have f3 := gw_blk hA.b
  have f4 := gw_blk hA.q
  have HW := Lib.hid (Onl.of gs hW)
  have HA := Lib.hid hA
  clear hW hz b3 hA
  refine wp_region_rg 12 [(6, Spec.val (.int .i64 f)), (9, Spec.val (.int .i64 m))] (by kernel_rfl) (by kernel_rfl) (by kernel_rfl) trivial ?_
  iterate 6 (refine rg_det rfl rfl rfl (fun K hK => ?_); go_big_quiet_op; refine hK _ ?_; clear hK K)
  refine rg_val rfl rfl (fun W1 hW1 hF => step_callv en_attestor_eval_column (HC.out W1) rfl rfl) ?_
  intro a' ha
  simp only [Act.put, List.setIfInBounds_toArray, List.set_cons_succ, List.set_cons_zero] at ha
  subst ha
  iterate 2 (refine rg_det rfl rfl rfl (fun K hK => ?_); go_big_quiet_op; refine hK _ ?_; clear hK K)
  refine rg_val rfl rfl (fun W1 hW1 hF => step_callv en_attestor_eval_power (HPw.out W1) rfl rfl) ?_
  intro a' ha
  simp only [Act.put, List.setIfInBounds_toArray, List.set_cons_succ, List.set_cons_zero] at ha
  subst ha
  iterate 2 (refine rg_det rfl rfl rfl (fun K hK => ?_); go_big_quiet_op; refine hK _ ?_; clear hK K)
  refine rg_nil (fun w' hw' hF => ?_)
  obtain ⟨z, rfl⟩ := hw'
  simp only [List.drop_succ_cons, List.drop_zero]
  obtain ⟨X, hX⟩ : ∃ X, X = z.w := ⟨_, rfl⟩
  have hAX := HA.out.keep z.h
  have HX := Lib.hid (HW.out.below z.h)
  rw [← hX] at HX hAX ⊢
  have c1 := hAX.s.cell
  have e1 := hAX.s.frozen
  have l1 := hAX.s.lt
  have HAX := Lib.hid hAX
  clear hF hX z f1 f2 f3 f4 hAX
  go_wp2_with fail
  refine set1 (M := fun W => bodyPost _ _ _ _ _ W) HAX.out.s fun Y hY bY => ?_
  go_end0
  exact ⟨rfl, ⟨bY, hY.blk HAX.out.b hne1, hY.blk HAX.out.q hne2⟩, HX.out.put hY⟩
end Go.Proofs.YtficeebbbkmhcaaGreatDoor
namespace Go.Proofs.YtficeebbbkmhcaaGreatDoor
open Go.RowKit Go.Maps

def KdB (_ _ : Nat) (v : Value) (_ : World) : Prop := ∃ (z : Nat) (_ : Unit), v = .agg #[.int .i64 1, .bool false, .func (.func 121) #[] #[.pointer (some ⟨z, 0, none⟩)]]
theorem fit_kdB : Fit KdB KdF := ⟨fun _ _ _ _ _ h _ => h, fun _ => ⟨_, 0, (), rfl⟩, fun _ _ _ _ h => h⟩
theorem step_mgetS {o : Oper} {a : Act} {w : World} {m x : Operand} {b n m0 : Nat} {kd : Int} (hkd : kd = 2 ∨ kd = 3) (ho : o.op = .lookup 120 m x false) (hm : a.eval m = .map (some b)) (hx : a.eval x = .int .i64 kd) (h : m0 ≤ w.heap.size ∧ KndA n m0 (.map (some b)) w) :
    stepAt Tryz.prog o a w fun v w' => KdB w.heap.size w'.heap.size v w' ∧ Below w.heap.size w w' := by
  obtain ⟨_, b', x', y', z, h1, _, _, h4, _⟩ := h
  cases h1
  obtain rfl | rfl := hkd
  · refine stepAt_mono (fun v w' hh => ?_) (step_mgetB int_und knds_map (kd_zero w) ho hm hx rfl h4 (knd_at2 x' y' z))
    exact ⟨⟨y', (), hh.1⟩, hh.2⟩
  · refine stepAt_mono (fun v w' hh => ?_) (step_mgetB int_und knds_map (kd_zero w) ho hm hx rfl h4 (knd_at3 x' y' z))
    exact ⟨⟨z, (), hh.1⟩, hh.2⟩
theorem kd_sums (z : Nat) (w : World) : (Instr.field 119 (.agg #[.int .i64 1, .bool false, .func (.func 121) #[] #[.pointer (some ⟨z, 0, none⟩)]]) 0).run Tryz.prog w = .ok (.int .i64 1) w := by kernel_rfl
set_option maxRecDepth 100000 in
theorem gSumsT (kd col k : Int) (hkd : kd = 2 ∨ kd = 3) (F : Value) (w : World) : Calls Tryz.prog 30 #[.agg #[.int .i64 kd, .int .i64 col, .int .i64 k, F]] w (Ret (.int .i64 1) w) := by
  have hfd := kd_sums
  go_enter Tryz.func30, Tryz.ntmps30
  go_upto_region 1 with (fail)
  refine wp_stk1 fun W hW hz b1 => ?_
  have HW := Lib.hid hW
  have f1 := gw_blk b1
  clear hW hz b1
  refine wp_region_rg 5 [(0, Spec.rel (KndA) (MapF)), (3, Spec.rel (KdB) (KdF))] (by kernel_rfl) (by kernel_rfl) (by kernel_rfl) ⟨fit_knd, fit_kdB, trivial⟩ ?_
  refine rg_rel rfl rfl (fun W1 hW1 hF => step_callr en_attestor_typecheck_kinds (gKindsA W1) rfl rfl) ?_
  intro n0 m0 v0 hn0 hm0 hd0 hf0 a' ha
  simp only [Act.put, List.setIfInBounds_toArray, List.set_cons_succ, List.set_cons_zero] at ha
  subst ha
  obtain ⟨A0, cap0, rfl⟩ := hf0
  iterate 2 (refine rg_det rfl rfl rfl (fun K hK => ?_); go_big_quiet_op; refine hK _ ?_; clear hK K)
  refine rg_rel rfl rfl (fun W1 hW1 hF => step_mgetS hkd rfl rfl rfl (pick_last hF (by kernel_rfl))) ?_
  intro n3 m3 v3 hn3 hm3 hd3 hf3 a' ha
  simp only [Act.put, List.setIfInBounds_toArray, List.set_cons_succ, List.set_cons_zero] at ha
  subst ha
  obtain ⟨A3, cap3, rfl⟩ := hf3
  refine rg_det rfl rfl rfl (fun K hK => ?_)
  go_big_quiet_op
  refine hK _ ?_; clear hK K
  refine rg_nil (fun w' hw' hF => ?_)
  obtain ⟨z, rfl⟩ := hw'
  simp only [List.drop_succ_cons, List.drop_zero]
  obtain ⟨X, hX⟩ : ∃ X, X = z.w := ⟨_, rfl⟩
  have HX := Lib.hid (HW.out.trans (z.h.mono HW.out.size))
  rw [← hX] at HX ⊢
  clear hF hX z f1 hd0 hd3 hfd
  go_wp2_with fail
  exact bodyPost_ret (v := .int .i64 1) (by simp [results, Tryz.results30, go_sem]) rfl ⟨rfl, HX.out⟩
theorem gContr2 (gs : Nat) (col k : Int) (F : Value) (w : World) (hs : Blk w gs 2 #[.int .i64 0]) : Calls Tryz.prog 31 #[.agg #[.int .i64 2, .int .i64 col, .int .i64 k, F], .int .i64 0, .slice (some ⟨gs, 0, none⟩) 1 1] w fun e w' =>
    ∃ bs bq, e = .returned (.func (.func 60) #[] #[.pointer (some ⟨bs, 0, none⟩), .pointer (some ⟨bq, 0, none⟩)]) ∧ Acc w' gs bs bq 0 2 col k F ∧ Below w.heap.size w w' := by
  have hmf : ∀ (fn : Fn) (first cap : Array Value) (w : World), (Instr.makeFunc fn first cap).run Tryz.prog w = .ok (.func fn first cap) w := fun _ _ _ _ => rfl
  go_enter Tryz.func31, Tryz.ntmps31
  go_upto_region 1 with (fail)
  refine wp_stk3 fun W hW hz b3 b4 b5 => ?_
  obtain ⟨g3, hg3⟩ : ∃ g, g = w.heap.size := ⟨_, rfl⟩
  obtain ⟨g5, hg5⟩ : ∃ g, g = w.heap.size + 1 + 1 := ⟨_, rfl⟩
  rw [← hg5] at b5 ⊢
  rw [← hg3] at b3 ⊢
  have HW := Lib.hid hW
  have HS := Lib.hid (hs.keep hW)
  have HB5 := Lib.hid b5
  have HB3 := Lib.hid b3
  have c3 := b3.cell
  have l3 := b3.lt
  clear hW hz b3 b4 b5 hg3 hg5 hs
  go_wp2_with fail
  exact bodyPost_ret (v := .func (.func 60) #[] #[.pointer (some ⟨g5, 0, none⟩), .pointer (some ⟨g3, 0, none⟩)]) (by simp [results, Tryz.results31, go_sem]) rfl ⟨_, _, rfl, ⟨HS.out, HB5.out, HB3.out⟩, HW.out⟩
theorem gContr3 (gs : Nat) (col k : Int) (F : Value) (w : World) (hs : Blk w gs 2 #[.int .i64 0]) : Calls Tryz.prog 31 #[.agg #[.int .i64 3, .int .i64 col, .int .i64 k, F], .int .i64 0, .slice (some ⟨gs, 0, none⟩) 1 1] w fun e w' =>
    ∃ bs bq, e = .returned (.func (.func 62) #[] #[.pointer (some ⟨bs, 0, none⟩), .pointer (some ⟨bq, 0, none⟩)]) ∧ Acc w' gs bs bq 0 3 col k F ∧ Below w.heap.size w w' := by
  have hmf : ∀ (fn : Fn) (first cap : Array Value) (w : World), (Instr.makeFunc fn first cap).run Tryz.prog w = .ok (.func fn first cap) w := fun _ _ _ _ => rfl
  go_enter Tryz.func31, Tryz.ntmps31
  go_upto_region 1 with (fail)
  refine wp_stk3 fun W hW hz b3 b4 b5 => ?_
  obtain ⟨g3, hg3⟩ : ∃ g, g = w.heap.size := ⟨_, rfl⟩
  obtain ⟨g5, hg5⟩ : ∃ g, g = w.heap.size + 1 + 1 := ⟨_, rfl⟩
  rw [← hg5] at b5 ⊢
  rw [← hg3] at b3 ⊢
  have HW := Lib.hid hW
  have HS := Lib.hid (hs.keep hW)
  have HB5 := Lib.hid b5
  have HB3 := Lib.hid b3
  have c3 := b3.cell
  have l3 := b3.lt
  clear hW hz b3 b4 b5 hg3 hg5 hs
  go_wp2_with fail
  exact bodyPost_ret (v := .func (.func 62) #[] #[.pointer (some ⟨g5, 0, none⟩), .pointer (some ⟨g3, 0, none⟩)]) (by simp [results, Tryz.results31, go_sem]) rfl ⟨_, _, rfl, ⟨HS.out, HB5.out, HB3.out⟩, HW.out⟩
end Go.Proofs.YtficeebbbkmhcaaGreatDoor
namespace Go.Proofs.YtficeebbbkmhcaaGreatDoor
open Go.RowKit Go.Maps

def sumF (mt : Rdg → Bool) (ct : Rdg → Int) (l : List Rdg) : Int := l.foldl (fun a r => if mt r = true then a + ct r else a) 0
theorem sumF_snoc (mt : Rdg → Bool) (ct : Rdg → Int) (l : List Rdg) (r : Rdg) : sumF mt ct (l ++ [r]) = if mt r = true then sumF mt ct l + ct r else sumF mt ct l := by
  unfold sumF; rw [List.foldl_append]; rfl
theorem sumF_rng (mt : Rdg → Bool) (ct : Rdg → Int) (l : List Rdg) (h : ∀ r ∈ l, 0 ≤ ct r ∧ ct r < 1000000) : ∀ k, k ≤ l.length → 0 ≤ sumF mt ct (l.take k) ∧ sumF mt ct (l.take k) ≤ 999999 * k := by
  intro k
  induction k with
  | zero => intro _; exact ⟨Int.le_refl _, Int.le_refl _⟩
  | succ k ih =>
    intro hk
    obtain ⟨r, hr⟩ : ∃ r, l[k]? = some r := ⟨_, List.getElem?_eq_getElem (by omega)⟩
    rw [List.take_add_one, hr, Option.toList_some, sumF_snoc]
    have := ih (by omega)
    have := h r (List.mem_of_getElem? hr)
    split <;> omega
theorem i64s_slice15 : Tryz.prog.underlying 47 = some (.slice 2) := by kernel_rfl
theorem i64_info15 : (Tryz.prog.info? 2).map (fun i => (i.zero, i.size, i.bytes)) = some (some (.int .i64 0), 1, 8) := by kernel_rfl
theorem mk_one15 (w : World) : (Instr.makeSlice 47 (.int .i64 1) (.int .i64 1)).run Tryz.prog w = .ok (.slice (some ⟨w.heap.size, 0, none⟩) 1 1) (w.alloc (.cells #[.int .i64 0] 2)) := by
  obtain ⟨i0, hi0, hz0, hz1, hz2⟩ := info_parts i64_info15
  have h := run_make (P := Tryz.prog) w _ _ i0 _ i64s_slice15 hi0 hz0 .i64 .i64 1 1 (by decide) (by decide) (by rw [hz2]; decide) (by decide)
  rw [h, hz1, show madeCells (Value.int IntKind.i64 0).cells (Int.toNat 1 * 1) = #[.int .i64 0] by unfold madeCells; simp [Value.cells]; exact ⟨0, by decide, rfl⟩]
  rfl
set_option maxRecDepth 100000 in
set_option maxHeartbeats 2000000 in
theorem gEvSums (kd col k : Int) (hkd : kd = 2 ∨ kd = 3) (fc : FuncId) (hen : ∀ args w, (callFunc fc args).run Tryz.prog w = .ok (.enter fc args) w) (mt : Rdg → Bool) (ct : Rdg → Int) (F v : Value) (hvf : ∃ A n c, v = .slice A n c) (s : Stm) (hsl : s.length ≤ 1000) (x : StrW) (w : World) (hF : RdA 1 w F 1 [v]) (hx : StrIn w x s)
    (hct : ∀ r ∈ liveR s, 0 ≤ ct r ∧ ct r < 1000000)
    (hmt : ∀ r ∈ liveR s, ∀ W, Below w.heap.size w W → Calls Tryz.prog 33 #[v, rdV r] W (Ret (.bool (mt r)) W))
    (hcon : ∀ W gs, Blk W gs 2 #[.int .i64 0] → Calls Tryz.prog 31 #[.agg #[.int .i64 kd, .int .i64 col, .int .i64 k, F], .int .i64 0, .slice (some ⟨gs, 0, none⟩) 1 1] W fun e W' => ∃ bs bq, e = .returned (.func (.func fc) #[] #[.pointer (some ⟨bs, 0, none⟩), .pointer (some ⟨bq, 0, none⟩)]) ∧ Acc W' gs bs bq 0 kd col k F ∧ Below W.heap.size W W')
    (hadd : ∀ r ∈ liveR s, ∀ (y : Int), 0 ≤ y → y < 1000000000 → ∀ W gs bs bq, Acc W gs bs bq y kd col k F → Calls Tryz.prog fc #[rdV r, .pointer (some ⟨bs, 0, none⟩), .pointer (some ⟨bq, 0, none⟩)] W fun e W' => e = .returned (.tuple #[]) ∧ Acc W' gs bs bq (y + ct r) kd col k F ∧ Onl gs W W') :
    Calls Tryz.prog 9 #[.agg #[.int .i64 kd, .int .i64 col, .int .i64 k, F], .agg (smc x).toArray] w fun e w' => ∃ gs, e = .returned (.slice (some ⟨gs, 0, none⟩) 1 1) ∧ Blk w' gs 2 #[.int .i64 (sumF mt ct (liveR s))] ∧ Below w.heap.size w w' := by
  obtain ⟨gF, oF, cF, rfl, hcF, -, -, lF, qF⟩ := Rd.form hF (by decide)
  have HKF := Lib.hid (qF 0 v rfl)
  have HM := Lib.hid hmt
  have HC := Lib.hid hcon
  have HAd := Lib.hid hadd
  have HX := Lib.hid hx
  have HSU := Lib.hid (fun W => gSumsT kd col k hkd (.slice (some ⟨gF, oF, none⟩) 1 cF) W)
  have HR := Lib.hid (sumF_rng mt ct (liveR s) hct)
  have HLL := Lib.hid (liveR_len s)
  obtain ⟨Av, nv, cv, rfl⟩ := hvf
  obtain ⟨x1, x2⟩ := x
  obtain ⟨A1, cap1, hv1⟩ := Rd.len hx.1
  obtain ⟨A2, cap2, hv2⟩ := Rd.len hx.2
  dsimp only at hv1 hv2
  subst hv1
  subst hv2
  have HLI := Lib.hid (fun W (hW : Below w.heap.size w W) => gLiveR s hsl ⟨.slice A1 s.length cap1, .slice A2 s.length cap2⟩ W ⟨RdA.keep HX.out.1 hW, RdA.keep HX.out.2 hW⟩)
  unfold smc at *
  dsimp only at *
  clear hF qF hmt hcon hadd hx hct hkd
  go_enter Tryz.func9, Tryz.ntmps9
  go_upto_region 1 with (fail)
  refine wp_stk2 fun W hW hz b2 b3 => ?_
  obtain ⟨g2, hg2⟩ : ∃ g, g = w.heap.size := ⟨_, rfl⟩
  obtain ⟨g3, hg3⟩ : ∃ g, g = w.heap.size + 1 := ⟨_, rfl⟩
  rw [← hg3] at b3 ⊢
  rw [← hg2] at b2 ⊢
  have HW := Lib.hid hW
  have HB2 := Lib.hid b2
  have HB3 := Lib.hid b3
  have c2 := b2.cell
  have l2 := b2.lt
  clear hW hz b2 b3 hg2 hg3
  go_wp2_with fail
  refine (HSU.out W).mono ?_
  rintro e V ⟨rfl, hV⟩
  have HV := Lib.hid (HW.out.trans (hV.mono HW.out.size))
  have HB2V := Lib.hid (HB2.out.keep hV)
  have HB3V := Lib.hid (HB3.out.keep hV)
  have mk := mk_one15 V
  clear c2 l2 hV
  go_upto_region 2 with (fail)
  refine wp_stk1 fun U hU hz bs => ?_
  obtain ⟨gs, hgs⟩ : ∃ g, g = V.heap.size := ⟨_, rfl⟩
  rw [← hgs] at bs ⊢
  have hgw : w.heap.size ≤ gs := by have := HV.out.size; omega
  have HU := Lib.hid (HV.out.trans (hU.mono HV.out.size))
  have b2 := HB2V.out.keep hU
  have HB2U := Lib.hid b2
  have HB3U := Lib.hid (HB3V.out.keep hU)
  have HBS := Lib.hid bs
  have c2 := b2.cell
  have l2 := b2.lt
  clear mk hU hz bs hgs b2
  have HEN := Lib.hid hen
  clear hen
  go_wp2_with fail
  have c3 := HB3U.out.cell
  have l3 := HB3U.out.lt
  go_loopw [17] (fun i wr => (i = .int .i64 0 ∧ wr = U) ∨ (i = .int .i64 1 ∧ Blk wr gs 2 #[.int .i64 (sumF mt ct (liveR s))] ∧ Below w.heap.size w wr)) (fun i _ => 2 - (intOf i).toNat)
  case atStart => exact .inl ⟨rfl, rfl⟩
  case round =>
    obtain ⟨rfl, rfl⟩ | ⟨rfl, hT, hB⟩ := hrel
    rotate_left 1
    · have HT := Lib.hid hT
      have HB := Lib.hid hB
      clear hT hB c2 l2 c3 l3
      go_wp2_with fail
      exact bodyPost_ret (v := .slice (some ⟨gs, 0, none⟩) 1 1) (by simp [results, Tryz.results9, go_sem]) rfl ⟨gs, rfl, HT.out, HB.out⟩
    have kF := (HU.out.cell (p := ⟨gF, oF, none⟩) lF).trans HKF.out
    have lF2 := Nat.lt_of_lt_of_le lF HU.out.size
    clear c3 l3
    go_wp2_with fail
    refine (HC.out wr gs HBS.out).mono ?_
    rintro e X ⟨bs, bq, rfl, hA, hX⟩
    have HX2 := Lib.hid (HU.out.trans (hX.mono HU.out.size))
    have b3 := HB3U.out.keep hX
    have c3 := b3.cell
    have l3 := b3.lt
    have HAx := Lib.hid hA
    have hgX : gs < X.heap.size := hA.s.lt
    clear c2 l2 kF lF2 hX hA b3
    go_wp2_with fail
    refine (HLI.out X HX2.out).mono ?_
    rintro e Y ⟨vL, rfl, hL, hY⟩
    obtain ⟨AL, cL, rfl⟩ := Rd.len hL
    have HAy := Lib.hid (HAx.out.keep hY)
    have HY2 := Lib.hid (HX2.out.trans (hY.mono HX2.out.size))
    have HL := Lib.hid hL
    obtain ⟨n, hn⟩ : ∃ n, n = (liveR s).length := ⟨_, rfl⟩
    have HN := Lib.hid hn
    have hn1 : n ≤ 1000 := by have := HLL.out; omega
    rw [← hn] at HL ⊢
    clear c3 l3 hY hL hn
    go_wp2_with fail
    go_loopw [29] (fun i wr => ∃ j : Nat, j ≤ n ∧ i = .int .i64 (j : Int) ∧ Acc wr gs bs bq (sumF mt ct ((liveR s).take j)) kd col k (.slice (some ⟨gF, oF, none⟩) 1 cF) ∧ Rd X.heap.size Y.heap.size 4 wr (.slice AL n cL) n ((liveR s).flatMap rdc) ∧ Below w.heap.size w wr) (fun i _ => n - (intOf i).toNat)
    case atStart => exact ⟨0, Nat.zero_le _, rfl, HAy.out, HL.out, HY2.out⟩
    case round =>
      obtain ⟨j, hj, rfl, hA, hR, hB⟩ := hrel
      by_cases hjn : j < n
      rotate_left 1
      · obtain rfl : j = n := by omega
        rw [HN.out, List.take_length] at hA
        have HT := Lib.hid hA.s
        have HB := Lib.hid hB
        clear hA hR hB
        go_wp2_with fail
        exact ⟨.inr ⟨rfl, HT.out, HB.out⟩, by simp [intOf]⟩
      obtain ⟨r, hr⟩ : ∃ r, (liveR s)[j]? = some r := ⟨_, List.getElem?_eq_getElem (by rw [← HN.out]; exact hjn)⟩
      have hrm := List.mem_of_getElem? hr
      obtain ⟨g, off, cap', hv, q1, q2, q3, q4, q5⟩ := Rd.form hR (by omega)
      cases hv
      have hfl : ∀ (jj : Nat) (u : Value), (rdc r)[jj]? = some u → ((liveR s).flatMap rdc)[j * 4 + jj]? = some u := fun jj u h => flat_get (f := rdc) (fun _ => rfl) (liveR s) j jj _ u hr h
      have r0 : wr.cell? ⟨g, off + j * 4, none⟩ = some (.int .i64 r.who) := (q5 (j * 4 + 0) _ (hfl 0 _ rfl))
      have r1 : wr.cell? ⟨g, off + j * 4 + 1, none⟩ = some (.int .i64 r.when) := by rw [Nat.add_assoc]; exact (q5 (j * 4 + 1) _ (hfl 1 _ rfl))
      have r2 : wr.cell? ⟨g, off + j * 4 + 2, none⟩ = some (.int .i64 r.kind) := by rw [Nat.add_assoc]; exact (q5 (j * 4 + 2) _ (hfl 2 _ rfl))
      have r3 : wr.cell? ⟨g, off + j * 4 + 3, none⟩ = some (.int .i64 r.value) := by rw [Nat.add_assoc]; exact (q5 (j * 4 + 3) _ (hfl 3 _ rfl))
      have HMr := Lib.hid (HM.out r hrm)
      have HAr := Lib.hid (HAd.out r hrm)
      have hsn : sumF mt ct ((liveR s).take (j + 1)) = if mt r = true then sumF mt ct ((liveR s).take j) + ct r else sumF mt ct ((liveR s).take j) := by rw [List.take_add_one, hr, Option.toList_some, sumF_snoc]
      have hsr := HR.out j (by rw [← HN.out]; omega)
      obtain ⟨y, hy⟩ : ∃ y, y = sumF mt ct ((liveR s).take j) := ⟨_, rfl⟩
      rw [← hy] at hA hsn hsr
      have HSN := Lib.hid hsn
      have HSR := Lib.hid (show 0 ≤ y ∧ y < 1000000000 by omega)
      have HAa := Lib.hid hA
      have HRa := Lib.hid hR
      have HBa := Lib.hid hB
      clear hfl q5 hr hrm hsn hsr hy hA hR hB
      go_upto_region 9 with (fail)
      refine wp_stk1 fun Z hZ hz b10 => ?_
      have HAz := Lib.hid (HAa.out.keep hZ)
      have HRz := Lib.hid (Rd.keep HRa.out hZ)
      have HBz := Lib.hid (HBa.out.trans (hZ.mono HBa.out.size))
      obtain ⟨g10, hg10⟩ : ∃ g, g = wr.heap.size := ⟨_, rfl⟩
      rw [← hg10] at b10 ⊢
      have hgl := HAa.out.s.lt
      have hne10 : g10 ≠ gs := by omega
      have HB10 := Lib.hid b10
      have c10 := b10.cell
      have l10 := b10.lt
      have HMZ := HMr.out Z HBz.out
      unfold rdV rdc at HMZ
      replace HMZ := Lib.hid HMZ
      clear hZ hz hg10 b10 r0 r1 r2 r3
      go_wp2_with fail
      refine HMZ.out.mono ?_
      rintro e T ⟨rfl, hT⟩
      have HAt := Lib.hid (HAz.out.keep hT)
      have HRt := Lib.hid (Rd.keep HRz.out hT)
      have HBt := Lib.hid (HBz.out.trans (hT.mono HBz.out.size))
      have b10 := HB10.out.keep hT
      clear c10 l10
      have c10 := b10.cell
      have l10 := b10.lt
      clear hT b10
      cases hm : mt r with
      | false =>
        have HS2 := Lib.hid (show sumF mt ct ((liveR s).take (j + 1)) = y by rw [HSN.out, if_neg (by rw [hm]; decide)])
        clear hm c10 l10
        go_wp2_with fail
        exact ⟨⟨j + 1, by omega, by go_num, by rw [HS2.out]; exact HAt.out, HRt.out, HBt.out⟩, by simp [intOf]; omega⟩
      | true =>
        have HS2 := Lib.hid (show sumF mt ct ((liveR s).take (j + 1)) = y + ct r by rw [HSN.out, if_pos hm])
        have HAdd := HAr.out y HSR.out.1 HSR.out.2 T gs bs bq HAt.out
        unfold rdV rdc at HAdd
        replace HAdd := Lib.hid HAdd
        have hen := HEN.out
        clear hm
        go_wp2_with fail
        refine HAdd.out.mono ?_
        rintro e P ⟨rfl, hAp, hOp⟩
        have HAp := Lib.hid hAp
        have HRp := Lib.hid (hOp.to_rd HRt.out (.inl hgX) |>.wide (Nat.le_refl _) (Nat.le_refl _))
        have HBp := Lib.hid (HBt.out.trans (hOp.to hgw HAt.out.s.lt))
        clear hAp hOp hen c10 l10
        go_wp2_with fail
        exact ⟨⟨j + 1, by omega, by go_num, by rw [HS2.out]; exact HAp.out, HRp.out, HBp.out⟩, by simp [intOf]; omega⟩
end Go.Proofs.YtficeebbbkmhcaaGreatDoor
namespace Go.Proofs.YtficeebbbkmhcaaGreatDoor
open Go.RowKit

theorem gSameR (z : Int) (g1 g2 : Nat) (w : World) (h1 : Blk w g1 2 #[.int .i64 z]) (h2 : Blk w g2 2 #[.int .i64 z]) : Calls Tryz.prog 52 #[.slice (some ⟨g1, 0, none⟩) 1 1, .slice (some ⟨g2, 0, none⟩) 1 1] w (Ret (.bool true) w) := by
  have c1 := h1.cell
  have l1 := h1.lt
  have c2 := h2.cell
  have l2 := h2.lt
  go_enter Tryz.func52, Tryz.ntmps52
  go_wp2
  go_loopw [5] (fun i wr => ∃ k : Nat, k ≤ 1 ∧ i = .int .i64 (k : Int) ∧ Below w.heap.size w wr) (fun i _ => 2 - (intOf i).toNat)
  case atStart => exact ⟨0, by decide, rfl, Below.refl _ _⟩
  case round =>
    obtain ⟨k, hk, rfl, hB⟩ := hrel
    have b1 := h1.keep hB
    have b2 := h2.keep hB
    have HB := Lib.hid hB
    obtain rfl | rfl : k = 0 ∨ k = 1 := by omega
    · have f1 := gw_blk b1
      have f2 := gw_blk b2
      have l1 := b1.lt
      have l2 := b2.lt
      have HB1 := Lib.hid b1
      have HB2 := Lib.hid b2
      clear b1 b2 hB c1 c2
      go_upto_region 6 with (fail)
      refine wp_region_rg 9 [] (by kernel_rfl) (by kernel_rfl) (by kernel_rfl) trivial ?_
      iterate 9 (refine rg_det rfl rfl rfl (fun K hK => ?_); go_big_quiet_op; refine hK _ ?_; clear hK K)
      refine rg_nil (fun w' hw' hF => ?_)
      obtain ⟨zz, rfl⟩ := hw'
      simp only [List.drop_succ_cons, List.drop_zero]
      obtain ⟨X, hX⟩ : ∃ X, X = zz.w := ⟨_, rfl⟩
      have HX := Lib.hid (HB.out.trans (zz.h.mono HB.out.size))
      rw [← hX] at HX ⊢
      clear hF hX zz f1 f2
      go_wp2_with fail
      exact ⟨⟨1, by decide, by go_num, HX.out⟩, by simp [intOf]⟩
    · clear b1 b2 hB c1 c2
      go_wp2_with fail
      exact bodyPost_ret (v := .bool true) (by simp [results, Tryz.results52, go_sem]) rfl ⟨rfl, HB.out⟩
theorem gSame15 (z : Int) (g1 g2 : Nat) (w : World) (h1 : Blk w g1 2 #[.int .i64 z]) (h2 : Blk w g2 2 #[.int .i64 z]) : Calls Tryz.prog 19 #[.slice (some ⟨g1, 0, none⟩) 1 1, .slice (some ⟨g2, 0, none⟩) 1 1] w (Ret (.bool true) w) := by
  have HS := Lib.hid (gSameR z g1 g2 w h1 h2)
  clear h1 h2
  go_enter Tryz.func19, Tryz.ntmps19
  go_wp2_with fail
  refine HS.out.mono ?_
  rintro e X ⟨rfl, hX⟩
  have HX := Lib.hid hX
  clear hX
  go_wp2_with fail
  exact bodyPost_ret (v := .bool true) (by simp [results, Tryz.results19, go_sem]) rfl ⟨rfl, HX.out⟩
end Go.Proofs.YtficeebbbkmhcaaGreatDoor
namespace Go.Proofs.YtficeebbbkmhcaaGreatDoor
open Go.RowKit Go.Maps

def sr1 : Rdg := ⟨0, 0, 5, 3⟩
def sr2 : Rdg := ⟨0, 0, 4, 9⟩
def sr3 : Rdg := ⟨0, 0, 5, 4⟩
def sst : Stm := [(sr1, false), (sr2, false), (sr3, false)]
def smt (r : Rdg) : Bool := decide (r.kind = 5)
def sct (r : Rdg) : Int := fldR 3 r * fldR 3 r
theorem sst_live : liveR sst = [sr1, sr2, sr3] := rfl
theorem sst_sum : sumF smt sct (liveR sst) = 25 := by rfl
theorem gSums15 (F : Value) (x : StrW) (w : World) (hF : Qry1 w F (cdc 2 5 5)) (hx : StrIn w x sst) : Calls Tryz.prog 9 #[.agg #[.int .i64 3, .int .i64 3, .int .i64 2, F], .agg (smc x).toArray] w fun e w' => ∃ gs, e = .returned (.slice (some ⟨gs, 0, none⟩) 1 1) ∧ Blk w' gs 2 #[.int .i64 25] ∧ Below w.heap.size w w' := by
  obtain ⟨v, h1, h2⟩ := hF
  obtain ⟨A, c, rfl⟩ := Rd.len h2
  have hm : ∀ r ∈ liveR sst, r = sr1 ∨ r = sr2 ∨ r = sr3 := by
    intro r hr
    rw [sst_live] at hr
    simpa using hr
  have hf : ∀ r ∈ liveR sst, (0 ≤ fldR 3 r ∧ fldR 3 r < 256) ∧ (0 ≤ sct r ∧ sct r < 1000000) := by
    intro r hr
    rcases hm r hr with rfl | rfl | rfl <;> decide
  have := gEvSums 3 3 2 (.inr rfl) 62 en_attestor_eval_contribution_3 smt sct F (.slice A 1 c) ⟨A, 1, c, rfl⟩ sst (by decide) x w h1 hx (fun r hr => (hf r hr).2)
    (fun r hr W hW => by
      rcases hm r hr with rfl | rfl | rfl
      · exact gMatchY sr1 rfl _ W (h2.keep hW)
      · exact gMatchN sr2 rfl _ W (h2.keep hW)
      · exact gMatchY sr3 rfl _ W (h2.keep hW))
    (fun W gs hs => gContr3 gs 3 2 F W hs)
    (fun r hr y y0 y1 W gs bs bq hA => gAdd3 3 (by decide) r gs bs bq y (y + sct r) (sct r) ⟨y0, y1⟩ (hf r hr).1 rfl (hf r hr).2 rfl 3 F W hA)
  rw [sst_sum] at this
  exact this
set_option maxRecDepth 100000 in
set_option maxHeartbeats 2000000 in
theorem lSanity15 (w : World) (hL : Lwd w) : Calls Tryz.prog 4 #[] w (Ret (.bool true) w) := by
  have HL := Lib.hid hL
  clear hL
  go_enter Tryz.func4, Tryz.ntmps4
  go_wp2_with fail
  refine (gParse w).mono ?_
  rintro e W ⟨F, rfl, hF, hW⟩
  obtain ⟨gF, oF, cF, v, rfl, -⟩ := qry1_form hF
  have HF := Lib.hid hF
  have HW := Lib.hid hW
  unfold qrc
  clear hF hW
  go_upto_region 2 with (fail)
  refine wp_stk1 fun V hV hz b1 => ?_
  obtain ⟨g1, hg1⟩ : ∃ g, g = W.heap.size := ⟨_, rfl⟩
  rw [← hg1] at b1 ⊢
  have HV := Lib.hid (HW.out.trans (hV.mono HW.out.size))
  have HFV := Lib.hid (HF.out.keep hV)
  have HB1 := Lib.hid b1
  clear hV hz b1 hg1
  go_upto_region 3 with (fail)
  refine wp_stk3 fun U hU hz br bb b4 => ?_
  have hx : StrIn U ⟨.slice (some ⟨V.heap.size, 0, none⟩) 3 3, .slice (some ⟨V.heap.size + 1, 0, none⟩) 3 3⟩ sst :=
    ⟨RdA.of (rd_blk15 (cs := rdsc sst) (size := 4) (n := 3) br rfl (by decide)), RdA.of (rd_blk15 (cs := gnc sst) (size := 1) (n := 3) bb rfl (by decide))⟩
  obtain ⟨gr, hgr⟩ : ∃ g, g = V.heap.size := ⟨_, rfl⟩
  obtain ⟨gb, hgb⟩ : ∃ g, g = V.heap.size + 1 := ⟨_, rfl⟩
  obtain ⟨g4, hg4⟩ : ∃ g, g = V.heap.size + 1 + 1 := ⟨_, rfl⟩
  rw [← hg4] at b4 ⊢
  rw [← hgb] at hx b4 ⊢
  rw [← hgr] at hx b4 ⊢
  have HX := Lib.hid hx
  have HU := Lib.hid (HV.out.trans (hU.mono HV.out.size))
  have HFU := Lib.hid (HFV.out.keep hU)
  have b1 := HB1.out.keep hU
  have HB1U := Lib.hid b1
  have HB4 := Lib.hid b4
  have c1 := b1.cell
  have l1 := b1.lt
  clear hU hz br bb b4 hx hgr hgb hg4 b1
  go_wp2_with fail
  refine (gCheck15 _ U HFU.out (HL.out.keep HU.out)).mono ?_
  rintro e T ⟨v9, rfl, hv9, hT⟩
  obtain ⟨g9, o9, k9, rfl, -, -, -, l9, q9⟩ := Rd.form hv9 (by decide)
  have HV9 := Lib.hid (q9 0 _ rfl)
  have HT := Lib.hid (HU.out.trans (hT.mono HU.out.size))
  have HXT := Lib.hid (show StrIn T ⟨.slice (some ⟨gr, 0, none⟩) 3 3, .slice (some ⟨gb, 0, none⟩) 3 3⟩ sst from ⟨RdA.keep HX.out.1 hT, RdA.keep HX.out.2 hT⟩)
  have HFT := Lib.hid (HFU.out.keep hT)
  have HB1T := Lib.hid (HB1U.out.keep hT)
  have HB4T := Lib.hid (HB4.out.keep hT)
  clear c1 l1 hT hv9 q9
  go_upto_region 4 with (fail)
  refine wp_stk1 fun S hS hz b5 => ?_
  obtain ⟨g5, hg5⟩ : ∃ g, g = T.heap.size := ⟨_, rfl⟩
  rw [← hg5] at b5 ⊢
  have b1 := HB1T.out.keep hS
  have b4 := HB4T.out.keep hS
  have k9 := (hS.cell (p := ⟨g9, o9, none⟩) l9).trans HV9.out
  have l9S := Nat.lt_of_lt_of_le l9 hS.size
  have HS := Lib.hid (HT.out.trans (hS.mono HT.out.size))
  have HXS := Lib.hid (show StrIn S ⟨.slice (some ⟨gr, 0, none⟩) 3 3, .slice (some ⟨gb, 0, none⟩) 3 3⟩ sst from ⟨RdA.keep HXT.out.1 hS, RdA.keep HXT.out.2 hS⟩)
  have HFS := Lib.hid (HFT.out.keep hS)
  have HB5 := Lib.hid b5
  have HK9 := Lib.hid k9
  have c1 := b1.cell
  have l1 := b1.lt
  have c4 := b4.cell
  have l4 := b4.lt
  have c5 := b5.cell
  have l5 := b5.lt
  clear hS hz hg5 b1 b4 b5 k9
  go_wp2_with fail
  refine (gSums15 _ _ S HFS.out HXS.out).mono ?_
  rintro e R ⟨gs, rfl, hs, hR⟩
  have HR := Lib.hid (HS.out.trans (hR.mono HS.out.size))
  have HSs := Lib.hid hs
  have b5 := HB5.out.keep hR
  have HB5R := Lib.hid b5
  have k9 := (hR.cell (p := ⟨g9, o9, none⟩) l9S).trans HK9.out
  have l9R := Nat.lt_of_lt_of_le l9S hR.size
  have HK9R := Lib.hid k9
  clear c1 l1 c4 l4 c5 l5 hR hs b5 k9 l9S
  go_wp2_with fail
  refine calls_stk1 fun Q hQ hz bq => ?_
  have HQ := Lib.hid (HR.out.trans (hQ.mono HR.out.size))
  have HSQ := Lib.hid (HSs.out.keep hQ)
  have HB5Q := Lib.hid (HB5R.out.keep hQ)
  have HK9Q := Lib.hid ((hQ.cell (p := ⟨g9, o9, none⟩) l9R).trans HK9R.out)
  have l9Q := Nat.lt_of_lt_of_le l9R hQ.size
  refine (gSame15 25 gs R.heap.size Q HSQ.out bq).mono ?_
  rintro e P ⟨rfl, hP⟩
  have HP := Lib.hid (HQ.out.trans (hP.mono HQ.out.size))
  have b5 := HB5Q.out.keep hP
  have c5 := b5.cell
  have l5 := b5.lt
  have k9 := (hP.cell (p := ⟨g9, o9, none⟩) l9Q).trans HK9Q.out
  have l9P := Nat.lt_of_lt_of_le l9Q hP.size
  clear hQ hz bq hP b5
  go_wp2_with fail
  exact bodyPost_ret (v := .bool true) (by simp [results, Tryz.results4, go_sem]) rfl ⟨rfl, HP.out⟩
end Go.Proofs.YtficeebbbkmhcaaGreatDoor
namespace Go.Proofs.YtficeebbbkmhcaaGreatDoor
open Go.RowKit

def rdgB (b0 b1 b2 : Nat) : Rdg := ⟨(b0 % 16 : Nat), b1, (b0 / 16 : Nat), b2⟩
theorem rdgB_ok (b0 b1 b2 : Nat) (h0 : b0 < 256) (h1 : b1 < 256) (h2 : b2 < 256) : (rdgB b0 b1 b2).ok := by
  unfold rdgB Rdg.ok
  dsimp only
  omega
theorem en_attestor_attestorref12_Reading : ∀ args w, (callFunc 22 args).run Tryz.prog w = .ok (.enter 22 args) w := enters_of Tryz.func22 (by kernel_rfl) rfl
set_option maxRecDepth 100000 in
theorem gDecode (b0 b1 b2 : Nat) (h0 : b0 < 256) (h1 : b1 < 256) (h2 : b2 < 256) (g : Nat) (w : World) (hb : Blk w g 5 #[.int .u8 (b0 : Int), .int .u8 (b1 : Int), .int .u8 (b2 : Int)]) :
    Calls Tryz.prog 54 #[.slice (some ⟨g, 0, none⟩) 3 3] w (Ret (.tuple #[rdV (rdgB b0 b1 b2), .int .i64 0]) w) := by
  have HB := Lib.hid hb
  clear hb
  go_enter Tryz.func54, Tryz.ntmps54
  go_upto_region 1 with (fail)
  refine wp_stk1 fun W hW hz b2' => ?_
  have hbW := HB.out.keep hW
  have f1 := gw_blk hbW
  have l1 := hbW.lt
  have HW := Lib.hid hW
  have HB2 := Lib.hid b2'
  obtain ⟨g2, hg2⟩ : ∃ g, g = w.heap.size := ⟨_, rfl⟩
  rw [← hg2] at HB2 ⊢
  have hw2 : w.heap.size ≤ g2 := by omega
  clear hW hz hbW hg2 b2'
  go_upto_region 3 with (fail)
  refine wp_region_rg 19 [] (by kernel_rfl) (by kernel_rfl) (by kernel_rfl) trivial ?_
  iterate 19 (refine rg_det rfl rfl rfl (fun K hK => ?_); go_big_quiet_op; refine hK _ ?_; clear hK K)
  refine rg_nil (fun w' hw' hF => ?_)
  obtain ⟨z, rfl⟩ := hw'
  simp only [List.drop_succ_cons, List.drop_zero]
  obtain ⟨X, hX⟩ : ∃ X, X = z.w := ⟨_, rfl⟩
  have HX := Lib.hid (HW.out.trans (z.h.mono HW.out.size))
  have b2 := HB2.out.keep z.h
  rw [← hX] at HX b2 ⊢
  have HB2X := Lib.hid b2
  have c2 := b2.cell
  have e2 := b2.frozen
  have l2 := b2.lt
  clear hF hX z f1 b2
  go_wp2_with fail
  refine set4P (M := fun W => bodyPost _ _ _ _ _ W) HB2X.out fun T hT bT => ?_
  have hT2 : Blk T g2 69 (rdc (rdgB b0 b1 b2)).toArray := bT
  exact bodyPost_ret (v := .tuple #[rdV (rdgB b0 b1 b2), .int .i64 0]) (res_mt (c1 := rdc (rdgB b0 b1 b2)) (g1 := g2) rfl rfl rfl rd_under15 rfl (by rw [rd_size15]; rfl) hT2) rfl ⟨rfl, below_put HX.out hT hw2⟩
end Go.Proofs.YtficeebbbkmhcaaGreatDoor
namespace Go.Proofs.YtficeebbbkmhcaaGreatDoor
open Go.RowKit

set_option maxRecDepth 100000 in
theorem gReading12 (b0 b1 b2 : Nat) (h0 : b0 < 256) (h1 : b1 < 256) (h2 : b2 < 256) (w : World) : Calls Tryz.prog 22 #[.agg #[.int .u8 (b0 : Int), .int .u8 (b1 : Int), .int .u8 (b2 : Int)]] w (Ret (rdV (rdgB b0 b1 b2)) w) := by
  have HD := Lib.hid (fun g W hb => gDecode b0 b1 b2 h0 h1 h2 g W hb)
  unfold rdV rdc at HD
  obtain ⟨r, hr⟩ : ∃ r, r = rdgB b0 b1 b2 := ⟨_, rfl⟩
  rw [← hr] at HD ⊢
  clear hr
  go_enter Tryz.func22, Tryz.ntmps22
  go_upto_region 1 with (fail)
  refine wp_stk2 fun W hW hz bx br => ?_
  have HW := Lib.hid hW
  obtain ⟨g2, hg2⟩ : ∃ g, g = w.heap.size + 1 := ⟨_, rfl⟩
  rw [← hg2] at br ⊢
  have hw2 : w.heap.size ≤ g2 := by omega
  have HR := Lib.hid br
  have c1 := bx.cell
  have l1 := bx.lt
  clear hW hz hg2 br bx
  go_wp2_with fail
  refine calls_stk1 fun V hV hz b3 => ?_
  have HV := Lib.hid (HW.out.trans (hV.mono HW.out.size))
  have HRV := Lib.hid (HR.out.keep hV)
  have l1V := Nat.lt_of_lt_of_le l1 hV.size
  refine (HD.out _ V b3).mono ?_
  rintro e X ⟨rfl, hX⟩
  have HX := Lib.hid (HV.out.trans (hX.mono HV.out.size))
  have HRX := Lib.hid (HRV.out.keep hX)
  clear c1 l1 hV hz b3 hX l1V
  go_upto_region 2 with (fail)
  refine wp_stk1 fun Y hY hz b3 => ?_
  have HY := Lib.hid (HX.out.trans (hY.mono HX.out.size))
  have br := HRX.out.keep hY
  have HRY := Lib.hid br
  have c2 := br.cell
  have e2 := br.frozen
  have l2 := br.lt
  have c3 := b3.cell
  have l3 := b3.lt
  clear hY hz b3 br
  go_wp2_with fail
  refine set4P (M := fun W => bodyPost _ _ _ _ _ W) HRY.out fun T hT bT => ?_
  have hT2 : Blk T g2 69 (rdc r).toArray := bT
  exact bodyPost_ret (v := rdV r) (res_row (cs := rdc r) (g := g2) rfl rfl rd_under15 rfl (by rw [rd_size15]; rfl) hT2) rfl ⟨rfl, below_put HY.out hT hw2⟩
set_option maxRecDepth 100000 in
theorem gRetrE (s : Stm) (i : Nat) (r : Rdg) (hi : s[i]? = some (r, true)) (x : StrW) (w : World) (hx : StrIn w x s) : Calls Tryz.prog 20 #[.agg (smc x).toArray, .int .i64 (i : Int)] w (Ret (.tuple #[.agg #[.slice none 0 0, .slice none 0 0], .int .i64 120]) w) := by
  have hil : i < s.length := (List.getElem?_eq_some_iff.1 hi).1
  have HI := Lib.hid hi
  obtain ⟨x1, x2⟩ := x
  obtain ⟨A1, cap1, hv1⟩ := Rd.len hx.1
  dsimp only at hv1
  subst hv1
  obtain ⟨g2, o2, cap2, hv2, hc2, -, -, l2, q2⟩ := Rd.form hx.2 (by omega)
  dsimp only at hv2
  subst hv2
  have HQ := Lib.hid (q2 i (.bool true) (gnc_get15 hi))
  obtain ⟨n, hn⟩ : ∃ n, n = s.length := ⟨_, rfl⟩
  rw [← hn] at hil ⊢
  unfold smc
  dsimp only
  clear hx q2 hi hn
  go_enter Tryz.func20, Tryz.ntmps20
  go_upto_region 1 with (fail)
  refine wp_stk2 fun W hW hz b2 b4 => ?_
  obtain ⟨g4, hg4⟩ : ∃ g, g = w.heap.size + 1 := ⟨_, rfl⟩
  rw [← hg4] at b4 ⊢
  have hw4 : w.heap.size ≤ g4 := by omega
  have HW := Lib.hid hW
  have HB4 := Lib.hid b4
  have c2 := b2.cell
  have lb := b2.lt
  have c4 := b4.cell
  have e4 := b4.frozen
  have l4 := b4.lt
  have kq := (hW.cell (p := ⟨g2, o2 + i, none⟩) l2).trans HQ.out
  have lq := Nat.lt_of_lt_of_le l2 hW.size
  have hz1 : ¬ ((i : Int) < 0) := by omega
  have hz2 : ¬ ((n : Int) ≤ (i : Int)) := by omega
  clear hW hz hg4 b2 b4
  go_wp2_with fail
  refine set2 (M := fun W => bodyPost _ _ _ _ _ W) HB4.out fun T hT bT => ?_
  exact bodyPost_ret (v := .tuple #[.agg #[.slice none 0 0, .slice none 0 0], .int .i64 120]) (res_mt (c1 := [.slice none 0 0, .slice none 0 0]) (g1 := g4) rfl rfl rfl strm_under rfl (by rw [strm_size]; rfl) bT) rfl ⟨rfl, below_put HW.out hT hw4⟩
end Go.Proofs.YtficeebbbkmhcaaGreatDoor
namespace Go.Proofs.YtficeebbbkmhcaaGreatDoor
open Go.RowKit

attribute [local irreducible] wpRg keyD sha leafD pairD r26 w26
end Go.Proofs.YtficeebbbkmhcaaGreatDoor
namespace Go.Proofs.YtficeebbbkmhcaaGreatDoor
open Go.RowKit

theorem smc_one {b : Bse} {u : StrW} {s : Stm} (h : StrIB b u s) : ∀ v ∈ smc u, v.oneCell' = true := by
  obtain ⟨⟨A1, c1, e1⟩, ⟨A2, c2, e2⟩⟩ := h.len
  intro v hv
  simp only [smc, List.mem_cons, List.not_mem_nil, or_false] at hv
  rcases hv with rfl | rfl
  · rw [e1]; rfl
  · rw [e2]; rfl
def TupS (_ : Nat) (v : Value) : Prop := ∃ (x : StrW) (_ : Unit), v = .tuple #[.agg (smc x).toArray, .int .i64 0]
theorem StrIB.fwd {X Y : World} {S : Nat → Prop} {u : StrW} {s : Stm} (h : StrIB ⟨X, S⟩ u s) (hb : Below X.heap.size X Y) : StrIB ⟨Y, S⟩ u s := h.le (Bse.le_ok (c := ⟨Y, S⟩) ((Bse.ok_self ⟨X, S⟩).below hb) fun _ hg => hg.1)
theorem StrIB.pt {X Y : World} {S : Nat → Prop} {u : StrW} {s : Stm} {g : Nat} (h : StrIB ⟨X, S⟩ u s) (hp : Put X Y g) (hg : ¬ S g) : StrIB ⟨Y, S⟩ u s := h.le (Bse.le_ok (c := ⟨Y, S⟩) ((Bse.ok_self ⟨X, S⟩).put hp fun h => hg h.1) fun _ hg => hg.1)
theorem rdgIn_ok {r : Rdg} (h : r.ok) : RdgIn r := by
  unfold Rdg.ok at h
  unfold RdgIn
  omega
theorem gnc_get {s : Stm} {i : Nat} {r : Rdg} {b : Bool} (h : s[i]? = some (r, b)) : (gnc s)[i]? = some (.bool b) := by simp [gnc, h]
theorem rdsc_rng {s : Stm} {i : Nat} {r : Rdg} {b : Bool} (h : s[i]? = some (r, b)) (j : Nat) (v : Value) (hv : (rdc r)[j]? = some v) : (rdsc s)[i * 4 + j]? = some v :=
  flat_get (f := fun y : Rdg × Bool => rdc y.1) (fun _ => rfl) s i j _ v h hv
def RstI (S : Nat → Prop) (s : Stm) (lo hi : Nat) (v : Value) (w : World) : Prop := (∀ g, S g → g < hi) ∧ ∃ x : StrW, v = .tuple #[.agg (smc x).toArray, .int .i64 0] ∧ StrIB ⟨w, fun g => S g ∨ (lo ≤ g ∧ g < hi)⟩ x s
theorem fit_rsti {S : Nat → Prop} {s : Stm} : Fit (RstI S s) TupS := ⟨fun n m v w w' ⟨h1, x, h2, h3⟩ hb => ⟨h1, x, h2, h3.le (Bse.le_ok (c := ⟨w', fun g => S g ∨ (n ≤ g ∧ g < m)⟩) ⟨hb.size, fun g hg => hb.block g (hg.1.elim (fun h => h1 g h) fun h => h.2)⟩ fun _ hg => hg.1)⟩, fun _ => ⟨_, ⟨.slice none 0 0, .slice none 0 0⟩, (), rfl⟩, fun n m v w h => by
  obtain ⟨_, x, rfl, _⟩ := h
  exact ⟨x, (), rfl⟩⟩
theorem sresI {b : Bse} {s : Stm} {w : World} (hb : b.W.heap.size ≤ w.heap.size) : ∀ r W2, (∃ x' : StrW, r = .returned (.tuple #[.agg (smc x').toArray, .int .i64 0]) ∧ StrIB (b.new w W2) x' s ∧ Below w.heap.size w W2) → RetR (RstI (InB b) s) w r W2 := fun r W2 ⟨x, h1, h2, h3⟩ =>
  ⟨_, h1, ⟨fun g hg => by have := hg.2; have := h3.size; omega, x, rfl, h2.le (Bse.le_ok (c := ⟨W2, fun g => InB b g ∨ (w.heap.size ≤ g ∧ g < W2.heap.size)⟩) (Bse.ok_self _) fun g hg => hg.1.imp id fun h => ⟨h, hg.2⟩)⟩, h3⟩
theorem rsti_of {S : Nat → Prop} {s : Stm} {lo hi : Nat} {x : StrW} {w : World} (h : RstI S s lo hi (.tuple #[.agg (smc x).toArray, .int .i64 0]) w) : StrIB ⟨w, fun g => S g ∨ (lo ≤ g ∧ g < hi)⟩ x s := by
  obtain ⟨_, x2, h2, h3⟩ := h
  have hv : x2 = x := by
    simp only [Value.tuple.injEq, Value.agg.injEq, smc, Array.mk.injEq, List.cons.injEq, and_true, List.toArray_inj] at h2
    obtain ⟨a, b⟩ := x
    obtain ⟨c, d⟩ := x2
    simp only [StrW.mk.injEq]
    exact ⟨h2.1.symm, h2.2.symm⟩
  subst hv
  exact h3
theorem StrIB.sub {X : World} {S T : Nat → Prop} {u : StrW} {s : Stm} (h : StrIB ⟨X, S⟩ u s) (hS : ∀ g, S g → g < X.heap.size → T g) : StrIB ⟨X, T⟩ u s := h.le (Bse.le_ok (c := ⟨X, T⟩) (Bse.ok_self ⟨X, S⟩) fun g hg => hS g hg.1 hg.2)
end Go.Proofs.YtficeebbbkmhcaaGreatDoor
