/-
  Readings: their fields, whether they are valid, how they are written.
  The program's Retract.
  The number of zeros at the end, for few leaves.
-/
import Derived.Test.YtoiampgfnidfdaaGreatDoorAd26
import Derived.Test.YtoiampgfnidfdaaGreatDoorCs26
namespace Go.Proofs.YtoiampgfnidfdaaGreatDoor
open Go.RowKit

def rdc (r : Rdg) : List Value := [.int .i64 r.who, .int .i64 r.when, .int .i64 r.kind, .int .i64 r.value]
def rdV (r : Rdg) : Value := .agg (rdc r).toArray
def RdgIn (r : Rdg) : Prop := (-9223372036854775808 ≤ r.who ∧ r.who ≤ 9223372036854775807) ∧ (-9223372036854775808 ≤ r.when ∧ r.when ≤ 9223372036854775807) ∧ (-9223372036854775808 ≤ r.kind ∧ r.kind ≤ 9223372036854775807) ∧ (-9223372036854775808 ≤ r.value ∧ r.value ≤ 9223372036854775807)
theorem en_attestor_reading_fields_1 : ∀ args w, (callFunc 126 args).run Tryz.prog w = .ok (.enter 126 args) w := enters_of Tryz.func126 (by kernel_rfl) rfl
theorem en_attestor_reading_fields_2 : ∀ args w, (callFunc 127 args).run Tryz.prog w = .ok (.enter 127 args) w := enters_of Tryz.func127 (by kernel_rfl) rfl
theorem en_attestor_reading_fields_3 : ∀ args w, (callFunc 128 args).run Tryz.prog w = .ok (.enter 128 args) w := enters_of Tryz.func128 (by kernel_rfl) rfl
theorem en_attestor_reading_fields_4 : ∀ args w, (callFunc 129 args).run Tryz.prog w = .ok (.enter 129 args) w := enters_of Tryz.func129 (by kernel_rfl) rfl
theorem en_attestor_reading_Valid : ∀ args w, (callFunc 57 args).run Tryz.prog w = .ok (.enter 57 args) w := enters_of Tryz.func57 (by kernel_rfl) rfl
theorem en_attestor_reading_Encode : ∀ args w, (callFunc 61 args).run Tryz.prog w = .ok (.enter 61 args) w := enters_of Tryz.func61 (by kernel_rfl) rfl
theorem gField1 (r : Rdg) (w : World) : Calls Tryz.prog 126 #[rdV r] w fun e w2 => e = .returned (.int .i64 r.who) ∧ Below w.heap.size w w2 := by
  unfold rdV rdc
  go_enter Tryz.func126, Tryz.ntmps126
  go_wp2
  go_ret
  exact ⟨rfl, (Below.refl _ w).alloc (Nat.le_refl _) _⟩
theorem gField2 (r : Rdg) (w : World) : Calls Tryz.prog 127 #[rdV r] w fun e w2 => e = .returned (.int .i64 r.when) ∧ Below w.heap.size w w2 := by
  unfold rdV rdc
  go_enter Tryz.func127, Tryz.ntmps127
  go_wp2
  go_ret
  exact ⟨rfl, (Below.refl _ w).alloc (Nat.le_refl _) _⟩
theorem gField3 (r : Rdg) (w : World) : Calls Tryz.prog 128 #[rdV r] w fun e w2 => e = .returned (.int .i64 r.kind) ∧ Below w.heap.size w w2 := by
  unfold rdV rdc
  go_enter Tryz.func128, Tryz.ntmps128
  go_wp2
  go_ret
  exact ⟨rfl, (Below.refl _ w).alloc (Nat.le_refl _) _⟩
theorem gField4 (r : Rdg) (w : World) : Calls Tryz.prog 129 #[rdV r] w fun e w2 => e = .returned (.int .i64 r.value) ∧ Below w.heap.size w w2 := by
  unfold rdV rdc
  go_enter Tryz.func129, Tryz.ntmps129
  go_wp2
  go_ret
  exact ⟨rfl, (Below.refl _ w).alloc (Nat.le_refl _) _⟩
def fldC : List Value := [.func (.func 126) #[] #[], .int .i64 4, .func (.func 127) #[] #[], .int .i64 8, .func (.func 128) #[] #[], .int .i64 4, .func (.func 129) #[] #[], .int .i64 8]
theorem fld_under : Tryz.prog.underlying 144 = some (.array 4 143) := by kernel_rfl
theorem fld_size : (Tryz.prog.info? 144).map (·.size) = some 8 := by kernel_rfl
set_option maxRecDepth 100000 in
theorem gFields (w : World) : Calls Tryz.prog 102 #[] w fun e w2 => e = .returned (.agg fldC.toArray) ∧ Below w.heap.size w w2 := by
  go_enter Tryz.func102, Tryz.ntmps102
  go_upto_region 1 with (fail)
  refine wp_stk1 fun W hB hz b1 => ?_
  obtain ⟨cs0, hcs0, b1'⟩ : ∃ cs : Array Value, cs.size = 8 ∧ Blk W w.heap.size 144 cs := ⟨_, rfl, b1⟩
  clear b1 hz
  refine wp_region_lit ?_
  iterate 5 (refine wpList_plain rfl fun K hK => ?_; go_big_op; refine hK _ _ ?_; clear hK K)
  refine wpList_put rfl 144 (.tmp 0) (.tmp 5) rfl rfl (cells := fldC) rfl b1' (by rw [hcs0]; decide) fld_size rfl (spl_all _ _ (by rw [hcs0]; rfl)) fun Y hY bY => ?_
  have hBY := below_put hB hY (Nat.le_refl _)
  clear b1' hB hcs0
  go_wp2_with fail
  exact bodyPost_ret (v := .agg fldC.toArray) (res_row (g := w.heap.size) rfl rfl fld_under rfl fld_size bY) rfl ⟨rfl, hBY⟩
theorem nib_or : ∀ a b : Fin 16, bits .or .i64 ((a.val : Nat) : Int) (wrap64 (((b.val : Nat) : Int) * 16)) % 256 = ((a.val + 16 * b.val : Nat) : Int) := by decide +kernel
theorem nib_or' (a b : Int) (ha : 0 ≤ a ∧ a < 16) (hb : 0 ≤ b ∧ b < 16) : bits .or .i64 a (wrap64 (b * 16)) % 256 = (((a + 16 * b).toNat : Nat) : Int) := by
  obtain ⟨x, rfl⟩ : ∃ x : Nat, a = (x : Int) := ⟨a.toNat, by omega⟩
  obtain ⟨y, rfl⟩ : ∃ y : Nat, b = (y : Int) := ⟨b.toNat, by omega⟩
  have := nib_or ⟨x, by omega⟩ ⟨y, by omega⟩
  dsimp only at this
  rw [this]
  omega
set_option maxRecDepth 100000 in
set_option maxHeartbeats 1000000 in
theorem gEncR (r : Rdg) (hr : r.ok) (w : World) : Calls Tryz.prog 61 #[rdV r] w fun e w2 => ∃ v, e = .returned v ∧ ByS w.heap.size w2.heap.size w2 v r.enc ∧ Below w.heap.size w w2 := by
  obtain ⟨h1, h2, h3, h4⟩ := hr
  have HE : byc r.enc = [.int .u8 (bits BinOp.or IntKind.i64 r.who (wrap64 (r.kind * 16)) % 256), .int .u8 (r.when % 256), .int .u8 (r.value % 256)] := by
    rw [nib_or' _ _ h1 h3, Int.emod_eq_of_lt h2.1 h2.2, Int.emod_eq_of_lt h4.1 h4.2]
    have e2 := h2.1
    have e4 := h4.1
    simp [byc, Rdg.enc]
    omega
  have HB := Lib.hid HE
  clear HE h1 h2 h3 h4
  unfold rdV rdc
  go_enter Tryz.func61, Tryz.ntmps61
  go_wp2_with fail
  refine bodyPost_ret (results_tmp rfl _ _ _) rfl ⟨_, rfl, ?_, ?_⟩
  · refine bys_blk (l := r.enc) (t := 5) ?_ (by simp [Rdg.enc]) (Nat.le_succ _) (by simp)
    rw [HB.out]
    have := World.alloc_heap_new (w.alloc (.cells #[.int .i64 r.who, .int .i64 r.when, .int .i64 r.kind, .int .i64 r.value] 28)) (.cells #[.int .u8 (bits BinOp.or IntKind.i64 r.who (wrap64 (r.kind * 16)) % 256), .int .u8 (r.when % 256), .int .u8 (r.value % 256)] 5)
    simpa [Blk] using this
  · exact ((Below.refl _ w).alloc (Nat.le_refl _) _).alloc (by simp) _
theorem fe_under : Tryz.prog.underlying 143 = some (.struct (Tryz.prog.fieldsOf 143)) := by kernel_rfl
def fldE : Nat → List Value
  | 0 => [.func (.func 126) #[] #[], .int .i64 4]
  | 1 => [.func (.func 127) #[] #[], .int .i64 8]
  | 2 => [.func (.func 128) #[] #[], .int .i64 4]
  | _ => [.func (.func 129) #[] #[], .int .i64 8]
theorem run_ixF (k : Nat) (hk : k < 4) (w : World) : (Instr.index 144 (.agg fldC.toArray) (.int .i64 (k : Int))).run Tryz.prog w = .ok (.agg (fldE k).toArray) w := by
  obtain ⟨i, hi, hs⟩ : ∃ i, Tryz.prog.info? 143 = some i ∧ i.size = 2 := by
    have i8 : (Tryz.prog.info? 143).map (·.size) = some 2 := by kernel_rfl
    cases h : Tryz.prog.info? 143 with
    | none => rw [h] at i8; cases i8
    | some i => rw [h] at i8; exact ⟨i, rfl, by simpa using i8⟩
  obtain rfl | rfl | rfl | rfl : k = 0 ∨ k = 1 ∨ k = 2 ∨ k = 3 := by omega
  all_goals simp [Instr.index, asIntOf, run_underlying fld_under, run_underlying fe_under, part, sizeOf, typeInfo, hi, hs, fldC, fldE]
theorem fe_info : (Tryz.prog.info? 143).map (fun i => (i.zero, i.size)) = some (some (.agg #[.nilFunc, .int .i64 0]), 2) := by kernel_rfl
theorem fe_parts : ∃ i, Tryz.prog.info? 143 = some i ∧ i.zero = some (.agg #[.nilFunc, .int .i64 0]) ∧ i.size = 2 := by
  have h := fe_info
  cases hh : Tryz.prog.info? 143 with
  | none => rw [hh] at h; cases h
  | some i =>
    rw [hh] at h
    simp only [Option.map_some, Option.some.injEq, Prod.mk.injEq] at h
    exact ⟨i, rfl, h.1, h.2⟩
def fldK (r : Rdg) : Nat → Prop
  | 0 => True
  | 1 => 0 ≤ r.who ∧ r.who < 16
  | 2 => (0 ≤ r.who ∧ r.who < 16) ∧ (0 ≤ r.when ∧ r.when < 256)
  | 3 => (0 ≤ r.who ∧ r.who < 16) ∧ (0 ≤ r.when ∧ r.when < 256) ∧ (0 ≤ r.kind ∧ r.kind < 16)
  | _ => r.ok
theorem rd_under : Tryz.prog.underlying 28 = some (.struct (Tryz.prog.fieldsOf 28)) := by kernel_rfl
theorem rd_size : (Tryz.prog.info? 28).map (·.size) = some 4 := by kernel_rfl
set_option maxRecDepth 100000 in
set_option maxHeartbeats 4000000 in
theorem gValidR (r : Rdg) (hr : RdgIn r) (w : World) : Calls Tryz.prog 57 #[rdV r] w fun e w2 => e = .returned (.bool (decide r.ok)) ∧ Below w.heap.size w w2 := by
  have HR := Lib.hid hr
  obtain ⟨ie, hie, hie0, hie2⟩ := fe_parts
  have HV : rdV r = .agg #[.int .i64 r.who, .int .i64 r.when, .int .i64 r.kind, .int .i64 r.value] := rfl
  rw [HV]
  clear hr
  go_enter Tryz.func57, Tryz.ntmps57
  go_upto_region 1 with (fail)
  refine wp_stk1 fun W hB hz b1 => ?_
  have b1' : Blk W w.heap.size 28 #[.int .i64 r.who, .int .i64 r.when, .int .i64 r.kind, .int .i64 r.value] := b1
  have hWs : W.heap.size = w.heap.size + 1 := hz.out
  clear b1 hz
  go_wp2_with fail
  refine (gFields W).mono ?_
  rintro e W2 ⟨rfl, B6⟩
  have b1w := b1'.keep B6
  have hBw := hB.trans (B6.mono hB.size)
  have hW2 : w.heap.size + 1 ≤ W2.heap.size := by have := B6.size; omega
  clear b1' hB B6 hWs
  unfold fldC
  go_wp2_with fail
  go_loopw [7] (fun q wr => ∃ k : Nat, k ≤ 4 ∧ q = .int .i64 k ∧ fldK r k ∧ Blk wr w.heap.size 28 #[.int .i64 r.who, .int .i64 r.when, .int .i64 r.kind, .int .i64 r.value] ∧ Below w.heap.size w wr) (fun q _ => 4 - (intOf q).toNat)
  case atStart => exact ⟨0, by decide, rfl, trivial, b1w, hBw⟩
  case round =>
    clear b1w hBw hW2
    obtain ⟨k, hk, rfl, hf, b1, hB⟩ := hrel
    by_cases h4 : k < 4
    · obtain rfl | rfl | rfl | rfl : k = 0 ∨ k = 1 ∨ k = 2 ∨ k = 3 := by omega
      · skip
        have hix := run_ixF 0 (by decide) wr
        rw [show ((0 : Nat) : Int) = 0 from rfl] at hix
        unfold fldC fldE at hix
        go_upto_region 3 with (fail)
        refine wp_region_lit ?_
        iterate 1 (refine wpList_plain rfl fun K hK => ?_; go_big_op; refine hK _ _ ?_; clear hK K)
        refine wpList_plain rfl fun K4 hK4 => wp_of_step (stepAt_mono (fun v4 w4 hh => ?_) (step_new0 hie hie0 rfl))
        obtain ⟨rfl, rfl⟩ := hh
        refine hK4 _ _ ?_
        clear hK4 K4
        try simp only [Act.put, List.setIfInBounds_toArray, List.set_cons_succ, List.set_cons_zero]
        have b4 : Blk (wr.alloc (.cells (Value.agg #[.nilFunc, .int .i64 0]).cells 143)) wr.heap.size 143 #[.nilFunc, .int .i64 0] := World.alloc_heap_new wr _
        have B4 := (Below.refl _ wr).alloc (Nat.le_refl _) (.cells (Value.agg #[.nilFunc, .int .i64 0]).cells 143)
        generalize wr.alloc (.cells (Value.agg #[.nilFunc, .int .i64 0]).cells 143) = w4 at *
        refine wpList_put rfl 143 (.tmp 4) (.tmp 9) rfl rfl (cells := fldE 0) rfl b4 (by simp [fldE]) (by simp [hie, hie2, fldE]) rfl (spl_all _ _ rfl) fun X3 hX3 bX3 => ?_
        have BX3 : Below wr.heap.size wr X3 := below_put B4 hX3 (Nat.le_refl _)
        have b1X := b1.keep BX3
        have hBX := hB.trans (BX3.mono hB.size)
        unfold fldE at bX3
        have c40 := bX3.cell 0
        have c41 := bX3.cell 1
        simp only [List.getElem?_toArray, List.getElem?_cons_zero, List.getElem?_cons_succ] at c40 c41
        have l4 := bX3.lt
        clear bX3
        clear b4 B4 hX3 BX3 hix b1 hB
        try simp only [Act.put, List.setIfInBounds_toArray, List.set_cons_succ, List.set_cons_zero]
        go_upto_region 4 with (fail)
        refine wp_region_lit ?_
        iterate 2 (refine wpList_plain rfl fun K hK => ?_; go_big_op; refine hK _ _ ?_; clear hK K)
        refine wpList_plain rfl fun K8 hK8 => wp_of_step (stepAt_mono (fun v12 w12 hh => ?_) (step_loadR0 (cs := [.int .i64 r.who, .int .i64 r.when, .int .i64 r.kind, .int .i64 r.value]) rd_under rfl rd_size rfl rfl (blk_range b1X)))
        obtain ⟨rfl, rfl⟩ := hh
        refine hK8 _ _ ?_
        clear hK8 K8
        try simp only [Act.put, List.setIfInBounds_toArray, List.set_cons_succ, List.set_cons_zero]
        refine wpList_plain rfl fun K9 hK9 => wp_of_step (stepAt_mono (fun v13 w13 hh => ?_) (step_call_slot (R := fun v W2 => v = .int .i64 r.who ∧ Below w12.heap.size w12 W2) (first := []) (cap := []) en_attestor_reading_fields_1 ((gField1 r w12).mono fun e W2 h => ⟨_, h.1, rfl, h.2⟩) rfl rfl rfl rfl))
        obtain ⟨rfl, B13⟩ := hh
        refine hK9 _ _ ?_
        clear hK9 K9
        try simp only [Act.put, List.setIfInBounds_toArray, List.set_cons_succ, List.set_cons_zero]
        have b1Y := b1X.keep B13
        have hBY := hBX.trans (B13.mono hBX.size)
        have c1Y := (B13.cell l4).trans c41
        have l4Y := Nat.lt_of_lt_of_le l4 B13.size
        clear b1X hBX c40 c41 l4 B13
        go_wp2_with fail
        all_goals first
          | (refine ⟨⟨1, by decide, rfl, ?_, b1Y, hBY⟩, by simp [intOf]⟩
             simp only [fldK, Rdg.ok] at hf ⊢
             omega)
          | (go_ret
             refine ⟨by rw [decide_eq_false (p := r.ok) (by simp only [fldK, Rdg.ok] at hf ⊢; omega)]; rfl, hBY⟩)
      · skip
        have hix := run_ixF 1 (by decide) wr
        rw [show ((1 : Nat) : Int) = 1 from rfl] at hix
        unfold fldC fldE at hix
        go_upto_region 3 with (fail)
        refine wp_region_lit ?_
        iterate 1 (refine wpList_plain rfl fun K hK => ?_; go_big_op; refine hK _ _ ?_; clear hK K)
        refine wpList_plain rfl fun K12 hK12 => wp_of_step (stepAt_mono (fun v4 w4 hh => ?_) (step_new0 hie hie0 rfl))
        obtain ⟨rfl, rfl⟩ := hh
        refine hK12 _ _ ?_
        clear hK12 K12
        try simp only [Act.put, List.setIfInBounds_toArray, List.set_cons_succ, List.set_cons_zero]
        have b4 : Blk (wr.alloc (.cells (Value.agg #[.nilFunc, .int .i64 0]).cells 143)) wr.heap.size 143 #[.nilFunc, .int .i64 0] := World.alloc_heap_new wr _
        have B4 := (Below.refl _ wr).alloc (Nat.le_refl _) (.cells (Value.agg #[.nilFunc, .int .i64 0]).cells 143)
        generalize wr.alloc (.cells (Value.agg #[.nilFunc, .int .i64 0]).cells 143) = w4 at *
        refine wpList_put rfl 143 (.tmp 4) (.tmp 9) rfl rfl (cells := fldE 1) rfl b4 (by simp [fldE]) (by simp [hie, hie2, fldE]) rfl (spl_all _ _ rfl) fun X3 hX3 bX3 => ?_
        have BX3 : Below wr.heap.size wr X3 := below_put B4 hX3 (Nat.le_refl _)
        have b1X := b1.keep BX3
        have hBX := hB.trans (BX3.mono hB.size)
        unfold fldE at bX3
        have c40 := bX3.cell 0
        have c41 := bX3.cell 1
        simp only [List.getElem?_toArray, List.getElem?_cons_zero, List.getElem?_cons_succ] at c40 c41
        have l4 := bX3.lt
        clear bX3
        clear b4 B4 hX3 BX3 hix b1 hB
        try simp only [Act.put, List.setIfInBounds_toArray, List.set_cons_succ, List.set_cons_zero]
        go_upto_region 4 with (fail)
        refine wp_region_lit ?_
        iterate 2 (refine wpList_plain rfl fun K hK => ?_; go_big_op; refine hK _ _ ?_; clear hK K)
        refine wpList_plain rfl fun K16 hK16 => wp_of_step (stepAt_mono (fun v12 w12 hh => ?_) (step_loadR0 (cs := [.int .i64 r.who, .int .i64 r.when, .int .i64 r.kind, .int .i64 r.value]) rd_under rfl rd_size rfl rfl (blk_range b1X)))
        obtain ⟨rfl, rfl⟩ := hh
        refine hK16 _ _ ?_
        clear hK16 K16
        try simp only [Act.put, List.setIfInBounds_toArray, List.set_cons_succ, List.set_cons_zero]
        refine wpList_plain rfl fun K17 hK17 => wp_of_step (stepAt_mono (fun v13 w13 hh => ?_) (step_call_slot (R := fun v W2 => v = .int .i64 r.when ∧ Below w12.heap.size w12 W2) (first := []) (cap := []) en_attestor_reading_fields_2 ((gField2 r w12).mono fun e W2 h => ⟨_, h.1, rfl, h.2⟩) rfl rfl rfl rfl))
        obtain ⟨rfl, B13⟩ := hh
        refine hK17 _ _ ?_
        clear hK17 K17
        try simp only [Act.put, List.setIfInBounds_toArray, List.set_cons_succ, List.set_cons_zero]
        have b1Y := b1X.keep B13
        have hBY := hBX.trans (B13.mono hBX.size)
        have c1Y := (B13.cell l4).trans c41
        have l4Y := Nat.lt_of_lt_of_le l4 B13.size
        clear b1X hBX c40 c41 l4 B13
        go_wp2_with fail
        all_goals first
          | (refine ⟨⟨2, by decide, rfl, ?_, b1Y, hBY⟩, by simp [intOf]⟩
             simp only [fldK, Rdg.ok] at hf ⊢
             omega)
          | (go_ret
             refine ⟨by rw [decide_eq_false (p := r.ok) (by simp only [fldK, Rdg.ok] at hf ⊢; omega)]; rfl, hBY⟩)
      · skip
        have hix := run_ixF 2 (by decide) wr
        rw [show ((2 : Nat) : Int) = 2 from rfl] at hix
        unfold fldC fldE at hix
        go_upto_region 3 with (fail)
        refine wp_region_lit ?_
        iterate 1 (refine wpList_plain rfl fun K hK => ?_; go_big_op; refine hK _ _ ?_; clear hK K)
        refine wpList_plain rfl fun K20 hK20 => wp_of_step (stepAt_mono (fun v4 w4 hh => ?_) (step_new0 hie hie0 rfl))
        obtain ⟨rfl, rfl⟩ := hh
        refine hK20 _ _ ?_
        clear hK20 K20
        try simp only [Act.put, List.setIfInBounds_toArray, List.set_cons_succ, List.set_cons_zero]
        have b4 : Blk (wr.alloc (.cells (Value.agg #[.nilFunc, .int .i64 0]).cells 143)) wr.heap.size 143 #[.nilFunc, .int .i64 0] := World.alloc_heap_new wr _
        have B4 := (Below.refl _ wr).alloc (Nat.le_refl _) (.cells (Value.agg #[.nilFunc, .int .i64 0]).cells 143)
        generalize wr.alloc (.cells (Value.agg #[.nilFunc, .int .i64 0]).cells 143) = w4 at *
        refine wpList_put rfl 143 (.tmp 4) (.tmp 9) rfl rfl (cells := fldE 2) rfl b4 (by simp [fldE]) (by simp [hie, hie2, fldE]) rfl (spl_all _ _ rfl) fun X3 hX3 bX3 => ?_
        have BX3 : Below wr.heap.size wr X3 := below_put B4 hX3 (Nat.le_refl _)
        have b1X := b1.keep BX3
        have hBX := hB.trans (BX3.mono hB.size)
        unfold fldE at bX3
        have c40 := bX3.cell 0
        have c41 := bX3.cell 1
        simp only [List.getElem?_toArray, List.getElem?_cons_zero, List.getElem?_cons_succ] at c40 c41
        have l4 := bX3.lt
        clear bX3
        clear b4 B4 hX3 BX3 hix b1 hB
        try simp only [Act.put, List.setIfInBounds_toArray, List.set_cons_succ, List.set_cons_zero]
        go_upto_region 4 with (fail)
        refine wp_region_lit ?_
        iterate 2 (refine wpList_plain rfl fun K hK => ?_; go_big_op; refine hK _ _ ?_; clear hK K)
        refine wpList_plain rfl fun K24 hK24 => wp_of_step (stepAt_mono (fun v12 w12 hh => ?_) (step_loadR0 (cs := [.int .i64 r.who, .int .i64 r.when, .int .i64 r.kind, .int .i64 r.value]) rd_under rfl rd_size rfl rfl (blk_range b1X)))
        obtain ⟨rfl, rfl⟩ := hh
        refine hK24 _ _ ?_
        clear hK24 K24
        try simp only [Act.put, List.setIfInBounds_toArray, List.set_cons_succ, List.set_cons_zero]
        refine wpList_plain rfl fun K25 hK25 => wp_of_step (stepAt_mono (fun v13 w13 hh => ?_) (step_call_slot (R := fun v W2 => v = .int .i64 r.kind ∧ Below w12.heap.size w12 W2) (first := []) (cap := []) en_attestor_reading_fields_3 ((gField3 r w12).mono fun e W2 h => ⟨_, h.1, rfl, h.2⟩) rfl rfl rfl rfl))
        obtain ⟨rfl, B13⟩ := hh
        refine hK25 _ _ ?_
        clear hK25 K25
        try simp only [Act.put, List.setIfInBounds_toArray, List.set_cons_succ, List.set_cons_zero]
        have b1Y := b1X.keep B13
        have hBY := hBX.trans (B13.mono hBX.size)
        have c1Y := (B13.cell l4).trans c41
        have l4Y := Nat.lt_of_lt_of_le l4 B13.size
        clear b1X hBX c40 c41 l4 B13
        go_wp2_with fail
        all_goals first
          | (refine ⟨⟨3, by decide, rfl, ?_, b1Y, hBY⟩, by simp [intOf]⟩
             simp only [fldK, Rdg.ok] at hf ⊢
             omega)
          | (go_ret
             refine ⟨by rw [decide_eq_false (p := r.ok) (by simp only [fldK, Rdg.ok] at hf ⊢; omega)]; rfl, hBY⟩)
      · skip
        have hix := run_ixF 3 (by decide) wr
        rw [show ((3 : Nat) : Int) = 3 from rfl] at hix
        unfold fldC fldE at hix
        go_upto_region 3 with (fail)
        refine wp_region_lit ?_
        iterate 1 (refine wpList_plain rfl fun K hK => ?_; go_big_op; refine hK _ _ ?_; clear hK K)
        refine wpList_plain rfl fun K28 hK28 => wp_of_step (stepAt_mono (fun v4 w4 hh => ?_) (step_new0 hie hie0 rfl))
        obtain ⟨rfl, rfl⟩ := hh
        refine hK28 _ _ ?_
        clear hK28 K28
        try simp only [Act.put, List.setIfInBounds_toArray, List.set_cons_succ, List.set_cons_zero]
        have b4 : Blk (wr.alloc (.cells (Value.agg #[.nilFunc, .int .i64 0]).cells 143)) wr.heap.size 143 #[.nilFunc, .int .i64 0] := World.alloc_heap_new wr _
        have B4 := (Below.refl _ wr).alloc (Nat.le_refl _) (.cells (Value.agg #[.nilFunc, .int .i64 0]).cells 143)
        generalize wr.alloc (.cells (Value.agg #[.nilFunc, .int .i64 0]).cells 143) = w4 at *
        refine wpList_put rfl 143 (.tmp 4) (.tmp 9) rfl rfl (cells := fldE 3) rfl b4 (by simp [fldE]) (by simp [hie, hie2, fldE]) rfl (spl_all _ _ rfl) fun X3 hX3 bX3 => ?_
        have BX3 : Below wr.heap.size wr X3 := below_put B4 hX3 (Nat.le_refl _)
        have b1X := b1.keep BX3
        have hBX := hB.trans (BX3.mono hB.size)
        unfold fldE at bX3
        have c40 := bX3.cell 0
        have c41 := bX3.cell 1
        simp only [List.getElem?_toArray, List.getElem?_cons_zero, List.getElem?_cons_succ] at c40 c41
        have l4 := bX3.lt
        clear bX3
        clear b4 B4 hX3 BX3 hix b1 hB
        try simp only [Act.put, List.setIfInBounds_toArray, List.set_cons_succ, List.set_cons_zero]
        go_upto_region 4 with (fail)
        refine wp_region_lit ?_
        iterate 2 (refine wpList_plain rfl fun K hK => ?_; go_big_op; refine hK _ _ ?_; clear hK K)
        refine wpList_plain rfl fun K32 hK32 => wp_of_step (stepAt_mono (fun v12 w12 hh => ?_) (step_loadR0 (cs := [.int .i64 r.who, .int .i64 r.when, .int .i64 r.kind, .int .i64 r.value]) rd_under rfl rd_size rfl rfl (blk_range b1X)))
        obtain ⟨rfl, rfl⟩ := hh
        refine hK32 _ _ ?_
        clear hK32 K32
        try simp only [Act.put, List.setIfInBounds_toArray, List.set_cons_succ, List.set_cons_zero]
        refine wpList_plain rfl fun K33 hK33 => wp_of_step (stepAt_mono (fun v13 w13 hh => ?_) (step_call_slot (R := fun v W2 => v = .int .i64 r.value ∧ Below w12.heap.size w12 W2) (first := []) (cap := []) en_attestor_reading_fields_4 ((gField4 r w12).mono fun e W2 h => ⟨_, h.1, rfl, h.2⟩) rfl rfl rfl rfl))
        obtain ⟨rfl, B13⟩ := hh
        refine hK33 _ _ ?_
        clear hK33 K33
        try simp only [Act.put, List.setIfInBounds_toArray, List.set_cons_succ, List.set_cons_zero]
        have b1Y := b1X.keep B13
        have hBY := hBX.trans (B13.mono hBX.size)
        have c1Y := (B13.cell l4).trans c41
        have l4Y := Nat.lt_of_lt_of_le l4 B13.size
        clear b1X hBX c40 c41 l4 B13
        go_wp2_with fail
        all_goals first
          | (refine ⟨⟨4, by decide, rfl, ?_, b1Y, hBY⟩, by simp [intOf]⟩
             simp only [fldK, Rdg.ok] at hf ⊢
             omega)
          | (go_ret
             refine ⟨by rw [decide_eq_false (p := r.ok) (by simp only [fldK, Rdg.ok] at hf ⊢; omega)]; rfl, hBY⟩)
    · obtain rfl : k = 4 := by omega
      go_wp2_with fail
      go_ret
      simp only [fldK] at hf
      exact ⟨by rw [decide_eq_true hf]; rfl, hB⟩
end Go.Proofs.YtoiampgfnidfdaaGreatDoor
namespace Go.Proofs.YtoiampgfnidfdaaGreatDoor
open Go.RowKit

theorem en_attestor_meter_Retract_1 : ∀ args w, (callFunc 65 args).run Tryz.prog w = .ok (.enter 65 args) w := enters_of Tryz.func65 (by kernel_rfl) rfl
theorem en_attestor_meter_Retract : ∀ args w, (callFunc 16 args).run Tryz.prog w = .ok (.enter 16 args) w := enters_of Tryz.func16 (by kernel_rfl) rfl
theorem ep_of {w0 : Bse} {w W X : World} {N gE i : Nat} {us : List EpW} {u : EpW} {rest : List Value} {ps ps' : List PtW} {e : Ep} {pts : List Pt} (h : ChS w0 w W N gE us i u rest ps e) (hp : PtsN w0 N gE X u.p ps' pts) (hB : Below N W X) (hs : ps'.length ≤ 1000000) :
    PtsB ⟨X, fun g => InB w0 g ∨ N ≤ g⟩ u.p pts ∧ w0.le ⟨X, fun g => InB w0 g ∨ N ≤ g⟩ := by
  have ho : w0.ok X := h.h0.below (h.hB.trans (hB.mono h.hw))
  refine ⟨ptsB_own hp.1 hs (al_all fun Y hY => hp.2 Y ?_) (fun g hg => .inr hg), Bse.le_ok ho fun g hg => .inl hg⟩
  have hk := hY.keepsS
  exact ⟨hk.size, fun g hg hl => hk.same g hg.1 hl⟩
set_option maxRecDepth 100000 in
set_option maxHeartbeats 1000000 in
theorem fRetract (w0 : Bse) (w : World) (e : Ep) (hp : e.pts.length ≤ 1000) (hpt : ∀ p ∈ e.pts, p.R.length ≤ 60 ∧ p.V.length = 5) (b j : Nat) (hj : j ≤ 1000000) (hb : w.cell? ⟨b, 0, none⟩ = some (.int .i64 (j : Int))) (hbl : b < w.heap.size) (hL : Laid w) :
    FOk 65 [.pointer (some ⟨b, 0, none⟩)] w0 w e { e with pts := e.pts.map (addP j [0, 0, 0, 0, -1]) } := by
  intro W N gE us i u rest ps h
  have HH := Lib.hid h
  have HA := Lib.hid (gAddM w0 w W N gE i us u rest ps e h [0, 0, 0, 0, -1] rfl (by simp) j hj hp hpt hL)
  have cb := (h.hB.cell (p := ⟨b, 0, none⟩) hbl).trans hb
  have hbW := Nat.lt_of_lt_of_le hbl h.hB.size
  clear h
  show Calls Tryz.prog 65 #[.pointer (some ⟨gE, i * 5, none⟩), .pointer (some ⟨b, 0, none⟩)] W _
  go_enter Tryz.func65, Tryz.ntmps65
  go_wp2_with fail
  refine HA.out.mono ?_
  rintro r W2 ⟨⟨v, rfl⟩, ps', hpn, bE, hB⟩
  go_wp2
  go_end0
  obtain ⟨r1, r2, r3⟩ := HH.out.num
  have hl' : ps'.length = (e.pts.map (addP j [0, 0, 0, 0, -1])).length := (hpn.2 W2 (Keeps.refl _)).1
  rw [List.length_map] at hl'
  obtain ⟨q1, q2⟩ := ep_of HH.out hpn hB (by omega)
  exact ⟨⟨_, rfl⟩, u, bE, ⟨⟨r1, r2, r3⟩, q1, HH.out.pk.le q2⟩, hB⟩
def PtsN5 (m : Mt) : Prop := ∀ e ∈ m.eps, ∀ p ∈ e.pts, p.R.length ≤ 60 ∧ p.V.length = 5
attribute [local irreducible] wpRg
set_option maxRecDepth 100000 in
set_option maxHeartbeats 4000000 in
theorem gRetractM (m : Mt) (hN : MtN m) (h5 : PtsN5 m) (i : Int) (hi : -9223372036854775808 ≤ i ∧ i ≤ 9223372036854775807) (r : Rdg) (hr : RdgIn r) (vE : Value) (bs : Bse) (w : World) (hw : bs.ok w) (hL : Laid w) (hE : EpsB bs vE m.eps) : Calls Tryz.prog 16 #[mtV m vE, .int .i64 i, rdV r] w (MRes bs (retractM m i r) w) := by
  have HW := Lib.hid hw
  clear hw
  have HR := Lib.hid hr
  have H5 := Lib.hid h5
  have HI := Lib.hid hi
  have HL := Lib.hid hL
  obtain ⟨Sr, hSr⟩ : ∃ S, S = rdV r := ⟨_, rfl⟩
  rw [← hSr]
  obtain ⟨S, hS⟩ : ∃ S, S = mtV m vE := ⟨_, rfl⟩
  rw [← hS]
  have HN := Lib.hid hN
  have HE := Lib.hid hE
  obtain ⟨A, cap, rfl⟩ := hE.len
  have hml := hN.eps
  clear hN hE
  clear hr h5 hi hL
  go_enter Tryz.func16, Tryz.ntmps16
  go_upto_region 1 with (fail)
  refine wp_stk4 fun W hB hz b1 b4 b3 b2 => ?_
  have b1' : Blk W w.heap.size 35 (mtc m (.slice A m.eps.length cap)).toArray := by first | exact b1 | (rw [hS] at b1; exact b1)
  have b3' : Blk W (w.heap.size + 1 + 1) 28 (rdc r).toArray := by first | exact b3 | (rw [hSr] at b3; exact b3)
  obtain ⟨cs0, hcs0, b2'⟩ : ∃ cs : Array Value, cs.size = 34 ∧ Blk W (w.heap.size + 1 + 1 + 1) 35 cs := ⟨_, rfl, b2⟩
  have hsl := HN.out.seed.1
  clear b1 b2 b3 hz hS hSr
  refine wp_region_lit ?_
  refine wpList_plain rfl fun K3 hK3 => wp_of_step (stepAt_mono (fun v11 w11 hh => ?_) (step_loadR0 (cs := mtc m (.slice A m.eps.length cap)) mt_under rfl (by rw [mt_size, mtc_len _ _ hsl]) rfl rfl (blk_range b1')))
  obtain ⟨rfl, rfl⟩ := hh
  refine hK3 _ _ ?_
  clear hK3 K3
  try simp only [Act.put, List.setIfInBounds_toArray, List.set_cons_succ, List.set_cons_zero]
  refine wpList_plain rfl fun K4 hK4 => wp_of_step (stepAt_mono (fun v12 w12 hh => ?_) (step_callv en_attestor_meter_current (gCurrent m HN.out (.slice A m.eps.length cap) w11 (HE.out.old (HW.out.below hB))) rfl rfl))
  obtain ⟨rfl, B12⟩ := hh
  refine hK4 _ _ ?_
  clear hK4 K4
  try simp only [Act.put, List.setIfInBounds_toArray, List.set_cons_succ, List.set_cons_zero]
  have b1w := b1'.keep B12
  have b2w := b2'.keep B12
  have b3w := b3'.keep B12
  have b4w := b4.keep B12
  have hBw := hB.trans (B12.mono hB.size)
  clear b1' b2' b3' b4 hB B12
  try simp only [Act.put, List.setIfInBounds_toArray, List.set_cons_succ, List.set_cons_zero]
  go_upto_region 2 with (fail)
  refine wp_region_lit ?_
  refine wpList_plain rfl fun K6 hK6 => wp_of_step (stepAt_mono (fun v16 w16 hh => ?_) (step_loadR0 (cs := rdc r) rd_under rfl rd_size rfl rfl (blk_range b3w)))
  obtain ⟨rfl, rfl⟩ := hh
  refine hK6 _ _ ?_
  clear hK6 K6
  try simp only [Act.put, List.setIfInBounds_toArray, List.set_cons_succ, List.set_cons_zero]
  refine wpList_plain rfl fun K7 hK7 => wp_of_step (stepAt_mono (fun v17 w17 hh => ?_) (step_callv en_attestor_reading_Valid (gValidR r HR.out w16) rfl rfl))
  obtain ⟨rfl, B17⟩ := hh
  refine hK7 _ _ ?_
  clear hK7 K7
  try simp only [Act.put, List.setIfInBounds_toArray, List.set_cons_succ, List.set_cons_zero]
  replace b1w := b1w.keep B17
  replace b2w := b2w.keep B17
  replace b4w := b4w.keep B17
  replace hBw := hBw.trans (B17.mono hBw.size)
  obtain ⟨bo, hbo⟩ : ∃ b, b = decide r.ok := ⟨_, rfl⟩
  rw [← hbo]
  clear B17 b3w
  cases bo with
  | false =>
    have HC := Lib.hid (show retractM m i r = (m, 1) by unfold retractM; rw [if_pos (of_decide_eq_false hbo.symm)])
    clear hbo
    go_upto_region 3 with (fail)
    refine wp_region_lit ?_
    refine wpList_plain rfl fun K10 hK10 => wp_of_step (stepAt_mono (fun v19 w19 hh => ?_) (step_loadR0 (cs := mtc m (.slice (A) m.eps.length cap)) mt_under rfl (by rw [mt_size, mtc_len _ _ hsl]) rfl rfl (blk_range b1w)))
    obtain ⟨rfl, rfl⟩ := hh
    refine hK10 _ _ ?_
    clear hK10 K10
    try simp only [Act.put, List.setIfInBounds_toArray, List.set_cons_succ, List.set_cons_zero]
    refine wpList_put rfl 35 (.tmp 6) (.tmp 19) rfl rfl (cells := mtc m (.slice (A) m.eps.length cap)) rfl b2w (by rw [hcs0, mtc_len (m) _ hsl]; exact Nat.le_refl _) (by rw [mt_size, mtc_len (m) _ hsl]) (mtc_one _ _ rfl) (spl_all _ _ (by rw [hcs0, mtc_len (m) _ hsl])) fun X hX bX => ?_
    have hBX := below_put hBw hX (by omega)
    clear b1w b2w hX
    try simp only [Act.put, List.setIfInBounds_toArray, List.set_cons_succ, List.set_cons_zero]
    go_wp2_with fail
    refine bodyPost_ret (v := .tuple #[.agg (mtc m (.slice (A) m.eps.length cap)).toArray, .int .i64 1]) (res_mt (g1 := w.heap.size + 1 + 1 + 1) rfl rfl rfl mt_under rfl (by rw [mt_size, mtc_len _ _ hsl]) bX) rfl ?_
    rw [HC.out]
    exact ⟨_, rfl, HE.out.le (Bse.le_new (HW.out.below hBX)), hBX⟩
  | true =>
    have hok : ¬ ¬ r.ok := fun h => h (of_decide_eq_true hbo.symm)
    cases ho : m.isOpen with
    | false =>
      have HC := Lib.hid (show retractM m i r = (m, 260) by unfold retractM; rw [if_neg hok, if_pos ho])
      clear hbo ho hok
      go_upto_region 5 with (fail)
      refine wp_region_lit ?_
      refine wpList_plain rfl fun K15 hK15 => wp_of_step (stepAt_mono (fun v23 w23 hh => ?_) (step_loadR0 (cs := mtc m (.slice (A) m.eps.length cap)) mt_under rfl (by rw [mt_size, mtc_len _ _ hsl]) rfl rfl (blk_range b1w)))
      obtain ⟨rfl, rfl⟩ := hh
      refine hK15 _ _ ?_
      clear hK15 K15
      try simp only [Act.put, List.setIfInBounds_toArray, List.set_cons_succ, List.set_cons_zero]
      refine wpList_put rfl 35 (.tmp 6) (.tmp 23) rfl rfl (cells := mtc m (.slice (A) m.eps.length cap)) rfl b2w (by rw [hcs0, mtc_len (m) _ hsl]; exact Nat.le_refl _) (by rw [mt_size, mtc_len (m) _ hsl]) (mtc_one _ _ rfl) (spl_all _ _ (by rw [hcs0, mtc_len (m) _ hsl])) fun X hX bX => ?_
      have hBX := below_put hBw hX (by omega)
      clear b1w b2w hX
      try simp only [Act.put, List.setIfInBounds_toArray, List.set_cons_succ, List.set_cons_zero]
      go_wp2_with fail
      refine bodyPost_ret (v := .tuple #[.agg (mtc m (.slice (A) m.eps.length cap)).toArray, .int .i64 260]) (res_mt (g1 := w.heap.size + 1 + 1 + 1) rfl rfl rfl mt_under rfl (by rw [mt_size, mtc_len _ _ hsl]) bX) rfl ?_
      rw [HC.out]
      exact ⟨_, rfl, HE.out.le (Bse.le_new (HW.out.below hBX)), hBX⟩
    | true =>
      have hc : retractM m i r = if i < 0 ∨ i ≥ (m.at m.last).count then (m, 4)
          else (m.put m.last { m.at m.last with pts := (m.at m.last).pts.map (addP i.toNat [0, 0, 0, 0, -1]) }, 0) := by
        unfold retractM
        rw [if_neg hok, if_neg (by rw [ho]; decide)]
      obtain ⟨h0, hcl⟩ := isOpen_at ho
      have hli : ((m.eps.length : Int) - 1) = ((m.last : Nat) : Int) := by unfold Mt.last; omega
      have hll : m.last < m.eps.length := by unfold Mt.last; omega
      have hpl := (HN.out.ep _ _ (at_get m m.last hll))
      obtain ⟨g, off, cap', p, d, hv, hcp, hg, e0, e1, e2, e3, e4, -, -⟩ := (HE.out.old (HW.out.below hBw)).at (at_get m m.last hll)
      cases hv
      have H5a := Lib.hid (H5.out (m.at m.last) (List.mem_of_getElem? (at_get m m.last hll)))
      have c33 := mt_cell b1w hsl
      have c40 := b4w.cell 0
      have l1 := b1w.lt
      have l4 := b4w.lt
      simp only [List.getElem?_toArray, List.getElem?_cons_zero] at c40
      generalize m.last = n at *
      have HC := Lib.hid hc
      clear ho hcl h0 hc hok hbo e0 e2 e3 e4
      rw [hli]
      have k1 := gw_cell hg e1
      have k33 := gw_cell l1 c33
      have k40 := gw_cell l4 c40
      have hcnt := hpl.2.2.1
      obtain ⟨cnt, hcE⟩ : ∃ c, c = (m.at n).count := ⟨_, rfl⟩
      rw [← hcE] at k1 hcnt
      have HCE := Lib.hid hcE
      clear hcE e1 c33 c40 l1 l4 hcp
      by_cases hi0 : i < 0
      · go_upto_region 6 with (fail)
        refine wp_region_rg 13 [] (by kernel_rfl) (by kernel_rfl) (by kernel_rfl) trivial ?_
        iterate 3 (refine rg_det rfl rfl rfl (fun K hK => ?_); go_big_quiet_op; refine hK _ ?_; clear hK K)
        iterate 8 (refine rg_skip (by kernel_rfl) ?_; intro a' ha; simp only [Act.put, List.setIfInBounds_toArray, List.set_cons_succ, List.set_cons_zero] at ha; subst ha)
        iterate 2 (refine rg_det rfl rfl rfl (fun K hK => ?_); go_big_quiet_op; refine hK _ ?_; clear hK K)
        refine rg_nil (fun w' hw' hF => ?_)
        obtain ⟨z, rfl⟩ := hw'
        simp only [List.drop_succ_cons, List.drop_zero]
        replace b1w := b1w.keep z.h
        replace b2w := b2w.keep z.h
        replace b4w := b4w.keep z.h
        replace hBw := hBw.trans (z.h.mono hBw.size)
        clear k1 k33 k40 hF
        go_upto_region 7 with (fail)
        refine wp_region_lit ?_
        refine wpList_plain rfl fun K21 hK21 => wp_of_step (stepAt_mono (fun v37 w37 hh => ?_) (step_loadR0 (cs := mtc m (.slice (some ⟨g, off, none⟩) m.eps.length cap)) mt_under rfl (by rw [mt_size, mtc_len _ _ hsl]) rfl rfl (blk_range b1w)))
        obtain ⟨rfl, rfl⟩ := hh
        refine hK21 _ _ ?_
        clear hK21 K21
        try simp only [Act.put, List.setIfInBounds_toArray, List.set_cons_succ, List.set_cons_zero]
        refine wpList_put rfl 35 (.tmp 6) (.tmp 37) rfl rfl (cells := mtc m (.slice (some ⟨g, off, none⟩) m.eps.length cap)) rfl b2w (by rw [hcs0, mtc_len (m) _ hsl]; exact Nat.le_refl _) (by rw [mt_size, mtc_len (m) _ hsl]) (mtc_one _ _ rfl) (spl_all _ _ (by rw [hcs0, mtc_len (m) _ hsl])) fun X hX bX => ?_
        have hBX := below_put hBw hX (by omega)
        clear b1w b2w hX
        try simp only [Act.put, List.setIfInBounds_toArray, List.set_cons_succ, List.set_cons_zero]
        go_wp2_with fail
        refine bodyPost_ret (v := .tuple #[.agg (mtc m (.slice (some ⟨g, off, none⟩) m.eps.length cap)).toArray, .int .i64 4]) (res_mt (g1 := w.heap.size + 1 + 1 + 1) rfl rfl rfl mt_under rfl (by rw [mt_size, mtc_len _ _ hsl]) bX) rfl ?_
        rw [HC.out, if_pos (.inl hi0)]
        exact ⟨_, rfl, HE.out.le (Bse.le_new (HW.out.below hBX)), hBX⟩
      · obtain ⟨j, rfl⟩ : ∃ j : Nat, i = (j : Int) := ⟨i.toNat, by omega⟩
        clear hi0
        by_cases hi1 : (cnt : Int) ≤ (j : Int)
        · go_upto_region 6 with (fail)
          refine wp_region_rg 13 [] (by kernel_rfl) (by kernel_rfl) (by kernel_rfl) trivial ?_
          iterate 13 (refine rg_det rfl rfl rfl (fun K hK => ?_); go_big_quiet_op; refine hK _ ?_; clear hK K)
          refine rg_nil (fun w' hw' hF => ?_)
          obtain ⟨z, rfl⟩ := hw'
          simp only [List.drop_succ_cons, List.drop_zero]
          replace b1w := b1w.keep z.h
          replace b2w := b2w.keep z.h
          replace b4w := b4w.keep z.h
          replace hBw := hBw.trans (z.h.mono hBw.size)
          clear k1 k33 k40 hF
          go_upto_region 7 with (fail)
          refine wp_region_lit ?_
          refine wpList_plain rfl fun K27 hK27 => wp_of_step (stepAt_mono (fun v37 w37 hh => ?_) (step_loadR0 (cs := mtc m (.slice (some ⟨g, off, none⟩) m.eps.length cap)) mt_under rfl (by rw [mt_size, mtc_len _ _ hsl]) rfl rfl (blk_range b1w)))
          obtain ⟨rfl, rfl⟩ := hh
          refine hK27 _ _ ?_
          clear hK27 K27
          try simp only [Act.put, List.setIfInBounds_toArray, List.set_cons_succ, List.set_cons_zero]
          refine wpList_put rfl 35 (.tmp 6) (.tmp 37) rfl rfl (cells := mtc m (.slice (some ⟨g, off, none⟩) m.eps.length cap)) rfl b2w (by rw [hcs0, mtc_len (m) _ hsl]; exact Nat.le_refl _) (by rw [mt_size, mtc_len (m) _ hsl]) (mtc_one _ _ rfl) (spl_all _ _ (by rw [hcs0, mtc_len (m) _ hsl])) fun X hX bX => ?_
          have hBX := below_put hBw hX (by omega)
          clear b1w b2w hX
          try simp only [Act.put, List.setIfInBounds_toArray, List.set_cons_succ, List.set_cons_zero]
          go_wp2_with fail
          refine bodyPost_ret (v := .tuple #[.agg (mtc m (.slice (some ⟨g, off, none⟩) m.eps.length cap)).toArray, .int .i64 4]) (res_mt (g1 := w.heap.size + 1 + 1 + 1) rfl rfl rfl mt_under rfl (by rw [mt_size, mtc_len _ _ hsl]) bX) rfl ?_
          rw [HC.out, if_pos (.inr (by rw [← HCE.out]; exact hi1))]
          exact ⟨_, rfl, HE.out.le (Bse.le_new (HW.out.below hBX)), hBX⟩
        · go_upto_region 6 with (fail)
          refine wp_region_rg 13 [] (by kernel_rfl) (by kernel_rfl) (by kernel_rfl) trivial ?_
          iterate 13 (refine rg_det rfl rfl rfl (fun K hK => ?_); go_big_quiet_op; refine hK _ ?_; clear hK K)
          refine rg_nil (fun w' hw' hF => ?_)
          obtain ⟨z, rfl⟩ := hw'
          simp only [List.drop_succ_cons, List.drop_zero]
          replace b1w := b1w.keep z.h
          replace b2w := b2w.keep z.h
          replace b4w := b4w.keep z.h
          replace hBw := hBw.trans (z.h.mono hBw.size)
          clear k1 k33 k40 hF
          have c40 := b4w.cell 0
          have l4 := b4w.lt
          simp only [List.getElem?_toArray, List.getElem?_cons_zero] at c40
          have hc : retractM m j r = (m.put n { m.at n with pts := (m.at n).pts.map (addP j [0, 0, 0, 0, -1]) }, 0) := by
            rw [HC.out, if_neg (by rw [← HCE.out]; omega), Int.toNat_natCast]
          clear HC
          have HC := Lib.hid hc
          clear hc
          try simp only [Act.put, List.setIfInBounds_toArray, List.set_cons_succ, List.set_cons_zero]
          go_upto_region 8 with (fail)
          refine wp_region_lit ?_
          refine wpList_plain rfl fun K33 hK33 => wp_of_step (stepAt_mono (fun v38 w38 hh => ?_) (step_loadR0 (cs := mtc m (.slice (some ⟨g, off, none⟩) m.eps.length cap)) mt_under rfl (by rw [mt_size, mtc_len _ _ hsl]) rfl rfl (blk_range b1w)))
          obtain ⟨rfl, rfl⟩ := hh
          refine hK33 _ _ ?_
          clear hK33 K33
          try simp only [Act.put, List.setIfInBounds_toArray, List.set_cons_succ, List.set_cons_zero]
          iterate 2 (refine wpList_plain rfl fun K hK => ?_; go_big_op; refine hK _ _ ?_; clear hK K)
          obtain ⟨e', he'⟩ : ∃ e' : Ep, e' = { m.at n with pts := (m.at n).pts.map (addP j [0, 0, 0, 0, -1]) } := ⟨_, rfl⟩
          refine wpList_plain rfl fun K36 hK36 => wp_of_step (stepAt_mono (fun v41 w41 hh => ?_) (step_call (R := fun v W2 => ∃ vE', v = .tuple #[mtV (Mt.put m n e') vE', .int .i64 0] ∧ EpsB (bs.new z.w W2) vE' (Mt.put m n e').eps ∧ Below (z.w).heap.size z.w W2) en_attestor_meter_change ((gChange m HN.out _ n hll _ [.pointer (some ⟨w.heap.size + 1, 0, none⟩)] e' en_attestor_meter_Retract_1 bs z.w (HW.out.below hBw) HE.out (he' ▸ fRetract bs z.w (m.at n) hpl.1 H5a.out (w.heap.size + 1) j (by omega) c40 l4 (HL.out.keep hBw))).mono fun r W2 ⟨vE', h1, h2⟩ => ⟨_, h1, vE', rfl, h2⟩) rfl rfl))
          obtain ⟨vE', rfl, hE', B41⟩ := hh
          refine hK36 _ _ ?_
          clear hK36 K36
          try simp only [Act.put, List.setIfInBounds_toArray, List.set_cons_succ, List.set_cons_zero]
          obtain ⟨AE, cE, hvE⟩ := hE'.len
          have b2y := (b2w).keep B41
          have hBy := (hBw).trans (B41.mono (hBw).size)
          have hlb := (b2w).lt
          refine wpList_plain rfl fun K38 hK38 => wp_of_step (stepAt_mono (fun v42 w42 hh => ?_) (step_ext (v := mtV (m.put n e') vE') rfl rfl rfl))
          obtain ⟨rfl, rfl⟩ := hh
          refine hK38 _ _ ?_
          clear hK38 K38
          try simp only [Act.put, List.setIfInBounds_toArray, List.set_cons_succ, List.set_cons_zero]
          refine wpList_plain rfl fun K39 hK39 => wp_of_step (stepAt_mono (fun v43 w43 hh => ?_) (step_ext (v := .int .i64 0) rfl rfl rfl))
          obtain ⟨rfl, rfl⟩ := hh
          refine hK39 _ _ ?_
          clear hK39 K39
          try simp only [Act.put, List.setIfInBounds_toArray, List.set_cons_succ, List.set_cons_zero]
          refine wpList_put rfl 35 (.tmp 6) (.tmp 42) rfl rfl (cells := mtc (m.put n e') vE') rfl b2y (by rw [hcs0, mtc_len (m.put n e') _ hsl]; exact Nat.le_refl _) (by rw [mt_size, mtc_len (m.put n e') _ hsl]) (mtc_one _ _ (by rw [hvE]; rfl)) (spl_all _ _ (by rw [hcs0, mtc_len (m.put n e') _ hsl])) fun X hX bX => ?_
          have hEX : EpsB (bs.new w X) vE' (Mt.eps (m.put n e')) := hE'.out hX HW.out (by omega) (by omega) (by omega)
          have hBX := below_put hBy hX (by omega)
          clear b1w b2y hX B41 hE' hBy hlb b2w hBw c40 l4 b4w
          try simp only [Act.put, List.setIfInBounds_toArray, List.set_cons_succ, List.set_cons_zero]
          go_wp2_with fail
          refine bodyPost_ret (v := .tuple #[.agg (mtc (m.put n e') vE').toArray, .int .i64 0]) (res_mt (g1 := w.heap.size + 1 + 1 + 1) rfl rfl rfl mt_under rfl (by rw [mt_size, mtc_len (m.put n e') _ hsl]) bX) rfl ?_
          rw [HC.out, ← he']
          exact ⟨_, rfl, hEX, hBX⟩
end Go.Proofs.YtoiampgfnidfdaaGreatDoor
namespace Go.Proofs.YtoiampgfnidfdaaGreatDoor
open Go.RowKit

structure Ldb (w : World) : Prop where
  c0 : w.cell? ⟨3, 0, none⟩ = some (.int .u8 0)
  c1 : w.cell? ⟨3, 1, none⟩ = some (.int .u8 1)
  c3 : w.cell? ⟨3, 3, none⟩ = some (.int .u8 2)
  c7 : w.cell? ⟨3, 7, none⟩ = some (.int .u8 3)
  sz : 3 < w.heap.size
theorem Ldb.keep {w X : World} (h : Ldb w) (hb : Below w.heap.size w X) : Ldb X :=
  ⟨(hb.cell (p := ⟨3, 0, none⟩) h.sz).trans h.c0, (hb.cell (p := ⟨3, 1, none⟩) h.sz).trans h.c1, (hb.cell (p := ⟨3, 3, none⟩) h.sz).trans h.c3, (hb.cell (p := ⟨3, 7, none⟩) h.sz).trans h.c7, Nat.lt_of_lt_of_le h.sz hb.size⟩
theorem gTz0 (c : Nat) (hc : c < 8) (w : World) (hL : Ldb w) : Calls Tryz.prog 133 #[.int .u64 (18446744073709551615 - (c : Int))] w fun e w2 => e = .returned (.int .i64 (tz1 c : Nat)) ∧ w2 = w := by
  obtain ⟨h0, h1, h3, h7, hs⟩ := hL
  obtain rfl | rfl | rfl | rfl | rfl | rfl | rfl | rfl : c = 0 ∨ c = 1 ∨ c = 2 ∨ c = 3 ∨ c = 4 ∨ c = 5 ∨ c = 6 ∨ c = 7 := by omega
  · rw [show (18446744073709551615 : Int) - ((0 : Nat) : Int) = 18446744073709551615 from rfl]
    have e1 : IntKind.u64.wrap (-18446744073709551615) = 1 := by decide +kernel
    have e2 : bits .and .u64 18446744073709551615 1 = 1 := by decide +kernel
    have e3 : IntKind.u64.wrap (1 * 285870213051353865) = 285870213051353865 := by decide +kernel
    go_enter Tryz.func133, Tryz.ntmps133
    go_wp2
    go_ret
    exact ⟨by rw [show tz1 0 = 0 by simp [tz1]]; rfl, rfl⟩
  · rw [show (18446744073709551615 : Int) - ((1 : Nat) : Int) = 18446744073709551614 from rfl]
    have e1 : IntKind.u64.wrap (-18446744073709551614) = 2 := by decide +kernel
    have e2 : bits .and .u64 18446744073709551614 2 = 2 := by decide +kernel
    have e3 : IntKind.u64.wrap (2 * 285870213051353865) = 571740426102707730 := by decide +kernel
    go_enter Tryz.func133, Tryz.ntmps133
    go_wp2
    go_ret
    exact ⟨by rw [show tz1 1 = 1 by simp [tz1]]; rfl, rfl⟩
  · rw [show (18446744073709551615 : Int) - ((2 : Nat) : Int) = 18446744073709551613 from rfl]
    have e1 : IntKind.u64.wrap (-18446744073709551613) = 3 := by decide +kernel
    have e2 : bits .and .u64 18446744073709551613 3 = 1 := by decide +kernel
    have e3 : IntKind.u64.wrap (1 * 285870213051353865) = 285870213051353865 := by decide +kernel
    go_enter Tryz.func133, Tryz.ntmps133
    go_wp2
    go_ret
    exact ⟨by rw [show tz1 2 = 0 by simp [tz1]]; rfl, rfl⟩
  · rw [show (18446744073709551615 : Int) - ((3 : Nat) : Int) = 18446744073709551612 from rfl]
    have e1 : IntKind.u64.wrap (-18446744073709551612) = 4 := by decide +kernel
    have e2 : bits .and .u64 18446744073709551612 4 = 4 := by decide +kernel
    have e3 : IntKind.u64.wrap (4 * 285870213051353865) = 1143480852205415460 := by decide +kernel
    go_enter Tryz.func133, Tryz.ntmps133
    go_wp2
    go_ret
    exact ⟨by rw [show tz1 3 = 2 by simp [tz1]]; rfl, rfl⟩
  · rw [show (18446744073709551615 : Int) - ((4 : Nat) : Int) = 18446744073709551611 from rfl]
    have e1 : IntKind.u64.wrap (-18446744073709551611) = 5 := by decide +kernel
    have e2 : bits .and .u64 18446744073709551611 5 = 1 := by decide +kernel
    have e3 : IntKind.u64.wrap (1 * 285870213051353865) = 285870213051353865 := by decide +kernel
    go_enter Tryz.func133, Tryz.ntmps133
    go_wp2
    go_ret
    exact ⟨by rw [show tz1 4 = 0 by simp [tz1]]; rfl, rfl⟩
  · rw [show (18446744073709551615 : Int) - ((5 : Nat) : Int) = 18446744073709551610 from rfl]
    have e1 : IntKind.u64.wrap (-18446744073709551610) = 6 := by decide +kernel
    have e2 : bits .and .u64 18446744073709551610 6 = 2 := by decide +kernel
    have e3 : IntKind.u64.wrap (2 * 285870213051353865) = 571740426102707730 := by decide +kernel
    go_enter Tryz.func133, Tryz.ntmps133
    go_wp2
    go_ret
    exact ⟨by rw [show tz1 5 = 1 by simp [tz1]]; rfl, rfl⟩
  · rw [show (18446744073709551615 : Int) - ((6 : Nat) : Int) = 18446744073709551609 from rfl]
    have e1 : IntKind.u64.wrap (-18446744073709551609) = 7 := by decide +kernel
    have e2 : bits .and .u64 18446744073709551609 7 = 1 := by decide +kernel
    have e3 : IntKind.u64.wrap (1 * 285870213051353865) = 285870213051353865 := by decide +kernel
    go_enter Tryz.func133, Tryz.ntmps133
    go_wp2
    go_ret
    exact ⟨by rw [show tz1 6 = 0 by simp [tz1]]; rfl, rfl⟩
  · rw [show (18446744073709551615 : Int) - ((7 : Nat) : Int) = 18446744073709551608 from rfl]
    have e1 : IntKind.u64.wrap (-18446744073709551608) = 8 := by decide +kernel
    have e2 : bits .and .u64 18446744073709551608 8 = 8 := by decide +kernel
    have e3 : IntKind.u64.wrap (8 * 285870213051353865) = 2286961704410830920 := by decide +kernel
    go_enter Tryz.func133, Tryz.ntmps133
    go_wp2
    go_ret
    exact ⟨by rw [show tz1 7 = 3 by simp [tz1]]; rfl, rfl⟩
theorem gTz (c : Nat) (hc : c < 8) (w : World) (hL : Ldb w) : Calls Tryz.prog 106 #[.int .u64 (18446744073709551615 - (c : Int))] w (Ret (.int .i64 (tz1 c : Nat)) w) := by
  have HT := gTz0 c hc w hL
  clear hL
  generalize (18446744073709551615 - (c : Int)) = X at *
  go_enter Tryz.func106, Tryz.ntmps106
  go_wp2_with fail
  refine HT.mono ?_
  rintro e w2 ⟨rfl, rfl⟩
  go_wp2
  go_ret
  exact ⟨rfl, Below.refl _ _⟩
end Go.Proofs.YtoiampgfnidfdaaGreatDoor
