/-
  A stream made out of operations (reference's Made).
  The law's step (chapter 26).
  The law's play (chapter 26).
  The function Lift of package mle, by contract; the columns of an epoch.
  The program's Columns: the check, the values of a column.
-/
import Derived.Test.YtficeebbbkmhcaaGreatDoorStp26
import Derived.Test.YtficeebbbkmhcaaGreatDoorFw26
namespace Go.Proofs.YtficeebbbkmhcaaGreatDoor
open Go.RowKit

structure Op15 where
  b0 : Nat
  b1 : Nat
  b2 : Nat
  back : Bool
def Op15.ok (o : Op15) : Prop := o.b0 < 256 ∧ o.b1 < 256 ∧ o.b2 < 256
def Op15.rdg (o : Op15) : Rdg := rdgB o.b0 o.b1 o.b2
def opc15 (o : Op15) : List Value := [.int .u8 (o.b0 : Int), .int .u8 (o.b1 : Int), .int .u8 (o.b2 : Int), .bool o.back]
theorem opc15_len (o : Op15) : (opc15 o).length = 4 := rfl
def stS15 (s : Stm) (o : Op15) : Stm :=
  if o.back = true then (match s[o.b0 % s.length]? with
    | some (r, false) => s.set (o.b0 % s.length) (r, true)
    | _ => s)
  else if s.length < 16 then s ++ [(o.rdg, false)] else s
def stK15 (l : List Op15) (k : Nat) : Stm := (l.take k).foldl stS15 []
def stL15 (l : List Op15) : Stm := l.foldl stS15 []
theorem stK15_succ (l : List Op15) (k : Nat) (o : Op15) (h : l[k]? = some o) : stK15 l (k + 1) = stS15 (stK15 l k) o := by
  unfold stK15
  rw [List.take_add_one, h, Option.toList_some, List.foldl_append]
  rfl
theorem stK15_end (l : List Op15) (k : Nat) (h : k = l.length) : stK15 l k = stL15 l := by
  unfold stK15 stL15
  rw [h, List.take_of_length_le (Nat.le_refl _)]
def Stm15 (s : Stm) : Prop := s.length ≤ 16 ∧ ∀ y ∈ s, y.1.ok
theorem stS15_ok {s : Stm} {o : Op15} (ho : o.ok) (h : Stm15 s) : Stm15 (stS15 s o) := by
  obtain ⟨h1, h2⟩ := h
  have hr : o.rdg.ok := rdgB_ok _ _ _ ho.1 ho.2.1 ho.2.2
  unfold stS15
  split
  · split
    · rename_i r hg
      refine ⟨by rw [List.length_set]; exact h1, fun y hy => ?_⟩
      rcases List.mem_or_eq_of_mem_set hy with hy | rfl
      · exact h2 y hy
      · exact h2 (r, false) (List.mem_of_getElem? hg)
    · exact ⟨h1, h2⟩
  · split
    · refine ⟨by rw [List.length_append, List.length_singleton]; omega, fun y hy => ?_⟩
      rcases List.mem_append.1 hy with hy | hy
      · exact h2 y hy
      · rw [List.mem_singleton.1 hy]; exact hr
    · exact ⟨h1, h2⟩
theorem stf15_ok (l : List Op15) : ∀ (s : Stm), (∀ o ∈ l, o.ok) → Stm15 s → Stm15 (l.foldl stS15 s) := by
  induction l with
  | nil => intro s _ h; exact h
  | cons o l ih => intro s ho h; exact ih _ (fun x hx => ho x (List.mem_cons_of_mem _ hx)) (stS15_ok (ho o (List.mem_cons_self ..)) h)
theorem stK15_ok (l : List Op15) (k : Nat) (ho : ∀ o ∈ l, o.ok) : Stm15 (stK15 l k) := stf15_ok _ _ (fun o h => ho o (List.mem_of_mem_take h)) ⟨by decide, fun _ h => by cases h⟩
theorem stL15_ok (l : List Op15) (ho : ∀ o ∈ l, o.ok) : Stm15 (stL15 l) := stf15_ok _ _ ho ⟨by decide, fun _ h => by cases h⟩
theorem strm_info15 : (Tryz.prog.info? 28).map (fun i => (i.zero, i.size, i.bytes)) = some (some (.agg #[.slice none 0 0, .slice none 0 0]), 2, 48) := by kernel_rfl
theorem a3_under : Tryz.prog.underlying 75 = some (.array 3 5) := by kernel_rfl
theorem a3_size : (Tryz.prog.info? 75).map (·.size) = some 3 := by kernel_rfl
theorem str_nil15 (b : Bse) : StrIB b ⟨.slice none 0 0, .slice none 0 0⟩ [] := by
  exact ⟨fun X _ => nil_rd X 4, fun X _ => nil_rd X 1⟩
attribute [local irreducible] wpRg
set_option maxRecDepth 100000 in
set_option maxHeartbeats 4000000 in
theorem gMade12 (l : List Op15) (hl : l.length ≤ 140737488355327) (ho : ∀ o ∈ l, o.ok) (vO : Value) (w : World) (hO : RdA 4 w vO l.length (l.flatMap opc15)) : Calls Tryz.prog 5 #[vO, .int .i64 16] w fun e W2 => ∃ x : StrW, e = .returned (.agg (smc x).toArray) ∧ StrIB ⟨W2, fun g => w.heap.size ≤ g⟩ x (stL15 l) ∧ Below w.heap.size w W2 := by
  obtain ⟨AO, cO, rfl⟩ := Rd.len hO
  obtain ⟨n, hn⟩ : ∃ n, n = l.length := ⟨_, rfl⟩
  rw [← hn] at hO hl ⊢
  have HN := Lib.hid hn
  have HO := Lib.hid hO
  have HOO := Lib.hid ho
  clear hn hO ho
  go_enter Tryz.func5, Tryz.ntmps5
  go_upto_region 3 with (fail)
  refine wp_stk2 fun W hB hz b4 b5 => ?_
  obtain ⟨g4, hg4⟩ : ∃ g, g = w.heap.size := ⟨_, rfl⟩
  obtain ⟨g5, hg5⟩ : ∃ g, g = w.heap.size + 1 := ⟨_, rfl⟩
  rw [← hg5] at b5 ⊢
  rw [← hg4] at b4 ⊢
  have HG4 := Lib.hid hg4
  have HG5 := Lib.hid hg5
  have HB4 := Lib.hid b4
  have HB := Lib.hid hB
  have HZ := Lib.hid hz.out
  clear hB hz b4 hg4 hg5
  go_loopw [6] (fun q wr => ∃ (k : Nat) (x : StrW), k ≤ n ∧ q = .int .i64 k ∧ Blk wr g5 28 (smc x).toArray ∧ StrIB ⟨wr, fun g => g5 < g⟩ x (stK15 l k) ∧ Below g5 W wr) (fun q _ => n - (intOf q).toNat)
  case atStart => exact ⟨0, ⟨.slice none 0 0, .slice none 0 0⟩, Nat.zero_le _, rfl, b5, str_nil15 _, Below.refl _ _⟩
  case round =>
    clear b5
    obtain ⟨k, x, hkn, rfl, b5, hx, hBr⟩ := hrel
    obtain ⟨s, hs⟩ : ∃ s, s = stK15 l k := ⟨_, rfl⟩
    rw [← hs] at hx
    have hok : Stm15 s := by rw [hs]; exact stK15_ok l k HOO.out
    have hsl := hok.1
    have HSK := Lib.hid hs
    have HOK := Lib.hid hok
    have HX := Lib.hid hx
    have HBR := Lib.hid hBr
    have HB5 := Lib.hid b5
    have b4 := HB4.out.below hBr (by have := HG4.out; have := HG5.out; omega)
    have HB4R := Lib.hid b4
    have hBw : Below w.heap.size w wr := HB.out.trans (hBr.mono (by have := HG5.out; omega))
    have HBW := Lib.hid hBw
    clear hs hok hx hBr b4 hBw
    by_cases hlt : k < n
    rotate_left 1
    · have hf : s = stL15 l := by rw [HSK.out]; exact stK15_end l k (by have := HN.out; omega)
      clear b5
      have b5 := HB5.out
      go_upto_region 11 with (fail)
      refine wp_region_lit ?_
      refine wpList_plain rfl fun K1 hK1 => wp_of_step (stepAt_mono (fun v70 w70 hh => ?_) (step_loadR0 (cs := smc x) strm_under rfl strm_size rfl rfl (blk_range b5)))
      obtain ⟨rfl, rfl⟩ := hh
      refine hK1 _ _ ?_
      clear hK1 K1
      try simp only [Act.put, List.setIfInBounds_toArray, List.set_cons_succ, List.set_cons_zero]
      refine wpList_put rfl 28 (.tmp 4) (.tmp 70) rfl rfl (cells := smc x) rfl HB4R.out (Nat.le_refl _) strm_size (List.all_eq_true.2 fun v hv => smc_one HX.out v hv) rfl fun Z hZ bZ => ?_
      have hBZ := below_put HBW.out hZ (by have := HG4.out; omega)
      try simp only [Act.put, List.setIfInBounds_toArray, List.set_cons_succ, List.set_cons_zero]
      go_wp2_with fail
      refine bodyPost_ret (v := .agg (smc x).toArray) (res_row (cs := smc x) (g := g4) rfl rfl strm_under rfl strm_size bZ) rfl ?_
      rw [← hf]
      exact ⟨_, rfl, (HX.out.pt hZ (by have := HG4.out; have := HG5.out; omega)).sub (fun g hg _ => by have := HG5.out; omega), hBZ⟩
    obtain ⟨o, ho⟩ : ∃ o, l[k]? = some o := ⟨l[k]'(by rw [← HN.out]; exact hlt), List.getElem?_eq_getElem _⟩
    have hoo := HOO.out o (List.mem_of_getElem? ho)
    have hrd : RdA 4 wr (.slice AO n cO) n (l.flatMap opc15) := RdA.keep HO.out HBW.out
    obtain ⟨g, off, cap', hv, hcp, hg, hcs⟩ := RdA.at opc15_len (by rw [← HN.out]; exact hrd) ho
    rw [← HN.out] at hv hcp
    cases hv
    have hnx : stK15 l (k + 1) = stS15 s o := by rw [HSK.out]; exact stK15_succ l k o ho
    have HNX := Lib.hid hnx
    have HRD := Lib.hid hoo
    obtain ⟨a0, a1, a2, bk⟩ := o
    obtain ⟨ha0, ha1, ha2⟩ := hoo
    dsimp only at ha0 ha1 ha2
    have q0 : wr.cell? ⟨g, off + k * 4, none⟩ = some (.int .u8 (a0 : Int)) := hcs 0 _ rfl
    have q1 : wr.cell? ⟨g, off + k * 4 + 1, none⟩ = some (.int .u8 (a1 : Int)) := hcs 1 _ rfl
    have q2 : wr.cell? ⟨g, off + k * 4 + 2, none⟩ = some (.int .u8 (a2 : Int)) := hcs 2 _ rfl
    have q3 : wr.cell? ⟨g, off + k * 4 + 3, none⟩ = some (.bool bk) := hcs 3 _ rfl
    obtain ⟨x1, x2⟩ := x
    obtain ⟨⟨Al, cl, hl'⟩, ⟨Ag, cg, hg'⟩⟩ := HX.out.len
    dsimp only at hl' hg'
    subst hl'
    subst hg'
    have c50 : wr.cell? ⟨g5, 0, none⟩ = some (.slice Al s.length cl) := (b5.cell 0).trans rfl
    have l5 := b5.lt
    obtain ⟨sl, hsl'⟩ : ∃ sl, sl = s.length := ⟨_, rfl⟩
    rw [← hsl'] at hsl HB5 HX c50
    have HSL := Lib.hid hsl'
    clear hrd hcs hnx b5 ho hsl'
    obtain ⟨iS, hiS, iS0, iS1, iS2⟩ := info_parts strm_info15
    have HQ := Lib.hid (show wr.rangeAt g (off + k * 4) [.int .u8 (a0 : Int), .int .u8 (a1 : Int), .int .u8 (a2 : Int)] from fun j v hj => by
      match j, hj with
      | 0, hj => cases hj; exact q0
      | 1, hj => cases hj; exact q1
      | 2, hj => cases hj; exact q2)
    cases bk
    · by_cases hs16 : sl < 16
      rotate_left 1
      · have hnx : stK15 l (k + 1) = s := by
          rw [HNX.out]
          unfold stS15
          rw [if_neg (by simp), if_neg (by have := HSL.out; omega)]
        go_wp2_with fail
        exact ⟨⟨k + 1, _, by omega, by go_num, HB5.out, by rw [hnx]; exact HX.out, HBR.out⟩, by simp [intOf]; omega⟩
      go_upto_region 10 with (fail)
      have hnx : stK15 l (k + 1) = s ++ [(rdgB a0 a1 a2, false)] := by
        rw [HNX.out]
        unfold stS15
        rw [if_neg (by simp), if_pos (by have := HSL.out; omega)]
        rfl
      replace HNX := Lib.hid hnx
      clear hnx q0 q1 q2 q3 c50
      refine wp_region_swap 11 10 u69 [(0, Spec.val (.agg (smc ⟨.slice Al sl cl, .slice Ag sl cg⟩).toArray)), (5, Spec.val (.agg #[.int .u8 (a0 : Int), .int .u8 (a1 : Int), .int .u8 (a2 : Int)])), (6, Spec.val (rdV (rdgB a0 a1 a2))), (7, Spec.rel (RstI (InB ⟨wr, fun g => g5 < g⟩) (s ++ [(rdgB a0 a1 a2, false)])) (TupS))] (by kernel_rfl) (by kernel_rfl) (by kernel_rfl) rfl rfl rfl rfl ⟨fit_rsti, trivial⟩ ?_ ?_
      refine rg_val rfl rfl (fun W1 hW1 hF => step_loadR (cs := smc ⟨.slice Al sl cl, .slice Ag sl cg⟩) strm_under rfl strm_size rfl rfl (blk_range (HB5.out.keep (grw_below hW1)))) ?_
      intro a' ha
      simp only [Act.put, List.setIfInBounds_toArray, List.set_cons_succ, List.set_cons_zero] at ha
      subst ha
      iterate 4 (refine rg_det rfl rfl rfl (fun K hK => ?_); go_big_quiet_op; refine hK _ ?_; clear hK K)
      refine rg_val rfl rfl (fun W1 hW1 hF => step_loadR (cs := [.int .u8 (a0 : Int), .int .u8 (a1 : Int), .int .u8 (a2 : Int)]) a3_under rfl a3_size rfl rfl (range_keep HQ.out hg (grw_below hW1))) ?_
      intro a' ha
      simp only [Act.put, List.setIfInBounds_toArray, List.set_cons_succ, List.set_cons_zero] at ha
      subst ha
      refine rg_val rfl rfl (fun W1 hW1 hF => step_callv en_attestor_attestorref12_Reading (gReading12 a0 a1 a2 ha0 ha1 ha2 W1) rfl rfl) ?_
      intro a' ha
      simp only [Act.put, List.setIfInBounds_toArray, List.set_cons_succ, List.set_cons_zero] at ha
      subst ha
      refine rg_rel rfl rfl (fun W1 hW1 hF => step_callr en_attestor_attestorref12_Take (((gTakeS s (by rw [← HSL.out]; omega) (rdgB a0 a1 a2) (rdgB_ok a0 a1 a2 ha0 ha1 ha2) (rdgIn_ok (rdgB_ok a0 a1 a2 ha0 ha1 ha2)) ⟨wr, fun g => g5 < g⟩ W1 ((Bse.ok_self _).below (grw_below hW1)) ⟨.slice Al sl cl, .slice Ag sl cg⟩ HX.out).mono (sresI (grw_below hW1).size))) rfl rfl) ?_
      intro n7 m7 v7 hn7 hm7 hd7 hf7 a' ha
      simp only [Act.put, List.setIfInBounds_toArray, List.set_cons_succ, List.set_cons_zero] at ha
      subst ha
      obtain ⟨A7, cap7, rfl⟩ := hf7
      iterate 3 (refine rg_det rfl rfl rfl (fun K hK => ?_); go_big_quiet_op; refine hK _ ?_; clear hK K)
      refine rg_nil (fun w' hw' hF => ?_)
      obtain ⟨z, rfl⟩ := hw'
      simp only [List.drop_succ_cons, List.drop_zero]
      rotate_left 1
      refine rg_val rfl rfl (fun W1 hW1 hF => step_loadR (cs := smc ⟨.slice Al sl cl, .slice Ag sl cg⟩) strm_under rfl strm_size rfl rfl (blk_range (HB5.out.keep (grw_below hW1)))) ?_
      intro a' ha
      simp only [Act.put, List.setIfInBounds_toArray, List.set_cons_succ, List.set_cons_zero] at ha
      subst ha
      iterate 4 (refine rg_det rfl rfl rfl (fun K hK => ?_); go_big_quiet_op; refine hK _ ?_; clear hK K)
      refine rg_val rfl rfl (fun W1 hW1 hF => step_loadR (cs := [.int .u8 (a0 : Int), .int .u8 (a1 : Int), .int .u8 (a2 : Int)]) a3_under rfl a3_size rfl rfl (range_keep HQ.out hg (grw_below hW1))) ?_
      intro a' ha
      simp only [Act.put, List.setIfInBounds_toArray, List.set_cons_succ, List.set_cons_zero] at ha
      subst ha
      refine rg_val rfl rfl (fun W1 hW1 hF => step_callv en_attestor_attestorref12_Reading (gReading12 a0 a1 a2 ha0 ha1 ha2 W1) rfl rfl) ?_
      intro a' ha
      simp only [Act.put, List.setIfInBounds_toArray, List.set_cons_succ, List.set_cons_zero] at ha
      subst ha
      refine rg_rel rfl rfl (fun W1 hW1 hF => step_callr en_attestor_attestorref12_Take (((gTakeS s (by rw [← HSL.out]; omega) (rdgB a0 a1 a2) (rdgB_ok a0 a1 a2 ha0 ha1 ha2) (rdgIn_ok (rdgB_ok a0 a1 a2 ha0 ha1 ha2)) ⟨wr, fun g => g5 < g⟩ W1 ((Bse.ok_self _).below (grw_below hW1)) ⟨.slice Al sl cl, .slice Ag sl cg⟩ HX.out).mono (sresI (grw_below hW1).size))) rfl rfl) ?_
      intro n7 m7 v7 hn7 hm7 hd7 hf7 a' ha
      simp only [Act.put, List.setIfInBounds_toArray, List.set_cons_succ, List.set_cons_zero] at ha
      subst ha
      obtain ⟨A7, cap7, rfl⟩ := hf7
      iterate 2 (refine rg_det rfl rfl rfl (fun K hK => ?_); go_big_quiet_op; refine hK _ ?_; clear hK K)
      refine rg_pass rfl rfl ?_
      intro a' ha
      simp only [Act.put, List.setIfInBounds_toArray, List.set_cons_succ, List.set_cons_zero] at ha
      subst ha
      refine rg_nil (fun w' hw' hF => ?_)
      obtain ⟨z, rfl⟩ := hw'
      simp only [List.drop_succ_cons, List.drop_zero]
      refine wpList_putS ?_
      intro a' ha
      simp only [Act.put, List.setIfInBounds_toArray, List.set_cons_succ, List.set_cons_zero] at ha
      subst ha
      rotate_right 1
      all_goals
        have hP := rsti_of (end_last hF).2
        clear hF
        have b5z := HB5.out.keep z.h
        refine wpList_put rfl 28 (.tmp 5) (.tmp 68) rfl rfl (cells := smc A7) rfl b5z (Nat.le_refl _) strm_size (List.all_eq_true.2 fun v hv => smc_one hP v hv) rfl fun Z hZ bZ => ?_
        have hBZ : Below g5 W Z := below_put (HBR.out.trans (z.h.mono (by omega))) hZ (Nat.le_refl _)
        have hin2 : StrIB ⟨Z, fun g => g5 < g⟩ A7 (s ++ [(rdgB a0 a1 a2, false)]) := (hP.pt hZ (fun hh => by
          rcases hh with hh | hh
          · have := hh.1
            dsimp only at this
            omega
          · omega)).sub fun g hg hl => by
            rcases hg with hh | hh
            · exact hh.1
            · omega
        have hgoal : ∃ (k' : Nat) (x : StrW), k' ≤ n ∧ k + 1 = k' ∧ Blk Z g5 28 (smc x).toArray ∧ StrIB ⟨Z, fun g => g5 < g⟩ x (stK15 l k') ∧ Below g5 W Z := ⟨k + 1, _, by omega, rfl, bZ, by rw [HNX.out]; exact hin2, hBZ⟩
        have HG := Lib.hid hgoal
        clear hgoal hin2 hBZ hP b5z hZ bZ
        try simp only [Act.put, List.setIfInBounds_toArray, List.set_cons_succ, List.set_cons_zero]
        go_wp2_with fail
        obtain ⟨k', x', h1, h2, h3⟩ := HG.out
        exact ⟨⟨k', x', h1, by rw [← h2]; go_num, h3⟩, by simp [intOf]; omega⟩
    · have hrem : 0 < sl → Int.tmod (a0 : Int) (sl : Int) = ((a0 % sl : Nat) : Int) := fun _ => rfl
      by_cases hs0 : 0 < sl
      rotate_left 1
      · have hnx : stK15 l (k + 1) = s := by
          rw [HNX.out]
          unfold stS15
          rw [if_pos rfl, List.length_eq_zero_iff.1 (by have := HSL.out; omega : s.length = 0)]
          rfl
        go_wp2_with fail
        exact ⟨⟨k + 1, _, by omega, by go_num, HB5.out, by rw [hnx]; exact HX.out, HBR.out⟩, by simp [intOf]; omega⟩
      go_upto_region 6 with (fail)
      obtain ⟨q, hq⟩ : ∃ q, q = a0 % sl := ⟨_, rfl⟩
      have hqs : q < s.length := by rw [hq, ← HSL.out]; exact Nat.mod_lt _ hs0
      obtain ⟨⟨r, bb⟩, hr⟩ : ∃ y, s[q]? = some y := ⟨s[q], List.getElem?_eq_getElem hqs⟩
      have hrq := hrem hs0
      rw [← hq] at hrq
      have hrq2 : (a0 : Int) % (sl : Int) = (q : Int) := by rw [hq]; rfl
      have hne : ¬ ((sl : Int) = 0) := by omega
      have f0 := gw_cell hg q0
      have f50 := gw_cell l5 c50
      clear q0 c50
      cases bb
      · have hnx : stK15 l (k + 1) = s.set q (r, true) := by
          rw [HNX.out]
          unfold stS15
          rw [if_pos rfl]
          dsimp only
          rw [← HSL.out, ← hq, hr]
        replace HNX := Lib.hid hnx
        have HR := Lib.hid hr
        clear hnx hr hq hqs q1 q2 q3
        refine wp_region_swap 17 15 u42 [(0, Spec.val (.agg (smc ⟨.slice Al sl cl, .slice Ag sl cg⟩).toArray)), (12, Spec.rel (RstI (InB ⟨wr, fun g => g5 < g⟩) (s.set q (r, true))) (TupS)), (16, Spec.rel (New 28 #[.slice none 0 0, .slice none 0 0]) (NewF))] (by kernel_rfl) (by kernel_rfl) (by kernel_rfl) rfl rfl rfl rfl ⟨fit_rsti, fit_new, trivial⟩ ?_ ?_
        refine rg_val rfl rfl (fun W1 hW1 hF => step_loadR (cs := smc ⟨.slice Al sl cl, .slice Ag sl cg⟩) strm_under rfl strm_size rfl rfl (blk_range (HB5.out.keep (grw_below hW1)))) ?_
        intro a' ha
        simp only [Act.put, List.setIfInBounds_toArray, List.set_cons_succ, List.set_cons_zero] at ha
        subst ha
        iterate 11 (refine rg_det rfl rfl rfl (fun K hK => ?_); go_big_quiet_op; refine hK _ ?_; clear hK K)
        refine rg_rel rfl rfl (fun W1 hW1 hF => step_callr en_attestor_attestorref12_Retract (((gRetrS s (by rw [← HSL.out]; omega) q r HR.out ⟨wr, fun g => g5 < g⟩ W1 ((Bse.ok_self _).below (grw_below hW1)) ⟨.slice Al sl cl, .slice Ag sl cg⟩ HX.out).mono (sresI (grw_below hW1).size))) rfl rfl) ?_
        intro n12 m12 v12 hn12 hm12 hd12 hf12 a' ha
        simp only [Act.put, List.setIfInBounds_toArray, List.set_cons_succ, List.set_cons_zero] at ha
        subst ha
        obtain ⟨A12, cap12, rfl⟩ := hf12
        iterate 3 (refine rg_det rfl rfl rfl (fun K hK => ?_); go_big_quiet_op; refine hK _ ?_; clear hK K)
        refine rg_rel rfl rfl (fun W1 hW1 hF => step_new hiS iS0 rfl) ?_
        intro n16 m16 v16 hn16 hm16 hd16 hf16 a' ha
        simp only [Act.put, List.setIfInBounds_toArray, List.set_cons_succ, List.set_cons_zero] at ha
        subst ha
        obtain rfl := hf16
        refine rg_nil (fun w' hw' hF => ?_)
        obtain ⟨z, rfl⟩ := hw'
        simp only [List.drop_succ_cons, List.drop_zero]
        rotate_left 1
        refine rg_val rfl rfl (fun W1 hW1 hF => step_loadR (cs := smc ⟨.slice Al sl cl, .slice Ag sl cg⟩) strm_under rfl strm_size rfl rfl (blk_range (HB5.out.keep (grw_below hW1)))) ?_
        intro a' ha
        simp only [Act.put, List.setIfInBounds_toArray, List.set_cons_succ, List.set_cons_zero] at ha
        subst ha
        iterate 11 (refine rg_det rfl rfl rfl (fun K hK => ?_); go_big_quiet_op; refine hK _ ?_; clear hK K)
        refine rg_rel rfl rfl (fun W1 hW1 hF => step_callr en_attestor_attestorref12_Retract (((gRetrS s (by rw [← HSL.out]; omega) q r HR.out ⟨wr, fun g => g5 < g⟩ W1 ((Bse.ok_self _).below (grw_below hW1)) ⟨.slice Al sl cl, .slice Ag sl cg⟩ HX.out).mono (sresI (grw_below hW1).size))) rfl rfl) ?_
        intro n12 m12 v12 hn12 hm12 hd12 hf12 a' ha
        simp only [Act.put, List.setIfInBounds_toArray, List.set_cons_succ, List.set_cons_zero] at ha
        subst ha
        obtain ⟨A12, cap12, rfl⟩ := hf12
        iterate 2 (refine rg_det rfl rfl rfl (fun K hK => ?_); go_big_quiet_op; refine hK _ ?_; clear hK K)
        refine rg_pass rfl rfl ?_
        intro a' ha
        simp only [Act.put, List.setIfInBounds_toArray, List.set_cons_succ, List.set_cons_zero] at ha
        subst ha
        refine rg_rel rfl rfl (fun W1 hW1 hF => step_new hiS iS0 rfl) ?_
        intro n16 m16 v16 hn16 hm16 hd16 hf16 a' ha
        simp only [Act.put, List.setIfInBounds_toArray, List.set_cons_succ, List.set_cons_zero] at ha
        subst ha
        obtain rfl := hf16
        refine rg_nil (fun w' hw' hF => ?_)
        obtain ⟨z, rfl⟩ := hw'
        simp only [List.drop_succ_cons, List.drop_zero]
        refine wpList_putS ?_
        intro a' ha
        simp only [Act.put, List.setIfInBounds_toArray, List.set_cons_succ, List.set_cons_zero] at ha
        subst ha
        rotate_right 1
        all_goals
          obtain ⟨hm16, -, hl16, b16⟩ := end_last hF
          have hP := rsti_of (hF _ (List.mem_append_left _ (List.mem_append_right _ (List.mem_singleton.2 rfl)))).2
          have hd := hd16 _ (List.mem_append_right _ (List.mem_singleton.2 rfl))
          dsimp only at hd
          clear hF hd16
          refine wpList_put rfl 28 (.tmp 7) (.tmp 41) rfl rfl (cells := smc A12) rfl b16 (Nat.le_refl _) strm_size (List.all_eq_true.2 fun v hv => smc_one hP v hv) rfl fun Z hZ bZ => ?_
          have hBZ : Below wr.heap.size wr Z := below_put z.h hZ hn16
          have hin2 : StrIB ⟨Z, fun g => g5 < g⟩ A12 (s.set q (r, true)) := (hP.pt hZ (fun hh => by
            rcases hh with hh | hh
            · have := hh.2
              dsimp only at this
              omega
            · omega)).sub fun g hg hl => by
              rcases hg with hh | hh
              · exact hh.1
              · omega
          have b5Z := HB5.out.keep hBZ
          have HB5Z := Lib.hid b5Z
          have HBWZ := Lib.hid (HBR.out.trans (hBZ.mono (by omega)))
          have HIN := Lib.hid hin2
          have HNG := Lib.hid (show g5 < n16 by omega)
          have HBN := Lib.hid bZ
          clear hBZ hin2 hP b5Z hZ bZ hm16 hl16 b16 f0 f50 hn16
          try simp only [Act.put, List.setIfInBounds_toArray, List.set_cons_succ, List.set_cons_zero]
          go_upto_region 8 with (fail)
          refine wp_region_lit ?_
          refine wpList_plain rfl fun K5 hK5 => wp_of_step (stepAt_mono (fun v45 w45 hh => ?_) (step_loadR0 (cs := smc A12) strm_under rfl strm_size rfl rfl (blk_range HBN.out)))
          obtain ⟨rfl, rfl⟩ := hh
          refine hK5 _ _ ?_
          clear hK5 K5
          try simp only [Act.put, List.setIfInBounds_toArray, List.set_cons_succ, List.set_cons_zero]
          refine wpList_put rfl 28 (.tmp 5) (.tmp 45) rfl rfl (cells := smc A12) rfl HB5Z.out (Nat.le_refl _) strm_size (List.all_eq_true.2 fun v hv => smc_one HIN.out v hv) rfl fun Y hY bY => ?_
          have hgoal : ∃ (k' : Nat) (x : StrW), k' ≤ n ∧ k + 1 = k' ∧ Blk Y g5 28 (smc x).toArray ∧ StrIB ⟨Y, fun g => g5 < g⟩ x (stK15 l k') ∧ Below g5 W Y := ⟨k + 1, _, by omega, rfl, bY, by rw [HNX.out]; exact HIN.out.pt hY (by omega), below_put HBWZ.out hY (Nat.le_refl _)⟩
          have HG := Lib.hid hgoal
          clear hgoal hY bY
          try simp only [Act.put, List.setIfInBounds_toArray, List.set_cons_succ, List.set_cons_zero]
          go_wp2_with fail
          obtain ⟨k', x', h1, h2, h3⟩ := HG.out
          exact ⟨⟨k', x', h1, by rw [← h2]; go_num, h3⟩, by simp [intOf]; omega⟩
      · have hnx : stK15 l (k + 1) = s := by
          rw [HNX.out]
          unfold stS15
          rw [if_pos rfl]
          dsimp only
          rw [← HSL.out, ← hq, hr]
        replace HNX := Lib.hid hnx
        have HR := Lib.hid hr
        clear hnx hr hq hqs q1 q2 q3
        refine wp_region_swap 17 15 u42 [(0, Spec.val (.agg (smc ⟨.slice Al sl cl, .slice Ag sl cg⟩).toArray)), (12, Spec.val (.tuple #[.agg #[.slice none 0 0, .slice none 0 0], .int .i64 120])), (16, Spec.rel (New 28 #[.slice none 0 0, .slice none 0 0]) (NewF))] (by kernel_rfl) (by kernel_rfl) (by kernel_rfl) rfl rfl rfl rfl ⟨fit_new, trivial⟩ ?_ ?_
        refine rg_val rfl rfl (fun W1 hW1 hF => step_loadR (cs := smc ⟨.slice Al sl cl, .slice Ag sl cg⟩) strm_under rfl strm_size rfl rfl (blk_range (HB5.out.keep (grw_below hW1)))) ?_
        intro a' ha
        simp only [Act.put, List.setIfInBounds_toArray, List.set_cons_succ, List.set_cons_zero] at ha
        subst ha
        iterate 11 (refine rg_det rfl rfl rfl (fun K hK => ?_); go_big_quiet_op; refine hK _ ?_; clear hK K)
        refine rg_val rfl rfl (fun W1 hW1 hF => step_callv en_attestor_attestorref12_Retract (gRetrE s q r HR.out ⟨.slice Al sl cl, .slice Ag sl cg⟩ W1 (HX.out.old ((Bse.ok_self _).below (grw_below hW1)))) rfl rfl) ?_
        intro a' ha
        simp only [Act.put, List.setIfInBounds_toArray, List.set_cons_succ, List.set_cons_zero] at ha
        subst ha
        iterate 3 (refine rg_det rfl rfl rfl (fun K hK => ?_); go_big_quiet_op; refine hK _ ?_; clear hK K)
        refine rg_rel rfl rfl (fun W1 hW1 hF => step_new hiS iS0 rfl) ?_
        intro n16 m16 v16 hn16 hm16 hd16 hf16 a' ha
        simp only [Act.put, List.setIfInBounds_toArray, List.set_cons_succ, List.set_cons_zero] at ha
        subst ha
        obtain rfl := hf16
        refine rg_nil (fun w' hw' hF => ?_)
        obtain ⟨z, rfl⟩ := hw'
        simp only [List.drop_succ_cons, List.drop_zero]
        rotate_left 1
        refine rg_val rfl rfl (fun W1 hW1 hF => step_loadR (cs := smc ⟨.slice Al sl cl, .slice Ag sl cg⟩) strm_under rfl strm_size rfl rfl (blk_range (HB5.out.keep (grw_below hW1)))) ?_
        intro a' ha
        simp only [Act.put, List.setIfInBounds_toArray, List.set_cons_succ, List.set_cons_zero] at ha
        subst ha
        iterate 11 (refine rg_det rfl rfl rfl (fun K hK => ?_); go_big_quiet_op; refine hK _ ?_; clear hK K)
        refine rg_val rfl rfl (fun W1 hW1 hF => step_callv en_attestor_attestorref12_Retract (gRetrE s q r HR.out ⟨.slice Al sl cl, .slice Ag sl cg⟩ W1 (HX.out.old ((Bse.ok_self _).below (grw_below hW1)))) rfl rfl) ?_
        intro a' ha
        simp only [Act.put, List.setIfInBounds_toArray, List.set_cons_succ, List.set_cons_zero] at ha
        subst ha
        iterate 2 (refine rg_det rfl rfl rfl (fun K hK => ?_); go_big_quiet_op; refine hK _ ?_; clear hK K)
        refine rg_pass rfl rfl ?_
        intro a' ha
        simp only [Act.put, List.setIfInBounds_toArray, List.set_cons_succ, List.set_cons_zero] at ha
        subst ha
        refine rg_rel rfl rfl (fun W1 hW1 hF => step_new hiS iS0 rfl) ?_
        intro n16 m16 v16 hn16 hm16 hd16 hf16 a' ha
        simp only [Act.put, List.setIfInBounds_toArray, List.set_cons_succ, List.set_cons_zero] at ha
        subst ha
        obtain rfl := hf16
        refine rg_nil (fun w' hw' hF => ?_)
        obtain ⟨z, rfl⟩ := hw'
        simp only [List.drop_succ_cons, List.drop_zero]
        refine wpList_putS ?_
        intro a' ha
        simp only [Act.put, List.setIfInBounds_toArray, List.set_cons_succ, List.set_cons_zero] at ha
        subst ha
        rotate_right 1
        all_goals
          obtain ⟨hm16, -, hl16, b16⟩ := end_last hF
          clear hF
          refine wpList_put rfl 28 (.tmp 7) (.tmp 41) rfl rfl (cells := [.slice none 0 0, .slice none 0 0]) rfl b16 (Nat.le_refl _) strm_size rfl rfl fun Z hZ bZ => ?_
          have hBZ : Below wr.heap.size wr Z := below_put z.h hZ hn16
          have hgoal : ∃ (k' : Nat) (x : StrW), k' ≤ n ∧ k + 1 = k' ∧ Blk Z g5 28 (smc x).toArray ∧ StrIB ⟨Z, fun g => g5 < g⟩ x (stK15 l k') ∧ Below g5 W Z := ⟨k + 1, _, by omega, rfl, HB5.out.keep hBZ, by rw [HNX.out]; exact HX.out.fwd hBZ, HBR.out.trans (hBZ.mono (by omega))⟩
          have HG := Lib.hid hgoal
          clear hgoal hZ bZ hBZ hm16 hl16 b16 f0 f50 hn16
          try simp only [Act.put, List.setIfInBounds_toArray, List.set_cons_succ, List.set_cons_zero]
          go_wp2_with fail
          obtain ⟨k', x', h1, h2, h3⟩ := HG.out
          exact ⟨⟨k', x', h1, by rw [← h2]; go_num, h3⟩, by simp [intOf]; omega⟩
end Go.Proofs.YtficeebbbkmhcaaGreatDoor
namespace Go.Proofs.YtficeebbbkmhcaaGreatDoor
open Go.RowKit

attribute [local irreducible] wpRg
end Go.Proofs.YtficeebbbkmhcaaGreatDoor
namespace Go.Proofs.YtficeebbbkmhcaaGreatDoor
open Go.RowKit

attribute [local irreducible] wpRg
end Go.Proofs.YtficeebbbkmhcaaGreatDoor
namespace Go.Proofs.YtficeebbbkmhcaaGreatDoor
open Go.RowKit
attribute [local go_sem] Oper.semAt_some

def lftE (zs : List Int) : List E := zs.map fun z => eb (fz z)
theorem lftE_len (zs : List Int) : (lftE zs).length = zs.length := by simp [lftE]
def colV (c : Nat) (l : Stm) (i : Nat) : Int := match l[i]? with | some x => amt c x | none => 0
def colP (c log : Nat) (l : Stm) (k : Nat) : List Int := (List.range (2 ^ log)).map fun i => if i < k then colV c l i else 0
def colZ (c log : Nat) (l : Stm) : List Int := (List.range (2 ^ log)).map (colV c l)
theorem colP_len (c log : Nat) (l : Stm) (k : Nat) : (colP c log l k).length = 2 ^ log := by simp [colP]
theorem colZ_len (c log : Nat) (l : Stm) : (colZ c log l).length = 2 ^ log := by simp [colZ]
theorem colP_zero (c log : Nat) (l : Stm) : colP c log l 0 = List.replicate (2 ^ log) 0 := by
  refine List.ext_getElem? fun i => ?_
  by_cases h : i < 2 ^ log
  · simp [colP, h]
  · rw [List.getElem?_eq_none (by simp [colP]; omega), List.getElem?_eq_none (by simp; omega)]
theorem colP_set (c log : Nat) (l : Stm) (k : Nat) : (colP c log l k).set k (colV c l k) = colP c log l (k + 1) := by
  refine List.ext_getElem? fun i => ?_
  rw [List.getElem?_set, colP_len]
  by_cases hi : i < 2 ^ log
  · by_cases h1 : k = i
    · subst h1
      simp [colP, hi]
    · rw [if_neg h1]
      simp only [colP, List.getElem?_map, List.getElem?_range hi, Option.map_some]
      congr 1
      by_cases h2 : i < k
      · rw [if_pos h2, if_pos (by omega)]
      · rw [if_neg h2, if_neg (by omega)]
  · rw [List.getElem?_eq_none (l := colP c log l (k + 1)) (by rw [colP_len]; omega)]
    split
    · split
      · omega
      · rfl
    · rw [List.getElem?_eq_none (by rw [colP_len]; omega)]
theorem colP_all (c log : Nat) (l : Stm) (k : Nat) (h : l.length ≤ k) : colP c log l k = colZ c log l := by
  unfold colP colZ
  refine List.map_congr_left fun i _ => ?_
  by_cases h1 : i < k
  · rw [if_pos h1]
  · rw [if_neg h1]
    unfold colV
    rw [List.getElem?_eq_none (by omega)]
theorem lft_col (c log : Nat) (l : Stm) : lftE (colZ c log l) = colM c log l := by
  unfold lftE colZ colM
  rw [List.map_map]
  refine List.map_congr_left fun i _ => ?_
  unfold colV
  dsimp only [Function.comp]
  cases l[i]? <;> rfl
theorem amt_rng (c : Nat) (x : Rdg × Bool) (h : x.1.ok) : 0 ≤ amt c x ∧ amt c x < 256 := by
  obtain ⟨⟨a1, a2⟩, ⟨b1, b2⟩, ⟨c1, c2⟩, ⟨d1, d2⟩⟩ := h
  unfold amt
  match c with
  | 0 => exact ⟨a1, Int.lt_trans a2 (by decide)⟩
  | 1 => exact ⟨b1, b2⟩
  | 2 => exact ⟨c1, Int.lt_trans c2 (by decide)⟩
  | 3 => exact ⟨d1, d2⟩
  | 4 =>
    show 0 ≤ (if x.2 then (0 : Int) else 1) ∧ (if x.2 then (0 : Int) else 1) < 256
    split <;> decide
  | _ + 5 => exact ⟨Int.le_refl _, show (0 : Int) < 256 by decide⟩
theorem colV_rng (c : Nat) (l : Stm) (h : ∀ x ∈ l, x.1.ok) (i : Nat) : 0 ≤ colV c l i ∧ colV c l i < 256 := by
  unfold colV
  cases hx : l[i]? with
  | none => exact ⟨Int.le_refl _, show (0 : Int) < 256 by decide⟩
  | some x => exact amt_rng c x (h x (List.mem_of_getElem? hx))
theorem colZ_rng (c log : Nat) (l : Stm) (h : ∀ x ∈ l, x.1.ok) : ∀ z ∈ colZ c log l, 0 ≤ z ∧ z < 18446744069414584321 := by
  intro z hz
  obtain ⟨i, _, rfl⟩ := List.mem_map.1 hz
  have := colV_rng c l h i
  omega
def u64c (zs : List Int) : List Value := zs.map fun z => Value.int .u64 z
theorem u64c_len (zs : List Int) : (u64c zs).length = zs.length := by simp [u64c]
theorem blk_setZ {w : World} {g : Nat} {t : TypeId} {zs : List Int} (h : Blk w g t (u64c zs).toArray) (k : Nat) (z : Int) : Blk (w.setCell ⟨g, k, none⟩ (.int .u64 z)) g t (u64c (zs.set k z)).toArray := by
  have := h.set_ k (.int .u64 z)
  unfold u64c at this ⊢
  rw [List.map_set]
  simpa using this
theorem rd_blkZ {w : World} {g : Nat} {t : TypeId} {zs : List Int} {n : Nat} (h : Blk w g t (u64c zs).toArray) (hn : zs.length = n) (hb : n ≤ 1000000) : RdA 1 w (.slice (some ⟨g, 0, none⟩) n n) n (u64c zs) := by
  subst hn
  refine ⟨by rw [u64c_len, Nat.mul_one], by omega, _, _, rfl, Nat.le_refl _, fun _ => ⟨g, 0, rfl, Nat.zero_le _, h.lt, h.lt, fun j u hj => ?_⟩⟩
  rw [Nat.zero_add, h.cell]
  simpa using hj
theorem mixZ (n : Nat) (f : Nat → E) : mixL n f (fun _ => 0) 0 = List.replicate n 0 := by
  rw [mixL_zero]
  exact List.map_const' ..|>.trans (by rw [List.length_range])
set_option maxRecDepth 100000 in
set_option maxHeartbeats 1000000 in
theorem gApply (zs : List Int) (hn : zs.length ≤ 1000) (v : Value) (lo hi' : Nat) (w : World) (h : Rd lo hi' 1 w v zs.length (zs.map fun z => Value.int .u64 z)) (hz : ∀ z ∈ zs, 0 ≤ z ∧ z < 18446744069414584321) :
    Calls Tryz.prog 28 #[v, .func (.func 29) #[] #[]] w (RetR (ExtA (lftE zs)) w) := by
  obtain ⟨A1, cap1, rfl⟩ := h.len
  have mk := mk_ext zs.length (by omega) w
  go_enter Tryz.func28, Tryz.ntmps28
  go_wp2_with fail
  refine wp_stk1 fun W3 hB3 hz3 b3 => ?_
  clear mk hz3
  go_loopw [13] (fun i wr => ∃ k : Nat, k ≤ zs.length ∧ i = .int .i64 k ∧ Blk wr w.heap.size 39 ((mixL zs.length (fun k => eb (fz (zs.getD k 0))) (fun _ => 0) k).flatMap ec).toArray ∧ Below w.heap.size w wr) (fun i _ => zs.length - (intOf i).toNat)
  case atStart => exact ⟨0, Nat.zero_le _, rfl, by rw [mixZ]; exact b3, hB3⟩
  case round =>
    obtain ⟨k, hk, rfl, bo, hB⟩ := hrel
    by_cases hlt : k < zs.length
    · obtain ⟨z, hzj⟩ : ∃ z, zs[k]? = some z := ⟨zs[k], List.getElem?_eq_getElem hlt⟩
      obtain ⟨z0, z1⟩ := hz z (List.mem_of_getElem? hzj)
      obtain ⟨g, off, cap', hv, q1, q2, q3, q4, q5⟩ := Rd.form h (by omega)
      cases hv
      have c1 := (hB.cell (p := ⟨g, off + k, none⟩) q4).trans (q5 k (.int .u64 z) (by rw [List.getElem?_map, hzj]; rfl))
      have hst := mixL_set zs.length (fun k => eb (fz (zs.getD k 0))) (fun _ => 0) k
      simp only [show zs.getD k 0 = z by simp [List.getD, hzj]] at hst
      have HS := Lib.hid hst
      obtain ⟨s1, s2⟩ := blk_cellE bo (mixL_get zs.length (fun k => eb (fz (zs.getD k 0))) (fun _ => 0) k hlt)
      have hlen : k < (mixL zs.length (fun k => eb (fz (zs.getD k 0))) (fun _ => 0) k).length := by rw [mixL_len]; exact hlt
      generalize mixL zs.length (fun k => eb (fz (zs.getD k 0))) (fun _ => 0) k = l at *
      have hfz : fv (fz z) = z := by rw [fv_fz]; omega
      have HC := eFromBase (fz z)
      rw [hfz] at HC
      replace HC := Lib.hid HC
      have hwr := hB.size
      clear hst hzj q5 h hz hfz b3
      go_wp2_with fail
      refine (HC.out _).mono ?_
      rintro e w2 ⟨he, hb⟩
      unfold ev at he
      subst he
      have bo2 := bo.keep hb
      have e1 := bo2.frozen
      have e2 := (hb.cell (p := ⟨w.heap.size, k * 2, none⟩) bo.lt).trans s1
      have e3 := (hb.cell (p := ⟨w.heap.size, k * 2 + 1, none⟩) bo.lt).trans s2
      clear s1 s2 c1
      go_wp2
      exact ⟨⟨k + 1, by omega, by go_num, by rw [← HS.out]; exact blk_setE bo2 k _ hlen, below_setE (hB.trans (hb.mono hB.size)) (Nat.le_refl _)⟩, by simp [intOf]; omega⟩
    · obtain rfl : k = zs.length := by omega
      have hm : mixL zs.length (fun k => eb (fz (zs.getD k 0))) (fun _ => 0) zs.length = lftE zs := by
        rw [mixL_all]
        unfold lftE
        apply List.ext_getElem?
        intro i
        rw [List.getElem?_map, List.getElem?_map]
        by_cases hi : i < zs.length
        · rw [List.getElem?_range hi, List.getElem?_eq_getElem hi]; simp [List.getD, hi]
        · rw [List.getElem?_eq_none (by simpa using hi), List.getElem?_eq_none (by simpa using hi)]; rfl
      rw [hm] at bo
      go_wp2
      go_ret
      refine ⟨_, rfl, ?_, hB⟩
      unfold ExtA
      exact exts_of_blk bo (lftE_len zs) (by omega) (Nat.le_refl _) bo.lt
set_option maxRecDepth 100000 in
set_option maxHeartbeats 400000 in
theorem gLift (zs : List Int) (hn : zs.length ≤ 1000) (v : Value) (lo hi' : Nat) (w : World) (h : Rd lo hi' 1 w v zs.length (zs.map fun z => Value.int .u64 z)) (hz : ∀ z ∈ zs, 0 ≤ z ∧ z < 18446744069414584321) :
    Calls Tryz.prog 7 #[v] w (RetR (ExtA (lftE zs)) w) := by
  obtain ⟨A1, cap1, rfl⟩ := h.len
  go_enter Tryz.func7, Tryz.ntmps7
  go_wp2_with fail
  refine (gApply zs hn _ lo hi' w h hz).mono ?_
  rintro e w2 ⟨v, rfl, hv, hb⟩
  go_wp2
  go_ret
  exact ⟨v, rfl, hv, hb⟩
end Go.Proofs.YtficeebbbkmhcaaGreatDoor
namespace Go.Proofs.YtficeebbbkmhcaaGreatDoor
open Go.RowKit

theorem en_attestor_reading_column : ∀ args w, (callFunc 25 args).run Tryz.prog w = .ok (.enter 25 args) w := enters_of Tryz.func25 (by kernel_rfl) rfl
theorem en_reading_cA : ∀ args w, (callFunc 26 args).run Tryz.prog w = .ok (.enter 26 args) w := enters_of Tryz.func26 (by kernel_rfl) rfl
theorem en_reading_cB : ∀ args w, (callFunc 27 args).run Tryz.prog w = .ok (.enter 27 args) w := enters_of Tryz.func27 (by kernel_rfl) rfl
set_option maxRecDepth 100000 in
theorem gChk15 (s : Stm) (hs : s.length ≤ 16) (x : StrW) (w : World) (hx : StrIn w x s) : Calls Tryz.prog 23 #[.agg (smc x).toArray, .int .i64 4] w (Ret (.int .i64 0) w) := by
  obtain ⟨x1, x2⟩ := x
  obtain ⟨A1, cap1, hv1⟩ := Rd.len hx.1
  obtain ⟨A2, cap2, hv2⟩ := Rd.len hx.2
  dsimp only at hv1 hv2
  subst hv1
  subst hv2
  unfold smc
  dsimp only
  obtain ⟨n, hn⟩ : ∃ n, n = s.length := ⟨_, rfl⟩
  rw [← hn] at hs ⊢
  clear hx hn
  go_enter Tryz.func23, Tryz.ntmps23
  go_upto_region 1 with (fail)
  refine wp_stk1 fun W hW hz b1 => ?_
  have f1 := gw_blk b1
  have HW := Lib.hid hW
  clear hW hz
  go_upto_region 3 with (fail)
  refine wp_region_rg 6 [] (by kernel_rfl) (by kernel_rfl) (by kernel_rfl) trivial ?_
  iterate 6 (refine rg_det rfl rfl rfl (fun K hK => ?_); go_big_quiet_op; refine hK _ ?_; clear hK K)
  refine rg_nil (fun w' hw' hF => ?_)
  obtain ⟨z, rfl⟩ := hw'
  simp only [List.drop_succ_cons, List.drop_zero]
  obtain ⟨X, hX⟩ : ∃ X, X = z.w := ⟨_, rfl⟩
  have HX := Lib.hid (HW.out.trans (z.h.mono HW.out.size))
  rw [← hX] at HX ⊢
  clear hF hX z f1 b1
  go_wp2_with fail
  exact bodyPost_ret (v := .int .i64 0) (by simp [results, Tryz.results23, go_sem]) rfl ⟨rfl, HX.out⟩
theorem amt_who (c : Nat) (hc : c < 4) (x : Rdg × Bool) : amt c x = [x.1.who, x.1.when, x.1.kind, x.1.value].getD c 0 := by
  obtain rfl | rfl | rfl | rfl : c = 0 ∨ c = 1 ∨ c = 2 ∨ c = 3 := by omega
  all_goals rfl
def FldH (c : Nat) (f : FuncId) (m : Int) : Prop := fldE c = [.func (.func f) #[] #[], .int .i64 m] ∧ (∀ args w, (callFunc f args).run Tryz.prog w = .ok (.enter f args) w) ∧ ∀ r w, Calls Tryz.prog f #[rdV r] w fun e w2 => e = .returned (.int .i64 ([r.who, r.when, r.kind, r.value].getD c 0)) ∧ Below w.heap.size w w2
theorem fldH_ex (c : Nat) (hc : c < 4) : ∃ f m, FldH c f m := by
  obtain rfl | rfl | rfl | rfl : c = 0 ∨ c = 1 ∨ c = 2 ∨ c = 3 := by omega
  · exact ⟨_, _, rfl, fun args w => enters_of Tryz.func55 (by kernel_rfl) rfl args w, fun r w => gField1 r w⟩
  · exact ⟨_, _, rfl, fun args w => enters_of Tryz.func56 (by kernel_rfl) rfl args w, fun r w => gField2 r w⟩
  · exact ⟨_, _, rfl, fun args w => enters_of Tryz.func57 (by kernel_rfl) rfl args w, fun r w => gField3 r w⟩
  · exact ⟨_, _, rfl, fun args w => enters_of Tryz.func58 (by kernel_rfl) rfl args w, fun r w => gField4 r w⟩
set_option maxRecDepth 100000 in
theorem gColA (s : Stm) (hr : ∀ x ∈ s, x.1.ok) (x : StrW) (c : Nat) (hc : c < 4) (f : FuncId) (m : Int) (hf : FldH c f m) (g9 g2 k : Nat) (hk : k < s.length) (w : World) (h9 : Blk w g9 84 (fldE c).toArray) (h2 : Blk w g2 28 (smc x).toArray) (hx : StrIn w x s) : Calls Tryz.prog 26 #[.int .i64 (k : Int), .pointer (some ⟨g9, 0, none⟩), .pointer (some ⟨g2, 0, none⟩)] w (Ret (.int .u64 (colV c s k)) w) := by
  obtain ⟨hf1, hen, hcal⟩ := hf
  rw [hf1] at h9
  obtain ⟨⟨r, gn⟩, hrb⟩ : ∃ x, s[k]? = some x := ⟨_, List.getElem?_eq_getElem hk⟩
  have hzv : colV c s k = [r.who, r.when, r.kind, r.value].getD c 0 := by unfold colV; rw [hrb]; exact amt_who c hc (r, gn)
  have hrng := colV_rng c s hr k
  rw [hzv] at hrng ⊢
  obtain ⟨zv, hz⟩ : ∃ z, z = [r.who, r.when, r.kind, r.value].getD c 0 := ⟨_, rfl⟩
  have HC := fun W => hcal r W
  rw [← hz] at hrng HC ⊢
  have hzu : IntKind.u64.wrap zv = zv := IntWalk.u64_in _ (by omega)
  clear hz
  obtain ⟨x1, x2⟩ := x
  obtain ⟨A1, cap1, hv1⟩ := Rd.len hx.1
  obtain ⟨A2, cap2, hv2⟩ := Rd.len hx.2
  dsimp only at hv1 hv2
  subst hv1
  subst hv2
  obtain ⟨gl, ol, cl', hvl, hcl, hgl, hkl⟩ := RdA.form hx.1 (by omega)
  cases hvl
  have r0 := (hkl _ _ (rdsc_rng hrb 0 _ rfl))
  have r1 := (hkl _ _ (rdsc_rng hrb 1 _ rfl))
  have r2 := (hkl _ _ (rdsc_rng hrb 2 _ rfl))
  have r3 := (hkl _ _ (rdsc_rng hrb 3 _ rfl))
  have HRG := Lib.hid (show w.rangeAt gl (ol + k * 4) (rdc r) from fun j v hj => by
    rw [Nat.add_assoc]
    exact hkl _ _ (rdsc_rng hrb j v hj))
  have HGL := Lib.hid hgl
  obtain ⟨n, hn⟩ : ∃ n, n = s.length := ⟨_, rfl⟩
  have f9 := gw_blk h9
  have c20 : w.cell? ⟨g2, 0, none⟩ = some (.slice (some ⟨gl, ol, none⟩) s.length cap1) := (h2.cell 0).trans rfl
  have f2 := gw_cell (b := g2) h2.lt c20
  clear c20
  have hz1 : ¬ ((k : Int) < 0) := by omega
  have hz2 : ¬ ((n : Int) ≤ (k : Int)) := by omega
  have HW := Lib.hid (Below.refl w.heap.size w)
  rw [← hn] at f2
  clear h9 h2 hx r0 r1 r2 r3 hkl hcal hrb hzv hf1 hr hc hk
  go_enter Tryz.func26, Tryz.ntmps26
  go_upto_region 1 with (fail)
  refine wp_region_rg 9 [(6, Spec.val (rdV r)), (7, Spec.val (.int .i64 zv))] (by kernel_rfl) (by kernel_rfl) (by kernel_rfl) trivial ?_
  iterate 6 (refine rg_det rfl rfl rfl (fun K hK => ?_); go_big_quiet_op; refine hK _ ?_; clear hK K)
  refine rg_val rfl rfl (fun W1 hW1 hF => step_loadR (cs := rdc r) rd_under rfl rd_size rfl rfl (range_keep HRG.out HGL.out (grw_below hW1))) ?_
  intro a' ha
  simp only [Act.put, List.setIfInBounds_toArray, List.set_cons_succ, List.set_cons_zero] at ha
  subst ha
  refine rg_val rfl rfl (fun W1 hW1 hF => step_callvs (first := []) (cap := []) hen ((HC W1)) rfl rfl rfl rfl) ?_
  intro a' ha
  simp only [Act.put, List.setIfInBounds_toArray, List.set_cons_succ, List.set_cons_zero] at ha
  subst ha
  refine rg_det rfl rfl rfl (fun K hK => ?_)
  go_big_quiet_op
  refine hK _ ?_; clear hK K
  refine rg_nil (fun w' hw' hF => ?_)
  obtain ⟨z, rfl⟩ := hw'
  simp only [List.drop_succ_cons, List.drop_zero]
  obtain ⟨X, hX⟩ : ∃ X, X = z.w := ⟨_, rfl⟩
  have HX := Lib.hid (z.h)
  rw [← hX] at HX ⊢
  clear hF hX z f2 f9
  go_wp2_with fail
  exact bodyPost_ret (v := .int .u64 zv) (by simp [results, Tryz.results26, go_sem]) rfl ⟨rfl, HX.out⟩
set_option maxRecDepth 100000 in
theorem gColB (s : Stm) (x : StrW) (g2 k : Nat) (hk : k < s.length) (w : World) (h2 : Blk w g2 28 (smc x).toArray) (hx : StrIn w x s) : Calls Tryz.prog 27 #[.int .i64 (k : Int), .pointer (some ⟨g2, 0, none⟩)] w (Ret (.int .u64 (colV 4 s k)) w) := by
  obtain ⟨⟨r, gn⟩, hrb⟩ : ∃ x, s[k]? = some x := ⟨_, List.getElem?_eq_getElem hk⟩
  have hzv : colV 4 s k = if gn = true then 0 else 1 := by unfold colV; rw [hrb]; cases gn <;> rfl
  obtain ⟨x1, x2⟩ := x
  obtain ⟨A1, cap1, hv1⟩ := Rd.len hx.1
  obtain ⟨A2, cap2, hv2⟩ := Rd.len hx.2
  dsimp only at hv1 hv2
  subst hv1
  subst hv2
  obtain ⟨gm, om, cm', hvm, hcm, hgm, hkm⟩ := RdA.form hx.2 (by omega)
  cases hvm
  have q0 := hkm k (.bool gn) (gnc_get hrb)
  obtain ⟨n, hn⟩ : ∃ n, n = s.length := ⟨_, rfl⟩
  have c2 : w.cell? ⟨g2, 1, none⟩ = some (.slice (some ⟨gm, om, none⟩) s.length cap2) := (h2.cell 1).trans rfl
  have l2 := h2.lt
  rw [← hn] at c2
  have hz1 : ¬ ((k : Int) < 0) := by omega
  have hz2 : ¬ ((n : Int) ≤ (k : Int)) := by omega
  clear h2 hx hkm hrb
  cases gn with
  | true =>
    rw [if_pos rfl] at hzv
    rw [hzv]
    clear hzv
    go_enter Tryz.func27, Tryz.ntmps27
    go_wp2_with fail
    go_ret
    exact ⟨rfl, Below.refl _ _⟩
  | false =>
    rw [if_neg (by decide)] at hzv
    rw [hzv]
    clear hzv
    go_enter Tryz.func27, Tryz.ntmps27
    go_wp2_with fail
    go_ret
    exact ⟨rfl, Below.refl _ _⟩
end Go.Proofs.YtficeebbbkmhcaaGreatDoor
