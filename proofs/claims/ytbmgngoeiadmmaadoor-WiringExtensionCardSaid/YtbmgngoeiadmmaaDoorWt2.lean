/-
  The iterator over weighted gates; the functions that yield the two iterators.
-/
import Derived.Test.YtbmgngoeiadmmaaDoorWt
namespace Go.Proofs.YtbmgngoeiadmmaaDoor
open Go.RowKit
attribute [local go_sem] Oper.semAt_some

set_option maxRecDepth 100000 in
set_option maxHeartbeats 2000000 in
theorem gIter (Pr : Gt × E → Prop) (ts : List {t : Gt × E // Pr t}) (gs : List Gt) (us : List E) (hts : ts.map (·.1) = gs.zip us) (vl vu : Value) (n lo1 lo2 n0 Bl Bu : Nat) (hn : 1 ≤ n) (w : World) (hl : GateS lo1 n0 w vl gs) (hu : ExtS lo2 n0 w vu us) (hlen : gs.length ≤ us.length) (hBl : w.cell? ⟨Bl, 0, none⟩ = some vl) (hBu : w.cell? ⟨Bu, 0, none⟩ = some vu) (hw : n0 ≤ w.heap.size) (hB : Bl < w.heap.size) (hB2 : Bu < w.heap.size) :
    SeqStopsK .wide n Tryd.prog 53 #[.pointer (some ⟨Bl, 0, none⟩), .pointer (some ⟨Bu, 0, none⟩)] (fun t : {t : Gt × E // Pr t} => #[gv t.1.1, ev t.1.2]) (Keeps (fun g => g < n0 ∨ g = Bu)) (fun ys => ys = ts) (fun _ => True) gs.length w := fun l J Jx W hW hJ hJx hY h0 => by
  obtain ⟨A, cap, rfl⟩ := hl.len
  obtain ⟨A2, cap2, rfl⟩ := hu.len
  have hl0 := hl.2.1
  have hu0 := hu.2.1
  have hBl' := (hW.cell (p := ⟨Bl, 0, none⟩) hB).trans hBl
  have hBu' := (hW.cell (p := ⟨Bu, 0, none⟩) hB2).trans hBu
  have hl' := hl.below hW hw
  have hu' := hu.below hW hw
  have hB2' : Bu < W.heap.size := Nat.lt_of_lt_of_le hB2 hW.size
  have hop := open_wide Tryd.prog
  refine callsIn_of_wp Tryd.func53 rfl trivial ?_ rfl
  simp only [Tryd.ntmps53, List.size_toArray, List.length_cons, List.length_nil, Nat.reduceAdd, Nat.reduceSub, Array.replicate_succ, Array.replicate_zero, List.push_toArray, List.append_toArray, List.nil_append, List.cons_append]
  gi_wp2
  gi_loopw [8] (fun i wr => ∃ k : Nat, k ≤ gs.length ∧ i = .int .i64 k ∧ J (ts.take k) wr ∧ Keeps (fun g => g < n0 ∨ g = Bu) W wr) (fun i _ => gs.length - (intOf i).toNat)
  case atStart => exact ⟨0, Nat.zero_le _, rfl, by simpa using h0, Keeps.refl _⟩
  case round =>
    obtain ⟨k, hk, rfl, hJs, hnx⟩ := hrel
    by_cases hlt : k < gs.length
    · obtain ⟨g, off, cap', hv, q1, q2, q3, q4, q5⟩ := gates_cells hl' (by omega)
      cases hv
      obtain ⟨g2, off2, cap'', hv, r1, r2, r3, r4, r5⟩ := exts_cells hu' (by omega)
      cases hv
      obtain ⟨x, hx⟩ : ∃ x, gs[k]? = some x := ⟨gs[k], List.getElem?_eq_getElem hlt⟩
      obtain ⟨u, hu2⟩ : ∃ x, us[k]? = some x := ⟨us[k]'(by omega), List.getElem?_eq_getElem (by omega)⟩
      obtain ⟨e1, e2, e3, e4, e5, e6⟩ := q5 k x hx
      have d1 := hnx.cell (.inl q3) e1
      have d2 := hnx.cell (.inl q3) e2
      have d3 := hnx.cell (.inl q3) e3
      have d4 := hnx.cell (.inl q3) e4
      have d5 := hnx.cell (.inl q3) e5
      have d6 := hnx.cell (.inl q3) e6
      have y1 := hnx.cell (.inl r3) (r5 k u hu2).1
      have y2 := hnx.cell (.inl r3) (r5 k u hu2).2
      have z1 := hnx.cell (.inr rfl) hBu'
      have hBuz : Bu < wr.heap.size := Nat.lt_of_lt_of_le hB2' hnx.size
      have hg2z : g2 < wr.heap.size := Nat.lt_of_lt_of_le r4 hnx.size
      obtain ⟨τ, hτ, hτ2⟩ : ∃ τ, ts[k]? = some τ ∧ τ.1 = (x, u) := by
        have hz : (gs.zip us)[k]? = some (x, u) := by rw [List.getElem?_zip_eq_some]; exact ⟨hx, hu2⟩
        rw [← hts, List.getElem?_map] at hz
        cases hq : ts[k]? with
        | none => simp [hq] at hz
        | some τ => rw [hq] at hz; exact ⟨τ, rfl, by simpa using hz⟩
      have htk : ts.take (k + 1) = ts.take k ++ [τ] := by rw [List.take_add_one, hτ]; rfl
      have HT := Lib.hid htk
      have HY := Lib.hid hY
      have HJ := Lib.hid hJ
      clear q5 r5 hx hu2 htk hτ hY hJ hJx e1 e2 e3 e4 e5 e6
      gi_wp2_with fail
      refine wpIn_stk1 fun W2 hBW hzW b1 => ?_
      have c1 := gw_blk b1
      have k1 := gw_cell (W := W2) (Nat.lt_of_lt_of_le hBuz hBW.size) ((hBW.cell (p := ⟨Bu, 0, none⟩) hBuz).trans z1)
      have k2 := gw_cell (W := W2) (Nat.lt_of_lt_of_le hg2z hBW.size) ((hBW.cell (p := ⟨g2, off2 + k * 2, none⟩) hg2z).trans y1)
      have k3 := gw_cell (W := W2) (Nat.lt_of_lt_of_le hg2z hBW.size) ((hBW.cell (p := ⟨g2, off2 + k * 2 + 1, none⟩) hg2z).trans y2)
      refine wpIn_region_rg hop 6 [] (by kernel_rfl) (by kernel_rfl) (by kernel_rfl) trivial ?_
      refine rg_det rfl rfl rfl (fun K hK => ?_)
      go_big_quiet_op
      refine hK _ ?_; clear hK K
      refine rg_det rfl rfl rfl (fun K hK => ?_)
      go_big_quiet_op
      refine hK _ ?_; clear hK K
      refine rg_det rfl rfl rfl (fun K hK => ?_)
      go_big_quiet_op
      refine hK _ ?_; clear hK K
      refine rg_det rfl rfl rfl (fun K hK => ?_)
      go_big_quiet_op
      refine hK _ ?_; clear hK K
      refine rg_det rfl rfl rfl (fun K hK => ?_)
      go_big_quiet_op
      refine hK _ ?_; clear hK K
      refine rg_det rfl rfl rfl (fun K hK => ?_)
      go_big_quiet_op
      refine hK _ ?_; clear hK K
      refine rg_nil (fun w' hw' hF => ?_)
      obtain ⟨z, rfl⟩ := hw'
      simp only [List.drop_succ_cons, List.drop_zero]
      have hBz : Below wr.heap.size wr z.w := hBW.trans (z.h.mono hBW.size)
      have hJz := abides HJ.out hJs hBz
      obtain ⟨fn, tmps, assign, body, hy, hR⟩ := HY.out (ts.take k) τ z.w hJz (by rw [List.length_take]; omega)
      rw [hτ2] at hy
      unfold ev gv at hy
      dsimp only at hy
      clear c1 k1 k2 k3 z1 y1 y2 d1 d2 d3 d4 d5 d6 hF
      gi_wp2
      refine hR.mono ?_
      rintro e W3 (⟨rfl, hJ3, hk3⟩ | ⟨rfl, hJx3⟩)
      · gi_wp2
        go_roundw
        case rel => exact ⟨k + 1, by omega, by go_num, by rw [HT.out]; exact hJ3, (hnx.trans (Keeps.of_below hBz)).trans hk3⟩
        case measure => simp [intOf]; omega
      · gi_wp2
        refine bodyPost_ret (results_none rfl _ _ _) rfl ?_
        exact ⟨⟨_, rfl⟩, .inr ⟨_, trivial, hJx3⟩⟩
    · obtain rfl : k = gs.length := by omega
      gi_wp2
      go_end0
      exact ⟨⟨_, rfl⟩, .inl ⟨_, rfl, by
        have hq : ts.length = (gs.zip us).length := by rw [← hts, List.length_map]
        rw [List.take_of_length_le (by rw [hq, List.length_zip]; omega)] at hJs; exact hJs⟩⟩
set_option maxHeartbeats 1000000 in
theorem wWeights (A : Option Addr) (k cap : Nat) (w : World) : Calls Tryd.prog 64 #[.slice A k cap] w fun e w' => e = .returned (.func (.func 70) #[] #[.pointer (some ⟨w.heap.size, 0, none⟩)]) ∧ w' = w.alloc (.cells #[.slice A k cap] 23) := by
  go_enter Tryd.func64, Tryd.ntmps64
  go_wp2
  go_ret
  exact ⟨rfl, rfl⟩
set_option maxHeartbeats 1000000 in
theorem gWeighted (A A2 : Option Addr) (k cap k2 cap2 : Nat) (w : World) : Calls Tryd.prog 37 #[.slice A k cap, .slice A2 k2 cap2] w fun e w' => e = .returned (.func (.func 53) #[] #[.pointer (some ⟨w.heap.size, 0, none⟩), .pointer (some ⟨w.heap.size + 1, 0, none⟩)]) ∧ w' = (w.alloc (.cells #[.slice A k cap] 22)).alloc (.cells #[.slice A2 k2 cap2] 23) := by
  go_enter Tryd.func37, Tryd.ntmps37
  go_wp2
  go_ret
  exact ⟨by simp, rfl⟩
end Go.Proofs.YtbmgngoeiadmmaaDoor
