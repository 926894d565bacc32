/-
  The table of weights: the walk.
-/
import Derived.Test.YtnfiomccgakooaaDoorTab
namespace Go.Proofs.YtnfiomccgakooaaDoor
open Go.RowKit
attribute [local go_sem] Oper.semAt_some

set_option maxRecDepth 100000 in
theorem mk_ext2 (l n : Nat) (hl : l ≤ n) (hn : n ≤ 1000000) (w : World) : (Instr.makeSlice 22 (.int .i64 (l : Int)) (.int .i64 (n : Int))).run Tryd.prog w = .ok (.slice (some ⟨w.heap.size, 0, none⟩) l n) (w.alloc (.cells ((List.replicate n (0 : E)).flatMap ec).toArray 27)) := by
  obtain ⟨i0, hi0, hz0, hz1, hz2⟩ := info_parts ext_info
  have h := run_make (P := Tryd.prog) w _ _ i0 _ Tryd.underlying22 hi0 hz0 .i64 .i64 (l : Int) (n : Int) (by omega) (by omega) (by rw [hz2]; omega) (by omega)
  have h' := mk_ext n hn w
  have h2 := run_make (P := Tryd.prog) w _ _ i0 _ Tryd.underlying22 hi0 hz0 .i64 .i64 (n : Int) (n : Int) (by omega) (Int.le_refl _) (by rw [hz2]; omega) (by omega)
  rw [h'] at h2
  rw [h]
  simp only [Int.toNat_natCast, Result.ok.injEq] at h2 ⊢
  exact ⟨trivial, h2.2.symm⟩

set_option maxRecDepth 100000 in
set_option maxHeartbeats 4000000 in
theorem wEqTable (p : List E) (v : Value) (lo hi : Nat) (w : World) (hp : ExtS lo hi w v p) (hhi : hi ≤ w.heap.size) (h1 : Laid w) (hpl : p.length ≤ 18) :
    Calls Tryd.prog 18 #[v] w (RetR (ExtA (tabE p)) w) := by
  obtain ⟨A, cap, rfl⟩ := hp.len
  have h2p : 2 ^ p.length ≤ 2 ^ 18 := Nat.pow_le_pow_right (by decide) hpl
  have h2i : ((2 ^ p.length : Nat) : Int) = (2 : Int) ^ p.length := by simp
  have h2q : 0 < 2 ^ p.length := Nat.two_pow_pos _
  refine (callsIn_wide (n := 3)).1 ?_
  refine callsIn_of_wp_marks Tryd.func18 rfl trivial ?_ rfl
  simp only [Tryd.ntmps18, List.size_toArray, List.length_cons, List.length_nil, Nat.reduceAdd, Nat.reduceSub, Array.replicate_succ, Array.replicate_zero, List.push_toArray, List.append_toArray, List.nil_append, List.cons_append]
  have mk := mk_ext2 1 (2 ^ p.length) (by omega) (by omega) w
  rw [h2i, show ((1 : Nat) : Int) = 1 from rfl] at mk
  obtain ⟨W1, hW1⟩ : ∃ W1, w.alloc (.cells ((List.replicate (2 ^ p.length) (0 : E)).flatMap ec).toArray 27) = W1 := ⟨_, rfl⟩
  have hBW : Below w.heap.size w W1 := by rw [← hW1]; exact (Below.refl _ _).alloc (Nat.le_refl _) _
  have bW : Blk W1 w.heap.size 27 ((List.replicate (2 ^ p.length) (0 : E)).flatMap ec).toArray := by rw [← hW1]; exact Blk.new _ _ _
  have hsW : W1.heap.size = w.heap.size + 1 := by rw [← hW1]; simp
  have hlW := h1.keep hBW
  rw [hW1] at mk
  have f1 := hlW.1
  have f2 := hlW.2.1
  have f3 := hlW.2.2
  have e1 := (blk_cellE bW (k := 0) (x := 0) (by simp [h2q])).1
  have e2 := (blk_cellE bW (k := 0) (x := 0) (by simp [h2q])).2
  have e3 := bW.frozen
  simp only [Nat.zero_mul, Nat.zero_add] at e1 e2
  gi_wp2_with fail
  refine ⟨trivial, (callsIn_wide.2 (wWeights _ _ _ _)).mono ?_⟩
  rintro e w2 ⟨rfl, rfl⟩
  have hrow1 : W1.ownsRow w.heap.size 27 2 (.slice (some ⟨w.heap.size, 0, none⟩) 1 (2 ^ p.length)) 1 (([0] : List E).flatMap ec) := by
    refine ⟨rfl, .inr ⟨w.heap.size, 2 ^ p.length, _, rfl, Nat.le_refl _, bW, h2q, by unfold maxLen; omega, by rw [List.size_toArray, flat_length ec_len, List.length_replicate], ?_⟩⟩
    obtain ⟨m, hm⟩ : ∃ m, 2 ^ p.length = m + 1 := ⟨2 ^ p.length - 1, by omega⟩
    rw [hm, List.replicate_succ, List.flatMap_cons]
    rfl
  have hrow2 := (row_setE hrow1 0 1 (by decide))
  obtain ⟨W2, hW2⟩ : ∃ W2, (((W1.setCell ⟨w.heap.size, 0, none⟩ (.int .u64 (fv (1 : E).a))).setCell ⟨w.heap.size, 1, none⟩ (.int .u64 (fv (1 : E).b))).alloc (.cells #[.slice (some ⟨w.heap.size, 0, none⟩) 1 (2 ^ p.length)] 22)).alloc (.cells #[.slice A p.length cap] 22) = W2 := ⟨_, rfl⟩
  have hrow3 : W2.ownsRow w.heap.size 27 2 (.slice (some ⟨w.heap.size, 0, none⟩) 1 (2 ^ p.length)) 1 ((tabE []).flatMap ec) := by rw [← hW2]; exact (hrow2.alloc _).alloc _
  have hB2 : Below w.heap.size w W2 := by
    rw [← hW2]
    exact ((below_set2 hBW (Nat.le_refl _)).alloc (by simp; omega) _).alloc (by simp; omega) _
  have hs2 : W2.heap.size = w.heap.size + 3 := by rw [← hW2]; simp; omega
  have bB1 : Blk W2 (w.heap.size + 1) 22 #[.slice (some ⟨w.heap.size, 0, none⟩) 1 (2 ^ p.length)] := by
    rw [← hW2]
    exact (Blk.new_at _ _ _ (by simp; omega)).alloc _
  have bB2 : Blk W2 (w.heap.size + 2) 22 #[.slice A p.length cap] := by
    rw [← hW2]
    exact Blk.new_at _ _ _ (by simp; omega)
  have hsz1 : (((W1.setCell ⟨w.heap.size, 0, none⟩ (.int .u64 (fv (1 : E).a))).setCell ⟨w.heap.size, 1, none⟩ (.int .u64 (fv (1 : E).b))).alloc (.cells #[.slice (some ⟨w.heap.size, 0, none⟩) 1 (2 ^ p.length)] 22)).heap.size = w.heap.size + 2 := by simp; omega
  rw [hW2, hsz1]
  clear hW2 hrow1 hrow2 bW e1 e2 e3 f1 f2 f3 mk hW1 hsz1
  gi_wp2_with fail
  have hp2 : ExtS lo w.heap.size W2 (.slice A p.length cap) p := (hp.below hB2 hhi).wide (Nat.le_refl _) hhi
  refine wpIn_seq1 (wIter p (.slice A p.length cap) 2 lo w.heap.size (w.heap.size + 2) (by decide) W2 hp2 (bB2.cell 0) (h1.keep hB2) h1.2.2 (by omega) (by omega)) (by decide) rfl (enters_of Tryd.func64 (by kernel_rfl) rfl) (fun g hg => by show g < W2.heap.size; have : g < w.heap.size := hg; omega)
    (fun pre W => (∃ g cap2, Blk W (w.heap.size + 1) 22 #[.slice (some ⟨g, 0, none⟩) (2 ^ pre.length) cap2] ∧ W.ownsRow w.heap.size 27 2 (.slice (some ⟨g, 0, none⟩) (2 ^ pre.length) cap2) (2 ^ pre.length) ((tabE pre).flatMap ec) ∧ (2 ≤ cap2 ∨ p.length = 0)) ∧ Below w.heap.size w W ∧ W2.heap.size ≤ W.heap.size)
    ?hI (fun pre W h => h.2.2) ?h0 5 27 (fun x => #[.int .u64 (fv x.a), .int .u64 (fv x.b)]) ?assign ?body ?done
  case hI =>
    rintro pre W W' row ⟨⟨g, cap2, q1, q2, q3⟩, q4, q5⟩ hg hr
    refine ⟨⟨g, cap2, blk_own (β := Unit) () W W' row q1 hg hr, q2.kept hg (.inr fun e => ?_), q3⟩, ownFrom_below (β := Unit) (Nat.le_refl _) (by omega) () W W' row q4 hg hr, Nat.le_trans q5 hg.size⟩
    obtain ⟨_, o, ho, hc⟩ := hr g e.symm
    rw [row_cells q2 o ho] at hc
    cases hc
  case h0 =>
    refine ⟨⟨w.heap.size, 2 ^ p.length, bB1, hrow3, ?_⟩, hB2, Nat.le_refl _⟩
    rcases Nat.eq_zero_or_pos p.length with h | h
    · exact .inr h
    · refine .inl ?_
      calc 2 = 2 ^ 1 := rfl
        _ ≤ 2 ^ p.length := Nat.pow_le_pow_right (by decide) h
  case assign =>
    intro l x W K hK
    simp only [boxAct, ev, List.setIfInBounds_toArray, List.set_cons_succ, List.set_cons_zero] at hK ⊢
    gi_wp2_with fail
    exact hK _ _ rfl rfl
  case body =>
    rintro l pre x Bx W a' rfl ⟨⟨g, cap2, q1, q2, q3⟩, q4, q5⟩ hBx bX hlt
    simp only [boxAct, ev, List.setIfInBounds_toArray, List.set_cons_succ, List.set_cons_zero]
    obtain ⟨m, hm⟩ : ∃ m, 2 ^ pre.length = m := ⟨_, rfl⟩
    rw [hm] at q1 q2
    have c1 := q1.cell
    gi_wp2_with fail
    have hm0 : 0 < m := by rw [← hm]; exact Nat.two_pow_pos _
    have hmb : m ≤ 2 ^ 18 := by rw [← hm]; exact Nat.pow_le_pow_right (by decide) (by omega)
    have hc2 : 2 ≤ cap2 := q3.resolve_right (by omega)
    obtain ⟨i0, hi0, hz0, hz1, hz2⟩ := info_parts ext_info
    have hop := open_round (open_wide Tryd.prog) l
    clear c1 q3
    gi_loopw [23] (fun i wr => ∃ k g cap, k ≤ m ∧ i = .int .i64 (k : Nat) ∧ Blk wr (w.heap.size + 1) 22 #[.slice (some ⟨g, 0, none⟩) (m + k) cap] ∧ wr.ownsRow w.heap.size 27 2 (.slice (some ⟨g, 0, none⟩) (m + k) cap) (m + k) ((halfE pre x k).flatMap ec) ∧ 2 ≤ cap ∧ Blk wr Bx 27 #[.int .u64 (fv x.a), .int .u64 (fv x.b)] ∧ Below w.heap.size W wr ∧ KeepsOthers W wr) (fun i _ => m - (intOf i).toNat)
    case atStart =>
      exact ⟨0, g, cap2, Nat.zero_le _, rfl, q1, by rw [halfE_zero]; exact q2, hc2, bX, Below.refl _ _, KeepsOthers.refl _⟩
    case round =>
      obtain ⟨k, g', cap', hk, rfl, f1, f2, f3, f4, f5, f6⟩ := hrel
      by_cases hkm : k < m
      · obtain ⟨m1, m2⟩ := row_cellE f2 (halfE_get pre x k (by rw [hm]; exact hkm))
        have hg1 := (row_cap f2).2.2
        have HG := Lib.hid (halfE_step pre x k (by rw [hm]; exact hkm))
        have HO := Lib.hid (halfE_get pre x k (by rw [hm]; exact hkm))
        have m1' := gw_cell hg1 m1
        have m2' := gw_cell hg1 m2
        have c1 := gw_blk f1
        have c2 := gw_blk f4
        clear m1 m2
        generalize wt pre k pre.length = o at *
        gi_wp2_with fail
        refine wpIn_region_rg hop 7 [(5, Spec.val (.agg #[.int .u64 (fv (o * x).a), .int .u64 (fv (o * x).b)])), (6, Spec.rel (New 27 #[.int .u64 0, .int .u64 0]) (NewF))] (by kernel_rfl) (by kernel_rfl) (by kernel_rfl) ⟨fit_new, trivial⟩ ?_
        refine rg_det rfl rfl rfl (fun K hK => ?_)
        go_big_quiet_op
        refine hK _ ?_; clear hK K
        refine rg_det rfl rfl rfl (fun K hK => ?_)
        go_big_quiet_op
        refine hK _ ?_; clear hK K
        refine rg_det rfl rfl rfl (fun K hK => ?_)
        go_big_quiet_op
        refine hK _ ?_; clear hK K
        refine rg_det rfl rfl rfl (fun K hK => ?_)
        go_big_quiet_op
        refine hK _ ?_; clear hK K
        refine rg_det rfl rfl rfl (fun K hK => ?_)
        go_big_quiet_op
        refine hK _ ?_; clear hK K
        refine rg_val rfl rfl (fun W1 hW1 hF => step_callv en_attestor_ext_Mul (eMul o x W1) rfl rfl) ?_
        intro a' ha
        simp only [Act.put, List.setIfInBounds_toArray, List.set_cons_succ, List.set_cons_zero] at ha
        subst ha
        refine rg_rel rfl rfl (fun W1 hW1 hF => step_new hi0 hz0 rfl) ?_
        intro n6 m6 v6 hn6 hm6 hd6 hf6 a' ha
        simp only [Act.put, List.setIfInBounds_toArray, List.set_cons_succ, List.set_cons_zero] at ha
        subst ha
        obtain rfl := hf6
        refine rg_nil (fun w' hw' hF => ?_)
        obtain ⟨z, rfl⟩ := hw'
        simp only [List.drop_succ_cons, List.drop_zero]
        obtain ⟨hm6, -, hlt6, b6⟩ := end_last hF
        have hne1 := f1.lt
        have hne2 := f4.lt
        have f1z := f1.gw z
        have f4z := f4.gw z
        have f2z := own_below f2 (Nat.le_refl _) z.h
        have hsw : w.heap.size + 1 < wr.heap.size := hne1
        have hBz : Below w.heap.size wr z.w := z.h.mono (by omega)
        clear hF m1' m2' c1 c2 hd6
        have e1 := b6.cell
        have e2 := b6.frozen
        have e3 := f1z.cell 0
        have e4 := f4z.cell
        have e5 := f1z.frozen 0
        have hX : ∀ o, Below wr.heap.size wr (((z.w.setCell ⟨n6, 0, none⟩ (.int .u64 (fv (o * x).a))).setCell ⟨n6, 1, none⟩ (.int .u64 (fv (o * x).b))).alloc (.cells #[.int .u64 (fv (o * x).a), .int .u64 (fv (o * x).b)] 27)) := fun o => (below_set2 z.h hn6).alloc (by have := z.h.size; simp; omega) _
        have HX := Lib.hid hX
        clear hX
        gi_wp2_with (gi_at_builtin; refine wpListIn_app1 rfl _ _ rfl Tryd.underlying22 hi0 hz0 hz1 hz2 rfl (by decide) (cl := ec (o * x)) rfl (ec_one _) rfl rfl (own_below f2 (Nat.le_refl _) (HX.out o)) ?hsrc ?h63 ?hby ?hbase ?_)
        case hsrc => exact Blk.new_at _ _ _ (by simp)
        case h63 => unfold maxLen; omega
        case hby => omega
        case hbase => have := hBz.size; simp; omega
        intro v1 w3 hown3 hgrow hB3
        obtain ⟨g3, cap3, rfl⟩ := ownsRow_succ hown3
        obtain ⟨X, hXX⟩ : ∃ X, ((z.w.setCell ⟨n6, 0, none⟩ (.int .u64 (fv (o * x).a))).setCell ⟨n6, 1, none⟩ (.int .u64 (fv (o * x).b))).alloc (.cells #[.int .u64 (fv (o * x).a), .int .u64 (fv (o * x).b)] 27) = X := ⟨_, rfl⟩
        have f1X : Blk X (w.heap.size + 1) 22 #[.slice (some ⟨g', 0, none⟩) (m + k) cap'] := by rw [← hXX]; exact (blk_far2 f1z (by omega)).alloc _
        have f4X : Blk X Bx 27 #[.int .u64 (fv x.a), .int .u64 (fv x.b)] := by rw [← hXX]; exact (blk_far2 f4z (by omega)).alloc _
        have b6X : Blk X n6 27 #[.int .u64 (fv (o * x).a), .int .u64 (fv (o * x).b)] := by rw [← hXX]; exact (blk_set2 b6).alloc _
        have hBX : Below wr.heap.size wr X := by rw [← hXX]; exact HX.out o
        have hKX : KeepsOthers wr X := by rw [← hXX]; exact (((keepsOthers_of_below z.h).trans (KeepsOthers.setCell _ _ _)).trans (KeepsOthers.setCell _ _ _)).trans (KeepsOthers.alloc _ _)
        have f2X : X.ownsRow w.heap.size 27 2 (.slice (some ⟨g', 0, none⟩) (m + k) cap') (m + k) ((halfE pre x k).flatMap ec) := own_below f2 (Nat.le_refl _) hBX
        rw [hXX] at hgrow hB3
        have hne3 : Bx ≠ g' := blk_ne_row f2 f3 f4
        have hne4 : w.heap.size + 1 ≠ g' := blk_ne_row' f2 (by decide) f1
        have hne5 : n6 ≠ g' := by have := (row_cap f2).2.2; omega
        have f1w := f1X.kept hgrow (by show some _ ≠ some _; simpa using hne4)
        have f4w := f4X.kept hgrow (by show some _ ≠ some _; simpa using hne3)
        have b6w := b6X.kept hgrow (by show some _ ≠ some _; simpa using hne5)
        have hKw : KeepsOthers wr w3 := hKX.trans (keepsOthers_of_grown hgrow fun q o' e ho => by
          have : g' = q := by simpa [Value.ownBlock] using e
          subst this; exact row_cells f2X o' ho)
        have hBw : Below w.heap.size wr w3 := (hBX.mono (by omega)).trans hB3
        rw [show (halfE pre x k).flatMap ec ++ ec (o * x) = (halfE pre x k ++ [o * x]).flatMap ec by rw [List.flatMap_append]; simp] at hown3
        have hne6 : w.heap.size + 1 ≠ g3 := blk_ne_row' hown3 (by decide) f1w
        have hc3 : 2 ≤ cap3 := by have := (row_cap hown3).1; omega
        have hne7 : Bx ≠ g3 := blk_ne_row hown3 hc3 f4w
        clear hXX e1 e2 e3 e4 e5 HX b6 b6X f1X f4X f2X f1z f4z f2z hBX hKX hgrow hB3
        have e1 := f1w.cell 0
        have e2 := f1w.frozen 0
        gi_wp2_with fail
        obtain ⟨Y, hY⟩ : ∃ Y, w3.setCell ⟨w.heap.size + 1, 0, none⟩ (.slice (some ⟨g3, 0, none⟩) (m + k + 1) cap3) = Y := ⟨_, rfl⟩
        rw [hY]
        have rY : Y.ownsRow w.heap.size 27 2 (.slice (some ⟨g3, 0, none⟩) (m + k + 1) cap3) (m + k + 1) ((halfE pre x k ++ [o * x]).flatMap ec) := by
          rw [← hY]; exact ownsRow_setCell_other hown3 (by show some _ ≠ some _; simpa using Ne.symm hne6) _
        have f1Y : Blk Y (w.heap.size + 1) 22 #[.slice (some ⟨g3, 0, none⟩) (m + k + 1) cap3] := by rw [← hY]; exact f1w.set_ 0 _
        have f4Y : Blk Y Bx 27 #[.int .u64 (fv x.a), .int .u64 (fv x.b)] := by rw [← hY]; exact f4w.far (p := ⟨w.heap.size + 1, 0, none⟩) (by show Bx ≠ w.heap.size + 1; omega) _
        have b6Y : Blk Y n6 27 #[.int .u64 (fv (o * x).a), .int .u64 (fv (o * x).b)] := by rw [← hY]; exact b6w.far (p := ⟨w.heap.size + 1, 0, none⟩) (by show n6 ≠ w.heap.size + 1; omega) _
        have hKY : KeepsOthers wr Y := by rw [← hY]; exact hKw.trans (KeepsOthers.setCell _ _ _)
        have hBY : Below w.heap.size wr Y := by rw [← hY]; exact hBw.setCell (p := ⟨w.heap.size + 1, 0, none⟩) (by show w.heap.size ≤ w.heap.size + 1; omega) _
        clear hY e1 e2 f1w f4w b6w hKw hBw hown3
        have hgo : (halfE pre x k ++ [o * x])[k]? = some o := by rw [List.getElem?_append_left (by rw [halfE_len, hm]; omega)]; exact HO.out
        have hgl : k < (halfE pre x k ++ [o * x]).length := by rw [List.length_append, halfE_len, hm]; simp; omega
        have hg3 := (row_cap rY).2.2
        obtain ⟨m1, m2⟩ := row_cellE rY hgo
        have m1' := gw_cell hg3 m1
        have m2' := gw_cell hg3 m2
        have c1 := gw_blk f1Y
        have c2 := gw_blk b6Y
        clear hgo m1 m2
        refine wpIn_region_rg hop 9 [(7, Spec.val (.agg #[.int .u64 (fv (o - o * x).a), .int .u64 (fv (o - o * x).b)]))] (by kernel_rfl) (by kernel_rfl) (by kernel_rfl) trivial ?_
        refine rg_det rfl rfl rfl (fun K hK => ?_)
        go_big_quiet_op
        refine hK _ ?_; clear hK K
        refine rg_det rfl rfl rfl (fun K hK => ?_)
        go_big_quiet_op
        refine hK _ ?_; clear hK K
        refine rg_det rfl rfl rfl (fun K hK => ?_)
        go_big_quiet_op
        refine hK _ ?_; clear hK K
        refine rg_det rfl rfl rfl (fun K hK => ?_)
        go_big_quiet_op
        refine hK _ ?_; clear hK K
        refine rg_det rfl rfl rfl (fun K hK => ?_)
        go_big_quiet_op
        refine hK _ ?_; clear hK K
        refine rg_det rfl rfl rfl (fun K hK => ?_)
        go_big_quiet_op
        refine hK _ ?_; clear hK K
        refine rg_det rfl rfl rfl (fun K hK => ?_)
        go_big_quiet_op
        refine hK _ ?_; clear hK K
        refine rg_val rfl rfl (fun W1 hW1 hF => step_callv en_attestor_ext_Sub (eSub o (o * x) W1) rfl rfl) ?_
        intro a' ha
        simp only [Act.put, List.setIfInBounds_toArray, List.set_cons_succ, List.set_cons_zero] at ha
        subst ha
        refine rg_det rfl rfl rfl (fun K hK => ?_)
        go_big_quiet_op
        refine hK _ ?_; clear hK K
        refine rg_nil (fun w' hw' hF => ?_)
        obtain ⟨z2, rfl⟩ := hw'
        simp only [List.drop_succ_cons, List.drop_zero]
        have rZ := own_below rY (Nat.le_refl _) z2.h
        have f1Z := f1Y.gw z2
        have f4Z := f4Y.gw z2
        have e1 := m1' z2
        have e2 := m2' z2
        have e3 := rZ.frozenAt
        clear m1' m2' c1 c2 hF
        gi_wp2_with fail
        go_roundw
        case rel =>
          refine ⟨k + 1, g3, cap3, by omega, by go_num, blk_farE f1Z hne6, ?_, hc3, blk_farE f4Z hne7, f5.trans (below_setE (hBY.trans (z2.h.mono (Nat.le_trans (by omega) hBY.size))) (row_cap rY).2.1), f6.trans (((hKY.trans (keepsOthers_of_below z2.h)).trans (KeepsOthers.setCell _ _ _)).trans (KeepsOthers.setCell _ _ _))⟩
          rw [← HG.out]
          exact row_setE rZ k _ hgl
        case measure => simp [intOf]; omega
      · have hkk : k = m := by omega
        subst hkk
        gi_wp2_with fail
        refine ⟨⟨f5.size, fun g hg _ => f5.block g hg⟩, ⟨g', cap', ?_, ?_, .inl f3⟩, q4.trans f5, ?_⟩
        · simp only [Nat.pow_succ, hm, Nat.mul_two]; exact f1
        · have h := halfE_all pre x
          rw [hm] at h
          rw [← h]
          simp only [Nat.pow_succ, hm, Nat.mul_two]
          exact f2
        · have := f5.size; omega
  case done =>
    intro D W' hD ⟨⟨g, cap2, q1, q2, q3⟩, q4, q5⟩ hK
    have c1 := q1.cell
    gi_wp2_with fail
    refine ⟨by simp, .inl ⟨_, _, rfl, run_takeDeferred hK, ?_⟩⟩
    refine ⟨_, results_tmp rfl _ _ _, _, rfl, ?_, q4.trans (belowK_b (w := w) (Nat.le_refl _) W' D _ _ (by omega) hK rfl rfl)⟩
    have h := Rd.of_own (ownsRow_putObj q2 (.deferred none) hK rfl) (by omega) (Nat.le_refl _)
    unfold ExtA ExtS
    rw [tabE_len]
    exact h
end Go.Proofs.YtnfiomccgakooaaDoor
