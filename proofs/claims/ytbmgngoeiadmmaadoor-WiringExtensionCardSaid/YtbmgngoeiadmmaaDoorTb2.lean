/-
  The tables of the wiring polynomials: the walk.
-/
import Derived.Test.YtbmgngoeiadmmaaDoorTb
import Derived.Laws.OwnMore
namespace Go.Proofs.YtbmgngoeiadmmaaDoor
open Go.RowKit
attribute [local go_sem] Oper.semAt_some

theorem mk_tabs (w : World) : (Instr.makeSlice 36 (.int .i64 4) (.int .i64 4)).run Tryd.prog w = .ok (.slice (some ⟨w.heap.size, 0, none⟩) 4 4) (w.alloc (.cells #[.slice none 0 0, .slice none 0 0, .slice none 0 0, .slice none 0 0] 23)) := by
  obtain ⟨i0, hi0, hz0, hz1, hz2⟩ := info_parts slE_info
  have h := run_make (P := Tryd.prog) w _ _ i0 _ Tryd.underlying36 hi0 hz0 .i64 .i64 4 4 (by omega) (Int.le_refl _) (by rw [hz2]; omega) (by omega)
  have e : madeCells #[(.slice none 0 0 : Value)] 4 = #[.slice none 0 0, .slice none 0 0, .slice none 0 0, .slice none 0 0] := Array.ext' (by rw [toList_madeCells_one]; rfl)
  rw [h, hz1]
  show Result.ok _ (w.alloc (.cells (madeCells #[(.slice none 0 0 : Value)] 4) _)) = _
  rw [e]
  rfl
/-- The four tables as they are laid one by one. -/
def nil4 (vs : List Value) : Array Value := (vs ++ List.replicate (4 - vs.length) (Value.slice none 0 0)).toArray
theorem nil4_get (vs : List Value) (h : vs.length < 4) : (nil4 vs)[vs.length]? = some (.slice none 0 0) := by
  unfold nil4
  rw [List.getElem?_toArray, List.getElem?_append_right (Nat.le_refl _), Nat.sub_self]
  obtain ⟨m, hm⟩ : ∃ m, 4 - vs.length = m + 1 := ⟨3 - vs.length, by omega⟩
  rw [hm]; rfl
theorem nil4_set (vs : List Value) (x : Value) (h : vs.length < 4) : (nil4 vs).setIfInBounds vs.length x = nil4 (vs ++ [x]) := by
  unfold nil4
  obtain ⟨m, hm⟩ : ∃ m, 4 - vs.length = m + 1 := ⟨3 - vs.length, by omega⟩
  have hm2 : 4 - (vs ++ [x]).length = m := by rw [List.length_append, List.length_singleton]; omega
  rw [hm, hm2, List.replicate_succ, List.setIfInBounds_toArray, List.set_append_right _ _ (Nat.le_refl _), Nat.sub_self, List.set_cons_zero, List.append_assoc]
  rfl

set_option maxRecDepth 100000 in
set_option maxHeartbeats 4000000 in
theorem wTables (gs : List Gt) (us : List E) (k : Nat) (vl vu : Value) (lo1 hi1 lo2 hi2 : Nat) (w : World) (hl : GateS lo1 hi1 w vl gs) (hu : ExtS lo2 hi2 w vu us)
    (hh1 : hi1 ≤ w.heap.size) (hh2 : hi2 ≤ w.heap.size) (hlen : gs.length ≤ us.length) (hok : ∀ g ∈ gs, g.L < 2 ^ k ∧ g.R < 2 ^ k) (hk3 : k ≤ 3) :
    Calls Tryd.prog 13 #[vl, vu, .int .i64 k] w (RetR (TabA (tabsT k (gs.zip us))) w) := by
  obtain ⟨Al, capl, rfl⟩ := hl.len
  obtain ⟨Au, capu, rfl⟩ := hu.len
  obtain ⟨n, hn⟩ : ∃ n, n = 2 ^ (2 * k) := ⟨_, rfl⟩
  have hn1 : n ≤ 64 ∧ 1 ≤ n ∧ ((2 : Int) ^ (2 * k) = (n : Int)) := by
    have : k = 0 ∨ k = 1 ∨ k = 2 ∨ k = 3 := by omega
    rcases this with rfl | rfl | rfl | rfl <;> subst hn <;> simp
  obtain ⟨hn2, hn3, hn4⟩ := hn1
  refine (callsIn_wide (n := 4)).1 ?_
  refine callsIn_of_wp_marks Tryd.func13 rfl trivial ?_ rfl
  simp only [Tryd.ntmps13, List.size_toArray, List.length_cons, List.length_nil, Nat.reduceAdd, Nat.reduceSub, Array.replicate_succ, Array.replicate_zero, List.push_toArray, List.append_toArray, List.nil_append, List.cons_append]
  obtain ⟨W1, hW1⟩ : ∃ W1, (w.alloc (.cells #[.int .i64 k] 3)).alloc (.cells ((List.replicate (n * 4) (0 : E)).flatMap ec).toArray 70) = W1 := ⟨_, rfl⟩
  have mk := mk_sums n (by omega) (w.alloc (.cells #[.int .i64 k] 3))
  rw [hW1] at mk
  have hw64 : wrap64 ((2 : Int) ^ (2 * k)) = (n : Int) := by rw [hn4]; simp only [wrap64]; omega
  simp only [World.size_alloc] at mk
  have b1 : Blk W1 w.heap.size 3 #[.int .i64 k] := by rw [← hW1]; exact (Blk.new _ _ _).alloc _
  have b2 : Blk W1 (w.heap.size + 1) 70 ((cellsT k []).flatMap ec).toArray := by rw [← hW1, cellsT_nil, ← hn]; exact Blk.new_at _ _ _ (by simp)
  have hB1 : Below w.heap.size w W1 := by rw [← hW1]; exact ((Below.refl _ _).alloc (Nat.le_refl _) _).alloc (by simp) _
  have hs1 : W1.heap.size = w.heap.size + 2 := by rw [← hW1]; simp
  have HN := Lib.hid hn
  have HN4 := Lib.hid hn4
  clear hW1 hn hn4
  gi_wp2_with fail
  obtain ⟨Y, hY⟩ : ∃ Y, ((W1.alloc (.cells #[.slice (some ⟨w.heap.size + 1, 0, none⟩) n n] 65)).alloc (.cells #[.slice Al gs.length capl] 22)).alloc (.cells #[.slice Au us.length capu] 23) = Y := ⟨_, rfl⟩
  have y1 : Blk Y w.heap.size 3 #[.int .i64 k] := by rw [← hY]; exact ((b1.alloc _).alloc _).alloc _
  have y2 : Blk Y (w.heap.size + 1) 70 ((cellsT k []).flatMap ec).toArray := by rw [← hY]; exact ((b2.alloc _).alloc _).alloc _
  have y3 : Blk Y (w.heap.size + 2) 65 #[.slice (some ⟨w.heap.size + 1, 0, none⟩) n n] := by rw [← hY]; exact ((Blk.new_at _ _ _ (by omega)).alloc _).alloc _
  have y4 : Blk Y (w.heap.size + 2 + 1) 22 #[.slice Al gs.length capl] := by rw [← hY]; exact (Blk.new_at _ _ _ (by simp; omega)).alloc _
  have y5 : Blk Y (w.heap.size + 2 + 1 + 1) 23 #[.slice Au us.length capu] := by rw [← hY]; exact Blk.new_at _ _ _ (by simp; omega)
  have yB : Below w.heap.size w Y := by rw [← hY]; exact ((hB1.alloc (by omega) _).alloc (by simp; omega) _).alloc (by simp; omega) _
  have yl : GateS lo1 w.heap.size Y (.slice Al gs.length capl) gs := (hl.below yB hh1).wide (Nat.le_refl _) hh1
  have yu : ExtS lo2 w.heap.size Y (.slice Au us.length capu) us := (hu.below yB hh2).wide (Nat.le_refl _) hh2
  have hYs : Y.heap.size = w.heap.size + 5 := by rw [← hY]; simp; omega
  have hws : W1.heap.size + 1 = w.heap.size + 2 + 1 := by omega
  refine ⟨trivial, (callsIn_wide.2 (gWeighted _ _ _ _ _ _ _)).mono ?_⟩
  rintro e w2 ⟨rfl, rfl⟩
  simp only [World.size_alloc, hws]
  rw [hY]
  clear hY b1 b2 mk hws
  gi_wp2_with fail
  have hpr : ∀ t ∈ gs.zip us, t.1.L < 2 ^ k ∧ t.1.R < 2 ^ k := fun t ht => hok t.1 (List.of_mem_zip (a := t.1) (b := t.2) ht).1
  refine wpIn_seq2 (gIter (fun t => t.1.L < 2 ^ k ∧ t.1.R < 2 ^ k) (subs (gs.zip us) hpr) gs us (subs_val _ hpr) _ _ 3 lo1 lo2 w.heap.size (w.heap.size + 2 + 1) (w.heap.size + 2 + 1 + 1) (by decide) Y yl yu hlen (y4.cell 0) (y5.cell 0) yB.size (by omega) (by omega)) (by decide) rfl (enters_of Tryd.func53 (by kernel_rfl) rfl)
    (fun g hg => by rcases hg with hg | hg <;> omega)
    (fun pre W' => Blk W' w.heap.size 3 #[.int .i64 k] ∧ Blk W' (w.heap.size + 1) 70 ((cellsT k (pre.map (·.1))).flatMap ec).toArray ∧ Blk W' (w.heap.size + 2) 65 #[.slice (some ⟨w.heap.size + 1, 0, none⟩) n n] ∧ Below w.heap.size w W' ∧ Y.heap.size ≤ W'.heap.size)
    ?hI (fun pre W h => h.2.2.2.2) ⟨y1, y2, y3, yB, Nat.le_refl _⟩ 8 46 (fun t => #[.int .i64 t.1.1.L, .int .i64 t.1.1.R, .int .u64 (fv t.1.1.c), .int .u64 (fv t.1.1.a), .int .u64 (fv t.1.1.b), .int .u64 (fv t.1.1.d)]) 9 27 (fun t => #[.int .u64 (fv t.1.2.a), .int .u64 (fv t.1.2.b)]) ?assign ?body ?done
  case hI =>
    rintro pre V V' row ⟨q1, q2, q3, q8, q9⟩ hg hr
    exact ⟨blk_own (β := Unit) () V V' row q1 hg hr, blk_own (β := Unit) () V V' row q2 hg hr, blk_own (β := Unit) () V V' row q3 hg hr, ownFrom_below (β := Unit) (Nat.le_refl _) yB.size () V V' row q8 hg hr, Nat.le_trans q9 hg.size⟩
  case assign =>
    intro l t V K hK
    simp only [boxAct, gv, ev, List.setIfInBounds_toArray, List.set_cons_succ, List.set_cons_zero] at hK ⊢
    gi_wp2_with fail
    exact hK _ _ rfl rfl
  case body =>
    rintro l pre ⟨⟨g, u⟩, hgL, hgR⟩ Bx V a' rfl ⟨q1, q2, q3, q8, q9⟩ hBx bG bU hlt
    simp only [boxAct, gv, ev, List.setIfInBounds_toArray, List.set_cons_succ, List.set_cons_zero] at hgL hgR bG bU ⊢
    obtain ⟨i, hi⟩ : ∃ i, g.L + g.R * 2 ^ k = i := ⟨_, rfl⟩
    have hin : i < n ∧ g.R ≤ 7 ∧ g.L ≤ 7 := by
      have hN := HN.out
      have : k = 0 ∨ k = 1 ∨ k = 2 ∨ k = 3 := by omega
      rcases this with rfl | rfl | rfl | rfl <;> simp at hN hi hgL hgR <;> omega
    have hii : (g.L : Int) + (g.R : Int) * 2 ^ k = (i : Int) := by rw [← hi]; simp
    obtain ⟨hin1, hin2, hin3⟩ := hin
    have hop := open_round (open_wide Tryd.prog) l
    have v1 := gw_blk q1
    have v3 := gw_blk q3
    have v8 := gw_blk bG
    have v9 := gw_blk bU
    have HS := Lib.hid (cellsT_snoc k (pre.map (·.1)) (g, u) i hi)
    gi_wp2_with fail
    refine wpIn_region_rg hop 11 [] (by kernel_rfl) (by kernel_rfl) (by kernel_rfl) trivial ?_
    refine rg_det rfl rfl rfl (fun K hK => ?_)
    go_big_quiet_op
    refine hK _ ?_; clear hK K
    refine rg_det rfl rfl rfl (fun K hK => ?_)
    go_big_quiet_op
    refine hK _ ?_; clear hK K
    refine rg_det rfl rfl rfl (fun K hK => ?_)
    go_big_quiet_op
    refine hK _ ?_; clear hK K
    refine rg_det rfl rfl rfl (fun K hK => ?_)
    go_big_quiet_op
    refine hK _ ?_; clear hK K
    refine rg_det rfl rfl rfl (fun K hK => ?_)
    go_big_quiet_op
    refine hK _ ?_; clear hK K
    refine rg_det rfl rfl rfl (fun K hK => ?_)
    go_big_quiet_op
    refine hK _ ?_; clear hK K
    refine rg_det rfl rfl rfl (fun K hK => ?_)
    go_big_quiet_op
    refine hK _ ?_; clear hK K
    refine rg_det rfl rfl rfl (fun K hK => ?_)
    go_big_quiet_op
    refine hK _ ?_; clear hK K
    refine rg_det rfl rfl rfl (fun K hK => ?_)
    go_big_quiet_op
    refine hK _ ?_; clear hK K
    refine rg_det rfl rfl rfl (fun K hK => ?_)
    go_big_quiet_op
    refine hK _ ?_; clear hK K
    refine rg_det rfl rfl rfl (fun K hK => ?_)
    go_big_quiet_op
    refine hK _ ?_; clear hK K
    refine rg_nil (fun w' hw' hF => ?_)
    obtain ⟨z, rfl⟩ := hw'
    simp only [List.drop_succ_cons, List.drop_zero]
    clear hF v1 v3 v8 v9
    gi_wp2_with fail
    have q2z := q2.gw z
    have h8 : i * 8 = i * 4 * 2 := by omega
    rw [h8]
    refine ⟨trivial, (CallsIn.inRound l (callsIn_wide.2 (gAdd (cellsT k (pre.map (·.1))) (i * 4) (w.heap.size + 1) 70 g u z.w q2z (by rw [cellsT_len, ← HN.out]; omega)))).mono ?_⟩
    rintro e w3 ⟨rfl, hb3, hg3⟩
    have hK3 : KeepsOthers V w3 := (keepsOthers_of_below z.h).trans (keepsOthers_of_grown hg3 fun r o e ho => by
      cases e
      rw [show z.w.heap[w.heap.size + 1]? = _ from q2z] at ho; cases ho; rfl)
    have hkeep : ∀ r, r < V.heap.size → r ≠ w.heap.size + 1 → w3.heap[r]? = V.heap[r]? := fun r hr hne =>
      (hg3.block r (Nat.lt_of_lt_of_le hr z.h.size) (by simpa using hne)).trans (z.h.block r hr)
    have hsz3 : V.heap.size ≤ w3.heap.size := Nat.le_trans z.h.size hg3.size
    gi_wp2_with fail
    have goalI : Blk w3 (w.heap.size + 1) 70 ((cellsT k (List.map (·.1) pre ++ [(g, u)])).flatMap ec).toArray := by
      rw [← HS.out]; exact hb3
    refine ⟨⟨hsz3, fun r hr hlt => hkeep r hlt (by rcases hr with hr | hr <;> omega)⟩, (hkeep _ q1.lt (by omega)).trans q1, ?_, (hkeep _ q3.lt (by omega)).trans q3, q8.trans ?_, by omega⟩
    · simpa using goalI
    · exact (z.h.mono q8.size).grown hg3 (Nat.le_trans q8.size z.h.size) (fun k e => by cases e; omega)
  case done =>
    intro D V hD ⟨q1, q2, q3, q8, q9⟩ hK
    rw [subs_val] at q2
    generalize hcs : cellsT k (gs.zip us) = cs at *
    have e3 := q3.cell 0
    have mkT := mk_tabs V
    gi_wp2_with fail
    have hDV : D < V.heap.size := (Array.getElem?_eq_some_iff.1 hK).1
    have hwV : w.heap.size ≤ V.heap.size := q8.size
    gi_loopw [38] (fun i wr => ∃ (j : Nat) (vs : List Value), j ≤ 4 ∧ vs.length = j ∧ i = .int .i64 j ∧ Blk wr V.heap.size 23 (nil4 vs) ∧ (∀ (a : Nat) (x : Value), vs[a]? = some x → ∃ B, x = .slice (some ⟨B, 0, none⟩) n n ∧ V.heap.size < B ∧ Blk wr B 27 ((tabT k (gs.zip us) a).flatMap ec).toArray) ∧ Below V.heap.size V wr) (fun i _ => 4 - (intOf i).toNat)
    case atStart => exact ⟨0, [], by omega, rfl, rfl, Blk.new _ _ _, fun a x h => by simp at h, (Below.refl _ _).alloc (Nat.le_refl _) _⟩
    case round =>
      obtain ⟨j, vs, hj, hvs, rfl, f1, f2, f3⟩ := hrel
      obtain ⟨wo, hwo⟩ : ∃ wo, wo = wr := ⟨_, rfl⟩
      subst hwo
      by_cases hj4 : j < 4
      · have mkE := mk_ext n (by omega) wo
        have hgt : (nil4 vs)[j]? = some (Value.slice none 0 0) := by have := nil4_get vs (by omega); rw [hvs] at this; exact this
        have o1 := (f1.cell j).trans hgt
        have o2 := f1.frozen j
        have o3 := (q3.keep f3).cell 0
        have HV := Lib.hid (nil4_set vs (.slice (some ⟨wo.heap.size, 0, none⟩) n n) (by omega))
        have HS := Lib.hid hvs
        have hlt1 := f1.lt
        have hq3 := q3.lt
        have hne1 : ¬ (V.heap.size = w.heap.size + 2) := by omega
        have hne2 : ¬ (w.heap.size + 2 = V.heap.size) := by omega
        have hne3 : w.heap.size + 2 < wo.heap.size := by omega
        clear mkT e3 hgt
        gi_wp2_with fail
        gi_loopw [49] (fun i wr => ∃ c : Nat, c ≤ n ∧ i = .int .i64 c ∧ Blk wr V.heap.size 23 (nil4 (vs ++ [.slice (some ⟨wo.heap.size, 0, none⟩) n n])) ∧ Blk wr wo.heap.size 27 ((mixL n (fun i => tcell k (gs.zip us) i j) (fun _ => 0) c).flatMap ec).toArray ∧ (∀ g, g < wo.heap.size → g ≠ V.heap.size → wr.heap[g]? = wo.heap[g]?) ∧ Below V.heap.size V wr) (fun i _ => n - (intOf i).toNat)
        case atStart =>
          refine ⟨0, by omega, rfl, ?_, ?_, fun g h1 h2 => ?_, ?_⟩
          · have := (f1.set_ j (.slice (some ⟨wo.heap.size, 0, none⟩) n n)).alloc (.cells ((List.replicate n (0 : E)).flatMap ec).toArray 27)
            rw [← HS.out, HV.out] at this
            rw [← HS.out]
            exact this
          · have : mixL n (fun i => tcell k (gs.zip us) i j) (fun _ => 0) 0 = List.replicate n 0 := by rw [mixL_zero]; simp [List.map_const']
            rw [this]
            exact Blk.new_at _ _ _ (by simp)
          · rw [Below.heap_alloc _ _ g (by simpa using h1), Below.heap_setCell _ _ _ g h2]
          · exact (f3.setCell (p := ⟨V.heap.size, j, none⟩) (Nat.le_refl _) _).alloc (by simp; have := f3.size; omega) _
        case round =>
          obtain ⟨c, hc, rfl, g1, g2, g3, g4⟩ := hrel
          by_cases hcn : c < n
          · have q2r := q2.below g4 q2.lt
            have hNo := HN.out
            have w0 := blk_cellE q2r (k := c * 4 + 0) (x := tcell k (gs.zip us) c 0) (by rw [← hcs]; exact cellsT_get k _ c 0 (by omega) (by omega))
            have w1 := blk_cellE q2r (k := c * 4 + 1) (x := tcell k (gs.zip us) c 1) (by rw [← hcs]; exact cellsT_get k _ c 1 (by omega) (by omega))
            have w2 := blk_cellE q2r (k := c * 4 + 2) (x := tcell k (gs.zip us) c 2) (by rw [← hcs]; exact cellsT_get k _ c 2 (by omega) (by omega))
            have w3 := blk_cellE q2r (k := c * 4 + 3) (x := tcell k (gs.zip us) c 3) (by rw [← hcs]; exact cellsT_get k _ c 3 (by omega) (by omega))
            rw [show (c * 4 + 0) * 2 = c * 8 by omega] at w0
            rw [show (c * 4 + 1) * 2 = c * 8 + 2 by omega] at w1
            rw [show (c * 4 + 2) * 2 = c * 8 + 4 by omega] at w2
            rw [show (c * 4 + 3) * 2 = c * 8 + 6 by omega] at w3
            obtain ⟨w00, w01⟩ := w0
            obtain ⟨w10, w11⟩ := w1
            obtain ⟨w20, w21⟩ := w2
            obtain ⟨w30, w31⟩ := w3
            clear hNo
            gi_wp2_with fail
            refine wpIn_stk1 fun W2 hBW hzW b1 => ?_
            have b1' : Blk W2 wr.heap.size 70 (((List.range 4).map (tcell k (gs.zip us) c)).flatMap ec).toArray := b1
            obtain ⟨u1, u2⟩ := blk_cellE b1' (k := j) (x := tcell k (gs.zip us) c j) (by simp [hj4])
            have v1 := gw_cell b1'.lt u1
            have v2 := gw_cell b1'.lt u2
            have g1W := g1.keep hBW
            have g2W := g2.keep hBW
            have hnj : (nil4 (vs ++ [.slice (some ⟨wo.heap.size, 0, none⟩) n n]))[j]? = some (.slice (some ⟨wo.heap.size, 0, none⟩) n n) := by
              rw [← HV.out, HS.out]
              have := nil4_get vs (by rw [HS.out]; exact hj4)
              rw [HS.out] at this
              have hsz := (Array.getElem?_eq_some_iff.1 this).1
              simp [hsz]
            have v3 := gw_cell g1W.lt ((g1W.cell j).trans hnj)
            have HM := Lib.hid (show (mixL n (fun i => tcell k (gs.zip us) i j) (fun _ => 0) c).set c (tcell k (gs.zip us) c j) = _ from mixL_set n (fun i => tcell k (gs.zip us) i j) (fun _ => 0) c)
            obtain ⟨p1, p2⟩ := blk_cellE g2W (mixL_get n (fun i => tcell k (gs.zip us) i j) (fun _ => 0) c hcn)
            have v4 := gw_cell g2W.lt p1
            have v5 := gw_cell g2W.lt p2
            have hwlt := g2.lt
            have hop := open_wide Tryd.prog
            clear hnj w00 w01 w10 w11 w20 w21 w30 w31 u1 u2 p1 p2
            refine wpIn_region_rg hop 9 [] (by kernel_rfl) (by kernel_rfl) (by kernel_rfl) trivial ?_
            refine rg_det rfl rfl rfl (fun K hK => ?_)
            go_big_quiet_op
            refine hK _ ?_; clear hK K
            refine rg_det rfl rfl rfl (fun K hK => ?_)
            go_big_quiet_op
            refine hK _ ?_; clear hK K
            refine rg_det rfl rfl rfl (fun K hK => ?_)
            go_big_quiet_op
            refine hK _ ?_; clear hK K
            refine rg_det rfl rfl rfl (fun K hK => ?_)
            go_big_quiet_op
            refine hK _ ?_; clear hK K
            refine rg_det rfl rfl rfl (fun K hK => ?_)
            go_big_quiet_op
            refine hK _ ?_; clear hK K
            refine rg_det rfl rfl rfl (fun K hK => ?_)
            go_big_quiet_op
            refine hK _ ?_; clear hK K
            refine rg_det rfl rfl rfl (fun K hK => ?_)
            go_big_quiet_op
            refine hK _ ?_; clear hK K
            refine rg_det rfl rfl rfl (fun K hK => ?_)
            go_big_quiet_op
            refine hK _ ?_; clear hK K
            refine rg_det rfl rfl rfl (fun K hK => ?_)
            go_big_quiet_op
            refine hK _ ?_; clear hK K
            refine rg_nil (fun w' hw' hF => ?_)
            obtain ⟨z, rfl⟩ := hw'
            simp only [List.drop_succ_cons, List.drop_zero]
            have g1z := g1W.gw z
            have g2z := g2W.gw z
            have e4 := v4 z
            have e5 := v5 z
            have e6 := g2z.frozen
            clear hF v1 v2 v3 v4 v5
            gi_wp2_with fail
            have hWs := hBW.size
            refine ⟨⟨c + 1, by omega, by go_num, blk_farE g1z (by omega), by rw [← HM.out]; exact blk_setE g2z c _ (by rw [mixL_len]; exact hcn), fun g h1 h2 => ?_, below_setE ((g4.trans (hBW.mono g4.size)).trans (z.h.mono (by omega))) (by omega)⟩, by simp [intOf]; omega⟩
            rw [Below.heap_setCell _ ⟨wo.heap.size, _, none⟩ _ g (by show g ≠ wo.heap.size; omega), Below.heap_setCell _ ⟨wo.heap.size, _, none⟩ _ g (by show g ≠ wo.heap.size; omega), z.h.block g (by omega), hBW.block g (by omega)]
            exact g3 g h1 h2
          · have hcc : c = n := by omega
            gi_wp2_with fail
            refine ⟨⟨j + 1, vs ++ [.slice (some ⟨wo.heap.size, 0, none⟩) n n], by omega, by rw [List.length_append, HS.out]; rfl, by go_num, g1, ?_, g4⟩, by simp [intOf]; omega⟩
            intro a x hx
            rcases Nat.lt_or_ge a vs.length with ha | ha
            · rw [List.getElem?_append_left ha] at hx
              obtain ⟨B, h1, h2, h3⟩ := f2 a x hx
              exact ⟨B, h1, h2, (g3 B h3.lt (by omega)).trans h3⟩
            · rw [List.getElem?_append_right ha] at hx
              have ha2 : a - vs.length = 0 := by
                rcases Nat.eq_zero_or_pos (a - vs.length) with h | h
                · exact h
                · rw [List.getElem?_eq_none (by simp; omega)] at hx; cases hx
              rw [ha2] at hx
              simp only [List.getElem?_cons_zero, Option.some.injEq] at hx
              have haj : a = j := by have := HS.out; omega
              subst haj
              refine ⟨wo.heap.size, hx.symm, hlt1, ?_⟩
              rw [hcc, mixL_all] at g2
              unfold tabT
              rw [← HN.out]
              exact g2
      · have hjj : j = 4 := by omega
        subst hjj
        gi_wp2_with fail
        have hKZ : wo.heap[D]? = some (.deferred (some [])) := (f3.block D hDV).trans hK
        have hO : Blk (wo.putObj D (.deferred none)) V.heap.size 23 (nil4 vs) := (World.putObj_heap_other (by omega)).trans f1
        refine ⟨by simp, .inl ⟨_, _, rfl, run_takeDeferred hKZ, ?_⟩⟩
        refine ⟨_, results_tmp rfl _ _ _, _, rfl, ⟨vs, hvs, ⟨by rw [hvs]; rfl, by simp [tabsT], some ⟨V.heap.size, 0, none⟩, 4, rfl, Nat.le_refl _, fun _ => ⟨V.heap.size, 0, rfl, hwV, hO.lt, hO.lt, fun a u hu => ?_⟩⟩, fun a x y hx hy => ?_⟩, (q8.trans (f3.mono hwV)).trans (belowK_b (w := w) (Nat.le_refl _) wo D _ _ (by omega) hKZ rfl rfl)⟩
        · rw [Nat.zero_add, hO.cell]
          unfold nil4
          rw [List.getElem?_toArray, List.getElem?_append_left (List.getElem?_eq_some_iff.1 hu).1]
          exact hu
        · obtain ⟨B, rfl, h2, h3⟩ := f2 a x hx
          have ha4 : a < 4 := by have := (List.getElem?_eq_some_iff.1 hx).1; omega
          have hy2 : y = tabT k (gs.zip us) a := by
            unfold tabsT at hy
            rw [List.getElem?_map, List.getElem?_range ha4, Option.map_some] at hy
            exact (Option.some.inj hy).symm
          subst hy2
          have hB : Blk (wo.putObj D (.deferred none)) B 27 ((tabT k (gs.zip us) a).flatMap ec).toArray := (World.putObj_heap_other (by omega)).trans h3
          exact exts_of_blk hB (by simp [tabT, ← HN.out]) (by omega) (by omega) hB.lt
end Go.Proofs.YtbmgngoeiadmmaaDoor
