/-
  The reference's Tables.
-/
import Derived.Test.YtbmgngoeiadmmaaDoorTb2
import Derived.Test.YtbmgngoeiadmmaaDoorGrow
import Derived.Test.YtbmgngoeiadmmaaDoorCo2
namespace Go.Proofs.YtbmgngoeiadmmaaDoor
open Go.RowKit

/-- Part 'part' of the table, the first j gates added. -/
def rtab (k : Nat) (ts : List (Gt × E)) (part j : Nat) : List E := (List.range (2 ^ (2 * k))).map fun i => tcell k (ts.take j) i part
theorem rtab_len (k : Nat) (ts : List (Gt × E)) (part j : Nat) : (rtab k ts part j).length = 2 ^ (2 * k) := by simp [rtab]
theorem rtab_zero (k : Nat) (ts : List (Gt × E)) (part : Nat) : rtab k ts part 0 = List.replicate (2 ^ (2 * k)) 0 := by
  unfold rtab tcell
  simp [esum, List.map_const']
theorem rtab_all (k : Nat) (ts : List (Gt × E)) (part j : Nat) (h : ts.length ≤ j) : rtab k ts part j = tabT k ts part := by
  unfold rtab tabT
  rw [List.take_of_length_le h]
theorem rtab_get (k : Nat) (ts : List (Gt × E)) (part j i : Nat) (h : i < 2 ^ (2 * k)) : (rtab k ts part j)[i]? = some (tcell k (ts.take j) i part) := by
  unfold rtab
  rw [List.getElem?_map, List.getElem?_range h, Option.map_some]
theorem rtab_step (k : Nat) (ts : List (Gt × E)) (part j i : Nat) (t : Gt × E) (ht : ts[j]? = some t) (hi : t.1.L + t.1.R * 2 ^ k = i) : (rtab k ts part j).set i (tcell k (ts.take j) i part + t.2 * eb (gk t.1 part)) = rtab k ts part (j + 1) := by
  apply List.ext_getElem?
  intro m
  rw [List.getElem?_set, rtab_len]
  by_cases hm : m < 2 ^ (2 * k)
  · rw [rtab_get k ts part (j + 1) m hm, List.take_add_one, ht]
    show _ = some (tcell k (ts.take j ++ [t]) m part)
    rw [tcell_snoc, hi]
    by_cases him : i = m
    · subst him
      rw [if_pos rfl, if_pos hm, if_pos rfl]
    · rw [if_neg him, if_neg him, E.add_zero, rtab_get k ts part j m hm]
  · rw [List.getElem?_eq_none (by rw [rtab_len]; omega), List.getElem?_eq_none (by rw [rtab_len]; omega)]
    split <;> simp [hm] <;> omega
/-- The tables that have been made, each in a block of its own. -/
def Rows (W : World) (N n : Nat) (k : Nat) (ts : List (Gt × E)) (vs : List Value) : Prop := ∀ (a : Nat) (x : Value), vs[a]? = some x → ∃ B, x = .slice (some ⟨B, 0, none⟩) n n ∧ N ≤ B ∧ Blk W B 27 ((tabT k ts a).flatMap ec).toArray
theorem rows_append {W : World} {N n k : Nat} {ts : List (Gt × E)} {vs : List Value} {B : Nat} (h : Rows W N n k ts vs) (hN : N ≤ B) (hb : Blk W B 27 ((tabT k ts vs.length).flatMap ec).toArray) : Rows W N n k ts (vs ++ [.slice (some ⟨B, 0, none⟩) n n]) := by
  intro a x hx
  rcases Nat.lt_or_ge a vs.length with ha | ha
  · rw [List.getElem?_append_left ha] at hx; exact h a x hx
  · rw [List.getElem?_append_right ha] at hx
    have ha2 : a - vs.length = 0 := by
      rcases Nat.eq_zero_or_pos (a - vs.length) with h | h
      · exact h
      · rw [List.getElem?_eq_none (by simp; omega)] at hx; cases hx
    rw [ha2] at hx
    simp only [List.getElem?_cons_zero, Option.some.injEq] at hx
    have haj : a = vs.length := by omega
    subst haj
    exact ⟨B, hx.symm, hN, hb⟩
theorem Rows.keep {W W' : World} {N n k : Nat} {ts : List (Gt × E)} {vs : List Value} (h : Rows W N n k ts vs) (hk : ∀ B, N ≤ B → ∀ cs, Blk W B 27 cs → Blk W' B 27 cs) : Rows W' N n k ts vs := fun a x hx => by
  obtain ⟨B, h1, h2, h3⟩ := h a x hx
  exact ⟨B, h1, h2, hk B h2 _ h3⟩
def vone (v : Value) : List Value := [v]
set_option maxRecDepth 100000 in
set_option maxHeartbeats 8000000 in
theorem rTables (gs : List Gt) (us : List E) (k : Nat) (vl vu : Value) (lo1 hi1 lo2 hi2 : Nat) (w : World) (hl : GateS lo1 hi1 w vl gs) (hu : ExtS lo2 hi2 w vu us)
    (hlen : gs.length ≤ us.length) (hok : ∀ g ∈ gs, g.L < 2 ^ k ∧ g.R < 2 ^ k) (hk3 : k ≤ 3) :
    Calls Tryd.prog 14 #[vl, vu, .int .i64 k] w (RetR (TabA (tabsT k (gs.zip us))) w) := by
  obtain ⟨Al, capl, rfl⟩ := hl.len
  obtain ⟨Au, capu, rfl⟩ := hu.len
  have hgl := hl.2.1
  obtain ⟨n, hn⟩ : ∃ n, n = 2 ^ (2 * k) := ⟨_, rfl⟩
  have hn1 : n ≤ 64 ∧ 1 ≤ n ∧ ((2 : Int) ^ (2 * k) = (n : Int)) := by
    have : k = 0 ∨ k = 1 ∨ k = 2 ∨ k = 3 := by omega
    rcases this with rfl | rfl | rfl | rfl <;> subst hn <;> simp
  obtain ⟨hn2, hn3, hn4⟩ := hn1
  have hw64 : wrap64 ((2 : Int) ^ (2 * k)) = (n : Int) := by rw [hn4]; simp only [wrap64]; omega
  obtain ⟨s0, hs0, sz0, sz1, sz2⟩ := info_parts slE_info
  have HN := Lib.hid hn
  have HN4 := Lib.hid hn4
  clear hn hn4
  go_enter Tryd.func14, Tryd.ntmps14
  go_wp2
  go_loopw [7, 8] (fun v i wr => ∃ (j : Nat) (vs : List Value), j ≤ 4 ∧ vs.length = j ∧ i = .int .i64 j ∧ wr.ownsRow w.heap.size 23 1 v j vs ∧ Rows wr w.heap.size n k (gs.zip us) vs ∧ Below w.heap.size w wr) (fun _ i _ => 4 - (intOf i).toNat)
  case atStart => exact ⟨0, [], Nat.zero_le _, rfl, rfl, ⟨by simp, .inr ⟨w.heap.size, 0, #[], rfl, Nat.le_refl _, World.alloc_heap_new w _, Nat.le_refl _, Nat.zero_le _, rfl, by simp⟩⟩, fun a x h => by simp at h, (Below.refl _ _).alloc (Nat.le_refl _) _⟩
  case round =>
    obtain ⟨j, vs, hj, hvs, rfl, hown, hrows, hB⟩ := hrel
    obtain ⟨wo, hwo⟩ : ∃ wo, wo = wr := ⟨_, rfl⟩
    subst hwo
    by_cases hj4 : j < 4
    · have mk := mk_ext n (by omega) wo
      go_wp2_with fail
      refine stk1 (M := fun W => Code.wp _ _ _ _ W) fun W1 hB1 hz1 b1 => ?_
      have hW1 : W1.heap.size = wo.heap.size + 1 := hz1.out
      have hwr : w.heap.size ≤ wo.heap.size := hB.size
      have hown1 := own_below hown (Nat.le_refl _) hB1
      have hrows1 : Rows W1 w.heap.size n k (gs.zip us) vs := hrows.keep fun B _ cs hb => hb.keep hB1
      have b1 : Blk W1 wo.heap.size 27 ((rtab k (gs.zip us) j 0).flatMap ec).toArray := by rw [rtab_zero, ← HN.out]; exact b1
      go_loopw [10] (fun i wr => ∃ m : Nat, m ≤ gs.length ∧ i = .int .i64 m ∧ Blk wr wo.heap.size 27 ((rtab k (gs.zip us) j m).flatMap ec).toArray ∧ Below wo.heap.size W1 wr) (fun i _ => gs.length - (intOf i).toNat)
      case atStart => exact ⟨0, Nat.zero_le _, rfl, b1, Below.refl _ _⟩
      case round =>
        obtain ⟨m, hm, rfl, bq, hBq⟩ := hrel
        have hBw : Below w.heap.size w wr := hB.trans ((hB1.trans hBq).mono hB.size)
        have hwor : Below wo.heap.size wo wr := hB1.trans hBq
        by_cases hlt : m < gs.length
        · obtain ⟨g, hg⟩ : ∃ g, gs[m]? = some g := ⟨gs[m], List.getElem?_eq_getElem hlt⟩
          obtain ⟨u, hu'⟩ : ∃ u, us[m]? = some u := ⟨us[m], List.getElem?_eq_getElem (by omega)⟩
          have hz : (gs.zip us)[m]? = some (g, u) := by rw [List.getElem?_zip_eq_some]; exact ⟨hg, hu'⟩
          obtain ⟨hgL, hgR⟩ := hok g (List.mem_of_getElem? hg)
          obtain ⟨i, hi⟩ : ∃ i, g.L + g.R * 2 ^ k = i := ⟨_, rfl⟩
          have hin : i < n ∧ g.R ≤ 7 ∧ g.L ≤ 7 := by
            have hN := HN.out
            have : k = 0 ∨ k = 1 ∨ k = 2 ∨ k = 3 := by omega
            rcases this with rfl | rfl | rfl | rfl <;> simp at hN hi hgL hgR <;> omega
          have hii : (g.L : Int) + (g.R : Int) * 2 ^ k = (i : Int) := by rw [← hi]; simp
          obtain ⟨hin1, hin2, hin3⟩ := hin
          obtain ⟨b1g, o1, c1, hv, -, -, -, q4, q5⟩ := gates_cells (hl.keep hBw) (by omega)
          cases hv
          obtain ⟨b2g, o2, c2, hv, -, -, -, p4, p5⟩ := exts_cells (hu.keep hBw) (by omega)
          cases hv
          obtain ⟨d1, d2, d3, d4, d5, d6⟩ := q5 m g hg
          obtain ⟨k1, k2⟩ := p5 m u hu'
          have HS := Lib.hid (rtab_step k (gs.zip us) j m i (g, u) hz hi)
          obtain ⟨m1, m2⟩ := blk_cellE bq (rtab_get k (gs.zip us) j m i (by rw [← HN.out]; exact hin1))
          have HI := Lib.hid hi
          clear hz hg hu' q5 p5 hi hgL hgR hl hu hok
          simp only at HS
          generalize tcell k ((gs.zip us).take m) i j = old at *
          have hks : Hid (k ≤ 3) := hk3
          have y1 := gw_cell q4 d1
          have y2 := gw_cell q4 d2
          have x1 := d1
          have x2 := d2
          go_wp2_with fail
          refine wp_region_rg 13 [] (by kernel_rfl) (by kernel_rfl) (by kernel_rfl) trivial ?_
          refine rg_det rfl rfl rfl (fun K hK => ?_)
          go_big_quiet_op
          refine hK _ ?_; clear hK K
          refine rg_det rfl rfl rfl (fun K hK => ?_)
          go_big_quiet_op
          refine hK _ ?_; clear hK K
          refine rg_det rfl rfl rfl (fun K hK => ?_)
          go_big_quiet_op
          refine hK _ ?_; clear hK K
          refine rg_det rfl rfl rfl (fun K hK => ?_)
          go_big_quiet_op
          refine hK _ ?_; clear hK K
          refine rg_det rfl rfl rfl (fun K hK => ?_)
          go_big_quiet_op
          refine hK _ ?_; clear hK K
          refine rg_det rfl rfl rfl (fun K hK => ?_)
          go_big_quiet_op
          refine hK _ ?_; clear hK K
          refine rg_det rfl rfl rfl (fun K hK => ?_)
          go_big_quiet_op
          refine hK _ ?_; clear hK K
          refine rg_det rfl rfl rfl (fun K hK => ?_)
          go_big_quiet_op
          refine hK _ ?_; clear hK K
          refine rg_det rfl rfl rfl (fun K hK => ?_)
          go_big_quiet_op
          refine hK _ ?_; clear hK K
          refine rg_det rfl rfl rfl (fun K hK => ?_)
          go_big_quiet_op
          refine hK _ ?_; clear hK K
          refine rg_det rfl rfl rfl (fun K hK => ?_)
          go_big_quiet_op
          refine hK _ ?_; clear hK K
          refine rg_det rfl rfl rfl (fun K hK => ?_)
          go_big_quiet_op
          refine hK _ ?_; clear hK K
          refine rg_det rfl rfl rfl (fun K hK => ?_)
          go_big_quiet_op
          refine hK _ ?_; clear hK K
          refine rg_nil (fun w' hw' hF => ?_)
          obtain ⟨z, rfl⟩ := hw'
          simp only [List.drop_succ_cons, List.drop_zero]
          have hrz : wr.heap.size ≤ z.w.heap.size := z.h.size
          have bqz := bq.gw z
          have f1 := gw_cell (W := z.w) (Nat.lt_of_lt_of_le q4 hrz) ((z.h.cell (p := ⟨b1g, o1 + m * 6, none⟩) q4).trans d1)
          have f2 := gw_cell (W := z.w) (Nat.lt_of_lt_of_le q4 hrz) ((z.h.cell (p := ⟨b1g, o1 + m * 6 + 1, none⟩) q4).trans d2)
          have f3 := gw_cell (W := z.w) (Nat.lt_of_lt_of_le q4 hrz) ((z.h.cell (p := ⟨b1g, o1 + m * 6 + 2, none⟩) q4).trans d3)
          have f4 := gw_cell (W := z.w) (Nat.lt_of_lt_of_le q4 hrz) ((z.h.cell (p := ⟨b1g, o1 + m * 6 + 3, none⟩) q4).trans d4)
          have f5 := gw_cell (W := z.w) (Nat.lt_of_lt_of_le q4 hrz) ((z.h.cell (p := ⟨b1g, o1 + m * 6 + 4, none⟩) q4).trans d5)
          have f6 := gw_cell (W := z.w) (Nat.lt_of_lt_of_le q4 hrz) ((z.h.cell (p := ⟨b1g, o1 + m * 6 + 5, none⟩) q4).trans d6)
          have f7 := gw_cell (W := z.w) (Nat.lt_of_lt_of_le p4 hrz) ((z.h.cell (p := ⟨b2g, o2 + m * 2, none⟩) p4).trans k1)
          have f8 := gw_cell (W := z.w) (Nat.lt_of_lt_of_le p4 hrz) ((z.h.cell (p := ⟨b2g, o2 + m * 2 + 1, none⟩) p4).trans k2)
          have f9 := gw_cell (W := z.w) bqz.lt ((z.h.cell (p := ⟨wo.heap.size, i * 2, none⟩) bq.lt).trans m1)
          have f10 := gw_cell (W := z.w) bqz.lt ((z.h.cell (p := ⟨wo.heap.size, i * 2 + 1, none⟩) bq.lt).trans m2)
          clear hF y1 y2 x1 x2 d1 d2 d3 d4 d5 d6 k1 k2 m1 m2
          go_wp2_with fail
          refine wp_region_rg 21 [(14, .rel (Parts g) (PartsF)), (17, .val (.int .u64 (fv (gk g j)))), (18, .val (.agg #[.int .u64 (fv (u * eb (gk g j)).a), .int .u64 (fv (u * eb (gk g j)).b)])), (19, .val (.agg #[.int .u64 (fv (old + u * eb (gk g j)).a), .int .u64 (fv (old + u * eb (gk g j)).b)]))] (by kernel_rfl) (by kernel_rfl) (by kernel_rfl) ⟨fit_parts, trivial⟩ ?_
          refine rg_det rfl rfl rfl (fun K hK => ?_)
          go_big_quiet_op
          refine hK _ ?_; clear hK K
          refine rg_det rfl rfl rfl (fun K hK => ?_)
          go_big_quiet_op
          refine hK _ ?_; clear hK K
          refine rg_det rfl rfl rfl (fun K hK => ?_)
          go_big_quiet_op
          refine hK _ ?_; clear hK K
          refine rg_det rfl rfl rfl (fun K hK => ?_)
          go_big_quiet_op
          refine hK _ ?_; clear hK K
          refine rg_det rfl rfl rfl (fun K hK => ?_)
          go_big_quiet_op
          refine hK _ ?_; clear hK K
          refine rg_det rfl rfl rfl (fun K hK => ?_)
          go_big_quiet_op
          refine hK _ ?_; clear hK K
          refine rg_det rfl rfl rfl (fun K hK => ?_)
          go_big_quiet_op
          refine hK _ ?_; clear hK K
          refine rg_det rfl rfl rfl (fun K hK => ?_)
          go_big_quiet_op
          refine hK _ ?_; clear hK K
          refine rg_det rfl rfl rfl (fun K hK => ?_)
          go_big_quiet_op
          refine hK _ ?_; clear hK K
          refine rg_det rfl rfl rfl (fun K hK => ?_)
          go_big_quiet_op
          refine hK _ ?_; clear hK K
          refine rg_det rfl rfl rfl (fun K hK => ?_)
          go_big_quiet_op
          refine hK _ ?_; clear hK K
          refine rg_det rfl rfl rfl (fun K hK => ?_)
          go_big_quiet_op
          refine hK _ ?_; clear hK K
          refine rg_det rfl rfl rfl (fun K hK => ?_)
          go_big_quiet_op
          refine hK _ ?_; clear hK K
          refine rg_det rfl rfl rfl (fun K hK => ?_)
          go_big_quiet_op
          refine hK _ ?_; clear hK K
          refine rg_rel rfl rfl (fun W1 hW1 hF => step_callr en_attestor_attestorref17_parts (gParts g W1) rfl rfl) ?_
          intro nt14 mt14 vt14 hnt14 hmt14 hdt14 hft14 a' ha
          simp only [Act.put, List.setIfInBounds_toArray, List.set_cons_succ, List.set_cons_zero] at ha
          subst ha
          obtain rfl := hft14
          refine rg_det rfl rfl rfl (fun K hK => ?_)
          go_big_quiet_op
          refine hK _ ?_; clear hK K
          refine rg_det rfl rfl rfl (fun K hK => ?_)
          go_big_quiet_op
          refine hK _ ?_; clear hK K
          refine rg_val rfl rfl (fun W1 hW1 hF => step_load1 Tryd.underlying25 rfl rfl rfl (parts_cell (pick_last hF (by kernel_rfl)).2 j hj4)) ?_
          intro a' ha
          simp only [Act.put, List.setIfInBounds_toArray, List.set_cons_succ, List.set_cons_zero] at ha
          subst ha
          refine rg_val rfl rfl (fun W1 hW1 hF => step_callv en_attestor_attestorref02_MulBase (xMulBase u (gk g j) W1) rfl rfl) ?_
          intro a' ha
          simp only [Act.put, List.setIfInBounds_toArray, List.set_cons_succ, List.set_cons_zero] at ha
          subst ha
          refine rg_val rfl rfl (fun W1 hW1 hF => step_callv en_attestor_attestorref02_Add (xAdd old (u * eb (gk g j)) W1) rfl rfl) ?_
          intro a' ha
          simp only [Act.put, List.setIfInBounds_toArray, List.set_cons_succ, List.set_cons_zero] at ha
          subst ha
          refine rg_det rfl rfl rfl (fun K hK => ?_)
          go_big_quiet_op
          refine hK _ ?_; clear hK K
          refine rg_nil (fun w' hw' hF => ?_)
          obtain ⟨z2, rfl⟩ := hw'
          simp only [List.drop_succ_cons, List.drop_zero]
          have bq2 := bqz.gw z2
          have e1 := f9 z2
          have e2 := f10 z2
          have e3 := bq2.frozen
          clear hF f1 f2 f3 f4 f5 f6 f7 f8 f9 f10
          go_wp2_with fail
          refine ⟨⟨m + 1, by omega, by go_num, by rw [← HS.out]; exact blk_setE bq2 i _ (by rw [rtab_len, ← HN.out]; exact hin1), below_setE ((hBq.trans (z.h.mono hwor.size)).trans (z2.h.mono (Nat.le_trans hwor.size hrz))) (by omega)⟩, by simp [intOf]; omega⟩
        · obtain rfl : m = gs.length := by omega
          rw [rtab_all k _ j _ (by rw [List.length_zip]; omega)] at bq
          have hownq := own_below hown (Nat.le_refl _) hwor
          have hrowsq : Rows wr w.heap.size n k (gs.zip us) vs := hrows.keep fun B _ cs hb => hb.keep hwor
          have hqs := hwor.size
          have hwrs := hBw.size
          go_wp2_with (at_builtin; refine stop_in ?_)
          refine stop_out ?_
          refine stk1 (M := fun W => wpList _ _ _ _ _ W) fun W3 hB3 hz3 b3 => ?_
          have hB3s := hB3.size
          refine wpList_app1 rfl _ _ rfl Tryd.underlying36 hs0 sz0 sz1 sz2 rfl (by decide) (cl := [.slice (some ⟨wo.heap.size, 0, none⟩) n n]) rfl (fun u hu => by rw [List.mem_singleton.1 hu]; rfl) rfl rfl (own_below hownq (Nat.le_refl _) hB3) b3 (by unfold maxLen; omega) (by omega) (by omega) ?_
          intro v1 w4 hown4 hgrow hB4
          have bq3 := bq.keep hB3
          have hown3 := own_below hownq (Nat.le_refl _) hB3
          have keepE : ∀ B, w.heap.size ≤ B → ∀ cs, Blk W3 B 27 cs → Blk w4 B 27 cs := fun B _ cs hb => hb.kept hgrow (fun e => by
            rcases hown3.2 with ⟨rfl, _⟩ | ⟨g', cap', cur', rfl, _, r2, _⟩
            · cases e
            · have eg : B = g' := Option.some.inj e
              subst eg
              have hb' : W3.heap[B]? = _ := hb
              rw [r2] at hb'
              simp at hb')
          have hrows3 : Rows W3 w.heap.size n k (gs.zip us) vs := hrowsq.keep fun B _ cs hb => hb.keep hB3
          go_wp2
          refine ⟨⟨j + 1, vs ++ [.slice (some ⟨wo.heap.size, 0, none⟩) n n], by omega, by simp [hvs], by go_num, hown4, rows_append (hrows3.keep keepE) hwr (keepE _ hwr _ (by rw [hvs]; exact bq3)), (hBw.trans (hB3.mono hwrs)).trans hB4⟩, by simp [intOf]; omega⟩
    · obtain rfl : j = 4 := by omega
      go_wp2
      go_ret
      refine ⟨u7, rfl, ⟨vs, by rw [hvs]; rfl, ?_, fun a x y hx hy => ?_⟩, hB⟩
      · have := Rd.of_own hown (by decide) (Nat.le_refl _)
        exact this
      · obtain ⟨B, rfl, h2, h3⟩ := hrows a x hx
        have ha4 : a < 4 := by have := (List.getElem?_eq_some_iff.1 hx).1; omega
        have hy2 : y = tabT k (gs.zip us) a := by
          unfold tabsT at hy
          rw [List.getElem?_map, List.getElem?_range ha4, Option.map_some] at hy
          exact (Option.some.inj hy).symm
        subst hy2
        exact exts_of_blk h3 (by simp [tabT, ← HN.out]) (by omega) h2 h3.lt
end Go.Proofs.YtbmgngoeiadmmaaDoor
