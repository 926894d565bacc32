/-
  The functions of package mle that bind a variable in place, and Eval, by contract.
  Bind of package sumcheck, by contract.
  Slices of slices that a call builds of its own, by append.
  The law of a region that draws its order, for a region in which some moves may come late: behind the first of the forced stores, which may store where they please.
-/
import Derived.Test.YtkgglhakimkkhaaGreatDoorMl3
import Derived.Test.YtkgglhakimkkhaaGreatDoorSeqW
import Derived.Test.YtkgglhakimkkhaaGreatDoorFi
import Derived.Test.YtkgglhakimkkhaaGreatDoorPa
import Derived.Test.YtkgglhakimkkhaaGreatDoorRgL
namespace Go.Proofs.YtkgglhakimkkhaaGreatDoor
open Go.RowKit

section
variable {w : World} {g : Nat} {t : TypeId} {cs : List E} {rest : List Value}
theorem flat_set_pad (x : E) (rest : List Value) (cs : List E) (k : Nat) (hk : k < cs.length) : ((cs.flatMap ec ++ rest).set (k * 2) (.int .u64 (fv x.a))).set (k * 2 + 1) (.int .u64 (fv x.b)) = (cs.set k x).flatMap ec ++ rest := by
  have hl := flat_length ec_len cs
  rw [List.set_append_left _ _ (by omega), List.set_append_left _ _ (by rw [List.length_set]; omega), set_flat x cs k hk]
theorem blk_setP (h : Blk w g t (cs.flatMap ec ++ rest).toArray) (k : Nat) (x : E) (hk : k < cs.length) : Blk ((w.setCell ⟨g, k * 2, none⟩ (.int .u64 (fv x.a))).setCell ⟨g, k * 2 + 1, none⟩ (.int .u64 (fv x.b))) g t ((cs.set k x).flatMap ec ++ rest).toArray := by
  have := (h.set_ (k * 2) (.int .u64 (fv x.a))).set_ (k * 2 + 1) (.int .u64 (fv x.b))
  rw [← flat_set_pad x rest cs k hk]
  simpa using this
theorem blk_cellP (h : Blk w g t (cs.flatMap ec ++ rest).toArray) {k : Nat} {x : E} (hk : cs[k]? = some x) : w.cell? ⟨g, k * 2, none⟩ = some (.int .u64 (fv x.a)) ∧ w.cell? ⟨g, k * 2 + 1, none⟩ = some (.int .u64 (fv x.b)) := by
  have e0 := flat_get ec_len cs k 0 x _ hk rfl
  have e1 := flat_get ec_len cs k 1 x _ hk rfl
  have hl := flat_length ec_len cs
  have hkl : k < cs.length := (List.getElem?_eq_some_iff.1 hk).1
  refine ⟨?_, ?_⟩
  · rw [h.cell, List.getElem?_toArray, List.getElem?_append_left (by omega)]; simpa using e0
  · rw [h.cell, List.getElem?_toArray, List.getElem?_append_left (by omega)]; simpa using e1
end
theorem exts_pad {w : World} {g : Nat} {t : TypeId} {cs : List E} {rest : List Value} (h : Blk w g t (cs.flatMap ec ++ rest).toArray) {lo hi n cap : Nat} (hn : cs.length = n) (hb : n ≤ 1000000) (hlo : lo ≤ g) (hhi : g < hi) (hc : n ≤ cap) : ExtS lo hi w (.slice (some ⟨g, 0, none⟩) n cap) cs := by
  subst hn
  have hl := flat_length ec_len cs
  refine ⟨hl, by omega, _, _, rfl, hc, fun h0 => ⟨g, 0, rfl, hlo, hhi, h.lt, fun j u hj => ?_⟩⟩
  have hjl : j < (cs.flatMap ec).length := (List.getElem?_eq_some_iff.1 hj).1
  rw [Nat.zero_add, h.cell, List.getElem?_toArray, List.getElem?_append_left hjl]
  exact hj
def bindX (t : List E) (r : E) (j : Nat) : List E := ((List.range j).map fun k => t.getD (2 * k) 0 + r * (t.getD (2 * k + 1) 0 - t.getD (2 * k) 0)) ++ t.drop j
theorem bindX_len (t : List E) (r : E) (j : Nat) (h : j ≤ t.length) : (bindX t r j).length = t.length := by simp [bindX]; omega
theorem bindX_zero (t : List E) (r : E) : bindX t r 0 = t := by simp [bindX]
theorem bindX_get (t : List E) (r : E) (j i : Nat) (h : j ≤ i) : (bindX t r j)[i]? = t[i]? := by
  unfold bindX
  rw [List.getElem?_append_right (by simp; exact h), List.length_map, List.length_range, List.getElem?_drop, show j + (i - j) = i by omega]
theorem bindX_step (t : List E) (r : E) (j : Nat) (x y : E) (hx : t[2 * j]? = some x) (hy : t[2 * j + 1]? = some y) : (bindX t r j).set j (x + r * (y - x)) = bindX t r (j + 1) := by
  have hj : 2 * j < t.length := (List.getElem?_eq_some_iff.1 hx).1
  have ex : t.getD (2 * j) 0 = x := by simp [List.getD, hx]
  have ey : t.getD (2 * j + 1) 0 = y := by simp [List.getD, hy]
  unfold bindX
  rw [List.range_succ, List.map_append, List.map_cons, List.map_nil, ex, ey]
  rw [List.set_append_right _ _ (by simp), List.length_map, List.length_range, Nat.sub_self, List.drop_eq_getElem_cons (show j < t.length by omega), List.set_cons_zero, List.append_assoc]
  rfl
theorem bindM_all (r : E) : ∀ (n : Nat) (t : List E), t.length = 2 * n → ((List.range n).map fun k => t.getD (2 * k) 0 + r * (t.getD (2 * k + 1) 0 - t.getD (2 * k) 0)) = bindL t r
  | 0, [], _ => rfl
  | n + 1, x :: y :: t, h => by
    have ih := bindM_all r n t (by simp only [List.length_cons] at h; omega)
    rw [bindL, ← ih, List.range_succ_eq_map, List.map_cons, List.map_map]
    congr 1
  | 0, _ :: _, h => by simp at h
  | n + 1, [], h => by simp at h
  | n + 1, [_], h => by simp at h; omega
set_option maxRecDepth 100000 in
set_option maxHeartbeats 1000000 in
theorem gBindW (t : List E) (r : E) (n : Nat) (ht : t.length = 2 * n) (hn : n ≤ 100000) (g cap : Nat) (hcap : 2 * n ≤ cap) (rest : List Value) (w : World) (b : Blk w g 26 (t.flatMap ec ++ rest).toArray) :
    Calls Tryz.prog 122 #[.slice (some ⟨g, 0, none⟩) (2 * n) cap, ev r] w fun e w' => e = .returned (.slice (some ⟨g, 0, none⟩) n cap) ∧ (∃ rest', Blk w' g 26 ((bindL t r).flatMap ec ++ rest').toArray) ∧ w.grownBy w' (some g) := by
  have HT := Lib.hid ht
  obtain ⟨m, hm⟩ : ∃ m, m = 2 * n := ⟨_, rfl⟩
  rw [← hm] at hcap ⊢
  have HM := Lib.hid hm
  have hq1 : Int.tdiv (m : Int) 2 = (n : Int) := (show Int.tdiv (m : Int) ((2 : Nat) : Int) = ((m / 2 : Nat) : Int) from rfl).trans (by omega)
  have hq2 : (m : Int) / 2 = (n : Int) := by omega
  have hq3 : wrap64 (n : Int) = (n : Int) := by simp only [wrap64]; omega
  have hnc : n ≤ cap := by omega
  have hmb : m ≤ 200000 := by omega
  clear ht hm
  unfold ev
  have hgl := b.lt
  go_enter Tryz.func122, Tryz.ntmps122
  go_wp2
  refine wp_stk1 fun W hB0 hz b1 => ?_
  have b0 := b.keep hB0
  have hgr0 : w.grownBy W (some g) := ⟨hB0.os, hB0.tape, hB0.output, hB0.size, fun k hk _ => hB0.block k hk⟩
  have hne : w.heap.size ≠ g := by omega
  go_loopw [11] (fun i wr => ∃ j : Nat, j ≤ n ∧ i = .int .i64 j ∧ Blk wr g 26 ((bindX t r j).flatMap ec ++ rest).toArray ∧ Blk wr w.heap.size 26 #[.int .u64 (fv r.a), .int .u64 (fv r.b)] ∧ w.grownBy wr (some g)) (fun i _ => n - (intOf i).toNat)
  case atStart => exact ⟨0, Nat.zero_le _, rfl, by rw [bindX_zero]; exact b0, b1, hgr0⟩
  case round =>
    obtain ⟨j, hj, rfl, bq, br, hgr⟩ := hrel
    by_cases hlt : j < n
    · have hT := HT.out
      obtain ⟨x, hx⟩ : ∃ x, t[2 * j]? = some x := ⟨t[2 * j], List.getElem?_eq_getElem (by omega)⟩
      obtain ⟨y, hy⟩ : ∃ y, t[2 * j + 1]? = some y := ⟨t[2 * j + 1], List.getElem?_eq_getElem (by omega)⟩
      obtain ⟨d1, d2⟩ := blk_cellP bq (k := 2 * j) ((bindX_get t r j (2 * j) (by omega)).trans hx)
      obtain ⟨d3, d4⟩ := blk_cellP bq (k := 2 * j + 1) ((bindX_get t r j (2 * j + 1) (by omega)).trans hy)
      have HS := Lib.hid (bindX_step t r j x y hx hy)
      have hlen : j < (bindX t r j).length := by rw [bindX_len t r j (by omega), hT]; omega
      have x1 := gw_cell bq.lt d1
      have x2 := gw_cell bq.lt d2
      have x3 := gw_cell bq.lt d3
      have x4 := gw_cell bq.lt d4
      have x5 := gw_blk br
      have hM := HM.out
      have hi1 : 2 * j < m := by omega
      have hi2 : 2 * j + 1 < m := by omega
      have hi3 : j < m := by omega
      obtain ⟨u, hu⟩ : ∃ u, (bindX t r j)[j]? = some u := ⟨_, List.getElem?_eq_getElem hlen⟩
      obtain ⟨s1, s2⟩ := blk_cellP bq hu
      clear hT hx hy d1 d2 d3 d4 hM hq1 hq2 hq3 hu
      go_wp2_with fail
      refine wp_region_rg 16 [(14, Spec.val (.agg #[.int .u64 (fv (x + r * (y - x)).a), .int .u64 (fv (x + r * (y - x)).b)]))] (by kernel_rfl) (by kernel_rfl) (by kernel_rfl) trivial ?_
      iterate 14 (refine rg_det rfl rfl rfl (fun K hK => ?_); go_big_quiet_op; refine hK _ ?_; clear hK K)
      refine rg_val rfl rfl (fun W1 hW1 hF => step_callv en_attestor_mle_blend (mBlend x y r W1) rfl rfl) ?_
      intro a' ha
      simp only [Act.put, List.setIfInBounds_toArray, List.set_cons_succ, List.set_cons_zero] at ha
      subst ha
      refine rg_det rfl rfl rfl (fun K hK => ?_)
      go_big_quiet_op
      refine hK _ ?_; clear hK K
      refine rg_nil (fun w' hw' hF => ?_)
      obtain ⟨z, rfl⟩ := hw'
      simp only [List.drop_succ_cons, List.drop_zero]
      clear hF x1 x2 x3 x4 x5
      have bz := bq.gw z
      have brz := br.gw z
      have e1 := bz.frozen
      have e2 := (z.h.cell (p := ⟨g, j * 2, none⟩) bq.lt).trans s1
      have e3 := (z.h.cell (p := ⟨g, j * 2 + 1, none⟩) bq.lt).trans s2
      clear s1 s2
      go_wp2
      exact ⟨⟨j + 1, by omega, by go_num, by rw [← HS.out]; exact blk_setP bz j _ hlen, blk_farE brz hne, grown_set (grown_set (grown_below hgr z.h))⟩, by simp [intOf]; omega⟩
    · obtain rfl : j = n := by omega
      go_wp2
      go_ret
      refine ⟨rfl, ⟨(t.drop j).flatMap ec ++ rest, ?_⟩, hgr⟩
      unfold bindX at bq
      rw [bindM_all r j t HT.out, List.flatMap_append, List.append_assoc] at bq
      exact bq

set_option maxRecDepth 100000 in
set_option maxHeartbeats 1000000 in
theorem gCloneW (t : List E) (h0 : 0 < t.length) (hb : t.length ≤ 1000000) (v : Value) (lo hi : Nat) (w : World) (h : ExtS lo hi w v t) :
    Calls Tryz.prog 123 #[v] w fun e w' => ∃ g cap rest, e = .returned (.slice (some ⟨g, 0, none⟩) t.length cap) ∧ t.length ≤ cap ∧ w.heap.size ≤ g ∧ Blk w' g 26 (t.flatMap ec ++ rest).toArray ∧ Below w.heap.size w w' := by
  obtain ⟨g, off, cap, hv, q1, q2, q3, q4, q5⟩ := exts_cells h h0
  cases hv
  obtain ⟨i0, hi0, iz0, iz1, iz2⟩ := info_parts ext_info
  have qe : ∀ (w : World) (a : Option Addr) (n c n' c' : Nat), (binOp .eql 22 (.slice a n c) (.slice none n' c')).run Tryz.prog w = .ok (.bool a.isNone) w := fun w a n c n' c' => Lib.run_eql_slice_nil w _ _ a n c n' c' Tryz.underlying22
  go_enter Tryz.func123, Tryz.ntmps123
  go_wp2_with (at_builtin; refine stop_in ?_)
  refine stop_out ?_
  refine stk1 (M := fun W => wpList _ _ _ _ _ W) fun W5 hB5 hz5 b5 => ?_
  have hs5 : W5.heap.size = w.heap.size + 1 := hz5.out
  refine wpList_appB rfl _ _ rfl Tryz.underlying22 hi0 iz0 iz1 iz2 rfl (by decide) (cl := t.flatMap ec) (base := w.heap.size) (cs := []) (k := 0) (fun u hu => by obtain ⟨x, _, hx⟩ := List.mem_flatMap.1 hu; exact ec_one x u hx) rfl rfl (Rd.keep h hB5) ⟨rfl, .inr ⟨w.heap.size, 0, #[], rfl, Nat.le_refl _, b5, Nat.le_refl _, Nat.zero_le _, rfl, rfl⟩⟩ (by unfold maxLen; omega) (by omega) (by omega) ?_
  intro v6 w6 hown6 hgrow6 hB6
  rw [Nat.zero_add, List.nil_append] at hown6
  go_wp2
  go_ret
  obtain ⟨ho1, ho2⟩ := hown6
  rcases ho2 with ⟨_, h2⟩ | ⟨g', cap', cur, rfl, r1, r2, r3, r4, r5, r6⟩
  · omega
  · refine ⟨g', cap', cur.toList.drop (t.length * 2), rfl, r3, r1, ?_, hB5.trans hB6⟩
    rw [← r6, List.take_append_drop]
    exact r2

theorem gCloneR (t : List E) (h0 : 0 < t.length) (hb : t.length ≤ 1000000) (v : Value) (lo hi : Nat) (w : World) (h : ExtS lo hi w v t) : Calls Tryz.prog 123 #[v] w (RetR (CloneA t) w) :=
  (gCloneW t h0 hb v lo hi w h).mono fun e w' ⟨g, cap, rest, h1, h2, h3, h4, h5⟩ => ⟨_, h1, ⟨g, cap, rest, rfl, h2, h3, h4.lt, h4⟩, h5⟩
set_option maxRecDepth 100000 in
set_option maxHeartbeats 1000000 in
theorem gBind (t : List E) (r : E) (n : Nat) (ht : t.length = 2 * n) (hn : n ≤ 100000) (h0 : 0 < n) (v : Value) (lo hi : Nat) (w : World) (h : ExtS lo hi w v t) :
    Calls Tryz.prog 93 #[v, ev r] w (RetR (ExtA (bindL t r)) w) := by
  unfold ev
  obtain ⟨A2, cap2, rfl⟩ := h.len
  go_enter Tryz.func93, Tryz.ntmps93
  go_wp2_with fail
  refine wp_stk1 fun W hB0 hz b1 => ?_
  have hs0 : W.heap.size = w.heap.size + 1 := hz.out
  have h' := Rd.keep h hB0
  have c1 := gw_blk b1
  have hT := Lib.hid ht
  have hp : 0 < t.length := by omega
  have hb : t.length ≤ 1000000 := by omega
  clear ht
  refine wp_region_rg 3 [(1, Spec.rel (CloneA t) AnyV)] (by kernel_rfl) (by kernel_rfl) (by kernel_rfl) ⟨fit_of (stable_clone t), trivial⟩ ?_
  refine rg_det rfl rfl rfl (fun K hK => ?_)
  go_big_quiet_op
  refine hK _ ?_; clear hK K
  refine rg_rel rfl rfl (fun W1 hW1 hF => step_callr en_slices_Clone___attestor_api_Ext_attestor_api_Ext_ (gCloneR t hp hb _ lo hi W1 (Rd.keep h' (grw_below hW1))) rfl rfl) ?_
  intro n1 m1 v1 hn1 hm1 hd1 hf1 a' ha
  simp only [Act.put, List.setIfInBounds_toArray, List.set_cons_succ, List.set_cons_zero] at ha
  subst ha
  refine rg_det rfl rfl rfl (fun K hK => ?_)
  go_big_quiet_op
  refine hK _ ?_; clear hK K
  refine rg_nil (fun w' hw' hF => ?_)
  obtain ⟨z, rfl⟩ := hw'
  simp only [List.drop_succ_cons, List.drop_zero]
  obtain ⟨hm1, g, cap, rest, rfl, k1, k2, k3, k4⟩ := end_last hF
  clear hF c1
  rw [hT.out] at k1
  rw [hT.out]
  have hzs := z.h.size
  go_wp2_with fail
  refine (gBindW t r n hT.out hn g cap k1 rest z.w k4).mono ?_
  rintro e w4 ⟨rfl, ⟨rest4, b4⟩, hgr⟩
  have hB4 : Below w.heap.size w w4 := (hB0.trans (z.h.mono hB0.size)).grown hgr (by omega) (fun i e => by cases e; omega)
  go_wp2_with fail
  go_ret
  have hlb := bindL_length r n t hT.out
  refine ⟨_, rfl, ?_, hB4⟩
  have := exts_pad b4 hlb (by omega) (show w.heap.size ≤ g by omega) b4.lt (show n ≤ cap by omega)
  unfold ExtA
  exact this
end Go.Proofs.YtkgglhakimkkhaaGreatDoor
namespace Go.Proofs.YtkgglhakimkkhaaGreatDoor
open Go.RowKit

theorem sl_info : (Tryz.prog.info? 22).map (fun i => (i.zero, i.size, i.bytes)) = some (some (.slice none 0 0), 1, 24) := by kernel_rfl
def nilV : Value := .slice none 0 0
set_option maxRecDepth 100000 in
theorem mk_tab (n : Nat) (hn : n ≤ 1000000) (w : World) : (Instr.makeSlice 31 (.int .i64 (n : Int)) (.int .i64 (n : Int))).run Tryz.prog w = .ok (.slice (some ⟨w.heap.size, 0, none⟩) n n) (w.alloc (.cells (List.replicate n nilV).toArray 22)) := by
  obtain ⟨i0, hi0, hz0, hz1, hz2⟩ := info_parts sl_info
  have h := run_make (P := Tryz.prog) w _ _ i0 _ Tryz.underlying31 hi0 hz0 .i64 .i64 (n : Int) (n : Int) (by omega) (Int.le_refl _) (by rw [hz2]; omega) (by omega)
  rw [h, Int.toNat_natCast, hz1]
  congr 4
  apply Array.ext_getElem?
  intro k
  unfold madeCells
  by_cases hk : k < n
  · simp [hk, Value.cells, nilV, Nat.mod_one]
  · rw [Array.getElem?_eq_none (by simp; omega), Array.getElem?_eq_none (by simp; omega)]
theorem step_mkT {o : Oper} {a : Act} {w : World} {x y : Operand} (n : Nat) (hn : n ≤ 1000000) (ho : o.op = .makeSlice 31 x y) (hx : a.eval x = .int .i64 (n : Int)) (hy : a.eval y = .int .i64 (n : Int)) :
    stepAt Tryz.prog o a w (fun v w' => Lit 22 n (List.replicate n nilV).toArray w.heap.size w'.heap.size v w' ∧ Below w.heap.size w w') := by
  unfold stepAt execOp
  simp only [ho, hx, hy, Sem.run_bind, mk_tab n hn w, Result.andThen_ok]
  exact ⟨⟨rfl, by simp only [World.size_alloc]; omega, Blk.new _ _ _⟩, (Below.refl _ _).alloc (Nat.le_refl _) _⟩
theorem sum_info : (Tryz.prog.info? 37).map (fun i => (i.zero, i.size, i.bytes)) = some (some (.agg #[.slice none 0 0, .slice none 0 0]), 2, 48) := by kernel_rfl
def BndA (vp : Value) (tabs : List (List E)) (lo hi : Nat) (v : Value) (w : World) : Prop := ∃ vt, v = sv vt vp ∧ TabS lo hi w vt tabs
def BndK (w : World) (gt L : Nat) (tabs : List (List E)) (r : E) (j : Nat) (wr : World) : Prop := ∃ us : List Value, us.length = j ∧ Blk wr gt 22 (us ++ List.replicate (tabs.length - j) nilV).toArray ∧ ∀ (k : Nat) u t, us[k]? = some u → tabs[k]? = some t → ExtS L wr.heap.size wr u (bindL t r)
theorem bnd_set (us : List Value) (j N : Nat) (u : Value) (hj : us.length = j) (hN : j < N) : (us ++ List.replicate (N - j) nilV).set j u = (us ++ [u]) ++ List.replicate (N - (j + 1)) nilV := by
  subst hj
  rw [List.set_append_right _ _ (Nat.le_refl _), Nat.sub_self, show N - us.length = (N - (us.length + 1)) + 1 by omega, List.replicate_succ, List.set_cons_zero, List.append_assoc]
  rfl
theorem BndK.keep {w a b : World} {gt L j : Nat} {tabs : List (List E)} {r : E} (h : BndK w gt L tabs r j a) (hb : Below a.heap.size a b) : BndK w gt L tabs r j b := by
  obtain ⟨us, h1, h2, h3⟩ := h
  exact ⟨us, h1, h2.keep hb, fun k u t hu ht => (Rd.keep (h3 k u t hu ht) hb).wide (Nat.le_refl _) hb.size⟩
theorem BndK.step {w a : World} {gt L j lo hi : Nat} {tabs : List (List E)} {r : E} {t : List E} {u : Value} (h : BndK w gt L tabs r j a) (hj : tabs[j]? = some t) (hu : ExtS lo hi a u (bindL t r)) (hlo : L ≤ lo) (hhi : hi ≤ a.heap.size) (hgt : gt < L) : BndK w gt L tabs r (j + 1) (a.setCell ⟨gt, j, none⟩ u) := by
  obtain ⟨us, h1, h2, h3⟩ := h
  have hjl : j < tabs.length := (List.getElem?_eq_some_iff.1 hj).1
  have hp : Put a (a.setCell ⟨gt, j, none⟩ u) gt := Put.set a gt j u
  refine ⟨us ++ [u], by simp [h1], ?_, fun k v s hv hs => ?_⟩
  · have := h2.set_ j u
    rw [← bnd_set us j tabs.length u h1 hjl]
    simpa using this
  · have hsz : (a.setCell ⟨gt, j, none⟩ u).heap.size = a.heap.size := hp.size
    by_cases hk : k < us.length
    · rw [List.getElem?_append_left hk] at hv
      rw [hsz]
      exact hp.rd (h3 k v s hv hs) (.inl hgt)
    · have hkl : k < (us ++ [u]).length := (List.getElem?_eq_some_iff.1 hv).1
      simp only [List.length_append, List.length_cons, List.length_nil] at hkl
      obtain rfl : k = j := by omega
      rw [List.getElem?_append_right (by omega), h1, Nat.sub_self] at hv
      simp only [List.getElem?_cons_zero, Option.some.injEq] at hv
      subst hv
      obtain rfl : t = s := Option.some.inj (hj.symm.trans hs)
      rw [hsz]
      exact hp.rd (Rd.wide hu hlo hhi) (.inl hgt)
theorem BndK.all {w a : World} {gt L : Nat} {tabs : List (List E)} {r : E} (h : BndK w gt L tabs r tabs.length a) (hl : tabs.length ≤ 1000) {lo : Nat} (hgt : lo ≤ gt) (hL : lo ≤ L) : TabS lo a.heap.size a (.slice (some ⟨gt, 0, none⟩) tabs.length tabs.length) (bndE tabs r) := by
  obtain ⟨us, h1, h2, h3⟩ := h
  refine ⟨us, by rw [h1, bndE_length], ?_, fun k u t hu ht => ?_⟩
  · rw [bndE_length]
    refine ⟨by omega, by omega, _, _, rfl, Nat.le_refl _, fun _ => ⟨gt, 0, rfl, hgt, h2.lt, h2.lt, fun j u hu => ?_⟩⟩
    rw [Nat.zero_add, h2.cell, Nat.sub_self]
    simpa using hu
  · obtain ⟨s, hs, rfl⟩ : ∃ s, tabs[k]? = some s ∧ bindL s r = t := by
      unfold bndE at ht
      rw [List.getElem?_map] at ht
      cases he : tabs[k]? with
      | none => rw [he] at ht; cases ht
      | some s => rw [he] at ht; exact ⟨s, rfl, Option.some.inj ht⟩
    exact Rd.wide (h3 k u s hu hs) hL (Nat.le_refl _)
theorem TabS.put {lo hi g : Nat} {w w' : World} {v : Value} {tabs : List (List E)} (h : TabS lo hi w v tabs) (hp : Put w w' g) (hne : g < lo ∨ hi ≤ g) : TabS lo hi w' v tabs :=
  h.other (by rw [hp.size]; exact Nat.le_refl _) fun k h1 h2 _ => hp.other k (by omega)
set_option maxRecDepth 100000 in
set_option maxHeartbeats 4000000 in
theorem gBndSum (tabs : List (List E)) (r : E) (n : Nat) (hall : AllLen tabs (2 * n)) (h0 : 0 < n) (hn : n ≤ 100000) (hl : tabs.length ≤ 1000) (vt vp : Value) (lo hi : Nat) (w : World) (h : TabS lo hi w vt tabs) (hvp : ∃ A n c, vp = .slice A n c) :
    Calls Tryz.prog 59 #[sv vt vp, ev r] w (RetR (BndA vp (bndE tabs r)) w) := by
  obtain ⟨AP, nP, cP, rfl⟩ := hvp
  obtain ⟨A, capt, rfl⟩ := h.len
  obtain ⟨i0, hi0, iz0, iz1, iz2⟩ := info_parts sum_info
  have HA := Lib.hid hall
  have HH := Lib.hid h
  clear hall h
  unfold ev sv
  go_enter Tryz.func59, Tryz.ntmps59
  go_upto_region 1 with (fail)
  refine wp_stk3 fun W hB hz b1 b2 b3 => ?_
  have hW := hz.out
  clear hz
  have c1 := gw_blk b1
  refine wp_region_rg 8 [(3, Spec.rel (Lit 22 tabs.length (List.replicate tabs.length nilV).toArray) (LitF tabs.length)), (7, Spec.rel (New 37 #[.slice none 0 0, .slice none 0 0]) (NewF))] (by kernel_rfl) (by kernel_rfl) (by kernel_rfl) ⟨fit_lit, fit_new, trivial⟩ ?_
  iterate 3 (refine rg_det rfl rfl rfl (fun K hK => ?_); go_big_quiet_op; refine hK _ ?_; clear hK K)
  refine rg_rel rfl rfl (fun W1 hW1 hF => step_mkT tabs.length (by omega) rfl rfl rfl) ?_
  intro n3 m3 v3 hn3 hm3 hd3 hf3 a' ha
  simp only [Act.put, List.setIfInBounds_toArray, List.set_cons_succ, List.set_cons_zero] at ha
  subst ha
  obtain rfl := hf3
  iterate 3 (refine rg_det rfl rfl rfl (fun K hK => ?_); go_big_quiet_op; refine hK _ ?_; clear hK K)
  refine rg_rel rfl rfl (fun W1 hW1 hF => step_new hi0 iz0 rfl) ?_
  intro n7 m7 v7 hn7 hm7 hd7 hf7 a' ha
  simp only [Act.put, List.setIfInBounds_toArray, List.set_cons_succ, List.set_cons_zero] at ha
  subst ha
  obtain rfl := hf7
  refine rg_nil (fun w' hw' hF => ?_)
  obtain ⟨z, rfl⟩ := hw'
  simp only [List.drop_succ_cons, List.drop_zero]
  obtain ⟨hm3b, -, hl3, bt⟩ := end_last (end_init hF)
  obtain ⟨hm7b, -, hl7, bo⟩ := end_last hF
  have hd7' := hd7 (n3, m3) (by simp)
  simp only at hd7'
  have e1 := bo.frozen
  have e2 := bo.cell
  have b1z := b1.gw z
  have b2z := b2.gw z
  have b3z := b3.gw z
  have hBz := hB.trans (z.h.mono hB.size)
  have hzs := z.h.size
  have hn37 : n3 ≠ n7 := by omega
  clear hF c1 b1 b2 b3 hd3 hd7 hB
  go_upto_region 2 with (fail)
  refine set2 (M := fun W => Code.wp _ _ _ _ W) bo fun X hX bX => ?_
  have bX : Blk X n7 37 #[.slice (some ⟨n3, 0, none⟩) tabs.length tabs.length, .slice AP nP cP] := bX
  have btX := hX.blk bt hn37
  have b1X := hX.blk b1z (by omega)
  have b2X := hX.blk b2z (by omega)
  have b3X := hX.blk b3z (by omega)
  have hBX := below_put hBz hX (by omega)
  have hXs := hX.size
  have hn3X := btX.lt
  have hws : w.heap.size ≤ n3 := by omega
  clear e1 e2 bt bo b1z b2z b3z hBz hX
  have c0 := b1X.cell
  go_wp2_with fail
  clear c0
  go_loopw [18] (fun i wr => ∃ j : Nat, j ≤ tabs.length ∧ i = .int .i64 j ∧ X.grownBy wr (some n3) ∧ BndK w n3 X.heap.size tabs r j wr) (fun i _ => tabs.length - (intOf i).toNat)
  case atStart => exact ⟨0, Nat.zero_le _, rfl, grown_refl _ _, [], rfl, by simpa using btX, fun k u t hu _ => by simp at hu⟩
  case round =>
    obtain ⟨j, hj, rfl, hg, hK⟩ := hrel
    clear btX
    have bo2 := grown_blk hg bX (by simp; omega)
    have br2 := grown_blk hg b3X (by simp; omega)
    have hBr := grown_b hBX hg (by omega) hws
    have hgs := hg.size
    by_cases hlt : j < tabs.length
    · have bs2 := grown_blk hg b2X (by simp; omega)
      have hTr := HH.out.keep hBr
      obtain ⟨g, off, cap', hv, q1, q2, q3, q4, q5⟩ := tabs_cells hTr (by omega)
      cases hv
      obtain ⟨t, ht⟩ : ∃ t, tabs[j]? = some t := ⟨_, List.getElem?_eq_getElem hlt⟩
      obtain ⟨A2, c2, d1, hE⟩ := q5 j t ht
      have htl := HA.out t (List.mem_of_getElem? ht)
      have HTL := Lib.hid htl
      have HTJ := Lib.hid ht
      clear q5 ht htl hTr
      go_wp2_with fail
      have f1 := gw_blk bo2
      have f2 := gw_blk bs2
      clear d1
      refine wp_region_rg 7 [(5, Spec.rel (ExtA (bindL t r)) (SlF (bindL t r).length))] (by kernel_rfl) (by kernel_rfl) (by kernel_rfl) ⟨fit_ext, trivial⟩ ?_
      iterate 5 (refine rg_det rfl rfl rfl (fun K hK => ?_); go_big_quiet_op; refine hK _ ?_; clear hK K)
      refine rg_rel rfl rfl (fun W1 hW1 hF => step_callr en_attestor_mle_Bind (gBind t r n HTL.out hn h0 _ _ _ W1 (Rd.keep hE (grw_below hW1))) rfl rfl) ?_
      intro nq5 mq5 vq5 hnq5 hmq5 hdq5 hfq5 a' ha
      simp only [Act.put, List.setIfInBounds_toArray, List.set_cons_succ, List.set_cons_zero] at ha
      subst ha
      obtain ⟨Aq5, capq5, rfl⟩ := hfq5
      refine rg_det rfl rfl rfl (fun K hK => ?_)
      go_big_quiet_op
      refine hK _ ?_; clear hK K
      refine rg_nil (fun w' hw' hF => ?_)
      obtain ⟨z5, rfl⟩ := hw'
      simp only [List.drop_succ_cons, List.drop_zero]
      obtain ⟨hm5, t5⟩ := end_last hF
      have hgz := grown_below hg z5.h
      have boz := bo2.gw z5
      have hKz := hK.keep z5.h
      have hlen : (bindL t r).length = n := bindL_length r n t HTL.out
      obtain ⟨us, hu1, hu2, hu3⟩ := hKz
      have e1 := hu2.frozen
      have e2 : z5.w.cell? ⟨n3, j, none⟩ = some nilV := by
        rw [hu2.cell, List.getElem?_toArray, List.getElem?_append_right (by omega), hu1, Nat.sub_self, List.getElem?_replicate, if_pos (by omega)]
      unfold nilV at e2
      have e3 := boz.cell
      have hK2 : ∀ u, ExtS nq5 mq5 z5.w u (bindL t r) → BndK w n3 X.heap.size tabs r (j + 1) (z5.w.setCell ⟨n3, j, none⟩ u) := fun u hu => BndK.step ⟨us, hu1, hu2, hu3⟩ HTJ.out hu (by omega) (by omega) (by omega)
      have hK3 := hK2 _ t5
      rw [hlen] at hK3
      have HK2 := Lib.hid hK3
      clear hF f1 f2 hu3 hK2 hK3 t5 hdq5
      go_wp2_with fail
      exact ⟨⟨j + 1, by omega, by go_num, grown_set hgz, HK2.out⟩, by simp [intOf]; omega⟩
    · obtain rfl : j = tabs.length := by omega
      have e1 := bo2.cell
      have e3 := br2.cell
      have e4 := br2.frozen
      have hT := hK.all hl (lo := w.heap.size + 3) (by omega) (by omega)
      go_wp2_with fail
      refine bodyPost_ret (v := .agg #[.slice (some ⟨n3, 0, none⟩) tabs.length tabs.length, .slice AP nP cP]) (by simp [results, Tryz.results59, go_sem, e3]) rfl ?_
      have hb : Below w.heap.size w ((wr.setCell ⟨w.heap.size + 2, 0, none⟩ (.slice (some ⟨n3, 0, none⟩) tabs.length tabs.length)).setCell ⟨w.heap.size + 2, 1, none⟩ (.slice AP nP cP)) := below_set2 hBr (by omega)
      refine ⟨_, rfl, ⟨_, rfl, ?_⟩, hb⟩
      have hp : Put wr ((wr.setCell ⟨w.heap.size + 2, 0, none⟩ (.slice (some ⟨n3, 0, none⟩) tabs.length tabs.length)).setCell ⟨w.heap.size + 2, 1, none⟩ (.slice AP nP cP)) (w.heap.size + 2) := (Put.set _ _ _ _).trans (Put.set _ _ _ _)
      rw [hp.size]
      exact (hT.put hp (by omega)).wide (by omega) (Nat.le_refl _)
end Go.Proofs.YtkgglhakimkkhaaGreatDoor
namespace Go.Proofs.YtkgglhakimkkhaaGreatDoor
open Go.RowKit

def RowT (base : Nat) (w : World) (u : Value) (ts : List (List E)) : Prop := ∃ us : List Value, w.ownsRow base 22 1 u ts.length us ∧ us.length = ts.length ∧ ∀ (k : Nat) x t, us[k]? = some x → ts[k]? = some t → ∃ lo hi, base ≤ lo ∧ hi ≤ w.heap.size ∧ Outside lo hi u ∧ ExtS lo hi w x t
theorem RowT.first (base : Nat) (w : World) : RowT base w (.slice none 0 0) [] := ⟨[], ⟨rfl, .inl ⟨rfl, rfl⟩⟩, rfl, fun k x t h => by simp at h⟩
theorem RowT.keep {base : Nat} {w X : World} {u : Value} {ts : List (List E)} (h : RowT base w u ts) (hb : Below w.heap.size w X) : RowT base X u ts := by
  obtain ⟨us, h1, h2, h3⟩ := h
  refine ⟨us, own_below h1 (Nat.le_refl _) hb, h2, fun k x t hx ht => ?_⟩
  obtain ⟨lo, hi, q1, q2, q3, q4⟩ := h3 k x t hx ht
  exact ⟨lo, hi, q1, Nat.le_trans q2 hb.size, q3, Rd.keep q4 hb⟩
theorem own_put {w w' : World} {base n size g : Nat} {e : TypeId} {v : Value} {xs : List Value} (h : w.ownsRow base e size v n xs) (hp : Put w w' g) (hg : g < base) : w'.ownsRow base e size v n xs := by
  obtain ⟨h1, h2⟩ := h
  refine ⟨h1, h2.imp id ?_⟩
  rintro ⟨b, cap, cur, q1, q2, q3, q4⟩
  exact ⟨b, cap, cur, q1, q2, (hp.other b (by omega)).trans q3, q4⟩
theorem RowT.put {base g : Nat} {w X : World} {u : Value} {ts : List (List E)} (h : RowT base w u ts) (hp : Put w X g) (hg : g < base) : RowT base X u ts := by
  obtain ⟨us, h1, h2, h3⟩ := h
  refine ⟨us, own_put h1 hp hg, h2, fun k x t hx ht => ?_⟩
  obtain ⟨lo, hi, q1, q2, q3, q4⟩ := h3 k x t hx ht
  exact ⟨lo, hi, q1, by rw [hp.size]; exact q2, q3, hp.rd q4 (.inl (by omega))⟩
theorem RowT.block {base g : Nat} {w : World} {u : Value} {ts : List (List E)} (h : RowT base w u ts) (hg : u.ownBlock = some g) : base ≤ g ∧ g < w.heap.size := by
  obtain ⟨us, h1, _⟩ := h
  exact own_block h1 hg
theorem RowT.out {base lo hi : Nat} {w : World} {u : Value} {ts : List (List E)} (h : RowT base w u ts) (hlo : w.heap.size ≤ lo) : Outside lo hi u := fun b hb => .inl (Nat.lt_of_lt_of_le (h.block hb).2 hlo)
theorem RowT.tabs {base : Nat} {w : World} {u : Value} {ts : List (List E)} (h : RowT base w u ts) (hl : ts.length ≤ 1000000) : TabS base w.heap.size w u ts := by
  obtain ⟨us, h1, h2, h3⟩ := h
  refine ⟨us, h2, Rd.of_own h1 (by omega) (Nat.le_refl _), fun k x t hx ht => ?_⟩
  obtain ⟨lo, hi, q1, q2, q3, q4⟩ := h3 k x t hx ht
  exact Rd.wide q4 q1 q2
theorem RowT.len {base : Nat} {w : World} {u : Value} {ts : List (List E)} (h : RowT base w u ts) (hl : ts.length ≤ 1000000) : ∃ A cap, u = .slice A ts.length cap := (h.tabs hl).len
theorem wpList_appT {ops : Array Oper} {rest : List Oper} {o : Oper} {a : Act} {Q : Exit → Act → World → Prop} {X : World} {base n lo hi : Nat} {t : TypeId} {ts : List (List E)} {u x : Value} {y : List E} (hgd : o.guard = none) (s p : Operand)
    (ho : o.op = .call { callee := .builtin .append, args := #[s, p], argTypes := #[t, t] }) (ht : Tryz.prog.underlying t = some (.slice 22)) (hs : a.eval s = u) (hx : a.eval p = .slice (some ⟨n, 0, none⟩) 1 1) (hrow : RowT base X u ts) (hsrc : Blk X n 22 #[x]) (hxc : x.oneCell' = true)
    (hE : ExtS lo hi X x y) (hlo : base ≤ lo) (hhi : hi ≤ X.heap.size) (hout : Outside lo hi u) (hk : ts.length ≤ 100000) (hbase : base ≤ X.heap.size)
    (h : ∀ v' w', RowT base w' v' (ts ++ [y]) → Below base X w' → X.grownBy w' u.ownBlock → (v'.ownBlock = u.ownBlock ∨ v'.ownBlock = some X.heap.size) → wpList Tryz.prog ops Q rest (a.put o.dst v') w') : wpList Tryz.prog ops Q (o :: rest) a X := by
  obtain ⟨i0, hi0, hz0, hz1, hz2⟩ := info_parts sl_info
  obtain ⟨us, h1, h2, h3⟩ := hrow
  refine wpList_app3 hgd s p ho ht hi0 hz0 hz1 hz2 rfl (by decide) (cl := [x]) rfl (fun v hv => by rw [List.mem_singleton.1 hv]; exact hxc) hs hx h1 hsrc (by unfold maxLen; omega) (by omega) hbase fun v' w' hown hgrow hB hob => ?_
  have hkept : ∀ lo hi, hi ≤ X.heap.size → Outside lo hi u → Kept lo hi X w' := fun lo hi hh ho => Kept.of_grown hgrow ho hh
  refine h v' w' ⟨us ++ [x], by simpa using hown, by simp [h2], fun k z t' hz ht' => ?_⟩ hB hgrow hob
  by_cases hkl : k < us.length
  · rw [List.getElem?_append_left hkl] at hz
    rw [List.getElem?_append_left (by omega)] at ht'
    obtain ⟨lo', hi', q1, q2, q3, q4⟩ := h3 k z t' hz ht'
    exact ⟨lo', hi', q1, Nat.le_trans q2 hB.size, q3.next hob q2, rd_kept q4 (hkept _ _ q2 q3) hB.size⟩
  · have hkk : k < (us ++ [x]).length := (List.getElem?_eq_some_iff.1 hz).1
    simp only [List.length_append, List.length_cons, List.length_nil] at hkk
    obtain rfl : k = us.length := by omega
    rw [List.getElem?_append_right (Nat.le_refl _), Nat.sub_self] at hz
    rw [List.getElem?_append_right (by omega), h2, Nat.sub_self] at ht'
    simp only [List.getElem?_cons_zero, Option.some.injEq] at hz ht'
    subst hz
    subst ht'
    exact ⟨lo, hi, hlo, Nat.le_trans hhi hB.size, hout.next hob hhi, rd_kept hE (hkept _ _ hhi hout) hB.size⟩
theorem tabs_kept {lo hi : Nat} {v : Value} {ts : List (List E)} {a b : World} (h : TabS lo hi a v ts) (k : Kept lo hi a b) (hs : a.heap.size ≤ b.heap.size) : TabS lo hi b v ts := h.other hs fun g h1 h2 _ => k g h1 h2
theorem TabS.base {lo hi : Nat} {w : World} {v : Value} {ts : List (List E)} (h : TabS lo hi w v ts) : TabS 0 w.heap.size w v ts := by
  obtain ⟨us, h1, h2, h3⟩ := h
  have key : ∀ {n size : Nat} {v : Value} {cs : List Value}, Rd lo hi size w v n cs → Rd 0 w.heap.size size w v n cs := fun ⟨q1, q2, A, cap, q3, q4, q5⟩ => ⟨q1, q2, A, cap, q3, q4, fun h0 => by
    obtain ⟨g, off, r1, r2, r3, r4, r5⟩ := q5 h0
    exact ⟨g, off, r1, Nat.zero_le _, r4, r4, r5⟩⟩
  exact ⟨us, h1, key h2, fun k u t hu ht => key (h3 k u t hu ht)⟩
theorem ext_base {lo hi : Nat} {w : World} {v : Value} {xs : List E} (h : ExtS lo hi w v xs) : ExtS 0 w.heap.size w v xs := by
  obtain ⟨q1, q2, A, cap, q3, q4, q5⟩ := h
  refine ⟨q1, q2, A, cap, q3, q4, fun h0 => ?_⟩
  obtain ⟨g, off, r1, r2, r3, r4, r5⟩ := q5 h0
  exact ⟨g, off, r1, Nat.zero_le _, r4, r4, r5⟩
end Go.Proofs.YtkgglhakimkkhaaGreatDoor
namespace Go.Proofs.YtkgglhakimkkhaaGreatDoor
open Go Go.RowKit

def isMove (o : Oper) : Bool := match o.op with | .move _ => true | _ => false
def lateM (ops : Array Oper) (n : Nat) : List Nat → Array Bool → Bool
  | [], _ => true
  | i :: L, listed => decide (i < n) && (Region.ready .any ops listed).contains i && Region.free .any ops listed i && (match ops[i]? with | some o => isMove o && o.guard.isNone | none => false) && lateM ops n L (listed.setIfInBounds i true)
def rgLM (ops : Array Oper) (n : Nat) (L : List Nat) : Bool :=
  let B := befores ops.toList []
  ops.toList.all noDefer && Region.noSelect ops && decide (n ≤ ops.size) && (List.range n).all (headB ops n B) && sinkL ops n L && Region.chainB .any ops n &&
    Region.seqB .any ops (ops.size - n) n (firstN n ops.size) && lateM ops n L (Array.replicate ops.size false)
section
variable {P : Program} {ops : Array Oper} {n : Nat} {B : List Nat} {Sp : List (Nat × Spec)} {C : World → Prop} {N0 : Nat} {a0 : Act}
theorem wpAnyH_of_seqM {Q : Exit → Act → World → Prop} : ∀ (l : List Oper) (k : Nat) (listed : Array Bool) (a : Act) (w : World), (∀ j, l[j]? = ops[k + j]?) →
    Region.seqB .any ops l.length k listed = true → wpList P ops Q l a w → wpAnyH P .any ops Q (fun _ => True) l.length listed a w
  | [], _, _, _, _, _, hB, h => ⟨by simpa [Region.seqB] using hB, h⟩
  | o :: l, k, listed, a, w, hl, hB, h => by
    have h0 : ops[k]? = some o := by simpa using (hl 0).symm
    simp only [List.length_cons, Region.seqB, Bool.and_eq_true, decide_eq_true_eq] at hB
    refine ⟨fun h1 => (by rw [hB.1] at h1; cases h1), fun i hi => ?_⟩
    rw [hB.1] at hi
    have hik : i = k := by simpa using hi
    subst hik
    unfold wpList at h
    unfold wpOp
    simp only [h0]
    have next : ∀ a' w', wpList P ops Q l a' w' → (fun _ => True) w' ∧ wpAnyH P .any ops Q (fun _ => True) l.length (listed.setIfInBounds i true) a' w' := fun a' w' h' =>
      ⟨trivial, wpAnyH_of_seqM l (i + 1) _ a' w' (fun j => by have := hl (j + 1); simpa [Nat.add_assoc, Nat.add_comm 1 j] using this) hB.2 h'⟩
    by_cases hw : Region.wanted o (yielded ops a.tmps) = true
    · rw [if_pos hw] at h ⊢
      exact h.imp (Oper.wp_mono fun a' w' h' => next a' w' h') id
    · rw [if_neg hw] at h ⊢
      exact next _ _ h
theorem anyH_of_goodM {Q : Exit → Act → World → Prop} {L : List Nat} (hst : ∀ i A F, specOf Sp i = some (.rel A F) → Fit A F) (hns : ∀ i u, specOf Sp i ≠ some (.skip u)) (hC : ∀ w w', C w → Below w.heap.size w w' → C w') (hN : ∀ w, C w → N0 ≤ w.heap.size)
    (hnd : ∀ (k : Nat) (o : Oper), ops[k]? = some o → noDefer o = true) (hle : n ≤ ops.size) (H : ∀ k, k < n → ∃ o d, HeadOk ops n B k o d) (hsink : sinkL ops n L = true) (hchain : Region.chainB .any ops n = true) (hseq : Region.seqB .any ops (ops.size - n) n (firstN n ops.size) = true)
    (hsz : ∀ (k : Nat) (d : Tmp), k < n → dstOf ops k = some d → d < a0.tmps.size)
    (htree : wpRg P ops B Sp C N0 (fun a w => wpList P ops Q (ops.toList.drop n) a w) (ops.toList.take n) 0 a0 [] []) :
    ∀ (f : Nat) (listed : Array Bool) (a : Act) (w : World) (r : Nat → Nat × Nat), unl n listed = f → (∀ i ∈ L, i < n → listed.getD i true = true) → HeadInv .any ops n listed → Good P ops n Sp C N0 a0 listed a w r → wpAnyH P .any ops Q (fun _ => True) (f + (ops.size - n)) listed a w := by
  intro f
  induction f with
  | zero =>
    intro listed a w r hf hLl inv hG
    have hall : ∀ k, k < n → listed.getD k false = true := fun k hk => by
      have h1 := unl_zero hf k hk
      have h2 : k < listed.size := by rw [inv.size]; omega
      simp [h2] at h1 ⊢
      exact h1
    have hfin := good_end hst hns hN hnd H hsz hle htree hG hall
    have hls := firstN_of inv.size hf inv.tail
    have hdl : (ops.toList.drop n).length = ops.size - n := by simp
    have := wpAnyH_of_seqM (Q := Q) (ops.toList.drop n) n listed a w (fun j => by simp [List.getElem?_drop]) (by rw [hdl, hls]; exact hseq) hfin
    rw [hdl] at this
    rw [Nat.zero_add]
    exact this
  | succ f ih =>
    intro listed a w r hf hLl inv hG
    rw [show f + 1 + (ops.size - n) = (f + (ops.size - n)) + 1 by omega]
    have hex : ∃ i, i < n ∧ listed.getD i true = false := by
      refine Classical.byContradiction fun hno => ?_
      have : unl n listed = 0 := List.countP_eq_zero.2 fun i hi => by
        have hi' := List.mem_range.1 hi
        cases hd : listed.getD i true with
        | true => simp
        | false => exact absurd ⟨i, hi', hd⟩ hno
      omega
    obtain ⟨i0, hi0, hun0⟩ := hex
    obtain ⟨j0, _, hj0⟩ := ready_head H inv.size hle i0 hi0 hun0
    refine ⟨fun h0 => (by rw [h0] at hj0; cases hj0), fun i hi => ?_⟩
    obtain ⟨hun, oi, hoi, _⟩ := mem_ready.1 hi
    have hin : i < n := by
      rcases Nat.lt_or_ge i n with h | h
      · exact h
      · have hlt : i < ops.size := (Array.getElem?_eq_some_iff.1 hoi).1
        exact absurd hi (tail_waitsL hsink hchain (by omega) inv hLl _ i0 rfl hi0 hun0 i h)
    obtain ⟨o, d, h⟩ := H i hin
    have hs := good_step hst hns hC hN hnd H hsz hle htree hG inv hin h hi
    have hisz : i < listed.size := by rw [inv.size]; omega
    have hunl := unl_set hisz hun n hin
    have next : ∀ a' w', (∃ r', Good P ops n Sp C N0 a0 (listed.setIfInBounds i true) a' w' r') → (fun _ => True) w' ∧ wpAnyH P .any ops Q (fun _ => True) (f + (ops.size - n)) (listed.setIfInBounds i true) a' w' :=
      fun a' w' ⟨r', hG'⟩ => ⟨trivial, ih _ a' w' r' (by omega) (fun k hk hkn => by
        by_cases hik : i = k
        · subst hik; simp [hisz]
        · rw [getD_set_ne true hik]; exact hLl k hk hkn) (inv.set hi hin) hG'⟩
    unfold wpOp
    simp only [h.op]
    by_cases hw : Region.wanted o (yielded ops a.tmps) = true
    · rw [if_pos hw] at hs ⊢
      exact .inl (wp_of_step (stepAt_mono (fun v w' hv => next _ _ hv) hs))
    · rw [if_neg hw] at hs ⊢
      exact next _ _ hs

theorem good_lateM {Fin : Act → World → Prop} (hst : ∀ i A F, specOf Sp i = some (.rel A F) → Fit A F) (hns : ∀ i u, specOf Sp i ≠ some (.skip u)) (hC : ∀ w w', C w → Below w.heap.size w w' → C w') (hN : ∀ w, C w → N0 ≤ w.heap.size)
    (hnd : ∀ (k : Nat) (o : Oper), ops[k]? = some o → noDefer o = true) (H : ∀ k, k < n → ∃ o d, HeadOk ops n B k o d) (hsz : ∀ (k : Nat) (d : Tmp), k < n → dstOf ops k = some d → d < a0.tmps.size)
    (hn : n ≤ ops.size) (htree : wpRg P ops B Sp C N0 Fin (ops.toList.take n) 0 a0 [] [])
    {listed : Array Bool} {a : Act} {w : World} {r : Nat → Nat × Nat} (hG : Good P ops n Sp C N0 a0 listed a w r) (inv : HeadInv .any ops n listed)
    {i : Nat} {o : Oper} {d : Tmp} (hi : i < n) (h : HeadOk ops n B i o d) (hr : i ∈ Region.ready .any ops listed) (hs : specOf Sp i = none) (hlo : isMove o = true) (hg : o.guard = none) :
    ∃ v, YieldsIf P ops (fun _ => True) o v a ∧ ∃ r', Good P ops n Sp C N0 a0 (listed.setIfInBounds i true) (a.put o.dst v) w r' := by
  obtain ⟨hun, o', ho', hall⟩ := mem_ready.1 hr
  obtain rfl : o = o' := Option.some.inj (h.op.symm.trans ho')
  have hdi : dstOf ops i = some d := by unfold dstOf; rw [h.op]; exact h.dst
  have hlt : d < a.tmps.size := by rw [hG.size]; exact hsz i d hi hdi
  have hPl : ∀ k, k < n → isBefore B k i = true → listed.getD k false = true := fun k _ hk =>
    before_listed H inv hi (fun o2 ho2 e he hb => by
      obtain rfl : o = o2 := Option.some.inj (h.op.symm.trans ho2)
      exact hall e he hb) k hk
  have hPb : ∀ k j, k < n → isBefore B k i = true → isBefore B j k = true → isBefore B j i = true := fun k j _ h1 h2 => before_trans H hi k j h1 h2
  have htl : (ops.toList.take n).length = n := by simp; omega
  obtain ⟨l', b, G, rs, hl1, hl2, R, hw⟩ := descend hnd H hsz hG hPl hPb hst (fun k u h => absurd h (hns k u)) hN (Nat.le_of_lt hi) (ops.toList.take n) 0 a0 [] [] (Nat.zero_le _) (by rw [htl]; omega)
    (fun j hj => by rw [htl] at hj; simp [hj]) ⟨rfl, rfl, fun _ _ => rfl, fun j hj => absurd hj (by omega), fun φ hφ => (by cases hφ), fun ρ hρ => (by cases hρ), fun φ hφ => (by cases hφ)⟩ htree
  have hag : ∀ t ∈ o.looksAt ops, b.tmps[t]? = a.tmps[t]? := rel_agree H hG hi (fun j hj => hj) h R
  have hex := exec_agree (hnd i o h.op) hag
  have hwa : Region.wanted o (yielded ops b.tmps) = true := by unfold Region.wanted; rw [hg]
  have hwant : Region.wanted o (yielded ops a.tmps) = true := by unfold Region.wanted; rw [hg]
  have hself : ∀ v, ∀ t ∈ o.looksAt ops, (a.put o.dst v).tmps[t]? = a.tmps[t]? := fun v t ht => by
    rw [h.dst]
    refine put_ne fun e => ?_
    subst e
    have := before_lt H hi i (h.wr t ht i hi hdi)
    omega
  have hself2 : ∀ v, execOp (a.put o.dst v).eval o = execOp a.eval o := fun v => exec_agree (hnd i o h.op) (hself v)
  have hself3 : ∀ v, Region.wanted o (yielded ops (a.put o.dst v).tmps) = Region.wanted o (yielded ops a.tmps) := fun v => wanted_agree (hself v)
  have hval : ∀ v, (a.put o.dst v).tmps.getD d undef = v := fun v => by rw [h.dst]; exact put_getD hlt
  cases l' with
  | nil => simp only [List.length_nil] at hl1; omega
  | cons o2 l' =>
    have : o2 = o := by
      have := hl2 0 (by simp)
      rw [Nat.add_zero, h.op] at this
      simpa using this
    subst this
    unfold wpRg at hw
    rw [if_pos hwa, hs] at hw
    obtain ⟨hcalm, v, hv, _⟩ := hw
    have hq : ∀ w, C w → o2.quietAt P a C w v := fun w hw => quietAt_same hex.symm (hv w hw)
    refine ⟨v, .inl ⟨hwant, fun w' hw' => ?_⟩, _, good_next hst hC hN hnd H hsz hG inv hi h hun (Below.refl _ _) (fun r' _ => ⟨fun e => ?_, fun _ _ => ⟨hcalm, w, hG.c, ?_⟩, fun _ u' hs' => ?_, fun _ A F hs' => ?_⟩)⟩
    · obtain ⟨x, hx⟩ : ∃ x, o2.op = .move x := by
        revert hlo
        unfold isMove
        cases o2.op <;> intro h0 <;> first | exact ⟨_, rfl⟩ | cases h0
      have hq' := hq w hG.c
      unfold Oper.quietAt at hq'
      unfold execOp at hq' ⊢
      simp only [hx] at hq' ⊢
      obtain ⟨_, rfl⟩ := hq'
      rfl
    · rw [hself3, hwant] at e; cases e
    · rw [hval]; exact quietAt_same (hself2 _) (hq w hG.c)
    · rw [hs] at hs'; cases hs'
    · rw [hs] at hs'; cases hs'

theorem late_takeM {L0 : List Nat} {Q : Exit → Act → World → Prop} {Fin : Act → World → Prop} (hst : ∀ i A F, specOf Sp i = some (.rel A F) → Fit A F) (hns : ∀ i u, specOf Sp i ≠ some (.skip u)) (hC : ∀ w w', C w → Below w.heap.size w w' → C w') (hN : ∀ w, C w → N0 ≤ w.heap.size)
    (hnd : ∀ (k : Nat) (o : Oper), ops[k]? = some o → noDefer o = true) (hsel : Region.noSelect ops = true) (H : ∀ k, k < n → ∃ o d, HeadOk ops n B k o d) (hsz : ∀ (k : Nat) (d : Tmp), k < n → dstOf ops k = some d → d < a0.tmps.size)
    (hn : n ≤ ops.size) (htree : wpRg P ops B Sp C N0 Fin (ops.toList.take n) 0 a0 [] []) (hQ : ∀ c (a : Act) d v w, Q (.panic c) (a.put d v) w → Q (.panic c) a w)
    (fin : ∀ (listed : Array Bool) (a : Act) (w : World) (r : Nat → Nat × Nat), HeadInv .any ops n listed → Good P ops n Sp C N0 a0 listed a w r → (∀ i, i ∈ L0 → i < n → listed.getD i true = true) → wpAnyH P .any ops Q (fun _ => True) (unl n listed + (ops.size - n)) listed a w) :
    ∀ (L : List Nat) (listed : Array Bool) (a : Act) (w : World) (r : Nat → Nat × Nat), HeadInv .any ops n listed → Good P ops n Sp C N0 a0 listed a w r → lateM ops n L listed = true → (∀ i ∈ L, specOf Sp i = none) → (∀ i ∈ L0, i < n → i ∈ L ∨ listed.getD i true = true) →
      wpAnyH P .any ops Q (fun _ => True) (unl n listed + (ops.size - n)) listed a w
  | [], listed, a, w, r, inv, hG, _, _, hl => fin listed a w r inv hG fun i hi hin => (hl i hi hin).resolve_left (by simp)
  | i :: L, listed, a, w, r, inv, hG, hB, hs, hl => by
    simp only [lateM, Bool.and_eq_true, decide_eq_true_eq] at hB
    obtain ⟨⟨⟨⟨h1, h2⟩, h3⟩, h4⟩, h5⟩ := hB
    have hr : i ∈ Region.ready .any ops listed := by simpa using h2
    obtain ⟨o, d, h⟩ := H i h1
    rw [h.op] at h4
    simp only [Bool.and_eq_true, Option.isNone_iff_eq_none] at h4
    obtain ⟨v, hy, r', hG'⟩ := good_lateM hst hns hC hN hnd H hsz hn htree hG inv h1 h hr (hs i (List.mem_cons_self ..)) h4.1 h4.2
    have hun := (mem_ready.1 hr).1
    have hisz : i < listed.size := by rw [inv.size]; omega
    have hunl := unl_set hisz hun n h1
    rw [← hunl, show unl n (listed.setIfInBounds i true) + 1 + (ops.size - n) = (unl n (listed.setIfInBounds i true) + (ops.size - n)) + 1 by omega]
    refine wpAnyH_take h.op hsel h3 h2 (fun c a w => hQ c a _ _ w) hy trivial ?_
    refine late_takeM hst hns hC hN hnd hsel H hsz hn htree hQ fin L _ _ w r' (inv.set hr h1) hG' h5 (fun k hk => hs k (List.mem_cons_of_mem _ hk)) fun k hk hkn => ?_
    by_cases hik : i = k
    · subst hik; exact .inr (by simp [hisz])
    · rcases hl k hk hkn with h | h
      · rcases List.mem_cons.1 h with h | h
        · exact absurd h.symm hik
        · exact .inl h
      · exact .inr (by rw [getD_set_ne true hik]; exact h)
end

theorem wp_region_lateM {P : Program} {id : Nat} {l : List Oper} {Q : Exit → Act → World → Prop} {a : Act} {W : World} (n : Nat) (L : List Nat) (Sp : List (Nat × Spec)) (hm : P.follows .mixedOrders = true) (hB : rgLM l.toArray n L = true) (hz : sizesB l.toArray n a.tmps.size = true) (hs : (L.all fun i => (specOf Sp i).isNone) = true)
    (hQ : ∀ c (a : Act) d v w, Q (.panic c) (a.put d v) w → Q (.panic c) a w)
    (st : stables Sp) (walk : wpRg P l.toArray (befores l []) Sp (Grw W) W.heap.size (fun a' w' => wpList P l.toArray Q (l.drop n) a' w') (l.take n) 0 a [] []) : (Code.region id l.toArray true).wp P Q a W := by
  refine wp_region_any hm ?_
  unfold rgLM at hB
  simp only [Bool.and_eq_true, decide_eq_true_eq] at hB
  obtain ⟨⟨⟨⟨⟨⟨⟨h1, h2⟩, h3⟩, h4⟩, h5⟩, h6⟩, h7⟩, h8⟩ := hB
  have hnd : ∀ (k : Nat) (o : Oper), l.toArray[k]? = some o → noDefer o = true := fun k o ho => List.all_eq_true.1 h1 o (by
    have : l[k]? = some o := by simpa using ho
    exact List.mem_of_getElem? this)
  have hH : ∀ k, k < n → ∃ o d, HeadOk l.toArray n (befores l []) k o d := fun k hk => headOk_of (List.all_eq_true.1 h4 k (List.mem_range.2 hk))
  have h0 : unl n (Array.replicate l.toArray.size false) = n := by
    unfold unl
    have : (List.range n).countP (fun i => !(Array.replicate l.toArray.size false).getD i true) = (List.range n).length := List.countP_eq_length.2 fun i hi => by
      have hi' := List.mem_range.1 hi
      have h1 : i < l.length := by simp only [List.size_toArray] at h3; omega
      simp [h1]
    rw [this, List.length_range]
  have inv0 : HeadInv .any l.toArray n (Array.replicate l.toArray.size false) :=
    ⟨by simp, fun j oj _ hl => (by rw [getD_replicate_false] at hl; cases hl), fun t _ ht => getD_in (by simpa using ht) (getD_replicate_false _ _)⟩
  have hst := stables_spec st
  have walk' : wpRg P l.toArray (befores l []) Sp (Grw W) W.heap.size (fun a' w' => wpList P l.toArray Q (l.toArray.toList.drop n) a' w') (l.toArray.toList.take n) 0 a [] [] := by simpa using walk
  have fin := fun (listed : Array Bool) (a' : Act) (w' : World) (r : Nat → Nat × Nat) (inv : HeadInv .any l.toArray n listed) (hG : Good P l.toArray n Sp (Grw W) W.heap.size a listed a' w' r) (hl : ∀ i, i ∈ L → i < n → listed.getD i true = true) =>
    anyH_of_goodM (P := P) (Q := Q) (L := L) hst (stables_ns st) (fun w w' h h' => grw_next h h') (fun w h => (grw_below h).size) hnd h3 hH h5 h6 h7 (a0 := a) (sizesB_spec hz) walk' (unl n listed) listed a' w' r rfl hl inv hG
  have := late_takeM (P := P) (Q := Q) (L0 := L) hst (stables_ns st) (fun w w' h h' => grw_next h h') (fun w h => (grw_below h).size) hnd h2 hH (a0 := a) (sizesB_spec hz) h3 walk' hQ fin L _ a { W with drawn := W.drawn + 1 } (fun _ => (0, 0)) inv0
    ⟨grw_of (Below.refl _ W).drew, rfl, rfl, fun _ _ => rfl, fun k o d _ _ _ hl => (by rw [getD_replicate_false] at hl; cases hl), fun k j _ _ _ hl => (by rw [getD_replicate_false] at hl; cases hl)⟩ h8
    (fun i hi => by simpa using List.all_eq_true.1 hs i hi) (fun i hi _ => .inl hi)
  rw [h0, show n + (l.toArray.size - n) = l.toArray.size by omega] at this
  exact wpAny_of_held _ _ _ _ this
end Go.Proofs.YtkgglhakimkkhaaGreatDoor
