/-
  The functions of package mle that bind a variable in place, and Eval, by contract.
-/
import Derived.Test.YtnfiomccgakooaaDoorMl2
import Derived.Test.YtnfiomccgakooaaDoorGrow
namespace Go.Proofs.YtnfiomccgakooaaDoor
open Go.RowKit

section
variable {w : World} {g : Nat} {t : TypeId} {cs : List E} {rest : List Value}
theorem flat_set_pad (x : E) (rest : List Value) (cs : List E) (k : Nat) (hk : k < cs.length) : ((cs.flatMap ec ++ rest).set (k * 2) (.int .u64 (fv x.a))).set (k * 2 + 1) (.int .u64 (fv x.b)) = (cs.set k x).flatMap ec ++ rest := by
  have hl := flat_length ec_len cs
  rw [List.set_append_left _ _ (by omega), List.set_append_left _ _ (by rw [List.length_set]; omega), set_flat x cs k hk]
theorem blk_setP (h : Blk w g t (cs.flatMap ec ++ rest).toArray) (k : Nat) (x : E) (hk : k < cs.length) : Blk ((w.setCell ⟨g, k * 2, none⟩ (.int .u64 (fv x.a))).setCell ⟨g, k * 2 + 1, none⟩ (.int .u64 (fv x.b))) g t ((cs.set k x).flatMap ec ++ rest).toArray := by
  have := (h.set_ (k * 2) (.int .u64 (fv x.a))).set_ (k * 2 + 1) (.int .u64 (fv x.b))
  rw [← flat_set_pad x rest cs k hk]
  simpa using this
theorem blk_cellP (h : Blk w g t (cs.flatMap ec ++ rest).toArray) {k : Nat} {x : E} (hk : cs[k]? = some x) : w.cell? ⟨g, k * 2, none⟩ = some (.int .u64 (fv x.a)) ∧ w.cell? ⟨g, k * 2 + 1, none⟩ = some (.int .u64 (fv x.b)) := by
  have e0 := flat_get ec_len cs k 0 x _ hk rfl
  have e1 := flat_get ec_len cs k 1 x _ hk rfl
  have hl := flat_length ec_len cs
  have hkl : k < cs.length := (List.getElem?_eq_some_iff.1 hk).1
  refine ⟨?_, ?_⟩
  · rw [h.cell, List.getElem?_toArray, List.getElem?_append_left (by omega)]; simpa using e0
  · rw [h.cell, List.getElem?_toArray, List.getElem?_append_left (by omega)]; simpa using e1
end
theorem exts_pad {w : World} {g : Nat} {t : TypeId} {cs : List E} {rest : List Value} (h : Blk w g t (cs.flatMap ec ++ rest).toArray) {lo hi n cap : Nat} (hn : cs.length = n) (hb : n ≤ 1000000) (hlo : lo ≤ g) (hhi : g < hi) (hc : n ≤ cap) : ExtS lo hi w (.slice (some ⟨g, 0, none⟩) n cap) cs := by
  subst hn
  have hl := flat_length ec_len cs
  refine ⟨hl, by omega, _, _, rfl, hc, fun h0 => ⟨g, 0, rfl, hlo, hhi, h.lt, fun j u hj => ?_⟩⟩
  have hjl : j < (cs.flatMap ec).length := (List.getElem?_eq_some_iff.1 hj).1
  rw [Nat.zero_add, h.cell, List.getElem?_toArray, List.getElem?_append_left hjl]
  exact hj
def bindX (t : List E) (r : E) (j : Nat) : List E := ((List.range j).map fun k => t.getD (2 * k) 0 + r * (t.getD (2 * k + 1) 0 - t.getD (2 * k) 0)) ++ t.drop j
theorem bindX_len (t : List E) (r : E) (j : Nat) (h : j ≤ t.length) : (bindX t r j).length = t.length := by simp [bindX]; omega
theorem bindX_zero (t : List E) (r : E) : bindX t r 0 = t := by simp [bindX]
theorem bindX_get (t : List E) (r : E) (j i : Nat) (h : j ≤ i) : (bindX t r j)[i]? = t[i]? := by
  unfold bindX
  rw [List.getElem?_append_right (by simp; exact h), List.length_map, List.length_range, List.getElem?_drop, show j + (i - j) = i by omega]
theorem bindX_step (t : List E) (r : E) (j : Nat) (x y : E) (hx : t[2 * j]? = some x) (hy : t[2 * j + 1]? = some y) : (bindX t r j).set j (x + r * (y - x)) = bindX t r (j + 1) := by
  have hj : 2 * j < t.length := (List.getElem?_eq_some_iff.1 hx).1
  have ex : t.getD (2 * j) 0 = x := by simp [List.getD, hx]
  have ey : t.getD (2 * j + 1) 0 = y := by simp [List.getD, hy]
  unfold bindX
  rw [List.range_succ, List.map_append, List.map_cons, List.map_nil, ex, ey]
  rw [List.set_append_right _ _ (by simp), List.length_map, List.length_range, Nat.sub_self, List.drop_eq_getElem_cons (show j < t.length by omega), List.set_cons_zero, List.append_assoc]
  rfl
theorem bindM_all (r : E) : ∀ (n : Nat) (t : List E), t.length = 2 * n → ((List.range n).map fun k => t.getD (2 * k) 0 + r * (t.getD (2 * k + 1) 0 - t.getD (2 * k) 0)) = bindL t r
  | 0, [], _ => rfl
  | n + 1, x :: y :: t, h => by
    have ih := bindM_all r n t (by simp only [List.length_cons] at h; omega)
    rw [bindL, ← ih, List.range_succ_eq_map, List.map_cons, List.map_map]
    congr 1
  | 0, _ :: _, h => by simp at h
  | n + 1, [], h => by simp at h
  | n + 1, [_], h => by simp at h; omega
theorem evalL_snoc : ∀ (p t : List E) (r : E), evalL t (p ++ [r]) = bindL (evalL t p) r
  | [], t, r => rfl
  | x :: p, t, r => by
    rw [List.cons_append, evalL, evalL_snoc p (bindL t x) r, evalL]
theorem evalL_len2 : ∀ (p t : List E) (m : Nat), t.length = 2 ^ (p.length + m) → (evalL t p).length = 2 ^ m
  | [], t, m, h => by simpa [evalL] using h
  | r :: p, t, m, h => by
    rw [evalL]
    refine evalL_len2 p _ m (bindL_length r _ t ?_)
    rw [h, List.length_cons, show p.length + 1 + m = (p.length + m) + 1 by omega, Nat.pow_succ']

set_option maxRecDepth 100000 in
set_option maxHeartbeats 1000000 in
theorem gBindW (t : List E) (r : E) (n : Nat) (ht : t.length = 2 * n) (hn : n ≤ 100000) (g cap : Nat) (hcap : 2 * n ≤ cap) (rest : List Value) (w : World) (b : Blk w g 27 (t.flatMap ec ++ rest).toArray) :
    Calls Tryd.prog 36 #[.slice (some ⟨g, 0, none⟩) (2 * n) cap, ev r] w fun e w' => e = .returned (.slice (some ⟨g, 0, none⟩) n cap) ∧ (∃ rest', Blk w' g 27 ((bindL t r).flatMap ec ++ rest').toArray) ∧ w.grownBy w' (some g) := by
  have HT := Lib.hid ht
  obtain ⟨m, hm⟩ : ∃ m, m = 2 * n := ⟨_, rfl⟩
  rw [← hm] at hcap ⊢
  have HM := Lib.hid hm
  have hq1 : Int.tdiv (m : Int) 2 = (n : Int) := (show Int.tdiv (m : Int) ((2 : Nat) : Int) = ((m / 2 : Nat) : Int) from rfl).trans (by omega)
  have hq2 : (m : Int) / 2 = (n : Int) := by omega
  have hq3 : wrap64 (n : Int) = (n : Int) := by simp only [wrap64]; omega
  have hnc : n ≤ cap := by omega
  have hmb : m ≤ 200000 := by omega
  clear ht hm
  unfold ev
  have hgl := b.lt
  go_enter Tryd.func36, Tryd.ntmps36
  go_wp2
  refine wp_stk1 fun W hB0 hz b1 => ?_
  have b0 := b.keep hB0
  have hgr0 : w.grownBy W (some g) := ⟨hB0.os, hB0.tape, hB0.output, hB0.size, fun k hk _ => hB0.block k hk⟩
  have hne : w.heap.size ≠ g := by omega
  go_loopw [11] (fun i wr => ∃ j : Nat, j ≤ n ∧ i = .int .i64 j ∧ Blk wr g 27 ((bindX t r j).flatMap ec ++ rest).toArray ∧ Blk wr w.heap.size 27 #[.int .u64 (fv r.a), .int .u64 (fv r.b)] ∧ w.grownBy wr (some g)) (fun i _ => n - (intOf i).toNat)
  case atStart => exact ⟨0, Nat.zero_le _, rfl, by rw [bindX_zero]; exact b0, b1, hgr0⟩
  case round =>
    obtain ⟨j, hj, rfl, bq, br, hgr⟩ := hrel
    by_cases hlt : j < n
    · have hT := HT.out
      obtain ⟨x, hx⟩ : ∃ x, t[2 * j]? = some x := ⟨t[2 * j], List.getElem?_eq_getElem (by omega)⟩
      obtain ⟨y, hy⟩ : ∃ y, t[2 * j + 1]? = some y := ⟨t[2 * j + 1], List.getElem?_eq_getElem (by omega)⟩
      obtain ⟨d1, d2⟩ := blk_cellP bq (k := 2 * j) ((bindX_get t r j (2 * j) (by omega)).trans hx)
      obtain ⟨d3, d4⟩ := blk_cellP bq (k := 2 * j + 1) ((bindX_get t r j (2 * j + 1) (by omega)).trans hy)
      have HS := Lib.hid (bindX_step t r j x y hx hy)
      have hlen : j < (bindX t r j).length := by rw [bindX_len t r j (by omega), hT]; omega
      have x1 := gw_cell bq.lt d1
      have x2 := gw_cell bq.lt d2
      have x3 := gw_cell bq.lt d3
      have x4 := gw_cell bq.lt d4
      have x5 := gw_blk br
      have hM := HM.out
      have hi1 : 2 * j < m := by omega
      have hi2 : 2 * j + 1 < m := by omega
      have hi3 : j < m := by omega
      obtain ⟨u, hu⟩ : ∃ u, (bindX t r j)[j]? = some u := ⟨_, List.getElem?_eq_getElem hlen⟩
      obtain ⟨s1, s2⟩ := blk_cellP bq hu
      clear hT hx hy d1 d2 d3 d4 hM hq1 hq2 hq3 hu
      go_wp2_with fail
      refine wp_region_rg 16 [(14, Spec.val (.agg #[.int .u64 (fv (x + r * (y - x)).a), .int .u64 (fv (x + r * (y - x)).b)]))] (by kernel_rfl) (by kernel_rfl) (by kernel_rfl) trivial ?_
      refine rg_det rfl rfl rfl (fun K hK => ?_)
      go_big_quiet_op
      refine hK _ ?_; clear hK K
      refine rg_det rfl rfl rfl (fun K hK => ?_)
      go_big_quiet_op
      refine hK _ ?_; clear hK K
      refine rg_det rfl rfl rfl (fun K hK => ?_)
      go_big_quiet_op
      refine hK _ ?_; clear hK K
      refine rg_det rfl rfl rfl (fun K hK => ?_)
      go_big_quiet_op
      refine hK _ ?_; clear hK K
      refine rg_det rfl rfl rfl (fun K hK => ?_)
      go_big_quiet_op
      refine hK _ ?_; clear hK K
      refine rg_det rfl rfl rfl (fun K hK => ?_)
      go_big_quiet_op
      refine hK _ ?_; clear hK K
      refine rg_det rfl rfl rfl (fun K hK => ?_)
      go_big_quiet_op
      refine hK _ ?_; clear hK K
      refine rg_det rfl rfl rfl (fun K hK => ?_)
      go_big_quiet_op
      refine hK _ ?_; clear hK K
      refine rg_det rfl rfl rfl (fun K hK => ?_)
      go_big_quiet_op
      refine hK _ ?_; clear hK K
      refine rg_det rfl rfl rfl (fun K hK => ?_)
      go_big_quiet_op
      refine hK _ ?_; clear hK K
      refine rg_det rfl rfl rfl (fun K hK => ?_)
      go_big_quiet_op
      refine hK _ ?_; clear hK K
      refine rg_det rfl rfl rfl (fun K hK => ?_)
      go_big_quiet_op
      refine hK _ ?_; clear hK K
      refine rg_det rfl rfl rfl (fun K hK => ?_)
      go_big_quiet_op
      refine hK _ ?_; clear hK K
      refine rg_det rfl rfl rfl (fun K hK => ?_)
      go_big_quiet_op
      refine hK _ ?_; clear hK K
      refine rg_val rfl rfl (fun W1 hW1 hF => step_callv en_attestor_mle_blend (mBlend x y r W1) rfl rfl) ?_
      intro a' ha
      simp only [Act.put, List.setIfInBounds_toArray, List.set_cons_succ, List.set_cons_zero] at ha
      subst ha
      refine rg_det rfl rfl rfl (fun K hK => ?_)
      go_big_quiet_op
      refine hK _ ?_; clear hK K
      refine rg_nil (fun w' hw' hF => ?_)
      obtain ⟨z, rfl⟩ := hw'
      simp only [List.drop_succ_cons, List.drop_zero]
      clear hF x1 x2 x3 x4 x5
      have bz := bq.gw z
      have brz := br.gw z
      have e1 := bz.frozen
      have e2 := (z.h.cell (p := ⟨g, j * 2, none⟩) bq.lt).trans s1
      have e3 := (z.h.cell (p := ⟨g, j * 2 + 1, none⟩) bq.lt).trans s2
      clear s1 s2
      go_wp2
      exact ⟨⟨j + 1, by omega, by go_num, by rw [← HS.out]; exact blk_setP bz j _ hlen, blk_farE brz hne, grown_set (grown_set (grown_below hgr z.h))⟩, by simp [intOf]; omega⟩
    · obtain rfl : j = n := by omega
      go_wp2
      go_ret
      refine ⟨rfl, ⟨(t.drop j).flatMap ec ++ rest, ?_⟩, hgr⟩
      unfold bindX at bq
      rw [bindM_all r j t HT.out, List.flatMap_append, List.append_assoc] at bq
      exact bq

set_option maxRecDepth 100000 in
set_option maxHeartbeats 1000000 in
theorem gCloneW (t : List E) (h0 : 0 < t.length) (hb : t.length ≤ 1000000) (v : Value) (lo hi : Nat) (w : World) (h : ExtS lo hi w v t) :
    Calls Tryd.prog 37 #[v] w fun e w' => ∃ g cap rest, e = .returned (.slice (some ⟨g, 0, none⟩) t.length cap) ∧ t.length ≤ cap ∧ w.heap.size ≤ g ∧ Blk w' g 27 (t.flatMap ec ++ rest).toArray ∧ Below w.heap.size w w' := by
  obtain ⟨g, off, cap, hv, q1, q2, q3, q4, q5⟩ := exts_cells h h0
  cases hv
  obtain ⟨i0, hi0, iz0, iz1, iz2⟩ := info_parts ext_info
  have qe : ∀ (w : World) (a : Option Addr) (n c n' c' : Nat), (binOp .eql 22 (.slice a n c) (.slice none n' c')).run Tryd.prog w = .ok (.bool a.isNone) w := fun w a n c n' c' => Lib.run_eql_slice_nil w _ _ a n c n' c' Tryd.underlying22
  go_enter Tryd.func37, Tryd.ntmps37
  go_wp2_with (at_builtin; refine stop_in ?_)
  refine stop_out ?_
  refine stk1 (M := fun W => wpList _ _ _ _ _ W) fun W5 hB5 hz5 b5 => ?_
  have hs5 : W5.heap.size = w.heap.size + 1 := hz5.out
  refine wpList_appB rfl _ _ rfl Tryd.underlying22 hi0 iz0 iz1 iz2 rfl (by decide) (cl := t.flatMap ec) (base := w.heap.size) (cs := []) (k := 0) (fun u hu => by obtain ⟨x, _, hx⟩ := List.mem_flatMap.1 hu; exact ec_one x u hx) rfl rfl (Rd.keep h hB5) ⟨rfl, .inr ⟨w.heap.size, 0, #[], rfl, Nat.le_refl _, b5, Nat.le_refl _, Nat.zero_le _, rfl, rfl⟩⟩ (by unfold maxLen; omega) (by omega) (by omega) ?_
  intro v6 w6 hown6 hgrow6 hB6
  rw [Nat.zero_add, List.nil_append] at hown6
  go_wp2
  go_ret
  obtain ⟨ho1, ho2⟩ := hown6
  rcases ho2 with ⟨_, h2⟩ | ⟨g', cap', cur, rfl, r1, r2, r3, r4, r5, r6⟩
  · omega
  · refine ⟨g', cap', cur.toList.drop (t.length * 2), rfl, r3, r1, ?_, hB5.trans hB6⟩
    rw [← r6, List.take_append_drop]
    exact r2

set_option maxRecDepth 100000 in
set_option maxHeartbeats 1000000 in
theorem gEval (t p : List E) (ht : t.length = 2 ^ p.length) (hp : p.length ≤ 16) (v1 v2 : Value) (lo1 hi1 lo2 hi2 : Nat) (w : World) (h1 : ExtS lo1 hi1 w v1 t) (h2 : ExtS lo2 hi2 w v2 p) (hh : hi2 ≤ w.heap.size) :
    Calls Tryd.prog 12 #[v1, v2] w (Ret (ev (mev t p)) w) := by
  obtain ⟨A2, cap2, rfl⟩ := h2.len
  have hlen := h2.2.1
  have hpos : 0 < t.length := by rw [ht]; exact Nat.two_pow_pos _
  have htb : t.length ≤ 1000000 := by rw [ht]; exact Nat.le_trans (Nat.pow_le_pow_right (by decide) hp) (by decide)
  have HT := Lib.hid ht
  clear ht
  unfold ev
  go_enter Tryd.func12, Tryd.ntmps12
  go_wp2_with fail
  refine calls_stk1 fun W hB0 hz b1 => ?_
  have hs0 : W.heap.size = w.heap.size + 1 := hz.out
  refine (gCloneW t hpos htb v1 lo1 hi1 W (Rd.keep h1 hB0)).mono ?_
  rintro e w2 ⟨g, cap, rest, rfl, hcap, hg, bg, hb2⟩
  have hB2 := hB0.trans (hb2.mono hB0.size)
  have b12 := b1.keep hb2
  have hne : w.heap.size ≠ g := by omega
  have hne' : g ≠ w.heap.size := by omega
  have hs2 := hb2.size
  clear h1 hpos htb
  go_wp2_with fail
  go_loopw [5, 12] (fun v i wr => ∃ (k : Nat) (rest : List Value), k ≤ p.length ∧ i = .int .i64 k ∧ v = .slice (some ⟨g, 0, none⟩) (2 ^ (p.length - k)) cap ∧ Blk wr g 27 ((evalL t (p.take k)).flatMap ec ++ rest).toArray ∧ Blk wr w.heap.size 27 #[.int .u64 0, .int .u64 0] ∧ Below w.heap.size w wr) (fun _ i _ => p.length - (intOf i).toNat)
  case atStart => exact ⟨0, rest, Nat.zero_le _, rfl, by rw [Nat.sub_zero, ← HT.out], by simpa [evalL] using bg, b12, hB2⟩
  case round =>
    obtain ⟨k, rest', hk, rfl, rfl, bq, br, hB⟩ := hrel
    have hgq := bq.lt
    have hwq := br.lt
    by_cases hlt : k < p.length
    · obtain ⟨g2, o2, c2, hv, q1, q2, q3, q4, q5⟩ := exts_cells h2 (by omega)
      cases hv
      obtain ⟨r, hr⟩ : ∃ r, p[k]? = some r := ⟨p[k], List.getElem?_eq_getElem hlt⟩
      obtain ⟨d1, d2⟩ := q5 k r hr
      have x1 := (hB.cell (p := ⟨g2, o2 + k * 2, none⟩) q4).trans d1
      have x2 := (hB.cell (p := ⟨g2, o2 + k * 2 + 1, none⟩) q4).trans d2
      have hlk : (evalL t (p.take k)).length = 2 * 2 ^ (p.length - (k + 1)) := by
        rw [evalL_len2 (p.take k) t (p.length - k) (by rw [HT.out, List.length_take]; congr 1; omega), show p.length - k = p.length - (k + 1) + 1 by omega, Nat.pow_succ']
      have hst : evalL t (p.take (k + 1)) = bindL (evalL t (p.take k)) r := by rw [List.take_add_one, hr]; exact evalL_snoc _ _ _
      have hpw : 2 ^ (p.length - k) = 2 * 2 ^ (p.length - (k + 1)) := by rw [show p.length - k = p.length - (k + 1) + 1 by omega, Nat.pow_succ']
      have hpb : 2 ^ (p.length - (k + 1)) ≤ 65536 := Nat.le_trans (Nat.pow_le_pow_right (by decide) (by omega)) (show 2 ^ 16 ≤ 65536 by decide)
      have hcp : 2 * 2 ^ (p.length - (k + 1)) ≤ cap := by
        rw [← hpw]; exact Nat.le_trans (Nat.le_trans (Nat.pow_le_pow_right (by decide) (Nat.sub_le _ _)) (Nat.le_of_eq HT.out.symm)) hcap
      rw [hpw]
      generalize hmm : 2 ^ (p.length - (k + 1)) = m at *
      have HM2 := Lib.hid hmm
      clear hmm
      generalize evalL t (p.take k) = l at *
      have HST := Lib.hid hst
      clear q5 hr hst d1 d2 hpw
      go_wp2_with fail
      refine calls_stk1 fun W3 hB3 hz3 b7 => ?_
      have bq3 := bq.keep hB3
      have br3 := br.keep hB3
      refine (gBindW l r m hlk (by omega) g cap hcp rest' W3 bq3).mono ?_
      rintro e w4 ⟨rfl, ⟨rest4, b4⟩, hgr⟩
      have hB4 : Below w.heap.size w w4 := (hB.trans (hB3.mono hB.size)).grown hgr (by have := hB3.size; omega) (fun i e => by cases e; omega)
      have br4 := grown_blk hgr br3 (by simpa using hne)
      go_wp2
      exact ⟨⟨k + 1, rest4, by omega, by go_num, by rw [HM2.out], by rw [HST.out]; exact b4, br4, hB4⟩, by simp [intOf]; omega⟩
    · obtain rfl : k = p.length := by omega
      rw [List.take_of_length_le (Nat.le_refl _), evalL_mev HT.out] at bq
      obtain ⟨f1, f2⟩ := blk_cellP (k := 0) (x := mev t p) bq rfl
      rw [Nat.zero_mul] at f1 f2
      rw [Nat.sub_self, Nat.pow_zero]
      have e3 := br.cell
      have e4 := br.frozen
      generalize mev t p = y at *
      go_wp2
      refine bodyPost_ret (v := .agg #[.int .u64 (fv (y).a), .int .u64 (fv (y).b)]) (by simp [results, Tryd.results12, go_sem, e3]) rfl ⟨rfl, ?_⟩
      exact below_set2 hB (Nat.le_refl _)
theorem gCloneR (t : List E) (h0 : 0 < t.length) (hb : t.length ≤ 1000000) (v : Value) (lo hi : Nat) (w : World) (h : ExtS lo hi w v t) : Calls Tryd.prog 37 #[v] w (RetR (CloneA t) w) :=
  (gCloneW t h0 hb v lo hi w h).mono fun e w' ⟨g, cap, rest, h1, h2, h3, h4, h5⟩ => ⟨_, h1, ⟨g, cap, rest, rfl, h2, h3, h4.lt, h4⟩, h5⟩
set_option maxRecDepth 100000 in
set_option maxHeartbeats 1000000 in
theorem gBind (t : List E) (r : E) (n : Nat) (ht : t.length = 2 * n) (hn : n ≤ 100000) (h0 : 0 < n) (v : Value) (lo hi : Nat) (w : World) (h : ExtS lo hi w v t) :
    Calls Tryd.prog 10 #[v, ev r] w (RetR (ExtA (bindL t r)) w) := by
  unfold ev
  obtain ⟨A2, cap2, rfl⟩ := h.len
  go_enter Tryd.func10, Tryd.ntmps10
  go_wp2_with fail
  refine wp_stk1 fun W hB0 hz b1 => ?_
  have hs0 : W.heap.size = w.heap.size + 1 := hz.out
  have h' := Rd.keep h hB0
  have c1 := gw_blk b1
  have hT := Lib.hid ht
  have hp : 0 < t.length := by omega
  have hb : t.length ≤ 1000000 := by omega
  clear ht
  refine wp_region_rg 3 [(1, Spec.rel (CloneA t) AnyV)] (by kernel_rfl) (by kernel_rfl) (by kernel_rfl) ⟨fit_of (stable_clone t), trivial⟩ ?_
  refine rg_det rfl rfl rfl (fun K hK => ?_)
  go_big_quiet_op
  refine hK _ ?_; clear hK K
  refine rg_rel rfl rfl (fun W1 hW1 hF => step_callr en_slices_Clone___attestor_api_Ext_attestor_api_Ext_ (gCloneR t hp hb _ lo hi W1 (Rd.keep h' (grw_below hW1))) rfl rfl) ?_
  intro n1 m1 v1 hn1 hm1 hd1 hf1 a' ha
  simp only [Act.put, List.setIfInBounds_toArray, List.set_cons_succ, List.set_cons_zero] at ha
  subst ha
  refine rg_det rfl rfl rfl (fun K hK => ?_)
  go_big_quiet_op
  refine hK _ ?_; clear hK K
  refine rg_nil (fun w' hw' hF => ?_)
  obtain ⟨z, rfl⟩ := hw'
  simp only [List.drop_succ_cons, List.drop_zero]
  obtain ⟨hm1, g, cap, rest, rfl, k1, k2, k3, k4⟩ := end_last hF
  clear hF c1
  rw [hT.out] at k1
  rw [hT.out]
  have hzs := z.h.size
  go_wp2_with fail
  refine (gBindW t r n hT.out hn g cap k1 rest z.w k4).mono ?_
  rintro e w4 ⟨rfl, ⟨rest4, b4⟩, hgr⟩
  have hB4 : Below w.heap.size w w4 := (hB0.trans (z.h.mono hB0.size)).grown hgr (by omega) (fun i e => by cases e; omega)
  go_wp2_with fail
  go_ret
  have hlb := bindL_length r n t hT.out
  refine ⟨_, rfl, ?_, hB4⟩
  have := exts_pad b4 hlb (by omega) (show w.heap.size ≤ g by omega) b4.lt (show n ≤ cap by omega)
  unfold ExtA
  exact this
end Go.Proofs.YtnfiomccgakooaaDoor
