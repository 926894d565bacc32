/-
  The functions of package mle that bind a variable in place, and Eval, by contract.
  Bind of package sumcheck, by contract.
  Slices of slices that a call builds of its own, by append.
  A variable of a great type that begins with its zero value.
  SHA-256 of the reference, by contract.
  SHA-256 of the reference: the constants, the beginning, one block.
-/
import Derived.Test.YtoiampgfnidfdaaGreatDoorPa
import Derived.Deep.MidRow
import Derived.Test.YtoiampgfnidfdaaGreatDoorShc
namespace Go.Proofs.YtoiampgfnidfdaaGreatDoor
open Go.RowKit

section
variable {w : World} {g : Nat} {t : TypeId} {cs : List E} {rest : List Value}
theorem flat_set_pad (x : E) (rest : List Value) (cs : List E) (k : Nat) (hk : k < cs.length) : ((cs.flatMap ec ++ rest).set (k * 2) (.int .u64 (fv x.a))).set (k * 2 + 1) (.int .u64 (fv x.b)) = (cs.set k x).flatMap ec ++ rest := by
  have hl := flat_length ec_len cs
  rw [List.set_append_left _ _ (by omega), List.set_append_left _ _ (by rw [List.length_set]; omega), set_flat x cs k hk]
theorem blk_setP (h : Blk w g t (cs.flatMap ec ++ rest).toArray) (k : Nat) (x : E) (hk : k < cs.length) : Blk ((w.setCell ⟨g, k * 2, none⟩ (.int .u64 (fv x.a))).setCell ⟨g, k * 2 + 1, none⟩ (.int .u64 (fv x.b))) g t ((cs.set k x).flatMap ec ++ rest).toArray := by
  have := (h.set_ (k * 2) (.int .u64 (fv x.a))).set_ (k * 2 + 1) (.int .u64 (fv x.b))
  rw [← flat_set_pad x rest cs k hk]
  simpa using this
theorem blk_cellP (h : Blk w g t (cs.flatMap ec ++ rest).toArray) {k : Nat} {x : E} (hk : cs[k]? = some x) : w.cell? ⟨g, k * 2, none⟩ = some (.int .u64 (fv x.a)) ∧ w.cell? ⟨g, k * 2 + 1, none⟩ = some (.int .u64 (fv x.b)) := by
  have e0 := flat_get ec_len cs k 0 x _ hk rfl
  have e1 := flat_get ec_len cs k 1 x _ hk rfl
  have hl := flat_length ec_len cs
  have hkl : k < cs.length := (List.getElem?_eq_some_iff.1 hk).1
  refine ⟨?_, ?_⟩
  · rw [h.cell, List.getElem?_toArray, List.getElem?_append_left (by omega)]; simpa using e0
  · rw [h.cell, List.getElem?_toArray, List.getElem?_append_left (by omega)]; simpa using e1
end
def bindX (t : List E) (r : E) (j : Nat) : List E := ((List.range j).map fun k => t.getD (2 * k) 0 + r * (t.getD (2 * k + 1) 0 - t.getD (2 * k) 0)) ++ t.drop j
theorem bindX_len (t : List E) (r : E) (j : Nat) (h : j ≤ t.length) : (bindX t r j).length = t.length := by simp [bindX]; omega
theorem bindX_zero (t : List E) (r : E) : bindX t r 0 = t := by simp [bindX]
theorem bindX_get (t : List E) (r : E) (j i : Nat) (h : j ≤ i) : (bindX t r j)[i]? = t[i]? := by
  unfold bindX
  rw [List.getElem?_append_right (by simp; exact h), List.length_map, List.length_range, List.getElem?_drop, show j + (i - j) = i by omega]
theorem bindX_step (t : List E) (r : E) (j : Nat) (x y : E) (hx : t[2 * j]? = some x) (hy : t[2 * j + 1]? = some y) : (bindX t r j).set j (x + r * (y - x)) = bindX t r (j + 1) := by
  have hj : 2 * j < t.length := (List.getElem?_eq_some_iff.1 hx).1
  have ex : t.getD (2 * j) 0 = x := by simp [List.getD, hx]
  have ey : t.getD (2 * j + 1) 0 = y := by simp [List.getD, hy]
  unfold bindX
  rw [List.range_succ, List.map_append, List.map_cons, List.map_nil, ex, ey]
  rw [List.set_append_right _ _ (by simp), List.length_map, List.length_range, Nat.sub_self, List.drop_eq_getElem_cons (show j < t.length by omega), List.set_cons_zero, List.append_assoc]
  rfl
theorem bindM_all (r : E) : ∀ (n : Nat) (t : List E), t.length = 2 * n → ((List.range n).map fun k => t.getD (2 * k) 0 + r * (t.getD (2 * k + 1) 0 - t.getD (2 * k) 0)) = bindL t r
  | 0, [], _ => rfl
  | n + 1, x :: y :: t, h => by
    have ih := bindM_all r n t (by simp only [List.length_cons] at h; omega)
    rw [bindL, ← ih, List.range_succ_eq_map, List.map_cons, List.map_map]
    congr 1
  | 0, _ :: _, h => by simp at h
  | n + 1, [], h => by simp at h
  | n + 1, [_], h => by simp at h; omega
theorem evalL_snoc : ∀ (p t : List E) (r : E), evalL t (p ++ [r]) = bindL (evalL t p) r
  | [], t, r => rfl
  | x :: p, t, r => by
    rw [List.cons_append, evalL, evalL_snoc p (bindL t x) r, evalL]
theorem evalL_len2 : ∀ (p t : List E) (m : Nat), t.length = 2 ^ (p.length + m) → (evalL t p).length = 2 ^ m
  | [], t, m, h => by simpa [evalL] using h
  | r :: p, t, m, h => by
    rw [evalL]
    refine evalL_len2 p _ m (bindL_length r _ t ?_)
    rw [h, List.length_cons, show p.length + 1 + m = (p.length + m) + 1 by omega, Nat.pow_succ']

set_option maxRecDepth 100000 in
set_option maxHeartbeats 1000000 in
theorem gBindW (t : List E) (r : E) (n : Nat) (ht : t.length = 2 * n) (hn : n ≤ 100000) (g cap : Nat) (hcap : 2 * n ≤ cap) (rest : List Value) (w : World) (b : Blk w g 86 (t.flatMap ec ++ rest).toArray) :
    Calls Tryz.prog 85 #[.slice (some ⟨g, 0, none⟩) (2 * n) cap, ev r] w fun e w' => e = .returned (.slice (some ⟨g, 0, none⟩) n cap) ∧ (∃ rest', Blk w' g 86 ((bindL t r).flatMap ec ++ rest').toArray) ∧ w.grownBy w' (some g) := by
  have HT := Lib.hid ht
  obtain ⟨m, hm⟩ : ∃ m, m = 2 * n := ⟨_, rfl⟩
  rw [← hm] at hcap ⊢
  have HM := Lib.hid hm
  have hq1 : Int.tdiv (m : Int) 2 = (n : Int) := (show Int.tdiv (m : Int) ((2 : Nat) : Int) = ((m / 2 : Nat) : Int) from rfl).trans (by omega)
  have hq2 : (m : Int) / 2 = (n : Int) := by omega
  have hq3 : wrap64 (n : Int) = (n : Int) := by simp only [wrap64]; omega
  have hnc : n ≤ cap := by omega
  have hmb : m ≤ 200000 := by omega
  clear ht hm
  unfold ev
  have hgl := b.lt
  go_enter Tryz.func85, Tryz.ntmps85
  go_wp2
  refine wp_stk1 fun W hB0 hz b1 => ?_
  have b0 := b.keep hB0
  have hgr0 : w.grownBy W (some g) := ⟨hB0.os, hB0.tape, hB0.output, hB0.size, fun k hk _ => hB0.block k hk⟩
  have hne : w.heap.size ≠ g := by omega
  go_loopw [11] (fun i wr => ∃ j : Nat, j ≤ n ∧ i = .int .i64 j ∧ Blk wr g 86 ((bindX t r j).flatMap ec ++ rest).toArray ∧ Blk wr w.heap.size 86 #[.int .u64 (fv r.a), .int .u64 (fv r.b)] ∧ w.grownBy wr (some g)) (fun i _ => n - (intOf i).toNat)
  case atStart => exact ⟨0, Nat.zero_le _, rfl, by rw [bindX_zero]; exact b0, b1, hgr0⟩
  case round =>
    obtain ⟨j, hj, rfl, bq, br, hgr⟩ := hrel
    by_cases hlt : j < n
    · have hT := HT.out
      obtain ⟨x, hx⟩ : ∃ x, t[2 * j]? = some x := ⟨t[2 * j], List.getElem?_eq_getElem (by omega)⟩
      obtain ⟨y, hy⟩ : ∃ y, t[2 * j + 1]? = some y := ⟨t[2 * j + 1], List.getElem?_eq_getElem (by omega)⟩
      obtain ⟨d1, d2⟩ := blk_cellP bq (k := 2 * j) ((bindX_get t r j (2 * j) (by omega)).trans hx)
      obtain ⟨d3, d4⟩ := blk_cellP bq (k := 2 * j + 1) ((bindX_get t r j (2 * j + 1) (by omega)).trans hy)
      have HS := Lib.hid (bindX_step t r j x y hx hy)
      have hlen : j < (bindX t r j).length := by rw [bindX_len t r j (by omega), hT]; omega
      have x1 := gw_cell bq.lt d1
      have x2 := gw_cell bq.lt d2
      have x3 := gw_cell bq.lt d3
      have x4 := gw_cell bq.lt d4
      have x5 := gw_blk br
      have hM := HM.out
      have hi1 : 2 * j < m := by omega
      have hi2 : 2 * j + 1 < m := by omega
      have hi3 : j < m := by omega
      obtain ⟨u, hu⟩ : ∃ u, (bindX t r j)[j]? = some u := ⟨_, List.getElem?_eq_getElem hlen⟩
      obtain ⟨s1, s2⟩ := blk_cellP bq hu
      clear hT hx hy d1 d2 d3 d4 hM hq1 hq2 hq3 hu
      go_wp2_with fail
      refine wp_region_rg 16 [(14, Spec.val (.agg #[.int .u64 (fv (x + r * (y - x)).a), .int .u64 (fv (x + r * (y - x)).b)]))] (by kernel_rfl) (by kernel_rfl) (by kernel_rfl) trivial ?_
      iterate 14 (refine rg_det rfl rfl rfl (fun K hK => ?_); go_big_quiet_op; refine hK _ ?_; clear hK K)
      refine rg_val rfl rfl (fun W1 hW1 hF => step_callv en_attestor_mle_blend (mBlend x y r W1) rfl rfl) ?_
      intro a' ha
      simp only [Act.put, List.setIfInBounds_toArray, List.set_cons_succ, List.set_cons_zero] at ha
      subst ha
      refine rg_det rfl rfl rfl (fun K hK => ?_)
      go_big_quiet_op
      refine hK _ ?_; clear hK K
      refine rg_nil (fun w' hw' hF => ?_)
      obtain ⟨z, rfl⟩ := hw'
      simp only [List.drop_succ_cons, List.drop_zero]
      clear hF x1 x2 x3 x4 x5
      have bz := bq.gw z
      have brz := br.gw z
      have e1 := bz.frozen
      have e2 := (z.h.cell (p := ⟨g, j * 2, none⟩) bq.lt).trans s1
      have e3 := (z.h.cell (p := ⟨g, j * 2 + 1, none⟩) bq.lt).trans s2
      clear s1 s2
      go_wp2
      exact ⟨⟨j + 1, by omega, by go_num, by rw [← HS.out]; exact blk_setP bz j _ hlen, blk_farE brz hne, grown_set (grown_set (grown_below hgr z.h))⟩, by simp [intOf]; omega⟩
    · obtain rfl : j = n := by omega
      go_wp2
      go_ret
      refine ⟨rfl, ⟨(t.drop j).flatMap ec ++ rest, ?_⟩, hgr⟩
      unfold bindX at bq
      rw [bindM_all r j t HT.out, List.flatMap_append, List.append_assoc] at bq
      exact bq

set_option maxRecDepth 100000 in
set_option maxHeartbeats 1000000 in
theorem gCloneW (t : List E) (h0 : 0 < t.length) (hb : t.length ≤ 1000000) (v : Value) (lo hi : Nat) (w : World) (h : ExtS lo hi w v t) :
    Calls Tryz.prog 84 #[v] w fun e w' => ∃ g cap rest, e = .returned (.slice (some ⟨g, 0, none⟩) t.length cap) ∧ t.length ≤ cap ∧ w.heap.size ≤ g ∧ Blk w' g 86 (t.flatMap ec ++ rest).toArray ∧ Below w.heap.size w w' := by
  obtain ⟨g, off, cap, hv, q1, q2, q3, q4, q5⟩ := exts_cells h h0
  cases hv
  obtain ⟨i0, hi0, iz0, iz1, iz2⟩ := info_parts ext_info
  have qe : ∀ (w : World) (a : Option Addr) (n c n' c' : Nat), (binOp .eql 78 (.slice a n c) (.slice none n' c')).run Tryz.prog w = .ok (.bool a.isNone) w := fun w a n c n' c' => Lib.run_eql_slice_nil w _ _ a n c n' c' Tryz.underlying78
  go_enter Tryz.func84, Tryz.ntmps84
  go_wp2_with (at_builtin; refine stop_in ?_)
  refine stop_out ?_
  refine stk1 (M := fun W => wpList _ _ _ _ _ W) fun W5 hB5 hz5 b5 => ?_
  have hs5 : W5.heap.size = w.heap.size + 1 := hz5.out
  refine wpList_appB rfl _ _ rfl Tryz.underlying78 hi0 iz0 iz1 iz2 rfl (by decide) (cl := t.flatMap ec) (base := w.heap.size) (cs := []) (k := 0) (fun u hu => by obtain ⟨x, _, hx⟩ := List.mem_flatMap.1 hu; exact ec_one x u hx) rfl rfl (Rd.keep h hB5) ⟨rfl, .inr ⟨w.heap.size, 0, #[], rfl, Nat.le_refl _, b5, Nat.le_refl _, Nat.zero_le _, rfl, rfl⟩⟩ (by unfold maxLen; omega) (by omega) (by omega) ?_
  intro v6 w6 hown6 hgrow6 hB6
  rw [Nat.zero_add, List.nil_append] at hown6
  go_wp2
  go_ret
  obtain ⟨ho1, ho2⟩ := hown6
  rcases ho2 with ⟨_, h2⟩ | ⟨g', cap', cur, rfl, r1, r2, r3, r4, r5, r6⟩
  · omega
  · refine ⟨g', cap', cur.toList.drop (t.length * 2), rfl, r3, r1, ?_, hB5.trans hB6⟩
    rw [← r6, List.take_append_drop]
    exact r2

set_option maxRecDepth 100000 in
set_option maxHeartbeats 1000000 in
theorem gEval (t p : List E) (ht : t.length = 2 ^ p.length) (hp : p.length ≤ 16) (v1 v2 : Value) (lo1 hi1 lo2 hi2 : Nat) (w : World) (h1 : ExtS lo1 hi1 w v1 t) (h2 : ExtS lo2 hi2 w v2 p) (hh : hi2 ≤ w.heap.size) :
    Calls Tryz.prog 40 #[v1, v2] w (Ret (ev (mev t p)) w) := by
  obtain ⟨A2, cap2, rfl⟩ := h2.len
  have hlen := h2.2.1
  have hpos : 0 < t.length := by rw [ht]; exact Nat.two_pow_pos _
  have htb : t.length ≤ 1000000 := by rw [ht]; exact Nat.le_trans (Nat.pow_le_pow_right (by decide) hp) (by decide)
  have HT := Lib.hid ht
  clear ht
  unfold ev
  go_enter Tryz.func40, Tryz.ntmps40
  go_wp2_with fail
  refine calls_stk1 fun W hB0 hz b1 => ?_
  have hs0 : W.heap.size = w.heap.size + 1 := hz.out
  refine (gCloneW t hpos htb v1 lo1 hi1 W (Rd.keep h1 hB0)).mono ?_
  rintro e w2 ⟨g, cap, rest, rfl, hcap, hg, bg, hb2⟩
  have hB2 := hB0.trans (hb2.mono hB0.size)
  have b12 := b1.keep hb2
  have hne : w.heap.size ≠ g := by omega
  have hne' : g ≠ w.heap.size := by omega
  have hs2 := hb2.size
  clear h1 hpos htb
  go_wp2_with fail
  go_loopw [5, 12] (fun v i wr => ∃ (k : Nat) (rest : List Value), k ≤ p.length ∧ i = .int .i64 k ∧ v = .slice (some ⟨g, 0, none⟩) (2 ^ (p.length - k)) cap ∧ Blk wr g 86 ((evalL t (p.take k)).flatMap ec ++ rest).toArray ∧ Blk wr w.heap.size 86 #[.int .u64 0, .int .u64 0] ∧ Below w.heap.size w wr) (fun _ i _ => p.length - (intOf i).toNat)
  case atStart => exact ⟨0, rest, Nat.zero_le _, rfl, by rw [Nat.sub_zero, ← HT.out], by simpa [evalL] using bg, b12, hB2⟩
  case round =>
    obtain ⟨k, rest', hk, rfl, rfl, bq, br, hB⟩ := hrel
    have hgq := bq.lt
    have hwq := br.lt
    by_cases hlt : k < p.length
    · obtain ⟨g2, o2, c2, hv, q1, q2, q3, q4, q5⟩ := exts_cells h2 (by omega)
      cases hv
      obtain ⟨r, hr⟩ : ∃ r, p[k]? = some r := ⟨p[k], List.getElem?_eq_getElem hlt⟩
      obtain ⟨d1, d2⟩ := q5 k r hr
      have x1 := (hB.cell (p := ⟨g2, o2 + k * 2, none⟩) q4).trans d1
      have x2 := (hB.cell (p := ⟨g2, o2 + k * 2 + 1, none⟩) q4).trans d2
      have hlk : (evalL t (p.take k)).length = 2 * 2 ^ (p.length - (k + 1)) := by
        rw [evalL_len2 (p.take k) t (p.length - k) (by rw [HT.out, List.length_take]; congr 1; omega), show p.length - k = p.length - (k + 1) + 1 by omega, Nat.pow_succ']
      have hst : evalL t (p.take (k + 1)) = bindL (evalL t (p.take k)) r := by rw [List.take_add_one, hr]; exact evalL_snoc _ _ _
      have hpw : 2 ^ (p.length - k) = 2 * 2 ^ (p.length - (k + 1)) := by rw [show p.length - k = p.length - (k + 1) + 1 by omega, Nat.pow_succ']
      have hpb : 2 ^ (p.length - (k + 1)) ≤ 65536 := Nat.le_trans (Nat.pow_le_pow_right (by decide) (by omega)) (show 2 ^ 16 ≤ 65536 by decide)
      have hcp : 2 * 2 ^ (p.length - (k + 1)) ≤ cap := by
        rw [← hpw]; exact Nat.le_trans (Nat.le_trans (Nat.pow_le_pow_right (by decide) (Nat.sub_le _ _)) (Nat.le_of_eq HT.out.symm)) hcap
      rw [hpw]
      generalize hmm : 2 ^ (p.length - (k + 1)) = m at *
      have HM2 := Lib.hid hmm
      clear hmm
      generalize evalL t (p.take k) = l at *
      have HST := Lib.hid hst
      clear q5 hr hst d1 d2 hpw
      go_wp2_with fail
      refine calls_stk1 fun W3 hB3 hz3 b7 => ?_
      have bq3 := bq.keep hB3
      have br3 := br.keep hB3
      refine (gBindW l r m hlk (by omega) g cap hcp rest' W3 bq3).mono ?_
      rintro e w4 ⟨rfl, ⟨rest4, b4⟩, hgr⟩
      have hB4 : Below w.heap.size w w4 := (hB.trans (hB3.mono hB.size)).grown hgr (by have := hB3.size; omega) (fun i e => by cases e; omega)
      have br4 := grown_blk hgr br3 (by simpa using hne)
      go_wp2
      exact ⟨⟨k + 1, rest4, by omega, by go_num, by rw [HM2.out], by rw [HST.out]; exact b4, br4, hB4⟩, by simp [intOf]; omega⟩
    · obtain rfl : k = p.length := by omega
      rw [List.take_of_length_le (Nat.le_refl _), evalL_mev HT.out] at bq
      obtain ⟨f1, f2⟩ := blk_cellP (k := 0) (x := mev t p) bq rfl
      rw [Nat.zero_mul] at f1 f2
      rw [Nat.sub_self, Nat.pow_zero]
      have e3 := br.cell
      have e4 := br.frozen
      generalize mev t p = y at *
      go_wp2
      refine bodyPost_ret (v := .agg #[.int .u64 (fv (y).a), .int .u64 (fv (y).b)]) (by simp [results, Tryz.results40, go_sem, e3]) rfl ⟨rfl, ?_⟩
      exact below_set2 hB (Nat.le_refl _)
end Go.Proofs.YtoiampgfnidfdaaGreatDoor
namespace Go.Proofs.YtoiampgfnidfdaaGreatDoor
open Go.RowKit

def nilV : Value := .slice none 0 0
def BndK (w : World) (gt L : Nat) (tabs : List (List E)) (r : E) (j : Nat) (wr : World) : Prop := ∃ us : List Value, us.length = j ∧ Blk wr gt 78 (us ++ List.replicate (tabs.length - j) nilV).toArray ∧ ∀ (k : Nat) u t, us[k]? = some u → tabs[k]? = some t → ExtS L wr.heap.size wr u (bindL t r)
theorem BndK.keep {w a b : World} {gt L j : Nat} {tabs : List (List E)} {r : E} (h : BndK w gt L tabs r j a) (hb : Below a.heap.size a b) : BndK w gt L tabs r j b := by
  obtain ⟨us, h1, h2, h3⟩ := h
  exact ⟨us, h1, h2.keep hb, fun k u t hu ht => (Rd.keep (h3 k u t hu ht) hb).wide (Nat.le_refl _) hb.size⟩
theorem BndK.all {w a : World} {gt L : Nat} {tabs : List (List E)} {r : E} (h : BndK w gt L tabs r tabs.length a) (hl : tabs.length ≤ 1000) {lo : Nat} (hgt : lo ≤ gt) (hL : lo ≤ L) : TabS lo a.heap.size a (.slice (some ⟨gt, 0, none⟩) tabs.length tabs.length) (bndE tabs r) := by
  obtain ⟨us, h1, h2, h3⟩ := h
  refine ⟨us, by rw [h1, bndE_length], ?_, fun k u t hu ht => ?_⟩
  · rw [bndE_length]
    refine ⟨by omega, by omega, _, _, rfl, Nat.le_refl _, fun _ => ⟨gt, 0, rfl, hgt, h2.lt, h2.lt, fun j u hu => ?_⟩⟩
    rw [Nat.zero_add, h2.cell, Nat.sub_self]
    simpa using hu
  · obtain ⟨s, hs, rfl⟩ : ∃ s, tabs[k]? = some s ∧ bindL s r = t := by
      unfold bndE at ht
      rw [List.getElem?_map] at ht
      cases he : tabs[k]? with
      | none => rw [he] at ht; cases ht
      | some s => rw [he] at ht; exact ⟨s, rfl, Option.some.inj ht⟩
    exact Rd.wide (h3 k u s hu hs) hL (Nat.le_refl _)
theorem TabS.put {lo hi g : Nat} {w w' : World} {v : Value} {tabs : List (List E)} (h : TabS lo hi w v tabs) (hp : Put w w' g) (hne : g < lo ∨ hi ≤ g) : TabS lo hi w' v tabs :=
  h.other (by rw [hp.size]; exact Nat.le_refl _) fun k h1 h2 _ => hp.other k (by omega)
end Go.Proofs.YtoiampgfnidfdaaGreatDoor
namespace Go.Proofs.YtoiampgfnidfdaaGreatDoor
open Go.RowKit

def RowT (base : Nat) (w : World) (u : Value) (ts : List (List E)) : Prop := ∃ us : List Value, w.ownsRow base 78 1 u ts.length us ∧ us.length = ts.length ∧ ∀ (k : Nat) x t, us[k]? = some x → ts[k]? = some t → ∃ lo hi, base ≤ lo ∧ hi ≤ w.heap.size ∧ Outside lo hi u ∧ ExtS lo hi w x t
theorem RowT.first (base : Nat) (w : World) : RowT base w (.slice none 0 0) [] := ⟨[], ⟨rfl, .inl ⟨rfl, rfl⟩⟩, rfl, fun k x t h => by simp at h⟩
theorem RowT.keep {base : Nat} {w X : World} {u : Value} {ts : List (List E)} (h : RowT base w u ts) (hb : Below w.heap.size w X) : RowT base X u ts := by
  obtain ⟨us, h1, h2, h3⟩ := h
  refine ⟨us, own_below h1 (Nat.le_refl _) hb, h2, fun k x t hx ht => ?_⟩
  obtain ⟨lo, hi, q1, q2, q3, q4⟩ := h3 k x t hx ht
  exact ⟨lo, hi, q1, Nat.le_trans q2 hb.size, q3, Rd.keep q4 hb⟩
theorem own_put {w w' : World} {base n size g : Nat} {e : TypeId} {v : Value} {xs : List Value} (h : w.ownsRow base e size v n xs) (hp : Put w w' g) (hg : g < base) : w'.ownsRow base e size v n xs := by
  obtain ⟨h1, h2⟩ := h
  refine ⟨h1, h2.imp id ?_⟩
  rintro ⟨b, cap, cur, q1, q2, q3, q4⟩
  exact ⟨b, cap, cur, q1, q2, (hp.other b (by omega)).trans q3, q4⟩
theorem RowT.put {base g : Nat} {w X : World} {u : Value} {ts : List (List E)} (h : RowT base w u ts) (hp : Put w X g) (hg : g < base) : RowT base X u ts := by
  obtain ⟨us, h1, h2, h3⟩ := h
  refine ⟨us, own_put h1 hp hg, h2, fun k x t hx ht => ?_⟩
  obtain ⟨lo, hi, q1, q2, q3, q4⟩ := h3 k x t hx ht
  exact ⟨lo, hi, q1, by rw [hp.size]; exact q2, q3, hp.rd q4 (.inl (by omega))⟩
theorem RowT.block {base g : Nat} {w : World} {u : Value} {ts : List (List E)} (h : RowT base w u ts) (hg : u.ownBlock = some g) : base ≤ g ∧ g < w.heap.size := by
  obtain ⟨us, h1, _⟩ := h
  exact own_block h1 hg
theorem RowT.out {base lo hi : Nat} {w : World} {u : Value} {ts : List (List E)} (h : RowT base w u ts) (hlo : w.heap.size ≤ lo) : Outside lo hi u := fun b hb => .inl (Nat.lt_of_lt_of_le (h.block hb).2 hlo)
theorem RowT.tabs {base : Nat} {w : World} {u : Value} {ts : List (List E)} (h : RowT base w u ts) (hl : ts.length ≤ 1000000) : TabS base w.heap.size w u ts := by
  obtain ⟨us, h1, h2, h3⟩ := h
  refine ⟨us, h2, Rd.of_own h1 (by omega) (Nat.le_refl _), fun k x t hx ht => ?_⟩
  obtain ⟨lo, hi, q1, q2, q3, q4⟩ := h3 k x t hx ht
  exact Rd.wide q4 q1 q2
theorem RowT.len {base : Nat} {w : World} {u : Value} {ts : List (List E)} (h : RowT base w u ts) (hl : ts.length ≤ 1000000) : ∃ A cap, u = .slice A ts.length cap := (h.tabs hl).len
theorem TabS.base {lo hi : Nat} {w : World} {v : Value} {ts : List (List E)} (h : TabS lo hi w v ts) : TabS 0 w.heap.size w v ts := by
  obtain ⟨us, h1, h2, h3⟩ := h
  have key : ∀ {n size : Nat} {v : Value} {cs : List Value}, Rd lo hi size w v n cs → Rd 0 w.heap.size size w v n cs := fun ⟨q1, q2, A, cap, q3, q4, q5⟩ => ⟨q1, q2, A, cap, q3, q4, fun h0 => by
    obtain ⟨g, off, r1, r2, r3, r4, r5⟩ := q5 h0
    exact ⟨g, off, r1, Nat.zero_le _, r4, r4, r5⟩⟩
  exact ⟨us, h1, key h2, fun k u t hu ht => key (h3 k u t hu ht)⟩
end Go.Proofs.YtoiampgfnidfdaaGreatDoor
namespace Go.Proofs.YtoiampgfnidfdaaGreatDoor
open Go.RowKit

theorem spl_self : ∀ (vs : List Value) (pre : List Value), spl (pre ++ vs).toArray pre.length vs = (pre ++ vs).toArray
  | [], pre => rfl
  | v :: vs, pre => by
    have e : ((pre ++ v :: vs).toArray.setIfInBounds pre.length v) = ((pre ++ [v]) ++ vs).toArray := by simp
    rw [spl, e]
    have := spl_self vs (pre ++ [v])
    rw [List.length_append, List.length_singleton] at this
    rw [this]
    simp
theorem step_new0 {P : Program} {o : Oper} {a : Act} {w : World} {e : TypeId} {ie : TypeInfo} {z : Value} (hie : P.info? e = some ie) (hz : ie.zero = some z) (ho : o.op = .alloc e) :
    stepAt P o a w (fun v w' => v = .pointer (some ⟨w.heap.size, 0, none⟩) ∧ w' = w.alloc (.cells z.cells e)) := by
  unfold stepAt execOp
  simp [ho, Instr.alloc, zeroValue, typeInfo, hie, hz, newVar, newRow, newObj]
  exact ⟨rfl, rfl⟩
theorem step_loadR0 {P : Program} {o : Oper} {a : Act} {w : World} {t : TypeId} {x : Operand} {g i : Nat} {cs : List Value} {d : TypeDesc} (hu : P.underlying t = some d) (hd : d.isRow = true) (hi : (P.info? t).map (·.size) = some cs.length) (ho : o.op = .load t x) (hx : a.eval x = .pointer (some ⟨g, i, none⟩)) (hc : w.rangeAt g i cs) :
    stepAt P o a w (fun v' w' => v' = .agg cs.toArray ∧ w' = w) := by
  have h2 := run_loadAt_mid (P := P) w g i t cs d hc hu hd hi
  unfold stepAt execOp
  simp only [ho, hx, Sem.run_bind, h2, Result.andThen_ok]
  exact ⟨rfl, rfl⟩
theorem spl_cat : ∀ (vs pre c2 : List Value), c2.length = vs.length → spl (pre ++ c2).toArray pre.length vs = (pre ++ vs).toArray
  | [], pre, c2, h => by
    rw [List.eq_nil_of_length_eq_zero h]
    rfl
  | v :: vs, pre, c :: c2, h => by
    have e : ((pre ++ c :: c2).toArray.setIfInBounds pre.length v) = ((pre ++ [v]) ++ c2).toArray := by simp
    rw [spl, e]
    have := spl_cat vs (pre ++ [v]) c2 (by simpa using h)
    rw [List.length_append, List.length_singleton] at this
    rw [this]
    simp
theorem spl_all (c2 : Array Value) (cs : List Value) (h : c2.size = cs.length) : spl c2 0 cs = cs.toArray := by
  have := spl_cat cs [] c2.toList (by simpa using h)
  simpa using this
theorem wp_zvar {P : Program} {id : Nat} {o1 o2 o3 : Oper} {Q : Exit → Act → World → Prop} {a : Act} {w : World} (t : TypeId) (i : TypeInfo) (cs : List Value) (x y : Operand)
    (g1 : o1.guard = none) (g2 : o2.guard = none) (g3 : o3.guard = none) (h1 : o1.op = .build t #[]) (h2 : o2.op = .alloc t) (h3 : o3.op = .store t x y)
    (hi : P.info? t = some i) (hz : i.zero = some (.agg cs.toArray)) (hs : i.size = cs.length) (hone : cs.all (·.oneCell') = true) (hb : P.built t [] = some cs.toArray)
    (hx : ∀ u v, ((a.put o1.dst u).put o2.dst v).eval x = v) (hy : ∀ u v, ((a.put o1.dst u).put o2.dst v).eval y = u)
    (H : ∀ X v, Below w.heap.size w X → X.heap.size = w.heap.size + 1 → Blk X w.heap.size t cs.toArray → Q .normal (((a.put o1.dst v).put o2.dst (.pointer (some ⟨w.heap.size, 0, none⟩))).put o3.dst undef) X) :
    (Code.region id #[o1, o2, o3] false).wp P Q a w := by
  refine wp_region_lit (l := [o1, o2, o3]) ?_
  refine wpList_plain g1 fun K hK => wp_build t #[] h1 (by simp [hb]) (hK _ _ ?_)
  refine wpList_plain g2 fun K2 hK2 => wp_of_step (stepAt_mono (fun v w' hh => ?_) (step_new0 hi hz h2))
  obtain ⟨rfl, rfl⟩ := hh
  refine hK2 _ _ ?_
  have hb1 : Blk (w.alloc (.cells (Value.agg cs.toArray).cells t)) w.heap.size t cs.toArray := World.alloc_heap_new w _
  simp only [List.map_toArray, List.map_nil, hb, Option.getD_some]
  have e := spl_self cs []
  simp only [List.nil_append, List.length_nil] at e
  refine wpList_put g3 t x y h3 (g := w.heap.size) (i := 0) (hx _ _) (hy _ _) hb1 (by simp) (by rw [hi]; simp [hs]) hone e fun X hX bX => ?_
  exact H X _ (below_put ((Below.refl _ _).alloc (Nat.le_refl _) _) hX (Nat.le_refl _)) (by rw [hX.size]; simp) bX
theorem blk_range {w : World} {g : Nat} {t : TypeId} {cs : List Value} (hb : Blk w g t cs.toArray) : w.rangeAt g 0 cs := fun j v hv => by
  rw [Nat.zero_add, hb.cell]
  simpa using hv
theorem wp_carry {P : Program} {id : Nat} {o1 o2 : Oper} {Q : Exit → Act → World → Prop} {a : Act} {w : World} (t : TypeId) (cs : List Value) (x y z : Operand) (d : TypeDesc) {g1 g2 : Nat} {t1 t2 : TypeId} {c2 : Array Value}
    (k1 : o1.guard = none) (k2 : o2.guard = none) (h1 : o1.op = .load t x) (h2 : o2.op = .store t y z) (hu : P.underlying t = some d) (hd : d.isRow = true) (hi : (P.info? t).map (·.size) = some cs.length) (hone : cs.all (·.oneCell') = true)
    (hx : a.eval x = .pointer (some ⟨g1, 0, none⟩)) (hy : ∀ u, (a.put o1.dst u).eval y = .pointer (some ⟨g2, 0, none⟩)) (hz : ∀ u, (a.put o1.dst u).eval z = u) (hb1 : Blk w g1 t1 cs.toArray) (hb2 : Blk w g2 t2 c2) (hs : c2.size = cs.length)
    (H : ∀ X v, Put w X g2 → Blk X g2 t2 cs.toArray → Q .normal ((a.put o1.dst v).put o2.dst undef) X) :
    (Code.region id #[o1, o2] false).wp P Q a w := by
  refine wp_region_lit (l := [o1, o2]) ?_
  refine wpList_plain k1 fun K hK => wp_of_step (stepAt_mono (fun v w' hh => ?_) (step_loadR0 hu hd hi h1 hx (blk_range hb1)))
  obtain ⟨rfl, rfl⟩ := hh
  refine hK _ _ ?_
  have e : spl c2 0 cs = cs.toArray := spl_all c2 cs hs
  refine wpList_put k2 t y z h2 (hy _) (hz _) hb2 (by omega) hi hone e fun X hX bX => ?_
  exact H X _ hX bX
theorem res_row {P : Program} {fn : Func} {a : Act} {w : World} {s : Tmp} {t : TypeId} {g : Nat} {t1 : TypeId} {cs : List Value} {d : TypeDesc} (hres : fn.results = #[.cell s t]) (hp : a.tmps[s]? = some (.pointer (some ⟨g, 0, none⟩)))
    (hu : P.underlying t = some d) (hd : d.isRow = true) (hi : (P.info? t).map (·.size) = some cs.length) (hb : Blk w g t1 cs.toArray) : (results fn a.tmps).run P w = .ok (.agg cs.toArray) w := by
  simp [results, hres, hp, Sem.run_bind, asAddr, run_loadVar_mid w g 0 t cs d (blk_range hb) hu hd hi]
end Go.Proofs.YtoiampgfnidfdaaGreatDoor
namespace Go.Proofs.YtoiampgfnidfdaaGreatDoor
open Go.RowKit

theorem en_attestor_attestorref07_rotate : ∀ args w, (callFunc 158 args).run Tryz.prog w = .ok (.enter 158 args) w := enters_of Tryz.func158 (by kernel_rfl) rfl
set_option maxRecDepth 100000 in
set_option maxHeartbeats 1000000 in
theorem rRot (x : B32) (n : Nat) (h0 : 0 < n) (hn : n < 32) (w : World) : Calls Tryz.prog 158 #[.int .u32 (bv x), .int .i64 (n : Int)] w (Ret (.int .u32 (bv (rotr x n))) w) := by
  obtain ⟨m, hm⟩ : ∃ m, m = 32 - n := ⟨_, rfl⟩
  have hmi : (32 : Int) - (n : Int) = (m : Int) := by omega
  have hm32 : m < 32 := by omega
  obtain ⟨b0, b1⟩ := bv_lt x
  have HR := Lib.hid (show bits .or .u32 (bv x / 2 ^ n) (IntKind.u32.wrap (bv x * 2 ^ m)) = bv (rotr x n) by rw [bv_shr, bv_shl, bv_or, hm]; rfl)
  clear hm
  go_enter Tryz.func158, Tryz.ntmps158
  go_wp2_with fail
  refine wp_region_rg 8 [] (by kernel_rfl) (by kernel_rfl) (by kernel_rfl) trivial ?_
  iterate 8 (refine rg_det rfl rfl rfl (fun K hK => ?_); go_big_quiet_op; refine hK _ ?_; clear hK K)
  refine rg_nil (fun w' hw' hF => ?_)
  obtain ⟨z, rfl⟩ := hw'
  simp only [List.drop_succ_cons, List.drop_zero]
  clear hF
  go_wp2_with fail
  rw [← IntKind.wrap_u32', HR.out]
  go_ret
  exact ⟨rfl, z.h⟩
theorem bv_add' (x y : B32) : (bv x + bv y) % 4294967296 = bv (x + y) := by rw [← IntKind.wrap_u32', bv_add]
theorem bv_not' (x : B32) : (4294967295 - bv x) % 4294967296 = bv (~~~x) := by rw [← IntKind.wrap_u32', bv_not]
def schK (b : List Nat) (k : Nat) : List B32 := if k ≤ 16 then words16 b k else schN (words16 b 16) (k - 16)
theorem schK_length (b : List Nat) (k : Nat) : (schK b k).length = k := by
  unfold schK
  split
  · exact words16_length b k
  · rw [schN_length, words16_length]; omega
theorem schK_low (b : List Nat) (k : Nat) (h : k < 16) : schK b (k + 1) = schK b k ++ [word4 b k] := by
  unfold schK
  rw [if_pos (by omega), if_pos (by omega), words16_succ]
theorem schK_high (b : List Nat) (k : Nat) (h : 16 ≤ k) : schK b (k + 1) = schK b k ++ [(schK b k).getD (k - 16) 0 + sg0 ((schK b k).getD (k - 15) 0) + (schK b k).getD (k - 7) 0 + sg1 ((schK b k).getD (k - 2) 0)] := by
  obtain ⟨j, rfl⟩ : ∃ j, k = 16 + j := ⟨k - 16, by omega⟩
  have e : schK b (16 + j) = schN (words16 b 16) j := by
    unfold schK
    split
    · obtain rfl : j = 0 := by omega
      rfl
    · rw [Nat.add_sub_cancel_left]
  rw [e]
  unfold schK
  rw [if_neg (by omega), show 16 + j + 1 - 16 = j + 1 by omega, schN]
  rw [show 16 + j - 16 = j by omega, show 16 + j - 15 = j + 1 by omega, show 16 + j - 7 = j + 9 by omega, show 16 + j - 2 = j + 14 by omega]
theorem schK_all (b : List Nat) : schK b 64 = sched b := by
  unfold schK sched
  rw [if_neg (by decide)]
theorem bv_zero : bv 0 = 0 := rfl
def zl (n : Nat) : List Value := List.replicate n (.int .u32 0)
theorem arrN_zero (n : Nat) : arrN n [] = zl n := by
  unfold arrN u32c zl
  rw [List.length_nil, List.nil_append, Nat.sub_zero, List.map_replicate, bv_zero]
theorem w64_info : (Tryz.prog.info? 188).map (fun i => (i.zero, i.size, i.bytes)) = some (some (.agg (zl 64).toArray), 64, 256) := by kernel_rfl
theorem w64_built : Tryz.prog.built 188 [] = some (zl 64).toArray := by kernel_rfl
theorem zl_len (n : Nat) : (zl n).length = n := by simp [zl]
theorem zl_one (n : Nat) : (zl n).all (·.oneCell') = true := by simp [zl]; exact .inr rfl
theorem schK_zero (b : List Nat) : schK b 0 = [] := by
  unfold schK
  rw [if_pos (by decide)]
  rfl
theorem en_attestor_attestorref07_schedule : ∀ args w, (callFunc 156 args).run Tryz.prog w = .ok (.enter 156 args) w := enters_of Tryz.func156 (by kernel_rfl) rfl
theorem u32c_one (l : List B32) : (u32c l).all (·.oneCell') = true := by
  unfold u32c
  rw [List.all_map]
  exact List.all_eq_true.2 fun _ _ => rfl
theorem u32c_len (l : List B32) : (u32c l).length = l.length := by unfold u32c; rw [List.length_map]
theorem w64_size : (Tryz.prog.info? 188).map (·.size) = some 64 := by kernel_rfl
theorem w64_under : Tryz.prog.underlying 188 = some (.array 64 169) := by kernel_rfl
def arrV (l : List B32) : Value := .agg (u32c l).toArray
theorem bv_add4 (a b c d : B32) : (bv a + bv b + bv c + bv d) % 4294967296 = bv (a + b + c + d) := by
  unfold bv
  rw [BitVec.toNat_add, BitVec.toNat_add, BitVec.toNat_add]
  omega
theorem sch_val (v16 v15 v7 v2 : B32) : (bv v16 + bits .xor .u32 (bits .xor .u32 (bv (rotr v15 7)) (bv (rotr v15 18))) (bv v15 / 8) + bv v7 + bits .xor .u32 (bits .xor .u32 (bv (rotr v2 17)) (bv (rotr v2 19))) (bv v2 / 1024)) % 4294967296 = bv (v16 + sg0 v15 + v7 + sg1 v2) := by
  have h3 := bv_shr v15 3
  have h10 := bv_shr v2 10
  rw [show (2 : Int) ^ 3 = 8 by decide] at h3
  rw [show (2 : Int) ^ 10 = 1024 by decide] at h10
  rw [h3, h10, bv_xor, bv_xor, bv_xor, bv_xor, bv_add4]
  rfl
attribute [local irreducible] wpRg
set_option maxRecDepth 100000 in
set_option maxHeartbeats 4000000 in
theorem rSched (b : List Nat) (hb : b.length = 64) (hb8 : ∀ x ∈ b, x < 256) (v : Value) (lo hi : Nat) (w : World) (h : ByS lo hi w v b) : Calls Tryz.prog 156 #[v] w (Ret (arrV (sched b)) w) := by
  obtain ⟨g, off, cap, rfl, -, -, -, lg, qg⟩ := bys_cells h (by omega)
  rw [hb]
  have HQ := Lib.hid qg
  have HB := Lib.hid hb
  have H8 := Lib.hid hb8
  clear h hb hb8 qg
  go_enter Tryz.func156, Tryz.ntmps156
  obtain ⟨i64', hi64, iz0, iz1, iz2⟩ := info_parts w64_info
  go_upto_region 1 with (fail)
  refine wp_stk1 fun W hB hz b2 => ?_
  obtain ⟨cs0, hcs0, b2'⟩ : ∃ cs : Array Value, cs.size = 64 ∧ Blk W w.heap.size 188 cs := ⟨_, rfl, b2⟩
  have hWs : W.heap.size = w.heap.size + 1 := hz.out
  clear b2 hz
  refine wp_zvar 188 i64' (zl 64) _ _ rfl rfl rfl rfl rfl rfl hi64 iz0 (by rw [iz1, zl_len]) (zl_one 64) w64_built (fun _ _ => rfl) (fun _ _ => rfl) fun X v7 hX hXs b3 => ?_
  have hB3 := hB.trans (hX.mono hB.size)
  have b3' : Blk X W.heap.size 188 (arrN 64 (schK b 0)).toArray := by rw [schK_zero, arrN_zero]; exact b3
  have b2X := b2'.keep hX
  obtain ⟨g3, hg3⟩ : ∃ g, g = W.heap.size := ⟨_, rfl⟩
  rw [← hg3] at b3' ⊢
  have hg3a : w.heap.size < g3 := by omega
  clear b3 b2' hg3 hWs hXs hB hX
  go_wp2_with fail
  go_loopw [4] (fun i wr => ∃ k : Nat, k ≤ 64 ∧ i = .int .i64 k ∧ Blk wr g3 188 (arrN 64 (schK b k)).toArray ∧ (∃ cs, Blk wr w.heap.size 188 cs ∧ cs.size = 64) ∧ Below w.heap.size w wr) (fun i _ => 64 - (intOf i).toNat)
  case atStart => exact ⟨0, Nat.zero_le _, rfl, b3', ⟨cs0, b2X, hcs0⟩, hB3⟩
  case round =>
    obtain ⟨k, hk, rfl, b3, ⟨cs, b2, hcs⟩, hBr⟩ := hrel
    by_cases hlt : k < 64
    · by_cases h16 : k < 16
      · have q : ∀ j, j < 4 → ∃ x : Nat, b[4 * k + j]? = some x ∧ x < 256 ∧ wr.cell? ⟨g, off + (4 * k + j), none⟩ = some (.int .u8 (x : Int)) := fun j hj => by
          obtain ⟨x, hx⟩ : ∃ x, b[4 * k + j]? = some x := ⟨_, List.getElem?_eq_getElem (by rw [HB.out]; omega)⟩
          exact ⟨x, hx, H8.out x (List.mem_of_getElem? hx), (hBr.cell (p := ⟨g, off + (4 * k + j), none⟩) lg).trans (HQ.out _ x hx)⟩
        obtain ⟨x0, hx0, l0, d0⟩ := q 0 (by decide)
        obtain ⟨x1, hx1, l1, d1⟩ := q 1 (by decide)
        obtain ⟨x2, hx2, l2, d2⟩ := q 2 (by decide)
        obtain ⟨x3, hx3, l3, d3⟩ := q 3 (by decide)
        rw [Nat.add_zero] at hx0 d0
        have lgr := Nat.lt_of_lt_of_le lg hBr.size
        have f0 := gw_cell lgr d0
        have f1 := gw_cell lgr d1
        have f2 := gw_cell lgr d2
        have f3 := gw_cell lgr d3
        have HW := Lib.hid (show word4 b k = BitVec.ofNat 32 (x0 * 16777216 + x1 * 65536 + x2 * 256 + x3) by
          unfold word4
          simp only [List.getD_eq_getElem?_getD, hx0, hx1, hx2, hx3, Option.getD_some])
        clear q hx0 hx1 hx2 hx3 d0 d1 d2 d3
        go_wp2_with fail
        refine wp_region_rg 35 [] (by kernel_rfl) (by kernel_rfl) (by kernel_rfl) trivial ?_
        iterate 35 (refine rg_det rfl rfl rfl (fun K hK => ?_); go_big_quiet_op; refine hK _ ?_; clear hK K)
        refine rg_nil (fun w' hw' hF => ?_)
        obtain ⟨z, rfl⟩ := hw'
        simp only [List.drop_succ_cons, List.drop_zero]
        have b3z := b3.gw z
        have b2z := b2.gw z
        have hBz := hBr.trans (z.h.mono hBr.size)
        have e1 := b3z.frozen
        have e2 : z.w.cell? ⟨g3, k, none⟩ = some (.int .u32 0) := (b3z.cell k).trans (by have := arrN_next 64 (schK b k) (by rw [schK_length]; exact hlt); rw [schK_length] at this; simpa using this)
        have hv : (x0 : Int) * 16777216 + (x1 : Int) * 65536 + (x2 : Int) * 256 + (x3 : Int) = bv (word4 b k) := by
          rw [HW.out, bv_ofNat _ (by omega)]
          omega
        have HV := Lib.hid hv
        clear hF f0 f1 f2 f3 hv
        go_upto_region 4 with (fail)
        refine set1 (M := fun W => Code.wp _ _ _ _ W) b3z fun X hX bX => ?_
        have b3X : Blk X g3 188 (arrN 64 (schK b (k + 1))).toArray := by
          rw [schK_low b k h16, ← arrN_set 64 (schK b k) (word4 b k) (by rw [schK_length]; exact hlt), schK_length, ← HV.out]
          rw [← List.setIfInBounds_toArray]
          exact bX
        have b2X := hX.blk b2z (by omega)
        have hBX := below_put hBz hX (by omega)
        clear e1 e2 bX b3z b2z
        go_wp2_with fail
        exact ⟨⟨k + 1, by omega, by go_num, b3X, ⟨cs, b2X, hcs⟩, hBX⟩, by simp [intOf]; omega⟩
      · have q : ∀ j, j < k → wr.cell? ⟨g3, j, none⟩ = some (.int .u32 (bv ((schK b k).getD j 0))) := fun j hj => by
          rw [b3.cell]
          have := arrN_get 64 (schK b k) j ((schK b k).getD j 0) (by rw [List.getD_eq_getElem?_getD, List.getElem?_eq_getElem (by rw [schK_length]; exact hj)]; rfl)
          simpa using this
        have hS := schK_high b k (by omega)
        obtain ⟨v16, e16⟩ : ∃ x, x = (schK b k).getD (k - 16) 0 := ⟨_, rfl⟩
        obtain ⟨v15, e15⟩ : ∃ x, x = (schK b k).getD (k - 15) 0 := ⟨_, rfl⟩
        obtain ⟨v7', e7⟩ : ∃ x, x = (schK b k).getD (k - 7) 0 := ⟨_, rfl⟩
        obtain ⟨v2, e2'⟩ : ∃ x, x = (schK b k).getD (k - 2) 0 := ⟨_, rfl⟩
        have q16 := q (k - 16) (by omega)
        have q15 := q (k - 15) (by omega)
        have q7 := q (k - 7) (by omega)
        have q2 := q (k - 2) (by omega)
        rw [← e16, ← e15, ← e7, ← e2'] at hS
        rw [← e16] at q16
        rw [← e15] at q15
        rw [← e7] at q7
        rw [← e2'] at q2
        have HS := Lib.hid hS
        have l3 := b3.lt
        have f16 := gw_cell l3 q16
        have f15 := gw_cell l3 q15
        have f7 := gw_cell l3 q7
        have f2 := gw_cell l3 q2
        clear q hS e16 e15 e7 e2' q16 q15 q7 q2
        go_wp2_with fail
        refine wp_region_rg 9 [] (by kernel_rfl) (by kernel_rfl) (by kernel_rfl) trivial ?_
        iterate 9 (refine rg_det rfl rfl rfl (fun K hK => ?_); go_big_quiet_op; refine hK _ ?_; clear hK K)
        refine rg_nil (fun w' hw' hF => ?_)
        obtain ⟨z, rfl⟩ := hw'
        simp only [List.drop_succ_cons, List.drop_zero]
        have b3z := b3.gw z
        have b2z := b2.gw z
        have hBz := hBr.trans (z.h.mono hBr.size)
        have l3z := b3z.lt
        have y16 := gw_cell (W := z.w) l3z (f16 z)
        have y7 := gw_cell (W := z.w) l3z (f7 z)
        clear hF f16 f15 f7 f2
        go_wp2_with fail
        refine wp_region_rg 29 [(6, Spec.val (.int .u32 (bv (rotr v15 7)))), (8, Spec.val (.int .u32 (bv (rotr v15 18)))), (20, Spec.val (.int .u32 (bv (rotr v2 17)))), (22, Spec.val (.int .u32 (bv (rotr v2 19))))] (by kernel_rfl) (by kernel_rfl) (by kernel_rfl) trivial ?_
        iterate 6 (refine rg_det rfl rfl rfl (fun K hK => ?_); go_big_quiet_op; refine hK _ ?_; clear hK K)
        refine rg_val rfl rfl (fun W1 hW1 hF => step_callv en_attestor_attestorref07_rotate (rRot v15 7 (by decide) (by decide) W1) rfl rfl) ?_
        intro a' ha
        simp only [Act.put, List.setIfInBounds_toArray, List.set_cons_succ, List.set_cons_zero] at ha
        subst ha
        refine rg_det rfl rfl rfl (fun K hK => ?_)
        go_big_quiet_op
        refine hK _ ?_; clear hK K
        refine rg_val rfl rfl (fun W1 hW1 hF => step_callv en_attestor_attestorref07_rotate (rRot v15 18 (by decide) (by decide) W1) rfl rfl) ?_
        intro a' ha
        simp only [Act.put, List.setIfInBounds_toArray, List.set_cons_succ, List.set_cons_zero] at ha
        subst ha
        iterate 11 (refine rg_det rfl rfl rfl (fun K hK => ?_); go_big_quiet_op; refine hK _ ?_; clear hK K)
        refine rg_val rfl rfl (fun W1 hW1 hF => step_callv en_attestor_attestorref07_rotate (rRot v2 17 (by decide) (by decide) W1) rfl rfl) ?_
        intro a' ha
        simp only [Act.put, List.setIfInBounds_toArray, List.set_cons_succ, List.set_cons_zero] at ha
        subst ha
        refine rg_det rfl rfl rfl (fun K hK => ?_)
        go_big_quiet_op
        refine hK _ ?_; clear hK K
        refine rg_val rfl rfl (fun W1 hW1 hF => step_callv en_attestor_attestorref07_rotate (rRot v2 19 (by decide) (by decide) W1) rfl rfl) ?_
        intro a' ha
        simp only [Act.put, List.setIfInBounds_toArray, List.set_cons_succ, List.set_cons_zero] at ha
        subst ha
        iterate 6 (refine rg_det rfl rfl rfl (fun K hK => ?_); go_big_quiet_op; refine hK _ ?_; clear hK K)
        refine rg_nil (fun w' hw' hF => ?_)
        obtain ⟨z2, rfl⟩ := hw'
        simp only [List.drop_succ_cons, List.drop_zero]
        have b3y := b3z.gw z2
        have b2y := b2z.gw z2
        have hBy := hBz.trans (z2.h.mono hBz.size)
        have e1 := b3y.frozen
        have e2 : z2.w.cell? ⟨g3, k, none⟩ = some (.int .u32 0) := (b3y.cell k).trans (by have := arrN_next 64 (schK b k) (by rw [schK_length]; exact hlt); rw [schK_length] at this; simpa using this)
        clear hF y16 y7
        go_upto_region 4 with (fail)
        rw [sch_val]
        refine set1 (M := fun W => Code.wp _ _ _ _ W) b3y fun X hX bX => ?_
        have b3X : Blk X g3 188 (arrN 64 (schK b (k + 1))).toArray := by
          rw [HS.out, ← arrN_set 64 (schK b k) _ (by rw [schK_length]; exact hlt), schK_length]
          rw [← List.setIfInBounds_toArray]
          exact bX
        have b2X := hX.blk b2y (by omega)
        have hBX := below_put hBy hX (by omega)
        clear e1 e2 bX b3y b2y b3z b2z
        go_wp2_with fail
        exact ⟨⟨k + 1, by omega, by go_num, b3X, ⟨cs, b2X, hcs⟩, hBX⟩, by simp [intOf]; omega⟩
    · obtain rfl : k = 64 := by omega
      rw [schK_all, arrN_full 64 _ (sched_length b)] at b3
      have l9 := b2.lt
      clear HQ HB H8
      go_upto_region 9 with (fail)
      refine wp_carry 188 (u32c (sched b)) _ _ _ _ rfl rfl rfl rfl w64_under rfl (by rw [w64_size, u32c_len, sched_length]) (u32c_one _) rfl (fun _ => rfl) (fun _ => rfl) b3 b2 (by rw [hcs, u32c_len, sched_length]) fun X v hX bX => ?_
      have hBX : Below w.heap.size w X := below_put hBr hX (by omega)
      go_wp2_with fail
      exact bodyPost_ret (v := arrV (sched b)) (res_row (g := w.heap.size) rfl rfl w64_under rfl (by rw [w64_size, u32c_len, sched_length]) bX) rfl ⟨rfl, hBX⟩
end Go.Proofs.YtoiampgfnidfdaaGreatDoor
namespace Go.Proofs.YtoiampgfnidfdaaGreatDoor
open Go.RowKit

theorem wp_bput {P : Program} {id : Nat} {o1 o2 : Oper} {Q : Exit → Act → World → Prop} {a : Act} {w : World} (t : TypeId) (fs : Array (Nat × Operand)) (cs : List Value) (y z : Operand) {g2 : Nat} {t2 : TypeId} {c2 : Array Value}
    (k1 : o1.guard = none) (k2 : o2.guard = none) (h1 : o1.op = .build t fs) (h2 : o2.op = .store t y z) (hb : P.built t (fs.map fun (i, x) => (i, a.eval x)).toList = some cs.toArray) (hi : (P.info? t).map (·.size) = some cs.length) (hone : cs.all (·.oneCell') = true)
    (hy : ∀ u, (a.put o1.dst u).eval y = .pointer (some ⟨g2, 0, none⟩)) (hz : ∀ u, (a.put o1.dst u).eval z = u) (hb2 : Blk w g2 t2 c2) (hs : c2.size = cs.length)
    (H : ∀ X v, Put w X g2 → Blk X g2 t2 cs.toArray → Q .normal ((a.put o1.dst v).put o2.dst undef) X) :
    (Code.region id #[o1, o2] false).wp P Q a w := by
  refine wp_region_lit (l := [o1, o2]) ?_
  refine wpList_plain k1 fun K hK => wp_build t fs h1 (by rw [hb]; rfl) (hK _ _ ?_)
  rw [hb, Option.getD_some]
  have e : spl c2 0 cs = cs.toArray := spl_all c2 cs hs
  refine wpList_put k2 t y z h2 (hy _) (hz _) hb2 (by omega) hi hone e fun X hX bX => ?_
  exact H X _ hX bX
theorem kTabB_length : kTabB.length = 64 := by unfold kTabB; rw [List.length_map]; exact kTab_length
theorem en_attestor_attestorref07_constants : ∀ args w, (callFunc 157 args).run Tryz.prog w = .ok (.enter 157 args) w := enters_of Tryz.func157 (by kernel_rfl) rfl
attribute [local irreducible] wpRg
set_option maxRecDepth 100000 in
set_option maxHeartbeats 4000000 in
theorem rConst (w : World) : Calls Tryz.prog 157 #[] w (Ret (arrV kTabB) w) := by
  go_enter Tryz.func157, Tryz.ntmps157
  go_upto_region 1 with (fail)
  refine wp_stk1 fun W hB hz b2 => ?_
  obtain ⟨cs0, hcs0, b2'⟩ : ∃ cs : Array Value, cs.size = 64 ∧ Blk W w.heap.size 188 cs := ⟨_, rfl, b2⟩
  clear b2
  refine wp_bput 188 _ (u32c kTabB) _ _ rfl rfl rfl rfl (by kernel_rfl) (by rw [w64_size, u32c_len, kTabB_length]) (u32c_one _) (fun _ => rfl) (fun _ => rfl) b2' (by rw [hcs0, u32c_len, kTabB_length]) fun X v hX bX => ?_
  have hBX : Below w.heap.size w X := below_put hB hX (Nat.le_refl _)
  go_wp2_with fail
  exact bodyPost_ret (v := arrV kTabB) (res_row (g := w.heap.size) rfl rfl w64_under rfl (by rw [w64_size, u32c_len, kTabB_length]) bX) rfl ⟨rfl, hBX⟩
def s8v (s : S8) : Value := .agg s.cells.toArray
theorem w8_size : (Tryz.prog.info? 172).map (·.size) = some 8 := by kernel_rfl
theorem w8_under : Tryz.prog.underlying 172 = some (.array 8 169) := by kernel_rfl
theorem s8_one (s : S8) : s.cells.all (·.oneCell') = true := rfl
theorem en_attestor_attestorref07_Initial : ∀ args w, (callFunc 139 args).run Tryz.prog w = .ok (.enter 139 args) w := enters_of Tryz.func139 (by kernel_rfl) rfl
set_option maxRecDepth 100000 in
set_option maxHeartbeats 4000000 in
theorem rInit (w : World) : Calls Tryz.prog 139 #[] w (Ret (s8v init8) w) := by
  go_enter Tryz.func139, Tryz.ntmps139
  go_upto_region 1 with (fail)
  refine wp_stk1 fun W hB hz b2 => ?_
  obtain ⟨cs0, hcs0, b2'⟩ : ∃ cs : Array Value, cs.size = 8 ∧ Blk W w.heap.size 172 cs := ⟨_, rfl, b2⟩
  clear b2
  refine wp_bput 172 _ init8.cells _ _ rfl rfl rfl rfl (by kernel_rfl) w8_size (s8_one _) (fun _ => rfl) (fun _ => rfl) b2' hcs0 fun X v hX bX => ?_
  have hBX : Below w.heap.size w X := below_put hB hX (Nat.le_refl _)
  go_wp2_with fail
  exact bodyPost_ret (v := s8v init8) (res_row (g := w.heap.size) rfl rfl w8_under rfl w8_size bX) rfl ⟨rfl, hBX⟩
theorem wp_prep {P : Program} {id : Nat} {o1 o2 o3 o4 o5 o6 o7 : Oper} {Q : Exit → Act → World → Prop} {a : Act} {w : World} (t : TypeId) (i : TypeInfo) (z cs1 cs2 : List Value) (x6 y6 x7 y7 : Operand) {u1 : Value}
    (g1 : o1.guard = none) (g2 : o2.guard = none) (g3 : o3.guard = none) (g4 : o4.guard = none) (g5 : o5.guard = none) (g6 : o6.guard = none) (g7 : o7.guard = none)
    (s1 : stepAt P o1 a w fun v w' => v = u1 ∧ w' = w)
    (s2 : stepAt P o2 (a.put o1.dst u1) w fun v w' => v = .agg cs1.toArray ∧ Below w.heap.size w w')
    (s3 : ∀ W, Below w.heap.size w W → stepAt P o3 ((a.put o1.dst u1).put o2.dst (.agg cs1.toArray)) W fun v w' => v = .agg cs2.toArray ∧ Below W.heap.size W w')
    (h4 : o4.op = .alloc t) (h5 : o5.op = .alloc t) (h6 : o6.op = .store t x6 y6) (h7 : o7.op = .store t x7 y7)
    (hi : P.info? t = some i) (hz : i.zero = some (.agg z.toArray)) (hs0 : i.size = z.length) (hs1 : cs1.length = z.length) (hs2 : cs2.length = z.length) (one1 : cs1.all (·.oneCell') = true) (one2 : cs2.all (·.oneCell') = true)
    (e6 : ∀ u v, (((((a.put o1.dst u1).put o2.dst (.agg cs1.toArray)).put o3.dst (.agg cs2.toArray)).put o4.dst u).put o5.dst v).eval x6 = u)
    (f6 : ∀ u v, (((((a.put o1.dst u1).put o2.dst (.agg cs1.toArray)).put o3.dst (.agg cs2.toArray)).put o4.dst u).put o5.dst v).eval y6 = .agg cs1.toArray)
    (e7 : ∀ u v, ((((((a.put o1.dst u1).put o2.dst (.agg cs1.toArray)).put o3.dst (.agg cs2.toArray)).put o4.dst u).put o5.dst v).put o6.dst undef).eval x7 = v)
    (f7 : ∀ u v, ((((((a.put o1.dst u1).put o2.dst (.agg cs1.toArray)).put o3.dst (.agg cs2.toArray)).put o4.dst u).put o5.dst v).put o6.dst undef).eval y7 = .agg cs2.toArray)
    (H : ∀ X n, Below w.heap.size w X → w.heap.size ≤ n → Blk X n t cs1.toArray → Blk X (n + 1) t cs2.toArray → Q .normal (((((((a.put o1.dst u1).put o2.dst (.agg cs1.toArray)).put o3.dst (.agg cs2.toArray)).put o4.dst (.pointer (some ⟨n, 0, none⟩))).put o5.dst (.pointer (some ⟨n + 1, 0, none⟩))).put o6.dst undef).put o7.dst undef) X) :
    (Code.region id #[o1, o2, o3, o4, o5, o6, o7] false).wp P Q a w := by
  refine wp_region_lit (l := [o1, o2, o3, o4, o5, o6, o7]) ?_
  refine wpList_plain g1 fun K hK => wp_of_step (stepAt_mono (fun v w' hh => ?_) s1)
  obtain ⟨rfl, hw'⟩ := hh
  rw [hw']
  refine hK _ _ (wpList_plain g2 fun K2 hK2 => wp_of_step (stepAt_mono (fun v w' hh => ?_) s2))
  obtain ⟨rfl, hB2⟩ := hh
  refine hK2 _ _ (wpList_plain g3 fun K3 hK3 => wp_of_step (stepAt_mono (fun v w3 hh => ?_) (s3 _ hB2)))
  obtain ⟨rfl, hB3⟩ := hh
  refine hK3 _ _ (wpList_plain g4 fun K4 hK4 => wp_of_step (stepAt_mono (fun v w' hh => ?_) (step_new0 hi hz h4)))
  obtain ⟨rfl, rfl⟩ := hh
  refine hK4 _ _ (wpList_plain g5 fun K5 hK5 => wp_of_step (stepAt_mono (fun v w' hh => ?_) (step_new0 hi hz h5)))
  obtain ⟨rfl, rfl⟩ := hh
  refine hK5 _ _ ?_
  have hBa := hB2.trans (hB3.mono hB2.size)
  have hn : w3.heap.size + 1 = (w3.alloc (.cells (Value.agg z.toArray).cells t)).heap.size := by simp
  rw [← hn]
  have b1 : Blk (w3.alloc (.cells (Value.agg z.toArray).cells t)) w3.heap.size t z.toArray := World.alloc_heap_new w3 _
  have hBb : Below w.heap.size w (w3.alloc (.cells (Value.agg z.toArray).cells t)) := hBa.alloc hBa.size _
  obtain ⟨W4, hW4⟩ : ∃ W, W = w3.alloc (.cells (Value.agg z.toArray).cells t) := ⟨_, rfl⟩
  rw [← hW4] at b1 hBb hn ⊢
  have b2 : Blk (W4.alloc (.cells (Value.agg z.toArray).cells t)) (w3.heap.size + 1) t z.toArray := by rw [hn]; exact World.alloc_heap_new W4 _
  have b1' : Blk (W4.alloc (.cells (Value.agg z.toArray).cells t)) w3.heap.size t z.toArray := b1.alloc _
  have hBc : Below w.heap.size w (W4.alloc (.cells (Value.agg z.toArray).cells t)) := hBb.alloc hBb.size _
  obtain ⟨W5, hW5⟩ : ∃ W, W = W4.alloc (.cells (Value.agg z.toArray).cells t) := ⟨_, rfl⟩
  rw [← hW5] at b2 b1' hBc ⊢
  have sp1 : spl z.toArray 0 cs1 = cs1.toArray := spl_all _ cs1 (by simp [hs1])
  have sp2 : spl z.toArray 0 cs2 = cs2.toArray := spl_all _ cs2 (by simp [hs2])
  refine wpList_put g6 t x6 y6 h6 (e6 _ _) (f6 _ _) b1' (by simp [hs1]) (by rw [hi]; simp [hs0, hs1]) one1 sp1 fun X hX bX => ?_
  have b2X := hX.blk b2 (by omega)
  have hBX := below_put hBc hX hBa.size
  refine wpList_put g7 t x7 y7 h7 (e7 _ _) (f7 _ _) b2X (by simp [hs2]) (by rw [hi]; simp [hs0, hs2]) one2 sp2 fun Y hY bY => ?_
  exact H Y _ (below_put hBX hY (by have := hBa.size; omega)) hBa.size (hY.blk bX (by omega)) bY
end Go.Proofs.YtoiampgfnidfdaaGreatDoor
