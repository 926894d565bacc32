/-
  Completeness of the sum-check in plain mathematics.
  Same, Made and Exactly of the reference's polynomials, by contract.
  A cut of a row of elements.
-/
import Derived.Test.YtnddfeidggcplaaGreatVf2
namespace Go.Proofs.YtnddfeidggcplaaGreat

theorem AllLen.pos {tabs : List (List E)} {r : E} (h0 : 0 < tabs.length) : 0 < (bndE tabs r).length := by rw [bndE_length]; exact h0
/-- The round polynomial at 0 and 1 adds up. -/
theorem rnd_sum (tabs : List (List E)) (ps : List Trm) (n : Nat) (h : AllLen tabs (2 * n)) (h0 : 0 < tabs.length) : (rndE tabs ps).getD 0 0 + (rndE tabs ps).getD 1 0 = totE tabs ps := by
  have hd := degE_pos ps
  rw [rndE_get tabs ps 0 (by omega), rndE_get tabs ps 1 (by omega), nodeE_zero, nodeE_one]
  exact tot_ends tabs ps n h h0
/-- The final value. -/
theorem tot_one (tabs : List (List E)) (ps : List Trm) (h : AllLen tabs 1) (h0 : 0 < tabs.length) : totE tabs ps = finE (valL (prvV tabs [])) ps := by
  have hl : lenT tabs = 1 := h.lenT h0
  unfold totE
  rw [hl, totK_succ]
  show 0 + finE (valT tabs 0) ps = _
  rw [E.zero_add]
  congr 1
  funext k
  show (tabs.getD k []).getD 0 0 = (tabs.map fun t => t.getD 0 0).getD k 0
  by_cases hk : k < tabs.length
  · simp [List.getD, hk]
  · simp [List.getD, hk]
theorem steps_tot (ps : List Trm) (h3 : degE ps ≤ 3) : ∀ (coins : List E) (tabs : List (List E)), AllLen tabs (2 ^ coins.length) → 0 < tabs.length →
    ∃ xs : List (E × Int), stepsL (degE ps) (totE tabs ps) (prvR tabs ps coins) coins = xs ∧ lastS (totE tabs ps) xs = (finE (valL (prvV tabs coins)) ps, 0)
  | [], tabs, h, h0 => ⟨[], rfl, by
    show (totE tabs ps, (0 : Int)) = _
    rw [tot_one tabs ps h h0]⟩
  | c :: cs, tabs, h, h0 => by
    have h' : AllLen tabs (2 * 2 ^ cs.length) := by rw [← Nat.pow_succ']; exact h
    obtain ⟨xs, h1, h2⟩ := steps_tot ps h3 cs (bndE tabs c) (h'.bnd c) (AllLen.pos h0)
    refine ⟨(totE (bndE tabs c) ps, 0) :: xs, ?_, ?_⟩
    · show stepsL (degE ps) (totE tabs ps) (rndE tabs ps :: prvR (bndE tabs c) ps cs) (c :: cs) = _
      rw [stepsL, rndE_length, if_neg (fun h => h rfl), if_neg (fun h => h (rnd_sum tabs ps _ h' h0)), rnd_at tabs ps _ h' h0 h3 c, h1]
    · exact h2
/-- Completeness. -/
theorem vrf_complete (tabs : List (List E)) (ps : List Trm) (coins : List E) (h : AllLen tabs (2 ^ coins.length)) (h0 : 0 < tabs.length) (h3 : degE ps ≤ 3) :
    vrfE (degE ps : Int) (totE tabs ps) (prvR tabs ps coins) coins = (finE (valL (prvV tabs coins)) ps, 0) := by
  have hd := degE_pos ps
  obtain ⟨xs, h1, h2⟩ := steps_tot ps h3 coins tabs h h0
  unfold vrfE
  rw [if_neg (by rw [prvR_length]; omega), Int.toNat_natCast, h1, h2]
theorem headD_getD (l : List E) : l.headD 0 = l.getD 0 0 := by cases l <;> rfl
theorem bndAll_map : ∀ (coins : List E) (tabs : List (List E)), bndAll tabs coins = tabs.map fun t => evalL t coins
  | [], tabs => by show tabs = tabs.map fun t => t; simp
  | c :: cs, tabs => by
    show bndAll (bndE tabs c) cs = _
    rw [bndAll_map cs, bndE, List.map_map]
    rfl
/-- The remaining values are the multilinear extensions at the coins. -/
theorem prvV_mev (tabs : List (List E)) (coins : List E) : prvV tabs coins = tabs.map fun t => mev t coins := by
  unfold prvV mev
  rw [bndAll_map, List.map_map]
  apply List.map_congr_left
  intro t _
  exact (headD_getD _).symm
theorem E.sub_of (a b : E) (h : a + b = b) : a = 0 := by
  have := E.cancel
  apply E.ext_
  · have := congrArg E.a h; simp only [add_a, zero_a] at *; grind
  · have := congrArg E.b h; simp only [add_b, zero_b] at *; grind
/-- A wrong claim. -/
theorem vrf_wrong (tabs : List (List E)) (ps : List Trm) (c : E) (cs : List E) (v : E) (h : AllLen tabs (2 ^ (c :: cs).length)) (h0 : 0 < tabs.length) (h3 : degE ps ≤ 3) (hv : v ≠ totE tabs ps) :
    vrfE (degE ps : Int) v (prvR tabs ps (c :: cs)) (c :: cs) = (0, 60) := by
  have hd := degE_pos ps
  have h' : AllLen tabs (2 * 2 ^ cs.length) := by rw [← Nat.pow_succ']; exact h
  unfold vrfE
  rw [if_neg (by rw [prvR_length]; omega), Int.toNat_natCast]
  show lastS v (stepsL (degE ps) v (rndE tabs ps :: prvR (bndE tabs c) ps cs) (c :: cs)) = _
  rw [stepsL, rndE_length, if_neg (fun h => h rfl), if_pos (by rw [rnd_sum tabs ps _ h' h0]; exact fun e => hv e.symm)]
  rfl
end Go.Proofs.YtnddfeidggcplaaGreat
namespace Go.Proofs.YtnddfeidggcplaaGreat
open Go.RowKit

set_option maxRecDepth 100000 in
set_option maxHeartbeats 1000000 in
theorem xSame3 (xs : List E) (v1 v2 : Value) (lo1 hi1 lo2 hi2 : Nat) (w : World) (h1 : ExtS lo1 hi1 w v1 xs) (h2 : ExtS lo2 hi2 w v2 xs) :
    Calls Tryz.prog 67 #[v1, v2] w (Ret (.bool true) w) := by
  obtain ⟨A1, cap1, rfl⟩ := h1.len
  obtain ⟨A2, cap2, rfl⟩ := h2.len
  have hlen := h1.2.1
  have hnn : (((xs.length : Int) != (xs.length : Int))) = false := by simp
  go_enter Tryz.func67, Tryz.ntmps67
  go_wp2
  go_loopw [5] (fun i wr => ∃ k : Nat, k ≤ xs.length ∧ i = .int .i64 k ∧ Below w.heap.size w wr) (fun i _ => xs.length - (intOf i).toNat)
  case atStart => exact ⟨0, Nat.zero_le _, rfl, Below.refl _ _⟩
  case round =>
    obtain ⟨k, hk, rfl, hB⟩ := hrel
    by_cases hlt : k < xs.length
    · obtain ⟨g, off, cap', hv, q1, q2, q3, q4, q5⟩ := exts_cells h1 (by omega)
      cases hv
      obtain ⟨g', off', cap'', hv, r1, r2, r3, r4, r5⟩ := exts_cells h2 (by omega)
      cases hv
      obtain ⟨x, hx⟩ : ∃ x, xs[k]? = some x := ⟨xs[k], List.getElem?_eq_getElem hlt⟩
      obtain ⟨d1, d2⟩ := q5 k x hx
      obtain ⟨d3, d4⟩ := r5 k x hx
      have c1 := gw_cell (W := wr) (Nat.lt_of_lt_of_le q4 hB.size) ((hB.cell (p := ⟨g, off + k * 2, none⟩) q4).trans d1)
      have c2 := gw_cell (W := wr) (Nat.lt_of_lt_of_le q4 hB.size) ((hB.cell (p := ⟨g, off + k * 2 + 1, none⟩) q4).trans d2)
      have c3 := gw_cell (W := wr) (Nat.lt_of_lt_of_le r4 hB.size) ((hB.cell (p := ⟨g', off' + k * 2, none⟩) r4).trans d3)
      have c4 := gw_cell (W := wr) (Nat.lt_of_lt_of_le r4 hB.size) ((hB.cell (p := ⟨g', off' + k * 2 + 1, none⟩) r4).trans d4)
      clear q5 r5 d1 d2 d3 d4 hx h1 h2
      go_wp2
      refine wp_region_rg 9 [] (by kernel_rfl) (by kernel_rfl) (by kernel_rfl) trivial ?_
      refine rg_det rfl rfl rfl (fun K hK => ?_)
      go_big_quiet_op
      refine hK _ ?_; clear hK K
      refine rg_det rfl rfl rfl (fun K hK => ?_)
      go_big_quiet_op
      refine hK _ ?_; clear hK K
      refine rg_det rfl rfl rfl (fun K hK => ?_)
      go_big_quiet_op
      refine hK _ ?_; clear hK K
      refine rg_det rfl rfl rfl (fun K hK => ?_)
      go_big_quiet_op
      refine hK _ ?_; clear hK K
      refine rg_det rfl rfl rfl (fun K hK => ?_)
      go_big_quiet_op
      refine hK _ ?_; clear hK K
      refine rg_det rfl rfl rfl (fun K hK => ?_)
      go_big_quiet_op
      refine hK _ ?_; clear hK K
      refine rg_det rfl rfl rfl (fun K hK => ?_)
      go_big_quiet_op
      refine hK _ ?_; clear hK K
      refine rg_det rfl rfl rfl (fun K hK => ?_)
      go_big_quiet_op
      refine hK _ ?_; clear hK K
      refine rg_det rfl rfl rfl (fun K hK => ?_)
      go_big_quiet_op
      refine hK _ ?_; clear hK K
      refine rg_nil (fun w' hw' hF => ?_)
      obtain ⟨z, rfl⟩ := hw'
      simp only [List.drop_succ_cons, List.drop_zero]
      go_wp2
      exact ⟨⟨k + 1, by omega, by go_num, hB.trans (z.h.mono hB.size)⟩, by simp [intOf]; omega⟩
    · go_wp2
      go_ret
      exact ⟨rfl, hB⟩

/-- The first k elements made. -/
def mdK (l : List Raw) (k : Nat) : List E := (List.range k).map (madeAt l)
theorem mdK_succ (l : List Raw) (k : Nat) : mdK l (k + 1) = mdK l k ++ [madeAt l k] := by simp [mdK, List.range_succ]
theorem mdK_length (l : List Raw) (k : Nat) : (mdK l k).length = k := by simp [mdK]
set_option maxRecDepth 100000 in
set_option maxHeartbeats 1000000 in
theorem xMade3O (l : List Raw) (n : Nat) (hn : n ≤ 1000000) (v : Value) (lo hi : Nat) (w : World) (hl : RawS lo hi w v l) :
    Calls Tryz.prog 83 #[v, .int .i64 n] w (RetR (fun lo _ v w => w.ownsRow lo 30 2 v (min l.length n) ((mdK l (min l.length n)).flatMap ec)) w) := by
  obtain ⟨A, cap, rfl⟩ := hl.1.len
  have hlen := hl.1.2.1
  obtain ⟨i0, hi0, hz0, hz1, hz2⟩ := info_parts ext_info
  go_enter Tryz.func83, Tryz.ntmps83
  go_wp2
  go_loopw [5, 6] (fun v i wr => ∃ k : Nat, k ≤ l.length ∧ k ≤ n ∧ i = .int .i64 k ∧ wr.ownsRow w.heap.size 30 2 v k ((mdK l k).flatMap ec) ∧ Below w.heap.size w wr) (fun _ i _ => n - (intOf i).toNat)
  case atStart => exact ⟨0, Nat.zero_le _, Nat.zero_le _, rfl, ⟨by simp [mdK], .inr ⟨w.heap.size, 0, #[], rfl, Nat.le_refl _, World.alloc_heap_new w _, Nat.le_refl _, Nat.zero_le _, rfl, by simp [mdK]⟩⟩, (Below.refl _ _).alloc (Nat.le_refl _) _⟩
  case round =>
    obtain ⟨k, hk1, hk2, rfl, hown, hB⟩ := hrel
    by_cases hkl : k < l.length
    · by_cases hlt : k < n
      · obtain ⟨g, off, cap', hv, q1, q2, q3, q4, q5⟩ := raws_cells hl (by omega)
        cases hv
        obtain ⟨p, hp⟩ : ∃ p, l[k]? = some p := ⟨l[k], List.getElem?_eq_getElem hkl⟩
        obtain ⟨d1, d2⟩ := q5 k p hp
        obtain ⟨⟨p1, p2⟩, p3, p4⟩ := hl.2 p (List.mem_of_getElem? hp)
        have d3 := (hB.cell (p := ⟨g, off + k * 2, none⟩) q4).trans d1
        have d4 := (hB.cell (p := ⟨g, off + k * 2 + 1, none⟩) q4).trans d2
        have q6 : g < wr.heap.size := Nat.lt_of_lt_of_le q4 hB.size
        have HP := Lib.hid hp
        clear q5 d1 d2 hl hp
        go_wp2_with fail
        refine (xMade p.1 p.2 p1 p2 p3 p4 _).mono ?_
        rintro e w2 ⟨he, hb⟩
        unfold ev at he
        subst he
        go_wp2_with (at_builtin; refine wpList_app1 rfl _ _ rfl Tryz.underlying22 hi0 hz0 hz1 hz2 rfl (by decide) (cl := ec (em p.1 p.2)) rfl (ec_one _) rfl rfl (own_below hown (Nat.le_refl _) ?hX) ?hsrc ?h63 ?hby ?hbase ?_)
        case hX => exact hb.alloc hb.size _
        case hsrc => exact Blk.new_at _ _ _ (by simp)
        case h63 => unfold maxLen; omega
        case hby => omega
        case hbase => have := hB.size; have := hb.size; simp; omega
        intro v1 w3 hown3 hgrow hB3
        have hm : madeAt l k = em p.1 p.2 := by unfold madeAt; rw [HP.out]
        have hf : (mdK l (k + 1)).flatMap ec = (mdK l k).flatMap ec ++ ec (em p.1 p.2) := by rw [mdK_succ, List.flatMap_append, hm]; simp
        have HF := Lib.hid hf
        clear hm hf
        go_wp2
        exact ⟨⟨k + 1, by omega, by omega, by go_num, by rw [HF.out]; exact hown3, (hB.trans ((hb.alloc hb.size _).mono hB.size)).trans hB3⟩, by simp [intOf]; omega⟩
      · obtain rfl : k = n := by omega
        have hmn : min l.length k = k := by omega
        go_wp2
        go_ret
        exact ⟨_, rfl, by rw [hmn]; exact hown, hB⟩
    · obtain rfl : k = l.length := by omega
      have hmn : min l.length n = l.length := by omega
      go_wp2
      go_ret
      exact ⟨_, rfl, by rw [hmn]; exact hown, hB⟩
theorem mdK_made (l : List Raw) (n : Nat) : ∀ j, (mdK l (min l.length n)) ++ List.replicate j 0 = (List.range (min l.length n + j)).map (fun i => if i < min l.length n then madeAt l i else 0)
  | 0 => by
    rw [List.replicate_zero, List.append_nil, Nat.add_zero]
    exact List.map_congr_left fun i hi => (if_pos (List.mem_range.1 hi)).symm
  | j + 1 => by
    rw [List.replicate_succ', ← List.append_assoc, mdK_made l n j, ← Nat.add_assoc, List.range_succ, List.map_append]
    congr 1
    show [0] = [if min l.length n + j < min l.length n then madeAt l (min l.length n + j) else 0]
    rw [if_neg (by omega)]
def lenV : Value → Nat
  | .slice _ n _ => n
  | _ => 0
theorem own_len {w : World} {base n size : Nat} {e : TypeId} {v : Value} {xs : List Value} (h : w.ownsRow base e size v n xs) : ∃ A c, v = .slice A n c := by
  rcases h.2 with ⟨rfl, rfl⟩ | ⟨g, cap, cur, rfl, _⟩
  · exact ⟨_, _, rfl⟩
  · exact ⟨_, _, rfl⟩
theorem mdK_all (l : List Raw) (n : Nat) : (mdK l (min l.length n)) ++ List.replicate (n - min l.length n) 0 = madeAll l n := by
  rw [mdK_made, show min l.length n + (n - min l.length n) = n by omega]
  unfold madeAll
  apply List.map_congr_left
  intro i hi
  have := List.mem_range.1 hi
  by_cases h : i < min l.length n
  · rw [if_pos h]
  · rw [if_neg h]
    unfold madeAt
    rw [List.getElem?_eq_none (by omega)]
set_option maxRecDepth 100000 in
set_option maxHeartbeats 1000000 in
theorem xExactO (l : List Raw) (n : Nat) (hn : n ≤ 1000000) (v : Value) (lo hi : Nat) (w : World) (hl : RawS lo hi w v l) :
    Calls Tryz.prog 41 #[v, .int .i64 n] w (RetR (fun lo _ v w => w.ownsRow lo 30 2 v n ((madeAll l n).flatMap ec)) w) := by
  obtain ⟨i0, hi0, hz0, hz1, hz2⟩ := info_parts ext_info
  have HM := Lib.hid (xMade3O l n hn v lo hi w hl)
  go_enter Tryz.func41, Tryz.ntmps41
  go_wp2_with fail
  refine HM.out.mono ?_
  rintro e w1 ⟨v1, rfl, ho, hb⟩
  obtain ⟨m, hm⟩ : ∃ m, m = min l.length n := ⟨_, rfl⟩
  have hmn : m ≤ n := by omega
  rw [← hm] at ho
  have HA := Lib.hid (mdK_all l n)
  rw [← hm] at HA
  clear hm
  go_wp2
  go_loopw [5] (fun v wr => ∃ k : Nat, m ≤ k ∧ k ≤ n ∧ wr.ownsRow w.heap.size 30 2 v k ((mdK l m ++ List.replicate (k - m) 0).flatMap ec) ∧ Below w.heap.size w wr) (fun v _ => n - lenV v)
  case atStart => exact ⟨m, Nat.le_refl _, hmn, by rw [Nat.sub_self, List.replicate_zero, List.append_nil]; exact ho, hb⟩
  case round =>
    obtain ⟨k, hk1, hk2, hown, hB⟩ := hrel
    obtain ⟨A, c, rfl⟩ := own_len hown
    obtain ⟨row, hrow⟩ : ∃ row, row = (mdK l m ++ List.replicate (k - m) 0).flatMap ec := ⟨_, rfl⟩
    rw [← hrow] at hown
    by_cases hlt : k < n
    · have hf : (mdK l m ++ List.replicate (k + 1 - m) 0).flatMap ec = row ++ ec 0 := by
        rw [hrow, show k + 1 - m = (k - m) + 1 by omega, List.replicate_succ', ← List.append_assoc, List.flatMap_append]; simp
      have HF := Lib.hid hf
      clear hf hrow
      go_wp2_with (at_builtin; refine wpList_app1 rfl _ _ rfl Tryz.underlying22 hi0 hz0 hz1 hz2 rfl (by decide) (cl := ec 0) rfl (ec_one _) rfl rfl (own_below hown (Nat.le_refl _) ?hX) ?hsrc ?h63 ?hby ?hbase ?_)
      case hX => exact (Below.refl _ _).alloc (by simp) _
      case hsrc => exact Blk.new_at _ _ _ (by simp)
      case h63 => unfold maxLen; omega
      case hby => omega
      case hbase => have := hB.size; simp; omega
      intro v1 w3 hown3 hgrow hB3
      obtain ⟨A', c', hv⟩ := own_len hown3
      subst hv
      go_wp2
      exact ⟨⟨k + 1, by omega, by omega, by rw [HF.out]; exact hown3, (hB.trans (((Below.refl _ _).alloc (by simp) _).mono hB.size)).trans hB3⟩, by simp [lenV]; omega⟩
    · obtain rfl : k = n := by omega
      go_wp2
      go_ret
      exact ⟨_, rfl, by rw [← HA.out, ← hrow]; exact hown, hB⟩
theorem xExact (l : List Raw) (n : Nat) (hn : n ≤ 1000000) (v : Value) (lo hi : Nat) (w : World) (hl : RawS lo hi w v l) :
    Calls Tryz.prog 41 #[v, .int .i64 n] w (RetR (ExtA (madeAll l n)) w) :=
  (xExactO l n hn v lo hi w hl).mono fun e w' ⟨v, h1, h2, h3⟩ => ⟨v, h1, exts_of_own h2 (madeAll_length _ _) (by omega) (Nat.le_refl _), h3⟩
theorem xMade3 (l : List Raw) (n : Nat) (hn : n ≤ 1000000) (v : Value) (lo hi : Nat) (w : World) (hl : RawS lo hi w v l) :
    Calls Tryz.prog 83 #[v, .int .i64 n] w (RetR (ExtA (mdK l (min l.length n))) w) :=
  (xMade3O l n hn v lo hi w hl).mono fun e w' ⟨v, h1, h2, h3⟩ => ⟨v, h1, exts_of_own h2 (mdK_length _ _) (by omega) (Nat.le_refl _), h3⟩
end Go.Proofs.YtnddfeidggcplaaGreat
namespace Go.Proofs.YtnddfeidggcplaaGreat
open Go.RowKit
/-- A cut from the head on. -/
theorem exts_take {lo hi n k cap : Nat} {A : Option Addr} {w : World} {xs : List E} (h : ExtS lo hi w (.slice A n cap) xs) (hk : k ≤ xs.length) : ExtS lo hi w (.slice A k cap) (xs.take k) := by
  obtain ⟨h1, h2, A', cap', h3, h4, h5⟩ := h
  cases h3
  have hl : (xs.take k).length = k := by rw [List.length_take]; omega
  refine ⟨by rw [flat_length ec_len, hl], by omega, A, cap, by rw [hl], by omega, fun h0 => ?_⟩
  obtain ⟨g, off, q1, q2, q3, q4, q5⟩ := h5 (by omega)
  refine ⟨g, off, q1, q2, q3, q4, fun j u hj => q5 j u ?_⟩
  have e : xs.flatMap ec = (xs.take k).flatMap ec ++ (xs.drop k).flatMap ec := by rw [← List.flatMap_append, List.take_append_drop]
  rw [e, List.getElem?_append_left (List.getElem?_eq_some_iff.1 hj).1]
  exact hj
theorem rd_blk {W : World} {g size : Nat} {t : TypeId} {cs : List Value} {n lo hi : Nat} (h : Blk W g t cs.toArray) (hn : cs.length = n * size) (hb : n ≤ 1000000) (hlo : lo ≤ g) (hhi : g < hi) : Rd lo hi size W (.slice (some ⟨g, 0, none⟩) n n) n cs := by
  refine ⟨hn, by omega, some ⟨g, 0, none⟩, n, rfl, Nat.le_refl _, fun _ => ⟨g, 0, rfl, hlo, hhi, h.lt, fun j u hu => ?_⟩⟩
  rw [Nat.zero_add, h.cell]
  simpa using hu
end Go.Proofs.YtnddfeidggcplaaGreat
