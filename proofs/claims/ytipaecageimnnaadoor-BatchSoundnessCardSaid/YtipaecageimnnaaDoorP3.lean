/-
  Same, Made and Exactly of the reference's polynomials, by contract.
-/
import Derived.Test.YtipaecageimnnaaDoorCpm
namespace Go.Proofs.YtipaecageimnnaaDoor
open Go.RowKit

set_option maxRecDepth 100000 in
set_option maxHeartbeats 1000000 in
theorem xSame3 (xs : List E) (v1 v2 : Value) (lo1 hi1 lo2 hi2 : Nat) (w : World) (h1 : ExtS lo1 hi1 w v1 xs) (h2 : ExtS lo2 hi2 w v2 xs) :
    Calls Tryd.prog 14 #[v1, v2] w (Ret (.bool true) w) := by
  obtain ⟨A1, cap1, rfl⟩ := h1.len
  obtain ⟨A2, cap2, rfl⟩ := h2.len
  have hlen := h1.2.1
  have hnn : (((xs.length : Int) != (xs.length : Int))) = false := by simp
  go_enter Tryd.func14, Tryd.ntmps14
  go_wp2
  go_loopw [5] (fun i wr => ∃ k : Nat, k ≤ xs.length ∧ i = .int .i64 k ∧ Below w.heap.size w wr) (fun i _ => xs.length - (intOf i).toNat)
  case atStart => exact ⟨0, Nat.zero_le _, rfl, Below.refl _ _⟩
  case round =>
    obtain ⟨k, hk, rfl, hB⟩ := hrel
    by_cases hlt : k < xs.length
    · obtain ⟨g, off, cap', hv, q1, q2, q3, q4, q5⟩ := exts_cells h1 (by omega)
      cases hv
      obtain ⟨g', off', cap'', hv, r1, r2, r3, r4, r5⟩ := exts_cells h2 (by omega)
      cases hv
      obtain ⟨x, hx⟩ : ∃ x, xs[k]? = some x := ⟨xs[k], List.getElem?_eq_getElem hlt⟩
      obtain ⟨d1, d2⟩ := q5 k x hx
      obtain ⟨d3, d4⟩ := r5 k x hx
      have c1 := gw_cell (W := wr) (Nat.lt_of_lt_of_le q4 hB.size) ((hB.cell (p := ⟨g, off + k * 2, none⟩) q4).trans d1)
      have c2 := gw_cell (W := wr) (Nat.lt_of_lt_of_le q4 hB.size) ((hB.cell (p := ⟨g, off + k * 2 + 1, none⟩) q4).trans d2)
      have c3 := gw_cell (W := wr) (Nat.lt_of_lt_of_le r4 hB.size) ((hB.cell (p := ⟨g', off' + k * 2, none⟩) r4).trans d3)
      have c4 := gw_cell (W := wr) (Nat.lt_of_lt_of_le r4 hB.size) ((hB.cell (p := ⟨g', off' + k * 2 + 1, none⟩) r4).trans d4)
      clear q5 r5 d1 d2 d3 d4 hx h1 h2
      go_wp2
      refine wp_region_rg 9 [] (by kernel_rfl) (by kernel_rfl) (by kernel_rfl) trivial ?_
      refine rg_det rfl rfl rfl (fun K hK => ?_)
      go_big_quiet_op
      refine hK _ ?_; clear hK K
      refine rg_det rfl rfl rfl (fun K hK => ?_)
      go_big_quiet_op
      refine hK _ ?_; clear hK K
      refine rg_det rfl rfl rfl (fun K hK => ?_)
      go_big_quiet_op
      refine hK _ ?_; clear hK K
      refine rg_det rfl rfl rfl (fun K hK => ?_)
      go_big_quiet_op
      refine hK _ ?_; clear hK K
      refine rg_det rfl rfl rfl (fun K hK => ?_)
      go_big_quiet_op
      refine hK _ ?_; clear hK K
      refine rg_det rfl rfl rfl (fun K hK => ?_)
      go_big_quiet_op
      refine hK _ ?_; clear hK K
      refine rg_det rfl rfl rfl (fun K hK => ?_)
      go_big_quiet_op
      refine hK _ ?_; clear hK K
      refine rg_det rfl rfl rfl (fun K hK => ?_)
      go_big_quiet_op
      refine hK _ ?_; clear hK K
      refine rg_det rfl rfl rfl (fun K hK => ?_)
      go_big_quiet_op
      refine hK _ ?_; clear hK K
      refine rg_nil (fun w' hw' hF => ?_)
      obtain ⟨z, rfl⟩ := hw'
      simp only [List.drop_succ_cons, List.drop_zero]
      go_wp2
      exact ⟨⟨k + 1, by omega, by go_num, hB.trans (z.h.mono hB.size)⟩, by simp [intOf]; omega⟩
    · go_wp2
      go_ret
      exact ⟨rfl, hB⟩

/-- The first k elements made. -/
def mdK (l : List Raw) (k : Nat) : List E := (List.range k).map (madeAt l)
theorem mdK_succ (l : List Raw) (k : Nat) : mdK l (k + 1) = mdK l k ++ [madeAt l k] := by simp [mdK, List.range_succ]
theorem mdK_length (l : List Raw) (k : Nat) : (mdK l k).length = k := by simp [mdK]
set_option maxRecDepth 100000 in
set_option maxHeartbeats 1000000 in
theorem xMade3O (l : List Raw) (n : Nat) (hn : n ≤ 1000000) (v : Value) (lo hi : Nat) (w : World) (hl : RawS lo hi w v l) :
    Calls Tryd.prog 60 #[v, .int .i64 n] w (RetR (fun lo _ v w => w.ownsRow lo 26 2 v (min l.length n) ((mdK l (min l.length n)).flatMap ec)) w) := by
  obtain ⟨A, cap, rfl⟩ := hl.1.len
  have hlen := hl.1.2.1
  obtain ⟨i0, hi0, hz0, hz1, hz2⟩ := info_parts ext_info
  go_enter Tryd.func60, Tryd.ntmps60
  go_wp2
  go_loopw [5, 6] (fun v i wr => ∃ k : Nat, k ≤ l.length ∧ k ≤ n ∧ i = .int .i64 k ∧ wr.ownsRow w.heap.size 26 2 v k ((mdK l k).flatMap ec) ∧ Below w.heap.size w wr) (fun _ i _ => n - (intOf i).toNat)
  case atStart => exact ⟨0, Nat.zero_le _, Nat.zero_le _, rfl, ⟨by simp [mdK], .inr ⟨w.heap.size, 0, #[], rfl, Nat.le_refl _, World.alloc_heap_new w _, Nat.le_refl _, Nat.zero_le _, rfl, by simp [mdK]⟩⟩, (Below.refl _ _).alloc (Nat.le_refl _) _⟩
  case round =>
    obtain ⟨k, hk1, hk2, rfl, hown, hB⟩ := hrel
    by_cases hkl : k < l.length
    · by_cases hlt : k < n
      · obtain ⟨g, off, cap', hv, q1, q2, q3, q4, q5⟩ := raws_cells hl (by omega)
        cases hv
        obtain ⟨p, hp⟩ : ∃ p, l[k]? = some p := ⟨l[k], List.getElem?_eq_getElem hkl⟩
        obtain ⟨d1, d2⟩ := q5 k p hp
        obtain ⟨⟨p1, p2⟩, p3, p4⟩ := hl.2 p (List.mem_of_getElem? hp)
        have d3 := (hB.cell (p := ⟨g, off + k * 2, none⟩) q4).trans d1
        have d4 := (hB.cell (p := ⟨g, off + k * 2 + 1, none⟩) q4).trans d2
        have q6 : g < wr.heap.size := Nat.lt_of_lt_of_le q4 hB.size
        have HP := Lib.hid hp
        clear q5 d1 d2 hl hp
        go_wp2_with fail
        refine (xMade p.1 p.2 p1 p2 p3 p4 _).mono ?_
        rintro e w2 ⟨he, hb⟩
        unfold ev at he
        subst he
        go_wp2_with (at_builtin; refine wpList_app1 rfl _ _ rfl Tryd.underlying22 hi0 hz0 hz1 hz2 rfl (by decide) (cl := ec (em p.1 p.2)) rfl (ec_one _) rfl rfl (own_below hown (Nat.le_refl _) ?hX) ?hsrc ?h63 ?hby ?hbase ?_)
        case hX => exact hb.alloc hb.size _
        case hsrc => exact Blk.new_at _ _ _ (by simp)
        case h63 => unfold maxLen; omega
        case hby => omega
        case hbase => have := hB.size; have := hb.size; simp; omega
        intro v1 w3 hown3 hgrow hB3
        have hm : madeAt l k = em p.1 p.2 := by unfold madeAt; rw [HP.out]
        have hf : (mdK l (k + 1)).flatMap ec = (mdK l k).flatMap ec ++ ec (em p.1 p.2) := by rw [mdK_succ, List.flatMap_append, hm]; simp
        have HF := Lib.hid hf
        clear hm hf
        go_wp2
        exact ⟨⟨k + 1, by omega, by omega, by go_num, by rw [HF.out]; exact hown3, (hB.trans ((hb.alloc hb.size _).mono hB.size)).trans hB3⟩, by simp [intOf]; omega⟩
      · obtain rfl : k = n := by omega
        have hmn : min l.length k = k := by omega
        go_wp2
        go_ret
        exact ⟨_, rfl, by rw [hmn]; exact hown, hB⟩
    · obtain rfl : k = l.length := by omega
      have hmn : min l.length n = l.length := by omega
      go_wp2
      go_ret
      exact ⟨_, rfl, by rw [hmn]; exact hown, hB⟩
theorem mdK_made (l : List Raw) (n : Nat) : ∀ j, (mdK l (min l.length n)) ++ List.replicate j 0 = (List.range (min l.length n + j)).map (fun i => if i < min l.length n then madeAt l i else 0)
  | 0 => by
    rw [List.replicate_zero, List.append_nil, Nat.add_zero]
    exact List.map_congr_left fun i hi => (if_pos (List.mem_range.1 hi)).symm
  | j + 1 => by
    rw [List.replicate_succ', ← List.append_assoc, mdK_made l n j, ← Nat.add_assoc, List.range_succ, List.map_append]
    congr 1
    show [0] = [if min l.length n + j < min l.length n then madeAt l (min l.length n + j) else 0]
    rw [if_neg (by omega)]
def lenV : Value → Nat
  | .slice _ n _ => n
  | _ => 0
theorem own_len {w : World} {base n size : Nat} {e : TypeId} {v : Value} {xs : List Value} (h : w.ownsRow base e size v n xs) : ∃ A c, v = .slice A n c := by
  rcases h.2 with ⟨rfl, rfl⟩ | ⟨g, cap, cur, rfl, _⟩
  · exact ⟨_, _, rfl⟩
  · exact ⟨_, _, rfl⟩
theorem mdK_all (l : List Raw) (n : Nat) : (mdK l (min l.length n)) ++ List.replicate (n - min l.length n) 0 = madeAll l n := by
  rw [mdK_made, show min l.length n + (n - min l.length n) = n by omega]
  unfold madeAll
  apply List.map_congr_left
  intro i hi
  have := List.mem_range.1 hi
  by_cases h : i < min l.length n
  · rw [if_pos h]
  · rw [if_neg h]
    unfold madeAt
    rw [List.getElem?_eq_none (by omega)]
set_option maxRecDepth 100000 in
set_option maxHeartbeats 1000000 in
theorem xExactO (l : List Raw) (n : Nat) (hn : n ≤ 1000000) (v : Value) (lo hi : Nat) (w : World) (hl : RawS lo hi w v l) :
    Calls Tryd.prog 37 #[v, .int .i64 n] w (RetR (fun lo _ v w => w.ownsRow lo 26 2 v n ((madeAll l n).flatMap ec)) w) := by
  obtain ⟨i0, hi0, hz0, hz1, hz2⟩ := info_parts ext_info
  have HM := Lib.hid (xMade3O l n hn v lo hi w hl)
  go_enter Tryd.func37, Tryd.ntmps37
  go_wp2_with fail
  refine HM.out.mono ?_
  rintro e w1 ⟨v1, rfl, ho, hb⟩
  obtain ⟨m, hm⟩ : ∃ m, m = min l.length n := ⟨_, rfl⟩
  have hmn : m ≤ n := by omega
  rw [← hm] at ho
  have HA := Lib.hid (mdK_all l n)
  rw [← hm] at HA
  clear hm
  go_wp2
  go_loopw [5] (fun v wr => ∃ k : Nat, m ≤ k ∧ k ≤ n ∧ wr.ownsRow w.heap.size 26 2 v k ((mdK l m ++ List.replicate (k - m) 0).flatMap ec) ∧ Below w.heap.size w wr) (fun v _ => n - lenV v)
  case atStart => exact ⟨m, Nat.le_refl _, hmn, by rw [Nat.sub_self, List.replicate_zero, List.append_nil]; exact ho, hb⟩
  case round =>
    obtain ⟨k, hk1, hk2, hown, hB⟩ := hrel
    obtain ⟨A, c, rfl⟩ := own_len hown
    obtain ⟨row, hrow⟩ : ∃ row, row = (mdK l m ++ List.replicate (k - m) 0).flatMap ec := ⟨_, rfl⟩
    rw [← hrow] at hown
    by_cases hlt : k < n
    · have hf : (mdK l m ++ List.replicate (k + 1 - m) 0).flatMap ec = row ++ ec 0 := by
        rw [hrow, show k + 1 - m = (k - m) + 1 by omega, List.replicate_succ', ← List.append_assoc, List.flatMap_append]; simp
      have HF := Lib.hid hf
      clear hf hrow
      go_wp2_with (at_builtin; refine wpList_app1 rfl _ _ rfl Tryd.underlying22 hi0 hz0 hz1 hz2 rfl (by decide) (cl := ec 0) rfl (ec_one _) rfl rfl (own_below hown (Nat.le_refl _) ?hX) ?hsrc ?h63 ?hby ?hbase ?_)
      case hX => exact (Below.refl _ _).alloc (by simp) _
      case hsrc => exact Blk.new_at _ _ _ (by simp)
      case h63 => unfold maxLen; omega
      case hby => omega
      case hbase => have := hB.size; simp; omega
      intro v1 w3 hown3 hgrow hB3
      obtain ⟨A', c', hv⟩ := own_len hown3
      subst hv
      go_wp2
      exact ⟨⟨k + 1, by omega, by omega, by rw [HF.out]; exact hown3, (hB.trans (((Below.refl _ _).alloc (by simp) _).mono hB.size)).trans hB3⟩, by simp [lenV]; omega⟩
    · obtain rfl : k = n := by omega
      go_wp2
      go_ret
      exact ⟨_, rfl, by rw [← HA.out, ← hrow]; exact hown, hB⟩
theorem xExact (l : List Raw) (n : Nat) (hn : n ≤ 1000000) (v : Value) (lo hi : Nat) (w : World) (hl : RawS lo hi w v l) :
    Calls Tryd.prog 37 #[v, .int .i64 n] w (RetR (ExtA (madeAll l n)) w) :=
  (xExactO l n hn v lo hi w hl).mono fun e w' ⟨v, h1, h2, h3⟩ => ⟨v, h1, exts_of_own h2 (madeAll_length _ _) (by omega) (Nat.le_refl _), h3⟩
theorem xMade3 (l : List Raw) (n : Nat) (hn : n ≤ 1000000) (v : Value) (lo hi : Nat) (w : World) (hl : RawS lo hi w v l) :
    Calls Tryd.prog 60 #[v, .int .i64 n] w (RetR (ExtA (mdK l (min l.length n))) w) :=
  (xMade3O l n hn v lo hi w hl).mono fun e w' ⟨v, h1, h2, h3⟩ => ⟨v, h1, exts_of_own h2 (mdK_length _ _) (by omega) (Nat.le_refl _), h3⟩
end Go.Proofs.YtipaecageimnnaaDoor
