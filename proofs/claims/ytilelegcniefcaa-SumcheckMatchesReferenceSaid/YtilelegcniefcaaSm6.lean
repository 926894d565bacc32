/-
  Same, Made and Exactly of the reference's polynomials, by contract.
  Elements read as they might have come in; integers that lie in a block; a cut.
  Sums that lie in blocks; a valid sum read as one that came in.
  The fixed examples of chapter 06, in plain mathematics.
-/
import Derived.Test.YtilelegcniefcaaCpm
import Derived.Test.YtilelegcniefcaaVa
import Derived.Test.YtilelegcniefcaaInts
namespace Go.Proofs.Ytilelegcniefcaa
open Go.RowKit

set_option maxRecDepth 100000 in
set_option maxHeartbeats 1000000 in
theorem xSame3 (xs : List E) (v1 v2 : Value) (lo1 hi1 lo2 hi2 : Nat) (w : World) (h1 : ExtS lo1 hi1 w v1 xs) (h2 : ExtS lo2 hi2 w v2 xs) :
    Calls Try.prog 19 #[v1, v2] w (Ret (.bool true) w) := by
  obtain ⟨A1, cap1, rfl⟩ := h1.len
  obtain ⟨A2, cap2, rfl⟩ := h2.len
  have hlen := h1.2.1
  have hnn : (((xs.length : Int) != (xs.length : Int))) = false := by simp
  go_enter Try.func19, Try.ntmps19
  go_wp2
  go_loopw [5] (fun i wr => ∃ k : Nat, k ≤ xs.length ∧ i = .int .i64 k ∧ Below w.heap.size w wr) (fun i _ => xs.length - (intOf i).toNat)
  case atStart => exact ⟨0, Nat.zero_le _, rfl, Below.refl _ _⟩
  case round =>
    obtain ⟨k, hk, rfl, hB⟩ := hrel
    by_cases hlt : k < xs.length
    · obtain ⟨g, off, cap', hv, q1, q2, q3, q4, q5⟩ := exts_cells h1 (by omega)
      cases hv
      obtain ⟨g', off', cap'', hv, r1, r2, r3, r4, r5⟩ := exts_cells h2 (by omega)
      cases hv
      obtain ⟨x, hx⟩ : ∃ x, xs[k]? = some x := ⟨xs[k], List.getElem?_eq_getElem hlt⟩
      obtain ⟨d1, d2⟩ := q5 k x hx
      obtain ⟨d3, d4⟩ := r5 k x hx
      have c1 := gw_cell (W := wr) (Nat.lt_of_lt_of_le q4 hB.size) ((hB.cell (p := ⟨g, off + k * 2, none⟩) q4).trans d1)
      have c2 := gw_cell (W := wr) (Nat.lt_of_lt_of_le q4 hB.size) ((hB.cell (p := ⟨g, off + k * 2 + 1, none⟩) q4).trans d2)
      have c3 := gw_cell (W := wr) (Nat.lt_of_lt_of_le r4 hB.size) ((hB.cell (p := ⟨g', off' + k * 2, none⟩) r4).trans d3)
      have c4 := gw_cell (W := wr) (Nat.lt_of_lt_of_le r4 hB.size) ((hB.cell (p := ⟨g', off' + k * 2 + 1, none⟩) r4).trans d4)
      clear q5 r5 d1 d2 d3 d4 hx h1 h2
      go_wp2
      refine wp_region_rg 9 [] (by kernel_rfl) (by kernel_rfl) (by kernel_rfl) trivial ?_
      refine rg_det rfl rfl rfl (fun K hK => ?_)
      go_big_quiet_op
      refine hK _ ?_; clear hK K
      refine rg_det rfl rfl rfl (fun K hK => ?_)
      go_big_quiet_op
      refine hK _ ?_; clear hK K
      refine rg_det rfl rfl rfl (fun K hK => ?_)
      go_big_quiet_op
      refine hK _ ?_; clear hK K
      refine rg_det rfl rfl rfl (fun K hK => ?_)
      go_big_quiet_op
      refine hK _ ?_; clear hK K
      refine rg_det rfl rfl rfl (fun K hK => ?_)
      go_big_quiet_op
      refine hK _ ?_; clear hK K
      refine rg_det rfl rfl rfl (fun K hK => ?_)
      go_big_quiet_op
      refine hK _ ?_; clear hK K
      refine rg_det rfl rfl rfl (fun K hK => ?_)
      go_big_quiet_op
      refine hK _ ?_; clear hK K
      refine rg_det rfl rfl rfl (fun K hK => ?_)
      go_big_quiet_op
      refine hK _ ?_; clear hK K
      refine rg_det rfl rfl rfl (fun K hK => ?_)
      go_big_quiet_op
      refine hK _ ?_; clear hK K
      refine rg_nil (fun w' hw' hF => ?_)
      obtain ⟨z, rfl⟩ := hw'
      simp only [List.drop_succ_cons, List.drop_zero]
      go_wp2
      exact ⟨⟨k + 1, by omega, by go_num, hB.trans (z.h.mono hB.size)⟩, by simp [intOf]; omega⟩
    · go_wp2
      go_ret
      exact ⟨rfl, hB⟩

/-- The first k elements made. -/
def mdK (l : List Raw) (k : Nat) : List E := (List.range k).map (madeAt l)
theorem mdK_succ (l : List Raw) (k : Nat) : mdK l (k + 1) = mdK l k ++ [madeAt l k] := by simp [mdK, List.range_succ]
theorem mdK_length (l : List Raw) (k : Nat) : (mdK l k).length = k := by simp [mdK]
set_option maxRecDepth 100000 in
set_option maxHeartbeats 1000000 in
theorem xMade3O (l : List Raw) (n : Nat) (hn : n ≤ 1000000) (v : Value) (lo hi : Nat) (w : World) (hl : RawS lo hi w v l) :
    Calls Try.prog 30 #[v, .int .i64 n] w (RetR (fun lo _ v w => w.ownsRow lo 43 2 v (min l.length n) ((mdK l (min l.length n)).flatMap ec)) w) := by
  obtain ⟨A, cap, rfl⟩ := hl.1.len
  have hlen := hl.1.2.1
  obtain ⟨i0, hi0, hz0, hz1, hz2⟩ := info_parts ext_info
  go_enter Try.func30, Try.ntmps30
  go_wp2
  go_loopw [5, 6] (fun v i wr => ∃ k : Nat, k ≤ l.length ∧ k ≤ n ∧ i = .int .i64 k ∧ wr.ownsRow w.heap.size 43 2 v k ((mdK l k).flatMap ec) ∧ Below w.heap.size w wr) (fun _ i _ => n - (intOf i).toNat)
  case atStart => exact ⟨0, Nat.zero_le _, Nat.zero_le _, rfl, ⟨by simp [mdK], .inr ⟨w.heap.size, 0, #[], rfl, Nat.le_refl _, World.alloc_heap_new w _, Nat.le_refl _, Nat.zero_le _, rfl, by simp [mdK]⟩⟩, (Below.refl _ _).alloc (Nat.le_refl _) _⟩
  case round =>
    obtain ⟨k, hk1, hk2, rfl, hown, hB⟩ := hrel
    by_cases hkl : k < l.length
    · by_cases hlt : k < n
      · obtain ⟨g, off, cap', hv, q1, q2, q3, q4, q5⟩ := raws_cells hl (by omega)
        cases hv
        obtain ⟨p, hp⟩ : ∃ p, l[k]? = some p := ⟨l[k], List.getElem?_eq_getElem hkl⟩
        obtain ⟨d1, d2⟩ := q5 k p hp
        obtain ⟨⟨p1, p2⟩, p3, p4⟩ := hl.2 p (List.mem_of_getElem? hp)
        have d3 := (hB.cell (p := ⟨g, off + k * 2, none⟩) q4).trans d1
        have d4 := (hB.cell (p := ⟨g, off + k * 2 + 1, none⟩) q4).trans d2
        have q6 : g < wr.heap.size := Nat.lt_of_lt_of_le q4 hB.size
        have HP := Lib.hid hp
        clear q5 d1 d2 hl hp
        go_wp2_with fail
        refine (xMade p.1 p.2 p1 p2 p3 p4 _).mono ?_
        rintro e w2 ⟨he, hb⟩
        unfold ev at he
        subst he
        go_wp2_with (at_builtin; refine wpList_app1 rfl _ _ rfl Try.underlying22 hi0 hz0 hz1 hz2 rfl (by decide) (cl := ec (em p.1 p.2)) rfl (ec_one _) rfl rfl (own_below hown (Nat.le_refl _) ?hX) ?hsrc ?h63 ?hby ?hbase ?_)
        case hX => exact hb.alloc hb.size _
        case hsrc => exact Blk.new_at _ _ _ (by simp)
        case h63 => unfold maxLen; omega
        case hby => omega
        case hbase => have := hB.size; have := hb.size; simp; omega
        intro v1 w3 hown3 hgrow hB3
        have hm : madeAt l k = em p.1 p.2 := by unfold madeAt; rw [HP.out]
        have hf : (mdK l (k + 1)).flatMap ec = (mdK l k).flatMap ec ++ ec (em p.1 p.2) := by rw [mdK_succ, List.flatMap_append, hm]; simp
        have HF := Lib.hid hf
        clear hm hf
        go_wp2
        exact ⟨⟨k + 1, by omega, by omega, by go_num, by rw [HF.out]; exact hown3, (hB.trans ((hb.alloc hb.size _).mono hB.size)).trans hB3⟩, by simp [intOf]; omega⟩
      · obtain rfl : k = n := by omega
        have hmn : min l.length k = k := by omega
        go_wp2
        go_ret
        exact ⟨_, rfl, by rw [hmn]; exact hown, hB⟩
    · obtain rfl : k = l.length := by omega
      have hmn : min l.length n = l.length := by omega
      go_wp2
      go_ret
      exact ⟨_, rfl, by rw [hmn]; exact hown, hB⟩
theorem mdK_made (l : List Raw) (n : Nat) : ∀ j, (mdK l (min l.length n)) ++ List.replicate j 0 = (List.range (min l.length n + j)).map (fun i => if i < min l.length n then madeAt l i else 0)
  | 0 => by
    rw [List.replicate_zero, List.append_nil, Nat.add_zero]
    exact List.map_congr_left fun i hi => (if_pos (List.mem_range.1 hi)).symm
  | j + 1 => by
    rw [List.replicate_succ', ← List.append_assoc, mdK_made l n j, ← Nat.add_assoc, List.range_succ, List.map_append]
    congr 1
    show [0] = [if min l.length n + j < min l.length n then madeAt l (min l.length n + j) else 0]
    rw [if_neg (by omega)]
def lenV : Value → Nat
  | .slice _ n _ => n
  | _ => 0
theorem own_len {w : World} {base n size : Nat} {e : TypeId} {v : Value} {xs : List Value} (h : w.ownsRow base e size v n xs) : ∃ A c, v = .slice A n c := by
  rcases h.2 with ⟨rfl, rfl⟩ | ⟨g, cap, cur, rfl, _⟩
  · exact ⟨_, _, rfl⟩
  · exact ⟨_, _, rfl⟩
theorem mdK_all (l : List Raw) (n : Nat) : (mdK l (min l.length n)) ++ List.replicate (n - min l.length n) 0 = madeAll l n := by
  rw [mdK_made, show min l.length n + (n - min l.length n) = n by omega]
  unfold madeAll
  apply List.map_congr_left
  intro i hi
  have := List.mem_range.1 hi
  by_cases h : i < min l.length n
  · rw [if_pos h]
  · rw [if_neg h]
    unfold madeAt
    rw [List.getElem?_eq_none (by omega)]
set_option maxRecDepth 100000 in
set_option maxHeartbeats 1000000 in
theorem xExactO (l : List Raw) (n : Nat) (hn : n ≤ 1000000) (v : Value) (lo hi : Nat) (w : World) (hl : RawS lo hi w v l) :
    Calls Try.prog 15 #[v, .int .i64 n] w (RetR (fun lo _ v w => w.ownsRow lo 43 2 v n ((madeAll l n).flatMap ec)) w) := by
  obtain ⟨i0, hi0, hz0, hz1, hz2⟩ := info_parts ext_info
  have HM := Lib.hid (xMade3O l n hn v lo hi w hl)
  go_enter Try.func15, Try.ntmps15
  go_wp2_with fail
  refine HM.out.mono ?_
  rintro e w1 ⟨v1, rfl, ho, hb⟩
  obtain ⟨m, hm⟩ : ∃ m, m = min l.length n := ⟨_, rfl⟩
  have hmn : m ≤ n := by omega
  rw [← hm] at ho
  have HA := Lib.hid (mdK_all l n)
  rw [← hm] at HA
  clear hm
  go_wp2
  go_loopw [5] (fun v wr => ∃ k : Nat, m ≤ k ∧ k ≤ n ∧ wr.ownsRow w.heap.size 43 2 v k ((mdK l m ++ List.replicate (k - m) 0).flatMap ec) ∧ Below w.heap.size w wr) (fun v _ => n - lenV v)
  case atStart => exact ⟨m, Nat.le_refl _, hmn, by rw [Nat.sub_self, List.replicate_zero, List.append_nil]; exact ho, hb⟩
  case round =>
    obtain ⟨k, hk1, hk2, hown, hB⟩ := hrel
    obtain ⟨A, c, rfl⟩ := own_len hown
    obtain ⟨row, hrow⟩ : ∃ row, row = (mdK l m ++ List.replicate (k - m) 0).flatMap ec := ⟨_, rfl⟩
    rw [← hrow] at hown
    by_cases hlt : k < n
    · have hf : (mdK l m ++ List.replicate (k + 1 - m) 0).flatMap ec = row ++ ec 0 := by
        rw [hrow, show k + 1 - m = (k - m) + 1 by omega, List.replicate_succ', ← List.append_assoc, List.flatMap_append]; simp
      have HF := Lib.hid hf
      clear hf hrow
      go_wp2_with (at_builtin; refine wpList_app1 rfl _ _ rfl Try.underlying22 hi0 hz0 hz1 hz2 rfl (by decide) (cl := ec 0) rfl (ec_one _) rfl rfl (own_below hown (Nat.le_refl _) ?hX) ?hsrc ?h63 ?hby ?hbase ?_)
      case hX => exact (Below.refl _ _).alloc (by simp) _
      case hsrc => exact Blk.new_at _ _ _ (by simp)
      case h63 => unfold maxLen; omega
      case hby => omega
      case hbase => have := hB.size; simp; omega
      intro v1 w3 hown3 hgrow hB3
      obtain ⟨A', c', hv⟩ := own_len hown3
      subst hv
      go_wp2
      exact ⟨⟨k + 1, by omega, by omega, by rw [HF.out]; exact hown3, (hB.trans (((Below.refl _ _).alloc (by simp) _).mono hB.size)).trans hB3⟩, by simp [lenV]; omega⟩
    · obtain rfl : k = n := by omega
      go_wp2
      go_ret
      exact ⟨_, rfl, by rw [← HA.out, ← hrow]; exact hown, hB⟩
theorem xExact (l : List Raw) (n : Nat) (hn : n ≤ 1000000) (v : Value) (lo hi : Nat) (w : World) (hl : RawS lo hi w v l) :
    Calls Try.prog 15 #[v, .int .i64 n] w (RetR (ExtA (madeAll l n)) w) :=
  (xExactO l n hn v lo hi w hl).mono fun e w' ⟨v, h1, h2, h3⟩ => ⟨v, h1, exts_of_own h2 (madeAll_length _ _) (by omega) (Nat.le_refl _), h3⟩
theorem xMade3 (l : List Raw) (n : Nat) (hn : n ≤ 1000000) (v : Value) (lo hi : Nat) (w : World) (hl : RawS lo hi w v l) :
    Calls Try.prog 30 #[v, .int .i64 n] w (RetR (ExtA (mdK l (min l.length n))) w) :=
  (xMade3O l n hn v lo hi w hl).mono fun e w' ⟨v, h1, h2, h3⟩ => ⟨v, h1, exts_of_own h2 (mdK_length _ _) (by omega) (Nat.le_refl _), h3⟩
end Go.Proofs.Ytilelegcniefcaa
namespace Go.Proofs.Ytilelegcniefcaa
open Go.RowKit

theorem flat_zc : ∀ zs : List Int, (zs.flatMap zc) = zs.map fun z => .int .i64 z
  | [] => rfl
  | z :: zs => by rw [List.flatMap_cons, flat_zc zs]; rfl
theorem ints_of_blk {W : World} {g : Nat} {t : TypeId} {zs : List Int} {n lo hi : Nat} (h : Blk W g t ((zs.map fun z => Value.int .i64 z).toArray)) (hn : zs.length = n) (hb : n ≤ 1000000) (hlo : lo ≤ g) (hhi : g < hi) (hz : ∀ z ∈ zs, -1000000 ≤ z ∧ z ≤ 1000000) : IntS lo hi W (.slice (some ⟨g, 0, none⟩) n n) zs := by
  subst hn
  refine ⟨⟨by rw [flat_length zc_len], by omega, some ⟨g, 0, none⟩, zs.length, rfl, Nat.le_refl _, fun _ => ⟨g, 0, rfl, hlo, hhi, h.lt, fun j u hu => ?_⟩⟩, fun z hz' => ?_⟩
  · rw [Nat.zero_add, h.cell, ← flat_zc]
    simpa using hu
  · obtain ⟨h1, h2⟩ := hz z hz'
    unfold Num
    omega
theorem i64_info : (Try.prog.info? 2).map (fun i => (i.zero, i.size, i.bytes)) = some (some (.int .i64 0), 1, 8) := by kernel_rfl
/-- A cut from the head on. -/
theorem exts_take {lo hi n k cap : Nat} {A : Option Addr} {w : World} {xs : List E} (h : ExtS lo hi w (.slice A n cap) xs) (hk : k ≤ xs.length) : ExtS lo hi w (.slice A k cap) (xs.take k) := by
  obtain ⟨h1, h2, A', cap', h3, h4, h5⟩ := h
  cases h3
  have hl : (xs.take k).length = k := by rw [List.length_take]; omega
  refine ⟨by rw [flat_length ec_len, hl], by omega, A, cap, by rw [hl], by omega, fun h0 => ?_⟩
  obtain ⟨g, off, q1, q2, q3, q4, q5⟩ := h5 (by omega)
  refine ⟨g, off, q1, q2, q3, q4, fun j u hj => q5 j u ?_⟩
  have e : xs.flatMap ec = (xs.take k).flatMap ec ++ (xs.drop k).flatMap ec := by rw [← List.flatMap_append, List.take_append_drop]
  rw [e, List.getElem?_append_left (List.getElem?_eq_some_iff.1 hj).1]
  exact hj
def rawE (xs : List E) : List Raw := xs.map fun e => (fv e.a, fv e.b)
theorem raws_of_exts {lo hi : Nat} {w : World} {v : Value} {xs : List E} (h : ExtS lo hi w v xs) : RawS lo hi w v (rawE xs) := by
  refine ⟨?_, fun p hp => ?_⟩
  · have e : (rawE xs).flatMap rc = xs.flatMap ec := by unfold rawE; rw [List.flatMap_map]; rfl
    rw [e, show (rawE xs).length = xs.length by simp [rawE]]
    exact h
  · obtain ⟨e, _, rfl⟩ := List.mem_map.1 hp
    have h1 := fv_lo e.a; have h2 := fv_hi e.a; have h3 := fv_lo e.b; have h4 := fv_hi e.b
    exact ⟨⟨h1, by simp only; omega⟩, ⟨h3, by simp only; omega⟩⟩
theorem rawE_vld (xs : List E) : (rawE xs).all vld = true := by
  rw [List.all_eq_true]
  intro p hp
  obtain ⟨e, _, rfl⟩ := List.mem_map.1 hp
  have h2 := fv_hi e.a; have h4 := fv_hi e.b
  simp [vld, h2, h4]
end Go.Proofs.Ytilelegcniefcaa
namespace Go.Proofs.Ytilelegcniefcaa
open Go.RowKit

theorem rd_blk {W : World} {g size : Nat} {t : TypeId} {cs : List Value} {n lo hi : Nat} (h : Blk W g t cs.toArray) (hn : cs.length = n * size) (hb : n ≤ 1000000) (hlo : lo ≤ g) (hhi : g < hi) : Rd lo hi size W (.slice (some ⟨g, 0, none⟩) n n) n cs := by
  refine ⟨hn, by omega, some ⟨g, 0, none⟩, n, rfl, Nat.le_refl _, fun _ => ⟨g, 0, rfl, hlo, hhi, h.lt, fun j u hu => ?_⟩⟩
  rw [Nat.zero_add, h.cell]
  simpa using hu
theorem idxs_blk {W : World} {g : Nat} {t : TypeId} {l : List Nat} {lo hi n : Nat} (h : Blk W g t (l.map fun k : Nat => Value.int .i64 (k : Int)).toArray) (hn : l.length = n) (hb : n ≤ 1000) (hlo : lo ≤ g) (hhi : g < hi) : IdxS lo hi W (.slice (some ⟨g, 0, none⟩) n n) l := by
  subst hn
  unfold IdxS
  have e : (l.flatMap ic) = l.map fun k : Nat => Value.int .i64 (k : Int) := by
    clear h hb
    induction l with
    | nil => rfl
    | cons x l ih => rw [List.flatMap_cons, ih]; rfl
  rw [e]
  exact rd_blk h (by simp) (by omega) hlo hhi
theorem tabs_one {W : World} {g lo hi : Nat} {t : TypeId} {v : Value} {xs : List E} (h : Blk W g t #[v]) (hx : ExtS lo hi W v xs) (hlo : lo ≤ g) (hhi : g < hi) : TabS lo hi W (.slice (some ⟨g, 0, none⟩) 1 1) [xs] :=
  ⟨[v], rfl, rd_blk (cs := [v]) h rfl (by decide) hlo hhi, fun k u t hu ht => by
    match k with
    | 0 => simp only [List.getElem?_cons_zero, Option.some.injEq] at hu ht; subst hu; subst ht; exact hx
    | k + 1 => simp at hu⟩
theorem trms_one {W : World} {g lo hi : Nat} {t : TypeId} {v : Value} {c : E} {l : List Nat} (h : Blk W g t #[.int .u64 (fv c.a), .int .u64 (fv c.b), v]) (hx : IdxS lo hi W v l) (hlo : lo ≤ g) (hhi : g < hi) : TrmS lo hi W (.slice (some ⟨g, 0, none⟩) 1 1) [⟨c, l⟩] :=
  ⟨[v], rfl, rd_blk (cs := [.int .u64 (fv c.a), .int .u64 (fv c.b), v]) h rfl (by decide) hlo hhi, fun k u t hu ht => by
    match k with
    | 0 => simp only [List.getElem?_cons_zero, Option.some.injEq] at hu ht; subst hu; subst ht; exact hx
    | k + 1 => simp at hu⟩
theorem rtabs_of {lo hi : Nat} {w : World} {v : Value} {tabs : List (List E)} (h : TabS lo hi w v tabs) : RTabS lo hi w v (tabs.map rawE) := by
  obtain ⟨us, h1, h2, h3⟩ := h
  refine ⟨us, by rw [h1, List.length_map], by rw [List.length_map]; exact h2, fun k u t hu ht => ?_⟩
  rw [List.getElem?_map] at ht
  obtain ⟨x, hx, rfl⟩ := Option.map_eq_some_iff.1 ht
  exact raws_of_exts (h3 k u x hu hx)
def rT (p : Trm) : RTrm := ⟨(fv p.c.a, fv p.c.b), p.t.map Int.ofNat⟩
theorem ints_of_idxs {lo hi : Nat} {w : World} {v : Value} {l : List Nat} (h : IdxS lo hi w v l) (hb : ∀ k ∈ l, k ≤ 1000000) : IntS lo hi w v (l.map Int.ofNat) := by
  refine ⟨?_, fun z hz => ?_⟩
  · rw [List.length_map, List.flatMap_map]
    exact h
  · obtain ⟨k, hk, rfl⟩ := List.mem_map.1 hz
    have := hb k hk
    unfold Num
    simp only [Int.ofNat_eq_natCast]
    omega
theorem zip_rT : ∀ (ps : List Trm) (us : List Value), ((ps.map rT).zip us).flatMap rtc = (ps.zip us).flatMap trc
  | [], _ => rfl
  | _ :: _, [] => rfl
  | p :: ps, u :: us => by
    show rtc (rT p, u) ++ ((ps.map rT).zip us).flatMap rtc = trc (p, u) ++ (ps.zip us).flatMap trc
    rw [zip_rT ps us]
    rfl
theorem rtrms_of {lo hi : Nat} {w : World} {v : Value} {ps : List Trm} (h : TrmS lo hi w v ps) (hb : ∀ p ∈ ps, ∀ k ∈ p.t, k ≤ 1000000) : RTrmS lo hi w v (ps.map rT) := by
  obtain ⟨us, h1, h2, h3⟩ := h
  refine ⟨us, by rw [h1, List.length_map], by rw [List.length_map, zip_rT]; exact h2, fun k u t hu ht => ?_⟩
  rw [List.getElem?_map] at ht
  obtain ⟨x, hx, rfl⟩ := Option.map_eq_some_iff.1 ht
  exact ints_of_idxs (h3 k u x hu hx) (hb x (List.mem_of_getElem? hx))
theorem validN_pow (n : Nat) (h : n ≤ 16) : validN (2 ^ n) = true := by
  have h1 := Nat.two_pow_pos n
  have h2 : 2 ^ n ≤ 2 ^ 16 := Nat.pow_le_pow_right (by decide) h
  have h3 : 2 ^ n &&& (2 ^ n - 1) = 0 := by rw [Nat.and_two_pow_sub_one_eq_mod, Nat.mod_self]
  unfold validN
  rw [h3]
  simp only [decide_true, Bool.and_true, Bool.and_eq_true, decide_eq_true_eq]
  exact ⟨h1, h2⟩
theorem validB_good (tabs : List (List E)) (ps : List Trm) (n : Nat) (hn : n ≤ 16) (h : AllLen tabs (2 ^ n)) (h0 : 0 < tabs.length) (hix : ∀ p ∈ ps, ∀ k ∈ p.t, k < tabs.length) (hsh : ∀ p ∈ ps, 1 ≤ p.t.length ∧ p.t.length ≤ 3) :
    validB (tabs.map rawE) (ps.map rT) = true := by
  have hb : ∀ t ∈ tabs.map rawE, badTab (2 ^ n) t = false := fun t ht => by
    obtain ⟨x, hx, rfl⟩ := List.mem_map.1 ht
    unfold badTab
    rw [rawE_vld, show (rawE x).length = x.length by simp [rawE], h x hx]
    simp
  have hp : ∀ p ∈ ps.map rT, badTrm tabs.length p = false := fun p hp => by
    obtain ⟨x, hx, rfl⟩ := List.mem_map.1 hp
    obtain ⟨h1, h2⟩ := hsh x hx
    have hv : vld (rT x).c = true := by have a1 := fv_hi x.c.a; have a2 := fv_hi x.c.b; simp [rT, vld, a1, a2]
    have hl : (rT x).t.length = x.t.length := by simp [rT]
    unfold badTrm
    rw [hv, hl]
    simp only [Bool.not_true, Bool.false_or, Bool.or_eq_false_iff, decide_eq_false_iff_not, List.any_eq_false]
    refine ⟨⟨by omega, by omega⟩, fun i hi => ?_⟩
    obtain ⟨k, hk, rfl⟩ := List.mem_map.1 hi
    have := hix x hx k hk
    unfold badIx
    simp only [Int.ofNat_eq_natCast, Bool.or_eq_true, decide_eq_true_eq]
    omega
  match tabs, h0, hb, hp, h with
  | t :: ts, _, hb, hp, h =>
    show (validN (rawE t).length && !((t :: ts).map rawE).any (badTab (rawE t).length) && !(ps.map rT).any (badTrm ((t :: ts).map rawE).length)) = true
    rw [show (rawE t).length = 2 ^ n by simp [rawE, h t (List.mem_cons_self ..)], validN_pow n hn, List.length_map, List.any_eq_false.2 fun x hx => by rw [hb x hx]; decide, List.any_eq_false.2 fun x hx => by rw [hp x hx]; decide]
    rfl
theorem gValidGood (tabs : List (List E)) (ps : List Trm) (n : Nat) (hn : n ≤ 16) (hall : AllLen tabs (2 ^ n)) (h0 : 0 < tabs.length) (hl : tabs.length ≤ 1000) (hsh : ∀ p ∈ ps, 1 ≤ p.t.length ∧ p.t.length ≤ 3) (vt vp : Value) (lo hi : Nat) (w : World) (h : SumS lo hi w vt vp tabs ps) :
    Calls Try.prog 11 #[sv vt vp] w (Ret (.bool true) w) := by
  have := gValidS (tabs.map rawE) (ps.map rT) vt vp lo hi w (rtabs_of h.ht) (rtrms_of h.hp (fun p hp k hk => by have := h.ix p hp k hk; omega))
  rwa [validB_good tabs ps n hn hall h0 h.ix hsh] at this
theorem tabs_nil (lo hi : Nat) (w : World) : TabS lo hi w (.slice none 0 0) [] := ⟨[], rfl, rd_nil _ _ _ _ _ _, fun k u t hu ht => by simp at hu⟩
theorem rtrms_nil (lo hi : Nat) (w : World) : RTrmS lo hi w (.slice none 0 0) [] := ⟨[], rfl, rd_nil _ _ _ _ _ _, fun k u t hu ht => by simp at hu⟩
end Go.Proofs.Ytilelegcniefcaa
namespace Go.Proofs.Ytilelegcniefcaa
open Go.RowKit

def tT : List E := intsE [1, 2, 3, 4]
def tC : List E := intsE [5, 3]
def p1 : List Trm := [⟨eb (fz 1), [0]⟩]
def p2 : List Trm := [⟨eb (fz 1), [0, 0]⟩]
theorem s6a : totE [tT] p1 = eb (fz 10) := by kernel_rfl
theorem s6b : rndE [tT] p1 = intsE [4, 6] := by kernel_rfl
theorem s6c : totE [tT] p2 = eb (fz 30) := by kernel_rfl
theorem s6d : rndE [tT] p2 = intsE [10, 20, 34] := by kernel_rfl
theorem s6e : prvV [tT] tC = intsE [12] := by kernel_rfl
theorem s6f : finE (valL (intsE [12])) p2 = eb (fz 144) := by kernel_rfl
theorem s6g : finE (valL (intsE [7])) p2 = eb (fz 49) := by kernel_rfl
theorem s6h : degE p1 = 1 := rfl
theorem s6i : degE p2 = 2 := rfl
theorem tT_all : AllLen [tT] (2 ^ 2) := fun t ht => by cases ht with | head => rfl | tail _ h => cases h
theorem s6j : vrfE 2 (eb (fz 30)) (prvR [tT] p2 tC) tC = (eb (fz 144), 0) := by
  have h := vrf_complete [tT] p2 tC tT_all (by decide) (by decide)
  rwa [s6c, s6e, s6f] at h
theorem s6k : vrfE 2 (eb (fz 31)) (prvR [tT] p2 tC) tC = (0, 60) := by
  have h := vrf_wrong [tT] p2 (eb (fz 5)) [eb (fz 3)] (eb (fz 31)) tT_all (by decide) (by decide) (by rw [s6c]; decide +kernel)
  exact h
theorem s6l : vrfE 3 (eb (fz 30)) (prvR [tT] p2 tC) tC = (0, 61) := by
  unfold vrfE
  rw [if_neg (by rw [prvR_length]; decide)]
  show lastS _ (stepsL 3 _ (rndE [tT] p2 :: _) (eb (fz 5) :: _)) = _
  rw [stepsL, rndE_length, if_pos (by decide)]
  rfl
theorem s6m : vrfE 2 (eb (fz 30)) (prvR [tT] p2 tC) (tC.take 1) = (0, 1) := by
  unfold vrfE
  rw [if_pos (by rw [prvR_length]; decide)]
theorem s6n : vrfE 1 (eb (fz 8)) [] [] = (eb (fz 8), 0) := rfl
theorem s6o : validB [rawE (tT.take 3)] [] = false := by
  unfold validB
  dsimp only
  rw [show (rawE (tT.take 3)).length = 3 from rfl, show validN 3 = false from rfl]
  rfl
theorem s6q : badTrm 1 ⟨(0, 0), [1]⟩ = true := by decide
theorem s6p : validB [rawE tT] [⟨(0, 0), [1]⟩] = false := by
  unfold validB
  dsimp only
  rw [show [rawE tT].length = 1 from rfl, List.any_cons, List.any_cons, s6q]
  simp
end Go.Proofs.Ytilelegcniefcaa
