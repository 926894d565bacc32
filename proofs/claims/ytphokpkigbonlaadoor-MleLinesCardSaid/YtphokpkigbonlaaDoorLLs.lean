/-
  MleLines: the walk.
-/
import Derived.Test.YtphokpkigbonlaaDoorLay5
namespace Go.Proofs.YtphokpkigbonlaaDoor
open Go.RowKit

theorem fz_succ (z : Int) : eb (fz (z + 1)) = eb (fz z) + 1 := by
  have : fz (z + 1) = fz z + 1 := fv_inj (by rw [fv_fz, fv_add, fv_fz, fv_one]; omega)
  rw [this, eb_add]
  rfl
theorem lineE_map (p q : List E) (t : E) (n : Nat) (hp : p.length = n) (hq : q.length = n) : lineE p q t n = ((p.zip q).map fun x => fun (t : E) => x.1 + t * (x.2 - x.1)).map fun u => u t := by
  unfold lineE
  rw [List.map_map]
  apply List.ext_getElem?
  intro i
  by_cases hi : i < n
  · rw [List.getElem?_map, List.getElem?_range hi, List.getElem?_map]
    have h1 : (p.zip q)[i]? = some (p[i], q[i]) := by rw [List.getElem?_zip_eq_some]; exact ⟨List.getElem?_eq_getElem _, List.getElem?_eq_getElem _⟩
    rw [h1]
    simp [List.getD, hp, hq, hi]
  · rw [List.getElem?_eq_none (by simpa using hi), List.getElem?_eq_none (by simp [hp, hq]; omega)]
theorem lineE_zero (p q : List E) (hq : q.length = p.length) : lineE p q 0 p.length = p := by
  rw [lineE_map p q 0 p.length rfl hq, List.map_map]
  apply List.ext_getElem?
  intro i
  by_cases hi : i < p.length
  · have h1 : (p.zip q)[i]? = some (p[i], q[i]) := by rw [List.getElem?_zip_eq_some]; exact ⟨List.getElem?_eq_getElem _, List.getElem?_eq_getElem _⟩
    rw [List.getElem?_map, h1, List.getElem?_eq_getElem hi]
    simp only [Option.map_some, Function.comp]
    rw [E.zero_mul, E.add_zero]
  · rw [List.getElem?_eq_none (by simp [hq]; omega), List.getElem?_eq_none (by omega)]
theorem lineE_one (p q : List E) (hq : q.length = p.length) : lineE p q 1 p.length = q := by
  rw [lineE_map p q 1 p.length rfl hq, List.map_map]
  apply List.ext_getElem?
  intro i
  by_cases hi : i < p.length
  · have h1 : (p.zip q)[i]? = some (p[i], q[i]) := by rw [List.getElem?_zip_eq_some]; exact ⟨List.getElem?_eq_getElem _, List.getElem?_eq_getElem _⟩
    rw [List.getElem?_map, h1, List.getElem?_eq_getElem (by omega)]
    simp only [Option.map_some, Function.comp]
    rw [E.one_mul, E.sub_self_add]
  · rw [List.getElem?_eq_none (by simp [hq]; omega), List.getElem?_eq_none (by omega)]
/-- The value along the line, at the places from z on. -/
def lval (t p s : List E) (z : Int) (j : Nat) : E := mev t (lineE p s (eb (fz (z + j))) p.length)
theorem lval_vanish (t p s : List E) (z : Int) (ht : t.length = 2 ^ p.length) (hs : s.length = p.length) (j : Nat) : difs (p.length + 1) (lval t p s z) j = 0 := by
  have hd : Deg p.length (lval t p s z) := by
    have hl : ((p.zip s).map fun x => fun (j : Nat) => x.1 + eb (fz (z + j)) * (x.2 - x.1)).length = p.length := by rw [List.length_map, List.length_zip, hs, Nat.min_self]
    have := deg_mev t ((p.zip s).map fun x => fun (j : Nat) => x.1 + eb (fz (z + j)) * (x.2 - x.1)) (by rw [hl]; exact ht) fun u hu => by
      obtain ⟨x, _, rfl⟩ := List.mem_map.1 hu
      refine ⟨x.2 - x.1, fun j => ?_⟩
      simp only
      rw [show z + ((j + 1 : Nat) : Int) = z + j + 1 by omega, fz_succ, E.add_mul, E.one_mul, E.add_assoc]
    rw [hl] at this
    refine deg_congr _ _ _ (fun j => ?_) this
    unfold lval
    rw [lineE_map p s _ p.length rfl hs, List.map_map, List.map_map]
    rfl
  exact deg_vanish p.length _ hd j
theorem mixL_later (n : Nat) (new old : Nat → E) (k i : Nat) (hi : k ≤ i) (h : i < n) : (mixL n new old k)[i]? = some (old i) := by
  unfold mixL
  rw [List.getElem?_map, List.getElem?_range h, Option.map_some, if_neg (by omega)]
theorem mixL_last (n : Nat) (new old : Nat → E) : mixL (n + 1) new old n = (List.range n).map new ++ [old n] := by
  unfold mixL
  rw [List.range_succ, List.map_append]
  congr 1
  · apply List.map_congr_left
    intro i hi
    rw [if_pos (List.mem_range.1 hi)]
  · simp
theorem difs_mix (m r : Nat) (f : Nat → E) (j : Nat) : (mixL m (difs (r + 1) f) (difs r f) j).set j (difs r f (j + 1) - difs r f j) = mixL m (difs (r + 1) f) (difs r f) (j + 1) := by
  rw [← difs_succ, mixL_set]
set_option maxRecDepth 100000 in
set_option maxHeartbeats 8000000 in
theorem wkMleLines (q : Q5) (vT vP vQ : Value) (z : Int) (w : World) (h : Q5S w.heap.size w q vT vP vQ) (hz : 0 ≤ z ∧ z < 65536) (hL : Laid w) :
    Calls Tryd.prog 10 #[qv5 vT vP vQ q, .int .u16 z] w (Ret (.bool true) w) := by
  obtain ⟨i0, hi0, iz0, iz1, iz2⟩ := info_parts ext_info
  obtain ⟨hz0, hz1⟩ := hz
  unfold qv5
  go_enter Tryd.func10, Tryd.ntmps10
  go_wp2_with fail
  refine calls_stk1 fun W1 hB1 hz1 b1 => ?_
  refine (lSanity5 W1 (hL.keep hB1)).mono ?_
  rintro e w2 ⟨rfl, hb2⟩
  have hB2 := hB1.trans (hb2.mono hB1.size)
  have e1 := (b1.keep hb2).cell
  go_wp2_with fail
  refine (lMade5 q vT vP vQ w.heap.size w2 (h.keep hB2) hB2.size).mono ?_
  rintro e w3 ⟨a, b, c, nt, mt, np, mp, ns, ms, rfl, ot, op, os, ⟨lt1, lp1, ls1, lt2, lp2, ls2⟩, ⟨dtp, dts, dps⟩, hb3⟩
  obtain ⟨Aa, capa, rfl⟩ := ot.1.len
  obtain ⟨Ab, capb, rfl⟩ := op.1.len
  obtain ⟨Ac, capc, rfl⟩ := os.1.len
  have hB3 := hB2.trans (hb3.mono hB2.size)
  have Ly := lay_made5 ot op os lt2 lp2 ls2 (hL.keep hB3)
  clear e1 h
  generalize q.t = t at *
  generalize q.p = p at *
  generalize q.s = s at *
  have hpl := Ly.pl
  have HV := Lib.hid (lval_vanish t p s z Ly.tl Ly.sl 0)
  have HSl := Lib.hid Ly.sl
  clear ot op os dtp dts dps
  go_wp2_with fail
  refine wp_stk1 fun W4 hB4 hz4 b4 => ?_
  clear hz4
  go_loopw [10, 11] (fun v i wr => ∃ j : Nat, j ≤ p.length + 2 ∧ i = .int .i64 j ∧ wr.ownsRow w3.heap.size 27 2 v j (((List.range j).map (lval t p s z)).flatMap ec) ∧ Below w3.heap.size w3 wr) (fun _ i _ => p.length + 2 - (intOf i).toNat)
  case atStart => exact ⟨0, Nat.zero_le _, rfl, ⟨by simp, .inr ⟨w3.heap.size, 0, #[], rfl, Nat.le_refl _, b4, Nat.le_refl _, Nat.zero_le _, rfl, by simp⟩⟩, hB4⟩
  case round =>
    obtain ⟨j, hj, rfl, hown, hB⟩ := hrel
    have Lr := Ly.keep hB
    by_cases hlt : j < p.length + 2
    · have hle : (j : Int) ≤ (p.length : Int) + 1 := by omega
      have hbs := hB.size
      have HF := Lib.hid (show ((List.range (j + 1)).map (lval t p s z)).flatMap ec = ((List.range j).map (lval t p s z)).flatMap ec ++ ec (mev t (lineE p s (eb (fz (z + j))) p.length)) by rw [List.range_succ, List.map_append, List.flatMap_append]; simp [lval])
      clear b4 hB4
      go_wp2_with fail
      refine (xFromInt (z + j) (by omega) (by omega) wr).mono ?_
      rintro e w5 ⟨he, hb5⟩
      unfold ev at he
      subst he
      generalize eb (fz (z + j)) = x at *
      have L5 := Lr.keep hb5
      go_wp2_with fail
      refine (gLine p s x HSl.out (by omega) _ _ 0 _ 0 _ w5 L5.hp L5.hs).mono ?_
      rintro e w6 ⟨v6, rfl, t6, hb6⟩
      replace t6 : ExtS _ _ w6 v6 (lineE p s x p.length) := t6
      have hll := lineE_length p s x p.length
      obtain ⟨A6, cap6, rfl⟩ := Rd.len t6
      have HLL := Lib.hid hll
      clear hll
      generalize lineE p s x p.length = ln at *
      have L6 := L5.keep hb6
      go_wp2_with fail
      refine (L6.evalP t6 (Nat.le_refl _) HLL.out).mono ?_
      rintro e w7 ⟨he, hb7⟩
      unfold ev at he
      subst he
      generalize mev t ln = y at *
      have hb57 := (hb5.trans (hb6.mono hb5.size)).trans (hb7.mono (Nat.le_trans hb5.size hb6.size))
      have hws := hb57.size
      clear L5 L6 Lr t6
      go_wp2_with (at_builtin; refine wpList_app1 rfl _ _ rfl Tryd.underlying22 hi0 iz0 iz1 iz2 rfl (by decide) (cl := ec y) rfl (ec_one _) rfl rfl (own_below hown (Nat.le_refl _) ?hX) ?hsrc ?h63 ?hby ?hbase ?_)
      case hX => exact hb57.alloc hws _
      case hsrc => exact Blk.new_at _ _ _ (by simp)
      case h63 => unfold maxLen; omega
      case hby => omega
      case hbase => simp; omega
      intro v1 w8 hown8 hgrow hB8
      go_wp2
      exact ⟨⟨j + 1, by omega, by go_num, by rw [HF.out]; exact hown8, (hB.trans ((hb57.alloc hws _).mono hbs)).trans hB8⟩, by simp [intOf]; omega⟩
    · obtain rfl : j = p.length + 2 := by omega
      have hle : ¬ (((p.length + 2 : Nat) : Int) ≤ (p.length : Int) + 1) := by omega
      obtain ⟨g, cap, rest, hv, l1, l2, l3, bV⟩ := (ownX_of_own hown (by simp) (by omega)).2 (by simp)
      rw [List.length_map, List.length_range] at hv l1
      subst hv
      obtain ⟨f, hf⟩ : ∃ f, f = lval t p s z := ⟨_, rfl⟩
      rw [← hf] at bV HV
      clear hf hown
      go_wp2_with fail
      go_loopw [10] (fun v wr => ∃ (r m : Nat) (rest : List Value), m + r = p.length + 2 ∧ 1 ≤ m ∧ m ≤ cap ∧ v = .slice (some ⟨g, 0, none⟩) m cap ∧ Blk wr g 27 (((List.range m).map (difs r f)).flatMap ec ++ rest).toArray ∧ Below w3.heap.size w3 wr) (fun v _ => match v with | .slice _ n _ => n | _ => 0)
      case atStart => exact ⟨0, p.length + 2, rest, rfl, by omega, l1, rfl, bV, hB⟩
      case round =>
        obtain ⟨r, m, rest, hrm, hm1, hmc, rfl, bV, hB⟩ := hrel
        obtain ⟨wo, hwo⟩ : ∃ wo, wo = wr := ⟨_, rfl⟩
        subst hwo
        by_cases hlt : 1 < m
        · obtain ⟨m, rfl⟩ : ∃ m', m = m' + 1 := ⟨m - 1, by omega⟩
          go_wp2_with fail
          go_loopw [12] (fun i wr => ∃ j : Nat, j ≤ m ∧ i = .int .i64 j ∧ Blk wr g 27 ((mixL (m + 1) (difs (r + 1) f) (difs r f) j).flatMap ec ++ rest).toArray ∧ Below w3.heap.size w3 wr) (fun i _ => m - (intOf i).toNat)
          case atStart => exact ⟨0, Nat.zero_le _, rfl, by rw [mixL_zero]; exact bV, hB⟩
          case round =>
            obtain ⟨j, hj, rfl, bV, hB⟩ := hrel
            by_cases hltj : j < m
            · obtain ⟨s1, s2⟩ := blk_cellP bV (mixL_get (m + 1) (difs (r + 1) f) (difs r f) j (by omega))
              obtain ⟨s3, s4⟩ := blk_cellP bV (mixL_later (m + 1) (difs (r + 1) f) (difs r f) j (j + 1) (by omega) (by omega))
              have HM := Lib.hid (difs_mix (m + 1) r f j)
              have hml : j < (mixL (m + 1) (difs (r + 1) f) (difs r f) j).length := by rw [mixL_len]; omega
              have f1 := gw_cell bV.lt s1
              have f2 := gw_cell bV.lt s2
              have f3 := gw_cell bV.lt s3
              have f4 := gw_cell bV.lt s4
              have hjm : j + 1 < m + 1 := by omega
              generalize difs r f (j + 1) = y1 at *
              generalize difs r f j = y0 at *
              generalize mixL (m + 1) (difs (r + 1) f) (difs r f) j = l at *
              go_wp2_with fail
              refine wp_region_rg 13 [(11, Spec.val (.agg #[.int .u64 (fv (y1 - y0).a), .int .u64 (fv (y1 - y0).b)]))] (by kernel_rfl) (by kernel_rfl) (by kernel_rfl) trivial ?_
              refine rg_det rfl rfl rfl (fun K hK => ?_)
              go_big_quiet_op
              refine hK _ ?_; clear hK K
              refine rg_det rfl rfl rfl (fun K hK => ?_)
              go_big_quiet_op
              refine hK _ ?_; clear hK K
              refine rg_det rfl rfl rfl (fun K hK => ?_)
              go_big_quiet_op
              refine hK _ ?_; clear hK K
              refine rg_det rfl rfl rfl (fun K hK => ?_)
              go_big_quiet_op
              refine hK _ ?_; clear hK K
              refine rg_det rfl rfl rfl (fun K hK => ?_)
              go_big_quiet_op
              refine hK _ ?_; clear hK K
              refine rg_det rfl rfl rfl (fun K hK => ?_)
              go_big_quiet_op
              refine hK _ ?_; clear hK K
              refine rg_det rfl rfl rfl (fun K hK => ?_)
              go_big_quiet_op
              refine hK _ ?_; clear hK K
              refine rg_det rfl rfl rfl (fun K hK => ?_)
              go_big_quiet_op
              refine hK _ ?_; clear hK K
              refine rg_det rfl rfl rfl (fun K hK => ?_)
              go_big_quiet_op
              refine hK _ ?_; clear hK K
              refine rg_det rfl rfl rfl (fun K hK => ?_)
              go_big_quiet_op
              refine hK _ ?_; clear hK K
              refine rg_det rfl rfl rfl (fun K hK => ?_)
              go_big_quiet_op
              refine hK _ ?_; clear hK K
              refine rg_val rfl rfl (fun W1 hW1 hF => step_callv en_attestor_ext_Sub (eSub y1 y0 W1) rfl rfl) ?_
              intro a' ha
              simp only [Act.put, List.setIfInBounds_toArray, List.set_cons_succ, List.set_cons_zero] at ha
              subst ha
              refine rg_det rfl rfl rfl (fun K hK => ?_)
              go_big_quiet_op
              refine hK _ ?_; clear hK K
              refine rg_nil (fun w' hw' hF => ?_)
              obtain ⟨z, rfl⟩ := hw'
              simp only [List.drop_succ_cons, List.drop_zero]
              have bz := bV.gw z
              have e1 := bz.frozen
              have e2 := (z.h.cell (p := ⟨g, j * 2, none⟩) bV.lt).trans s1
              have e3 := (z.h.cell (p := ⟨g, j * 2 + 1, none⟩) bV.lt).trans s2
              clear hF f1 f2 f3 f4 s1 s2 s3 s4
              go_wp2_with fail
              exact ⟨⟨j + 1, by omega, by go_num, by rw [← HM.out]; exact blk_setP bz j _ hml, below_setE (hB.trans (z.h.mono hB.size)) l2⟩, by simp [intOf]; omega⟩
            · obtain rfl : j = m := by omega
              have hjm : ¬ (j + 1 < j + 1) := by omega
              rw [mixL_last, List.flatMap_append, List.append_assoc] at bV
              go_wp2_with fail
              exact ⟨⟨r + 1, j, _, by omega, by omega, by omega, rfl, bV, hB⟩, by simp⟩
        · obtain rfl : m = 1 := by omega
          obtain rfl : r = p.length + 1 := by omega
          rw [show (List.range 1).map (difs (p.length + 1) f) = [0] by rw [show List.range 1 = [0] from rfl]; simp [HV.out]] at bV
          obtain ⟨s1, s2⟩ := blk_cellP bV (k := 0) (x := 0) rfl
          rw [Nat.zero_mul] at s1 s2
          have HZ : Calls Tryd.prog 41 #[.agg #[.int .u64 (fv (0 : E).a), .int .u64 (fv (0 : E).b)]] wo (Ret (.bool true) wo) := eIsZero 0 wo
          have H0 : ∀ W, Below w3.heap.size w3 W → Calls Tryd.prog 30 #[.slice Ab p.length capb, .slice Ac s.length capc, .agg #[.int .u64 0, .int .u64 0]] W (RetR (ExtA p) W) := fun W h => by
            have := gLine p s 0 HSl.out (by omega) _ _ 0 _ 0 _ W (Ly.keep h).hp (Ly.keep h).hs
            rw [lineE_zero p s HSl.out] at this
            exact this
          have H1 : ∀ W, Below w3.heap.size w3 W → Calls Tryd.prog 30 #[.slice Ab p.length capb, .slice Ac s.length capc, ev 1] W (RetR (ExtA s) W) := fun W h => by
            have := gLine p s 1 HSl.out (by omega) _ _ 0 _ 0 _ W (Ly.keep h).hp (Ly.keep h).hs
            rwa [lineE_one p s HSl.out] at this
          replace HZ := Lib.hid HZ
          replace H0 := Lib.hid H0
          replace H1 := Lib.hid H1
          go_wp2_with fail
          refine (HZ.out).mono ?_
          rintro e x1 ⟨he3, hbx1⟩
          try unfold ev at he3
          subst he3
          have B1 := hB.trans (hbx1.mono hB.size)
          clear s1 s2 bV
          go_wp2_with fail
          refine (H0.out x1 B1).mono ?_
          rintro e x2 ⟨vx2, rfl, tx2, hbx2⟩
          replace tx2 : ExtS _ _ x2 vx2 p := tx2
          obtain ⟨Ax2, capx2, rfl⟩ := Rd.len tx2
          have B2 := B1.trans (hbx2.mono B1.size)
          go_wp2_with fail
          refine (xSame p _ _ _ _ _ _ x2 tx2 (Ly.keep B2).hp).mono ?_
          rintro e x3 ⟨he5, hbx3⟩
          try unfold ev at he5
          subst he5
          have B3 := B2.trans (hbx3.mono B2.size)
          go_wp2_with fail
          refine (xOne x3).mono ?_
          rintro e x4 ⟨he6, hbx4⟩
          try unfold ev at he6
          subst he6
          have B4 := B3.trans (hbx4.mono B3.size)
          go_wp2_with fail
          refine (H1.out x4 B4).mono ?_
          rintro e x5 ⟨vx5, rfl, tx5, hbx5⟩
          replace tx5 : ExtS _ _ x5 vx5 s := tx5
          obtain ⟨Ax5, capx5, rfl⟩ := Rd.len tx5
          have B5 := B4.trans (hbx5.mono B4.size)
          go_wp2_with fail
          refine (xSame s _ _ _ _ _ _ x5 tx5 (Ly.keep B5).hs).mono ?_
          rintro e x6 ⟨he8, hbx6⟩
          try unfold ev at he8
          subst he8
          have B6 := B5.trans (hbx6.mono B5.size)
          go_wp2_with fail
          go_ret
          exact ⟨rfl, hB3.trans (B6.mono hB3.size)⟩
end Go.Proofs.YtphokpkigbonlaaDoor
