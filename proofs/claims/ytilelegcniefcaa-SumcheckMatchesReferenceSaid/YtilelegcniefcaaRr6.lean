/-
  The reference's sums: Prove and SameRounds, by contract.
-/
import Derived.Test.YtilelegcniefcaaRq6
namespace Go.Proofs.Ytilelegcniefcaa
open Go.RowKit

theorem pow_le_9 (n j : Nat) (h : n ≤ 9) : 2 ^ (n - 1 - j) ≤ 256 := Nat.le_trans (Nat.pow_le_pow_right (by decide) (show n - 1 - j ≤ 8 by omega)) (by decide)
set_option maxRecDepth 100000 in
set_option maxHeartbeats 8000000 in
theorem rProve (tabs : List (List E)) (ps : List Trm) (coins : List E) (n : Nat) (hc : coins.length = n) (hn : n ≤ 9) (hall : AllLen tabs (2 ^ n)) (h0 : 0 < tabs.length) (hl : tabs.length ≤ 1000) (vt vp vc : Value) (lo hi lo2 hi2 : Nat) (w : World) (h : SumS lo hi w vt vp tabs ps) (hcs : ExtS lo2 hi2 w vc coins) :
    Calls Try.prog 17 #[sv vt vp, vc] w (PrvR w (prvR tabs ps coins) (prvV tabs coins) · ·) := by
  obtain ⟨i0, hi0, iz0, iz1, iz2⟩ := info_parts ext_info
  obtain ⟨AC, capC, rfl⟩ := Rd.len hcs
  obtain ⟨AP, capP, rfl⟩ := h.hp.len
  have HAl := Lib.hid (fun j (hj : j < n) => bndAll_at tabs coins n j hall hc hj)
  have HAe := Lib.hid (show AllLen (bndAll tabs coins) 1 by have := bndAll_len n coins tabs (by omega) hall; rwa [hc, Nat.sub_self] at this)
  have HH := Lib.hid h
  have HCS := Lib.hid hcs
  have HPL := Lib.hid (prvR_length ps coins tabs)
  have HBl := Lib.hid (bndAll_length tabs)
  have HC := Lib.hid hc
  rw [hc]
  clear hall h hcs hc
  obtain ⟨np, hnp⟩ : ∃ np, np = ps.length := ⟨_, rfl⟩
  rw [← hnp]
  have HNP := Lib.hid hnp
  clear hnp
  unfold sv
  go_enter Try.func17, Try.ntmps17
  go_upto_region 1 with (fail)
  refine wp_stk1 fun W hB hz b1 => ?_
  have hWs : W.heap.size = w.heap.size + 1 := hz.out
  go_upto_region 2 with (fail)
  refine wp_stk1 fun V hV hzV b10 => ?_
  have hVs : V.heap.size = W.heap.size + 1 := hzV.out
  rw [hWs] at b10
  have own0 : V.ownsRow (w.heap.size + 1) 22 1 (.slice (some ⟨w.heap.size + 1, 0, none⟩) 0 0) 0 [] := ⟨rfl, .inr ⟨w.heap.size + 1, 0, #[], rfl, Nat.le_refl _, b10, Nat.le_refl _, Nat.zero_le _, rfl, rfl⟩⟩
  have hBV := hB.trans (hV.mono hB.size)
  have b1V := b1.keep hV
  have HT0 := Lib.hid (HH.out.ht.base.keep hBV)
  have HRo := Lib.hid (show RowT (w.heap.size + 1) V (.slice (some ⟨w.heap.size + 1, 0, none⟩) 0 0) [] from ⟨[], own0, rfl, fun k x t h => by simp at h⟩)
  clear hz hzV b10 own0 b1
  go_wp2_with fail
  go_loopw [6, 7] (fun u i wr => ∃ j : Nat, j ≤ n ∧ i = .int .i64 j ∧ RowT (w.heap.size + 1) wr u (prvR tabs ps (coins.take j)) ∧ ∃ vt L H, Blk wr w.heap.size 30 #[vt, .slice AP np capP] ∧ TabS L H wr vt (bndAll tabs (coins.take j)) ∧ Outside L H u ∧ H ≤ wr.heap.size ∧ Below w.heap.size w wr ∧ w.heap.size + 1 ≤ wr.heap.size) (fun _ i _ => n - (intOf i).toNat)
  case atStart => exact ⟨0, Nat.zero_le _, rfl, HRo.out, vt, 0, w.heap.size, b1V, HT0.out, fun b hb => .inr (by simp [Value.ownBlock] at hb; omega), by omega, hBV, by omega⟩
  case round =>
    obtain ⟨j, hj, rfl, hrow, vt', L, H, bb, hT, hout, hH, hBr, hsz⟩ := hrel
    clear b1V hBV hB
    obtain ⟨Au, cu, hv⟩ := hrow.len'
    have hlr : (prvR tabs ps (coins.take j)).length = j := by rw [prvR_length, List.length_take, HC.out, Nat.min_eq_left (by omega)]
    rw [hlr] at hv
    subst hv
    by_cases hlt : j < n
    · obtain ⟨g, off, cap', hv, q1, q2, q3, q4, q5⟩ := exts_cells HCS.out (by rw [HC.out]; omega)
      rw [HC.out] at hv
      cases hv
      obtain ⟨r, hr, hrd⟩ := get_of (l := coins) (k := j) (by rw [HC.out]; exact hlt)
      obtain ⟨d1, d2⟩ := q5 j r hr
      have HPS := Lib.hid (prvR_succ ps r coins j tabs hr)
      have HBS := Lib.hid (bndAll_succ tabs coins j r hr)
      have hal := HAl.out j hlt
      have hlt2 := HBl.out (coins.take j)
      obtain ⟨m, hm⟩ : ∃ m, m = 2 ^ (n - 1 - j) := ⟨_, rfl⟩
      have hm1 : m ≤ 256 := by rw [hm]; exact pow_le_9 n j hn
      rw [← hm] at hal
      have HAL := Lib.hid hal
      have HL2 := Lib.hid hlt2
      have HLR := Lib.hid hlr
      clear q5 hr hrd hal hlt2 hm hlr
      generalize bndAll tabs (coins.take j) = T at *
      generalize prvR tabs ps (coins.take j) = R at *
      obtain ⟨wo, hwo⟩ : ∃ wo, wo = wr := ⟨_, rfl⟩
      subst hwo
      obtain ⟨AT, capT, rfl⟩ := hT.len
      have e0 := bb.cell
      go_wp2_with fail
      have hSX := HH.out.keep hBr
      refine (rRound T ps m HAL.out (by rw [HL2.out]; exact h0) (by rw [HL2.out]; exact hl) (by omega) _ _ 0 wo.heap.size wo ⟨hT.base, by have := hSX.hp.base; rwa [← HNP.out] at this, by rw [HL2.out]; exact hSX.ix, hSX.few, hSX.short⟩).mono ?_
      rintro e w2 ⟨v2, rfl, t2, hb2⟩
      replace t2 : ExtS wo.heap.size w2.heap.size w2 v2 (rndE T ps) := t2
      obtain ⟨A2, c2, rfl⟩ := Rd.len t2
      generalize rndE T ps = y at *
      have hs2 := hb2.size
      clear e0
      go_wp2_with (at_builtin; refine wpList_appT (x := .slice A2 y.length c2) (y := y) (lo := wo.heap.size) (hi := w2.heap.size) (base := w.heap.size + 1) (ts := R) rfl _ _ rfl Try.underlying36 rfl rfl ?hrow ?hsrc rfl ?hE ?hlo ?hhi ?hout ?hk ?hbase ?_)
      case hrow => exact (hrow.keep hb2).keep ((Below.refl _ _).alloc (Nat.le_refl _) _)
      case hsrc => exact Blk.new_at _ _ _ rfl
      case hE => exact Rd.keep t2 ((Below.refl _ _).alloc (Nat.le_refl _) _)
      case hlo => omega
      case hhi => simp
      case hout => exact hrow.out (Nat.le_refl _)
      case hk => rw [HLR.out]; omega
      case hbase => simp; omega
      intro u' w3 hrow3 hB3 hg3 hob3
      have hal2 : Below w2.heap.size w2 (w2.alloc (.cells #[.slice A2 y.length c2] 22)) := (Below.refl _ _).alloc (Nat.le_refl _) _
      have hXa := hb2.trans (hal2.mono hs2)
      have bb3 := (bb.keep hXa).below hB3 (by omega)
      have hT3 := tabs_kept (hT.keep hXa) (Kept.of_grown hg3 hout (by simp; omega)) hg3.size
      have hBw3 : Below w.heap.size w w3 := (hBr.trans (hXa.mono hBr.size)).trans (hB3.mono (by omega))
      have hs3 : w2.heap.size + 1 ≤ w3.heap.size := by simpa using hB3.size
      rw [← HPS.out] at hrow3
      obtain ⟨A3, c3, hv⟩ := hrow3.len'
      rw [prvR_length, List.length_take, HC.out, Nat.min_eq_left (by omega)] at hv
      subst hv
      have f1 := gw_blk bb3
      have f2 := gw_cell (W := w3) (Nat.lt_of_lt_of_le q4 hBw3.size) ((hBw3.cell (p := ⟨g, off + j * 2, none⟩) q4).trans d1)
      have f3 := gw_cell (W := w3) (Nat.lt_of_lt_of_le q4 hBw3.size) ((hBw3.cell (p := ⟨g, off + j * 2 + 1, none⟩) q4).trans d2)
      have HBd := Lib.hid (show ∀ W1, Below w3.heap.size w3 W1 → Calls Try.prog 52 #[.agg #[.slice AT T.length capT, .slice AP np capP], ev r] W1 (RetR (BndA (.slice AP np capP) (bndE T r)) W1) from fun W1 hW =>
        rBindS T r m HAL.out (by omega) (by rw [HL2.out]; exact hl) _ (.slice AP np capP) _ _ W1 (hT3.keep hW) ⟨_, _, _, rfl⟩)
      rw [← HBS.out] at HBd
      clear hg3 hob3 t2 hb2 d1 d2 hT hrow bb
      go_wp2_with fail
      refine wp_region_rg 6 [(5, Spec.rel (BndA (.slice AP np capP) (bndAll tabs (coins.take (j + 1)))) AnyV)] (by kernel_rfl) (by kernel_rfl) (by kernel_rfl) ⟨fit_of (bnd_stable _ _), trivial⟩ ?_
      refine rg_det rfl rfl rfl (fun K hK => ?_)
      go_big_quiet_op
      refine hK _ ?_; clear hK K
      refine rg_det rfl rfl rfl (fun K hK => ?_)
      go_big_quiet_op
      refine hK _ ?_; clear hK K
      refine rg_det rfl rfl rfl (fun K hK => ?_)
      go_big_quiet_op
      refine hK _ ?_; clear hK K
      refine rg_det rfl rfl rfl (fun K hK => ?_)
      go_big_quiet_op
      refine hK _ ?_; clear hK K
      refine rg_det rfl rfl rfl (fun K hK => ?_)
      go_big_quiet_op
      refine hK _ ?_; clear hK K
      refine rg_rel rfl rfl (fun W1 hW1 hF => step_callr en_attestor_attestorref06_Bind (HBd.out W1 (grw_below hW1)) rfl rfl) ?_
      intro na5 ma5 va5 hna5 hma5 hda5 hfa5 a' ha
      simp only [Act.put, List.setIfInBounds_toArray, List.set_cons_succ, List.set_cons_zero] at ha
      subst ha
      refine rg_nil (fun w' hw' hF => ?_)
      obtain ⟨z6, rfl⟩ := hw'
      simp only [List.drop_succ_cons, List.drop_zero]
      obtain ⟨hma5', vt4, rfl, hT4⟩ := end_last hF
      obtain ⟨A4, cap4, rfl⟩ := hT4.len
      have bb4 := bb3.gw z6
      have hrow4 := hrow3.keep z6.h
      have hB4 := hBw3.trans (z6.h.mono hBw3.size)
      have hz6 := z6.h.size
      have e2 := bb4.frozen
      have e3 := bb4.cell
      unfold sv
      clear hF f1 f2 f3 hda5
      go_upto_region 4 with (fail)
      refine set2 (M := fun W => Code.wp _ _ _ _ W) bb4 fun Y hY bY => ?_
      have HT5 := Lib.hid (hT4.put hY (.inl (by omega)))
      have HR5 := Lib.hid (hrow4.put hY (by omega))
      have hB5 := below_put hB4 hY (Nat.le_refl _)
      have hYs := hY.size
      have HO5 := Lib.hid (show Outside na5 ma5 (.slice A3 (j + 1) c3) from hrow3.out hna5)
      clear e2 e3 bb4 hT4 hY hrow3 hrow4
      go_wp2_with fail
      exact ⟨⟨j + 1, by omega, by go_num, HR5.out, _, na5, ma5, bY, HT5.out, HO5.out, by omega, hB5, by omega⟩, by simp [intOf]; omega⟩
    · obtain rfl : j = n := by omega
      have htk : coins.take j = coins := by rw [← HC.out, List.take_length]
      rw [htk] at hrow hT
      have hlT : (bndAll tabs coins).length = tabs.length := HBl.out coins
      have HV := Lib.hid (show colE (bndAll tabs coins) 0 tabs.length = prvV tabs coins by unfold colE prvV; rw [← hlT, List.take_length])
      obtain ⟨AT, capT, rfl⟩ := hT.len
      rw [hlT] at bb hT
      obtain ⟨nt, hnt⟩ : ∃ nt, nt = tabs.length := ⟨_, rfl⟩
      rw [← hnt] at bb hT h0 hl
      have HNT := Lib.hid hnt
      have HT := Lib.hid hT
      have HLT := Lib.hid (hlT.trans hnt.symm)
      have HRW := Lib.hid hrow
      have HT1 := Lib.hid (fun k (hk : k < nt) => show ∃ t, (bndAll tabs coins)[k]? = some t ∧ t.length = 1 from ⟨_, List.getElem?_eq_getElem (by rw [hlT, ← hnt]; exact hk), HAe.out _ (List.getElem_mem ..)⟩)
      clear hT hlT htk hrow hlr hnt
      generalize bndAll tabs coins = T at *
      obtain ⟨wo, hwo⟩ : ∃ wo, wo = wr := ⟨_, rfl⟩
      subst hwo
      go_upto_region 8 with (fail)
      refine wp_stk1 fun X hBX hzX bv => ?_
      have hXs : X.heap.size = wo.heap.size + 1 := hzX.out
      have bbX := bb.keep hBX
      have ownV : X.ownsRow wo.heap.size 43 2 (.slice (some ⟨wo.heap.size, 0, none⟩) 0 0) 0 ((colE T 0 0).flatMap ec) := ⟨rfl, .inr ⟨wo.heap.size, 0, #[], rfl, Nat.le_refl _, bv, Nat.le_refl _, Nat.zero_le _, rfl, rfl⟩⟩
      have hBXw := hBr.trans (hBX.mono hBr.size)
      have hblt := bb.lt
      clear bb hzX bv
      go_wp2_with fail
      go_loopw [8, 9] (fun u i wr => ∃ k : Nat, k ≤ nt ∧ i = .int .i64 k ∧ wr.ownsRow wo.heap.size 43 2 u k ((colE T 0 k).flatMap ec) ∧ Below wo.heap.size X wr) (fun _ i _ => nt - (intOf i).toNat)
      case atStart => exact ⟨0, Nat.zero_le _, rfl, ownV, Below.refl _ _⟩
      case round =>
        obtain ⟨k, hk, rfl, hown, hBz⟩ := hrel
        obtain ⟨Av, cv, rfl⟩ := own_len hown
        have hwz := hBX.trans hBz
        have e1 := (bbX.below hBz hblt).cell
        have hwzs := hwz.size
        by_cases hltk : k < nt
        · obtain ⟨t, ht, ht1⟩ := HT1.out k hltk
          obtain ⟨g, off, cap', hv, q1, q2, q3, q4, q5⟩ := tabs_cells HT.out (by rw [HLT.out]; omega)
          rw [HLT.out] at hv
          cases hv
          obtain ⟨A2, c2, d0, hE⟩ := q5 k t ht
          obtain ⟨g2, off2, cap2, hv, r1, r2, r3, r4, r5⟩ := exts_cells hE (by omega)
          rw [ht1] at hv d0 r1
          cases hv
          obtain ⟨x, hx, hxd⟩ := get_of (l := t) (k := 0) (by omega)
          obtain ⟨d1, d2⟩ := r5 0 x hx
          simp only [Nat.zero_mul, Nat.add_zero] at d1 d2
          have HC1 := Lib.hid (show (colE T 0 (k + 1)).flatMap ec = (colE T 0 k).flatMap ec ++ ec x by rw [colE_succ T 0 k t ht, List.flatMap_append, hxd]; simp)
          have e2 := (hwz.cell (p := ⟨g, off + k, none⟩) q4).trans d0
          have e3 := (hwz.cell (p := ⟨g2, off2, none⟩) r4).trans d1
          have e4 := (hwz.cell (p := ⟨g2, off2 + 1, none⟩) r4).trans d2
          have HO := Lib.hid hown
          clear q5 r5 ht hE hx hxd d0 d1 d2 hown
          go_wp2_with (at_builtin; refine wpList_app1 rfl _ _ rfl Try.underlying22 hi0 iz0 iz1 iz2 rfl (by decide) (cl := ec x) rfl (ec_one _) rfl rfl (own_below HO.out (Nat.le_refl _) ((Below.refl _ _).alloc (Nat.le_refl _) _)) (Blk.new_at _ _ _ rfl) ?h63 ?hby ?hbase ?_)
          case h63 => unfold maxLen; omega
          case hby => omega
          case hbase => simp; omega
          intro v1 w4 hown4 hgrow hB5
          have hB6 : Below wo.heap.size X w4 := (hBz.trans (((Below.refl _ _).alloc (Nat.le_refl _) _).mono hwzs)).trans hB5
          rw [← HC1.out] at hown4
          clear e1 e2 e3 e4 hgrow hB5
          go_wp2_with fail
          exact ⟨⟨k + 1, by omega, by go_num, hown4, hB6⟩, by simp [intOf]; omega⟩
        · obtain rfl : k = nt := by omega
          have hcl := colE_len T 0 k (by rw [HLT.out]; exact Nat.le_refl _)
          have HX : Hid (ExtS wo.heap.size wr.heap.size wr (.slice Av k cv) (prvV tabs coins)) := Lib.hid (by
            have := exts_of_own hown hcl (by omega) (Nat.le_refl _)
            rwa [← HV.out, ← HNT.out])
          have HRs := Lib.hid ((HRW.out.tabs (by rw [HPL.out, HC.out]; omega)).other hwz.size fun g h1 h2 h3 => hwz.block g h3)
          have hBww := hBr.trans (hwz.mono hBr.size)
          clear hown hcl
          go_wp2_with fail
          go_ret2
          exact ⟨_, _, rfl, HRs.out.wide (by omega) (by omega), Rd.wide HX.out (by omega) (Nat.le_refl _), hBww⟩
end Go.Proofs.Ytilelegcniefcaa
