/-
  The reference's sums: Prove and SameRounds, by contract.
  The reference's Verify of the sum-check, by contract.
  Chapter 21's reference, by contract: Prove.
  Chapter 21's reference, by contract: Verify.
  Challenges of a reduction drawn from a transcript: in mathematics, and the program's coin.
-/
import Derived.Test.YtkgglhakimkkhaaGreatDoorRq6
import Derived.Test.YtkgglhakimkkhaaGreatDoorP3
import Derived.Test.YtkgglhakimkkhaaGreatDoorTk
import Derived.Test.YtkgglhakimkkhaaGreatDoorMr3
namespace Go.Proofs.YtkgglhakimkkhaaGreatDoor
open Go.RowKit

theorem pow_le_9 (n j : Nat) (h : n ≤ 9) : 2 ^ (n - 1 - j) ≤ 256 := Nat.le_trans (Nat.pow_le_pow_right (by decide) (show n - 1 - j ≤ 8 by omega)) (by decide)
set_option maxRecDepth 100000 in
set_option maxHeartbeats 8000000 in
theorem rProve (tabs : List (List E)) (ps : List Trm) (coins : List E) (n : Nat) (hc : coins.length = n) (hn : n ≤ 9) (hall : AllLen tabs (2 ^ n)) (h0 : 0 < tabs.length) (hl : tabs.length ≤ 1000) (vt vp vc : Value) (lo hi lo2 hi2 : Nat) (w : World) (h : SumS lo hi w vt vp tabs ps) (hcs : ExtS lo2 hi2 w vc coins) :
    Calls Tryz.prog 40 #[sv vt vp, vc] w (PrvR w (prvR tabs ps coins) (prvV tabs coins) · ·) := by
  obtain ⟨i0, hi0, iz0, iz1, iz2⟩ := info_parts ext_info
  obtain ⟨AC, capC, rfl⟩ := Rd.len hcs
  obtain ⟨AP, capP, rfl⟩ := h.hp.len
  have HAl := Lib.hid (fun j (hj : j < n) => bndAll_at tabs coins n j hall hc hj)
  have HAe := Lib.hid (show AllLen (bndAll tabs coins) 1 by have := bndAll_len n coins tabs (by omega) hall; rwa [hc, Nat.sub_self] at this)
  have HH := Lib.hid h
  have HCS := Lib.hid hcs
  have HPL := Lib.hid (prvR_length ps coins tabs)
  have HBl := Lib.hid (bndAll_length tabs)
  have HC := Lib.hid hc
  rw [hc]
  clear hall h hcs hc
  obtain ⟨np, hnp⟩ : ∃ np, np = ps.length := ⟨_, rfl⟩
  rw [← hnp]
  have HNP := Lib.hid hnp
  clear hnp
  unfold sv
  go_enter Tryz.func40, Tryz.ntmps40
  go_upto_region 1 with (fail)
  refine wp_stk1 fun W hB hz b1 => ?_
  have hWs : W.heap.size = w.heap.size + 1 := hz.out
  go_upto_region 2 with (fail)
  refine wp_stk1 fun V hV hzV b10 => ?_
  have hVs : V.heap.size = W.heap.size + 1 := hzV.out
  rw [hWs] at b10
  have own0 : V.ownsRow (w.heap.size + 1) 22 1 (.slice (some ⟨w.heap.size + 1, 0, none⟩) 0 0) 0 [] := ⟨rfl, .inr ⟨w.heap.size + 1, 0, #[], rfl, Nat.le_refl _, b10, Nat.le_refl _, Nat.zero_le _, rfl, rfl⟩⟩
  have hBV := hB.trans (hV.mono hB.size)
  have b1V := b1.keep hV
  have HT0 := Lib.hid (HH.out.ht.base.keep hBV)
  have HRo := Lib.hid (show RowT (w.heap.size + 1) V (.slice (some ⟨w.heap.size + 1, 0, none⟩) 0 0) [] from ⟨[], own0, rfl, fun k x t h => by simp at h⟩)
  clear hz hzV b10 own0 b1
  go_wp2_with fail
  go_loopw [6, 7] (fun u i wr => ∃ j : Nat, j ≤ n ∧ i = .int .i64 j ∧ RowT (w.heap.size + 1) wr u (prvR tabs ps (coins.take j)) ∧ ∃ vt L H, Blk wr w.heap.size 37 #[vt, .slice AP np capP] ∧ TabS L H wr vt (bndAll tabs (coins.take j)) ∧ Outside L H u ∧ H ≤ wr.heap.size ∧ Below w.heap.size w wr ∧ w.heap.size + 1 ≤ wr.heap.size) (fun _ i _ => n - (intOf i).toNat)
  case atStart => exact ⟨0, Nat.zero_le _, rfl, HRo.out, vt, 0, w.heap.size, b1V, HT0.out, fun b hb => .inr (by simp [Value.ownBlock] at hb; omega), by omega, hBV, by omega⟩
  case round =>
    obtain ⟨j, hj, rfl, hrow, vt', L, H, bb, hT, hout, hH, hBr, hsz⟩ := hrel
    clear b1V hBV hB
    obtain ⟨Au, cu, hv⟩ := hrow.len'
    have hlr : (prvR tabs ps (coins.take j)).length = j := by rw [prvR_length, List.length_take, HC.out, Nat.min_eq_left (by omega)]
    rw [hlr] at hv
    subst hv
    by_cases hlt : j < n
    · obtain ⟨g, off, cap', hv, q1, q2, q3, q4, q5⟩ := exts_cells HCS.out (by rw [HC.out]; omega)
      rw [HC.out] at hv
      cases hv
      obtain ⟨r, hr, hrd⟩ := get_of (l := coins) (k := j) (by rw [HC.out]; exact hlt)
      obtain ⟨d1, d2⟩ := q5 j r hr
      have HPS := Lib.hid (prvR_succ ps r coins j tabs hr)
      have HBS := Lib.hid (bndAll_succ tabs coins j r hr)
      have hal := HAl.out j hlt
      have hlt2 := HBl.out (coins.take j)
      obtain ⟨m, hm⟩ : ∃ m, m = 2 ^ (n - 1 - j) := ⟨_, rfl⟩
      have hm1 : m ≤ 256 := by rw [hm]; exact pow_le_9 n j hn
      rw [← hm] at hal
      have HAL := Lib.hid hal
      have HL2 := Lib.hid hlt2
      have HLR := Lib.hid hlr
      clear q5 hr hrd hal hlt2 hm hlr
      generalize bndAll tabs (coins.take j) = T at *
      generalize prvR tabs ps (coins.take j) = R at *
      obtain ⟨wo, hwo⟩ : ∃ wo, wo = wr := ⟨_, rfl⟩
      subst hwo
      obtain ⟨AT, capT, rfl⟩ := hT.len
      have e0 := bb.cell
      go_wp2_with fail
      have hSX := HH.out.keep hBr
      refine (rRound T ps m HAL.out (by rw [HL2.out]; exact h0) (by rw [HL2.out]; exact hl) (by omega) _ _ 0 wo.heap.size wo ⟨hT.base, by have := hSX.hp.base; rwa [← HNP.out] at this, by rw [HL2.out]; exact hSX.ix, hSX.few, hSX.short⟩).mono ?_
      rintro e w2 ⟨v2, rfl, t2, hb2⟩
      replace t2 : ExtS wo.heap.size w2.heap.size w2 v2 (rndE T ps) := t2
      obtain ⟨A2, c2, rfl⟩ := Rd.len t2
      generalize rndE T ps = y at *
      have hs2 := hb2.size
      clear e0
      go_wp2_with (at_builtin; refine wpList_appT (x := .slice A2 y.length c2) (y := y) (lo := wo.heap.size) (hi := w2.heap.size) (base := w.heap.size + 1) (ts := R) rfl _ _ rfl Tryz.underlying40 rfl rfl ?hrow ?hsrc rfl ?hE ?hlo ?hhi ?hout ?hk ?hbase ?_)
      case hrow => exact (hrow.keep hb2).keep ((Below.refl _ _).alloc (Nat.le_refl _) _)
      case hsrc => exact Blk.new_at _ _ _ rfl
      case hE => exact Rd.keep t2 ((Below.refl _ _).alloc (Nat.le_refl _) _)
      case hlo => omega
      case hhi => simp
      case hout => exact hrow.out (Nat.le_refl _)
      case hk => rw [HLR.out]; omega
      case hbase => simp; omega
      intro u' w3 hrow3 hB3 hg3 hob3
      have hal2 : Below w2.heap.size w2 (w2.alloc (.cells #[.slice A2 y.length c2] 22)) := (Below.refl _ _).alloc (Nat.le_refl _) _
      have hXa := hb2.trans (hal2.mono hs2)
      have bb3 := (bb.keep hXa).below hB3 (by omega)
      have hT3 := tabs_kept (hT.keep hXa) (Kept.of_grown hg3 hout (by simp; omega)) hg3.size
      have hBw3 : Below w.heap.size w w3 := (hBr.trans (hXa.mono hBr.size)).trans (hB3.mono (by omega))
      have hs3 : w2.heap.size + 1 ≤ w3.heap.size := by simpa using hB3.size
      rw [← HPS.out] at hrow3
      obtain ⟨A3, c3, hv⟩ := hrow3.len'
      rw [prvR_length, List.length_take, HC.out, Nat.min_eq_left (by omega)] at hv
      subst hv
      have f1 := gw_blk bb3
      have f2 := gw_cell (W := w3) (Nat.lt_of_lt_of_le q4 hBw3.size) ((hBw3.cell (p := ⟨g, off + j * 2, none⟩) q4).trans d1)
      have f3 := gw_cell (W := w3) (Nat.lt_of_lt_of_le q4 hBw3.size) ((hBw3.cell (p := ⟨g, off + j * 2 + 1, none⟩) q4).trans d2)
      have HBd := Lib.hid (show ∀ W1, Below w3.heap.size w3 W1 → Calls Tryz.prog 63 #[.agg #[.slice AT T.length capT, .slice AP np capP], ev r] W1 (RetR (BndA (.slice AP np capP) (bndE T r)) W1) from fun W1 hW =>
        rBindS T r m HAL.out (by omega) (by rw [HL2.out]; exact hl) _ (.slice AP np capP) _ _ W1 (hT3.keep hW) ⟨_, _, _, rfl⟩)
      rw [← HBS.out] at HBd
      clear hg3 hob3 t2 hb2 d1 d2 hT hrow bb
      go_wp2_with fail
      refine wp_region_rg 6 [(5, Spec.rel (BndA (.slice AP np capP) (bndAll tabs (coins.take (j + 1)))) AnyV)] (by kernel_rfl) (by kernel_rfl) (by kernel_rfl) ⟨fit_of (bnd_stable _ _), trivial⟩ ?_
      iterate 5 (refine rg_det rfl rfl rfl (fun K hK => ?_); go_big_quiet_op; refine hK _ ?_; clear hK K)
      refine rg_rel rfl rfl (fun W1 hW1 hF => step_callr en_attestor_attestorref06_Bind (HBd.out W1 (grw_below hW1)) rfl rfl) ?_
      intro na5 ma5 va5 hna5 hma5 hda5 hfa5 a' ha
      simp only [Act.put, List.setIfInBounds_toArray, List.set_cons_succ, List.set_cons_zero] at ha
      subst ha
      refine rg_nil (fun w' hw' hF => ?_)
      obtain ⟨z6, rfl⟩ := hw'
      simp only [List.drop_succ_cons, List.drop_zero]
      obtain ⟨hma5', vt4, rfl, hT4⟩ := end_last hF
      obtain ⟨A4, cap4, rfl⟩ := hT4.len
      have bb4 := bb3.gw z6
      have hrow4 := hrow3.keep z6.h
      have hB4 := hBw3.trans (z6.h.mono hBw3.size)
      have hz6 := z6.h.size
      have e2 := bb4.frozen
      have e3 := bb4.cell
      unfold sv
      clear hF f1 f2 f3 hda5
      go_upto_region 4 with (fail)
      refine set2 (M := fun W => Code.wp _ _ _ _ W) bb4 fun Y hY bY => ?_
      have HT5 := Lib.hid (hT4.put hY (.inl (by omega)))
      have HR5 := Lib.hid (hrow4.put hY (by omega))
      have hB5 := below_put hB4 hY (Nat.le_refl _)
      have hYs := hY.size
      have HO5 := Lib.hid (show Outside na5 ma5 (.slice A3 (j + 1) c3) from hrow3.out hna5)
      clear e2 e3 bb4 hT4 hY hrow3 hrow4
      go_wp2_with fail
      exact ⟨⟨j + 1, by omega, by go_num, HR5.out, _, na5, ma5, bY, HT5.out, HO5.out, by omega, hB5, by omega⟩, by simp [intOf]; omega⟩
    · obtain rfl : j = n := by omega
      have htk : coins.take j = coins := by rw [← HC.out, List.take_length]
      rw [htk] at hrow hT
      have hlT : (bndAll tabs coins).length = tabs.length := HBl.out coins
      have HV := Lib.hid (show colE (bndAll tabs coins) 0 tabs.length = prvV tabs coins by unfold colE prvV; rw [← hlT, List.take_length])
      obtain ⟨AT, capT, rfl⟩ := hT.len
      rw [hlT] at bb hT
      obtain ⟨nt, hnt⟩ : ∃ nt, nt = tabs.length := ⟨_, rfl⟩
      rw [← hnt] at bb hT h0 hl
      have HNT := Lib.hid hnt
      have HT := Lib.hid hT
      have HLT := Lib.hid (hlT.trans hnt.symm)
      have HRW := Lib.hid hrow
      have HT1 := Lib.hid (fun k (hk : k < nt) => show ∃ t, (bndAll tabs coins)[k]? = some t ∧ t.length = 1 from ⟨_, List.getElem?_eq_getElem (by rw [hlT, ← hnt]; exact hk), HAe.out _ (List.getElem_mem ..)⟩)
      clear hT hlT htk hrow hlr hnt
      generalize bndAll tabs coins = T at *
      obtain ⟨wo, hwo⟩ : ∃ wo, wo = wr := ⟨_, rfl⟩
      subst hwo
      go_upto_region 8 with (fail)
      refine wp_stk1 fun X hBX hzX bv => ?_
      have hXs : X.heap.size = wo.heap.size + 1 := hzX.out
      have bbX := bb.keep hBX
      have ownV : X.ownsRow wo.heap.size 26 2 (.slice (some ⟨wo.heap.size, 0, none⟩) 0 0) 0 ((colE T 0 0).flatMap ec) := ⟨rfl, .inr ⟨wo.heap.size, 0, #[], rfl, Nat.le_refl _, bv, Nat.le_refl _, Nat.zero_le _, rfl, rfl⟩⟩
      have hBXw := hBr.trans (hBX.mono hBr.size)
      have hblt := bb.lt
      clear bb hzX bv
      go_wp2_with fail
      go_loopw [8, 9] (fun u i wr => ∃ k : Nat, k ≤ nt ∧ i = .int .i64 k ∧ wr.ownsRow wo.heap.size 26 2 u k ((colE T 0 k).flatMap ec) ∧ Below wo.heap.size X wr) (fun _ i _ => nt - (intOf i).toNat)
      case atStart => exact ⟨0, Nat.zero_le _, rfl, ownV, Below.refl _ _⟩
      case round =>
        obtain ⟨k, hk, rfl, hown, hBz⟩ := hrel
        obtain ⟨Av, cv, rfl⟩ := own_len hown
        have hwz := hBX.trans hBz
        have e1 := (bbX.below hBz hblt).cell
        have hwzs := hwz.size
        by_cases hltk : k < nt
        · obtain ⟨t, ht, ht1⟩ := HT1.out k hltk
          obtain ⟨g, off, cap', hv, q1, q2, q3, q4, q5⟩ := tabs_cells HT.out (by rw [HLT.out]; omega)
          rw [HLT.out] at hv
          cases hv
          obtain ⟨A2, c2, d0, hE⟩ := q5 k t ht
          obtain ⟨g2, off2, cap2, hv, r1, r2, r3, r4, r5⟩ := exts_cells hE (by omega)
          rw [ht1] at hv d0 r1
          cases hv
          obtain ⟨x, hx, hxd⟩ := get_of (l := t) (k := 0) (by omega)
          obtain ⟨d1, d2⟩ := r5 0 x hx
          simp only [Nat.zero_mul, Nat.add_zero] at d1 d2
          have HC1 := Lib.hid (show (colE T 0 (k + 1)).flatMap ec = (colE T 0 k).flatMap ec ++ ec x by rw [colE_succ T 0 k t ht, List.flatMap_append, hxd]; simp)
          have e2 := (hwz.cell (p := ⟨g, off + k, none⟩) q4).trans d0
          have e3 := (hwz.cell (p := ⟨g2, off2, none⟩) r4).trans d1
          have e4 := (hwz.cell (p := ⟨g2, off2 + 1, none⟩) r4).trans d2
          have HO := Lib.hid hown
          clear q5 r5 ht hE hx hxd d0 d1 d2 hown
          go_wp2_with (at_builtin; refine wpList_app1 rfl _ _ rfl Tryz.underlying22 hi0 iz0 iz1 iz2 rfl (by decide) (cl := ec x) rfl (ec_one _) rfl rfl (own_below HO.out (Nat.le_refl _) ((Below.refl _ _).alloc (Nat.le_refl _) _)) (Blk.new_at _ _ _ rfl) ?h63 ?hby ?hbase ?_)
          case h63 => unfold maxLen; omega
          case hby => omega
          case hbase => simp; omega
          intro v1 w4 hown4 hgrow hB5
          have hB6 : Below wo.heap.size X w4 := (hBz.trans (((Below.refl _ _).alloc (Nat.le_refl _) _).mono hwzs)).trans hB5
          rw [← HC1.out] at hown4
          clear e1 e2 e3 e4 hgrow hB5
          go_wp2_with fail
          exact ⟨⟨k + 1, by omega, by go_num, hown4, hB6⟩, by simp [intOf]; omega⟩
        · obtain rfl : k = nt := by omega
          have hcl := colE_len T 0 k (by rw [HLT.out]; exact Nat.le_refl _)
          have HX : Hid (ExtS wo.heap.size wr.heap.size wr (.slice Av k cv) (prvV tabs coins)) := Lib.hid (by
            have := exts_of_own hown hcl (by omega) (Nat.le_refl _)
            rwa [← HV.out, ← HNT.out])
          have HRs := Lib.hid ((HRW.out.tabs (by rw [HPL.out, HC.out]; omega)).other hwz.size fun g h1 h2 h3 => hwz.block g h3)
          have hBww := hBr.trans (hwz.mono hBr.size)
          clear hown hcl
          go_wp2_with fail
          go_ret2
          exact ⟨_, _, rfl, HRs.out.wide (by omega) (by omega), Rd.wide HX.out (by omega) (Nat.le_refl _), hBww⟩
end Go.Proofs.YtkgglhakimkkhaaGreatDoor
namespace Go.Proofs.YtkgglhakimkkhaaGreatDoor
open Go.RowKit

theorem ext_cases (x F : E) : x = F ∨ fv x.a ≠ fv F.a ∨ (fv x.a = fv F.a ∧ fv x.b ≠ fv F.b) := by
  by_cases ha : fv x.a = fv F.a
  · by_cases hb : fv x.b = fv F.b
    · exact .inl (E.ext_ (fv_inj ha) (fv_inj hb))
    · exact .inr (.inr ⟨ha, hb⟩)
  · exact .inr (.inl ha)
theorem lastS_ok (v y : E) (xs : List (E × Int)) : lastS v ((y, 0) :: xs) = lastS y xs := rfl
theorem gw_next {W : World} {b i : Nat} {v : Value} (h : ∀ z : GW W, z.w.cell? ⟨b, i, none⟩ = some v) (z : GW W) (y : GW z.w) : y.w.cell? ⟨b, i, none⟩ = some v := h ⟨y.w, z.h.trans (y.h.mono z.h.size)⟩
theorem gw_nextB {W : World} {b : Nat} {cs : Array Value} (h : ∀ (z : GW W) (i : Nat), z.w.cell? ⟨b, i, none⟩ = cs[i]?) (z : GW W) (y : GW z.w) (i : Nat) : y.w.cell? ⟨b, i, none⟩ = cs[i]? := h ⟨y.w, z.h.trans (y.h.mono z.h.size)⟩ i
set_option maxRecDepth 100000 in
set_option maxHeartbeats 2000000 in
theorem rVerifyArg (v : E) (gs : List (List E)) (cs : List E) (d : Int) (hd : -9223372036854775808 ≤ d ∧ d < 9223372036854775808) (hbad : d < 1 ∨ 3 < d ∨ gs.length ≠ cs.length) (vr vc : Value) (lo hi lo2 hi2 : Nat) (w : World) (hg : TabS lo hi w vr gs) (hc : ExtS lo2 hi2 w vc cs) :
    Calls Tryz.prog 53 #[ev v, vr, .agg #[vc, .int .i64 d]] w (Ret (.tuple #[ev 0, .int .i64 1]) w) := by
  obtain ⟨A, cap, rfl⟩ := hg.len
  obtain ⟨AC, capC, rfl⟩ := Rd.len hc
  have hs1 := hg.small
  have hs2 := hc.2.1
  obtain ⟨hd1, hd2⟩ := hd
  have hv0 : (.tuple #[ev 0, .int .i64 1] : Value) = .tuple #[.agg #[.int .u64 0, .int .u64 0], .int .i64 1] := rfl
  rw [hv0]
  unfold ev
  clear hg hc hv0
  by_cases h1 : d < 1
  · skip
    go_enter Tryz.func53, Tryz.ntmps53
    go_upto_region 1 with (fail)
    refine wp_stk3 fun W hB hz b3 b5 b6 => ?_
    have e1 := b5.cell
    have e2 := b6.cell
    have e3 := b6.frozen
    clear hz
    go_wp2_with fail
    refine set2 (M := fun W => bodyPost _ _ _ _ _ W) b6 fun X2 hp bo => ?_
    have f1 := bo.cell
    refine bodyPost_ret (v := .tuple #[.agg #[.int .u64 0, .int .u64 0], .int .i64 1]) (by simp [results, Tryz.results53, go_sem, f1]) rfl ⟨rfl, ?_⟩
    exact below_put hB hp (by omega)
  · by_cases h2 : 3 < d
    · skip
      go_enter Tryz.func53, Tryz.ntmps53
      go_upto_region 1 with (fail)
      refine wp_stk3 fun W hB hz b3 b5 b6 => ?_
      have e1 := b5.cell
      have e2 := b6.cell
      have e3 := b6.frozen
      clear hz
      go_wp2_with fail
      refine set2 (M := fun W => bodyPost _ _ _ _ _ W) b6 fun X2 hp bo => ?_
      have f1 := bo.cell
      refine bodyPost_ret (v := .tuple #[.agg #[.int .u64 0, .int .u64 0], .int .i64 1]) (by simp [results, Tryz.results53, go_sem, f1]) rfl ⟨rfl, ?_⟩
      exact below_put hB hp (by omega)
    · have h3 : ((gs.length : Int) != (cs.length : Int)) = true := by simp; omega
      clear hbad
      go_enter Tryz.func53, Tryz.ntmps53
      go_upto_region 1 with (fail)
      refine wp_stk3 fun W hB hz b3 b5 b6 => ?_
      have e1 := b5.cell
      have e2 := b6.cell
      have e3 := b6.frozen
      clear hz
      go_wp2_with fail
      refine set2 (M := fun W => bodyPost _ _ _ _ _ W) b6 fun X2 hp bo => ?_
      have f1 := bo.cell
      refine bodyPost_ret (v := .tuple #[.agg #[.int .u64 0, .int .u64 0], .int .i64 1]) (by simp [results, Tryz.results53, go_sem, f1]) rfl ⟨rfl, ?_⟩
      exact below_put hB hp (by omega)
set_option maxRecDepth 100000 in
set_option maxHeartbeats 8000000 in
theorem rVerifyOk (v : E) (gs : List (List E)) (cs : List E) (d : Nat) (hd : d ≤ 3) (hd1 : 1 ≤ d) (hl : gs.length = cs.length) (vr vc : Value) (lo hi lo2 hi2 : Nat) (w : World) (hg : TabS lo hi w vr gs) (hc : ExtS lo2 hi2 w vc cs) :
    Calls Tryz.prog 53 #[ev v, vr, .agg #[vc, .int .i64 (d : Int)]] w (Ret (.tuple #[ev (lastS v (stepsL d v gs cs)).1, .int .i64 (lastS v (stepsL d v gs cs)).2]) w) := by
  obtain ⟨A, cap, rfl⟩ := hg.len
  obtain ⟨AC, capC, rfl⟩ := Rd.len hc
  have hsm := hg.small
  have HG := Lib.hid hg
  have HC := Lib.hid hc
  have HL := Lib.hid hl
  rw [← hl]
  have h3 : ((gs.length : Int) != (gs.length : Int)) = false := by simp
  clear hg hc hl
  obtain ⟨R, hR⟩ : ∃ R, R = lastS v (stepsL d v gs cs) := ⟨_, rfl⟩
  rw [← hR]
  have HR := Lib.hid (show R = lastS v (stepsL d v (gs.drop 0) (cs.drop 0)) from hR)
  clear hR
  obtain ⟨L, hL⟩ : ∃ L, L = gs.length := ⟨_, rfl⟩
  have HLL := Lib.hid hL
  rw [← hL] at h3 hsm ⊢
  clear hL
  unfold ev
  go_enter Tryz.func53, Tryz.ntmps53
  go_upto_region 1 with (fail)
  refine wp_stk3 fun W hB hz b3 b5 b6 => ?_
  have e1 := b5.cell
  have hWs : W.heap.size = w.heap.size + 1 + 1 + 1 := hz.out
  clear hz
  go_wp2_with fail
  go_loopw [8] (fun i wr => ∃ j : Nat, j ≤ L ∧ i = .int .i64 j ∧ ∃ x : E, R = lastS x (stepsL d x (gs.drop j) (cs.drop j)) ∧ Blk wr w.heap.size 26 #[.int .u64 (fv x.a), .int .u64 (fv x.b)] ∧ Blk wr (w.heap.size + 1) 89 #[.slice AC L capC, .int .i64 (d : Int)] ∧ Blk wr (w.heap.size + 1 + 1) 26 #[.int .u64 0, .int .u64 0] ∧ Below w.heap.size w wr) (fun i _ => L - (intOf i).toNat)
  case atStart => exact ⟨0, Nat.zero_le _, rfl, v, HR.out, b3, b5, b6, hB⟩
  case round =>
    obtain ⟨j, hj, rfl, x, hx, b3, b5, b6, hB⟩ := hrel
    have HX := Lib.hid hx
    clear hx
    by_cases hlt : j < L
    · obtain ⟨gG, oG, cG, hv, -, -, -, lG, qG⟩ := tabs_cells HG.out (by rw [← HLL.out]; omega)
      rw [← HLL.out] at hv
      cases hv
      obtain ⟨gC, oC, cC, hv, -, -, -, lC, qC⟩ := exts_cells HC.out (by rw [← HL.out, ← HLL.out]; omega)
      rw [← HL.out, ← HLL.out] at hv
      cases hv
      obtain ⟨g, hg⟩ : ∃ g, gs[j]? = some g := ⟨_, List.getElem?_eq_getElem (by rw [← HLL.out]; exact hlt)⟩
      obtain ⟨c, hc⟩ : ∃ c, cs[j]? = some c := ⟨_, List.getElem?_eq_getElem (by rw [← HL.out, ← HLL.out]; exact hlt)⟩
      obtain ⟨Ag, cg, d1, hE⟩ := qG j g hg
      obtain ⟨d2, d3⟩ := qC j c hc
      have f1 := gw_cell (W := wr) (Nat.lt_of_lt_of_le lG hB.size) ((hB.cell (p := ⟨gG, oG + j, none⟩) lG).trans d1)
      have f2 := gw_cell (W := wr) (Nat.lt_of_lt_of_le lC hB.size) ((hB.cell (p := ⟨gC, oC + j * 2, none⟩) lC).trans d2)
      have f3 := gw_cell (W := wr) (Nat.lt_of_lt_of_le lC hB.size) ((hB.cell (p := ⟨gC, oC + j * 2 + 1, none⟩) lC).trans d3)
      have f4 := gw_blk b5
      have HE := Lib.hid (Rd.keep hE hB)
      have hgs := (show g.length ≤ 140737488355327 from hE.2.1)
      clear qG qC d1 d2 d3 hE
      by_cases hgl : g.length = d + 1
      · obtain ⟨g0, hg0, hgd0⟩ := get_of (l := g) (k := 0) (by omega)
        obtain ⟨g1, hg1, hgd1⟩ := get_of (l := g) (k := 1) (by omega)
        obtain ⟨gE, oE, cE, hv, -, -, -, lE, qE⟩ := exts_cells HE.out (by omega)
        cases hv
        obtain ⟨q1, q2⟩ := qE 0 g0 hg0
        obtain ⟨q3, q4⟩ := qE 1 g1 hg1
        simp only [Nat.zero_mul, Nat.one_mul, Nat.add_zero, Nat.add_assoc, Nat.reduceAdd] at q1 q2 q3 q4
        have f5 := gw_cell lE q1
        have f6 := gw_cell lE q2
        have f7 := gw_cell lE q3
        have f8 := gw_cell lE q4
        have f9 := gw_blk b3
        have HP := Lib.hid (show ∀ W1, Below wr.heap.size wr W1 → Calls Tryz.prog 82 #[.slice (some ⟨gE, oE, none⟩) g.length cg, ev c] W1 (Ret (ev (atE g c)) W1) from fun W1 hW => pAt g c (by omega) _ _ _ W1 (Rd.keep HE.out hW))
        have HOK := Lib.hid (fun hs => stepsL_ok d x gs cs j g c hg hc hgl hs)
        have HSUM := Lib.hid (fun hs => stepsL_sum d x gs cs j g c hg hc hgl hs)
        rw [hgd0, hgd1] at HOK HSUM
        rw [hgl] at HP f1
        clear qE q1 q2 q3 q4 hg0 hg1 hgd0 hgd1 hg hc hgl HE hgs
        obtain ⟨y, hy⟩ : ∃ y, y = atE g c := ⟨_, rfl⟩
        rw [← hy] at HP HOK
        clear hy
        go_wp2_with fail
        refine wp_region_rg 9 [] (by kernel_rfl) (by kernel_rfl) (by kernel_rfl) trivial ?_
        iterate 9 (refine rg_det rfl rfl rfl (fun K hK => ?_); go_big_quiet_op; refine hK _ ?_; clear hK K)
        refine rg_nil (fun w' hw' hF => ?_)
        obtain ⟨z1, rfl⟩ := hw'
        simp only [List.drop_succ_cons, List.drop_zero]
        have b32 := b3.keep z1.h
        have b52 := b5.keep z1.h
        have b62 := b6.keep z1.h
        have hB2 := hB.trans (z1.h.mono hB.size)
        replace f1 := gw_next f1 z1
        replace f2 := gw_next f2 z1
        replace f3 := gw_next f3 z1
        replace f4 := gw_nextB f4 z1
        replace f5 := gw_next f5 z1
        replace f6 := gw_next f6 z1
        replace f7 := gw_next f7 z1
        replace f8 := gw_next f8 z1
        replace f9 := gw_nextB f9 z1
        clear hF
        go_wp2_with fail
        rcases ext_cases (g0 + g1) x with hs | hs | ⟨hs, hs'⟩
        · have HS := Lib.hid (HOK.out hs)
          rw [← hs] at f9 HX HS
          clear HSUM HOK
          refine wp_region_rg 15 [(12, Spec.val (.agg #[.int .u64 (fv (g0 + g1).a), .int .u64 (fv (g0 + g1).b)]))] (by kernel_rfl) (by kernel_rfl) (by kernel_rfl) trivial ?_
          iterate 12 (refine rg_det rfl rfl rfl (fun K hK => ?_); go_big_quiet_op; refine hK _ ?_; clear hK K)
          refine rg_val rfl rfl (fun W1 hW1 hF => step_callv en_attestor_attestorref02_Add (xAdd g0 g1 W1) rfl rfl) ?_
          intro a' ha
          simp only [Act.put, List.setIfInBounds_toArray, List.set_cons_succ, List.set_cons_zero] at ha
          subst ha
          iterate 2 (refine rg_det rfl rfl rfl (fun K hK => ?_); go_big_quiet_op; refine hK _ ?_; clear hK K)
          refine rg_nil (fun w' hw' hF => ?_)
          obtain ⟨z2, rfl⟩ := hw'
          simp only [List.drop_succ_cons, List.drop_zero]
          replace f1 := gw_next f1 z2
          replace f2 := gw_next f2 z2
          replace f3 := gw_next f3 z2
          replace f4 := gw_nextB f4 z2
          have hB3 := hB2.trans (z2.h.mono hB2.size)
          have b33 := b32.keep z2.h
          have b53 := b52.keep z2.h
          have b63 := b62.keep z2.h
          have h12 := z1.h.trans (z2.h.mono z1.h.size)
          clear hF f5 f6 f7 f8 f9
          go_wp2_with fail
          refine wp_region_rg 10 [(9, Spec.val (.agg #[.int .u64 (fv (y).a), .int .u64 (fv (y).b)]))] (by kernel_rfl) (by kernel_rfl) (by kernel_rfl) trivial ?_
          iterate 9 (refine rg_det rfl rfl rfl (fun K hK => ?_); go_big_quiet_op; refine hK _ ?_; clear hK K)
          refine rg_val rfl rfl (fun W1 hW1 hF => step_callv en_attestor_attestorref03_At (HP.out W1 (h12.trans ((grw_below hW1).mono h12.size))) rfl rfl) ?_
          intro a' ha
          simp only [Act.put, List.setIfInBounds_toArray, List.set_cons_succ, List.set_cons_zero] at ha
          subst ha
          refine rg_nil (fun w' hw' hF => ?_)
          obtain ⟨z3, rfl⟩ := hw'
          simp only [List.drop_succ_cons, List.drop_zero]
          have b34 := b33.gw z3
          have b54 := b53.gw z3
          have b64 := b63.gw z3
          have hB4 := hB3.trans (z3.h.mono hB3.size)
          have e1 := b34.cell
          have e2 := b34.frozen
          clear hF f1 f2 f3 f4
          go_upto_region 5 with (fail)
          refine set2 (M := fun W => Code.wp _ _ _ _ W) b34 fun X5 hX5 b35 => ?_
          have HN := Lib.hid (show R = lastS y (stepsL d y (gs.drop (j + 1)) (cs.drop (j + 1))) by rw [HX.out, HS.out]; exact lastS_ok _ _ _)
          have b55 := hX5.blk b54 (by omega)
          have b65 := hX5.blk b64 (by omega)
          have hB5 := below_put hB4 hX5 (Nat.le_refl _)
          clear e1 e2 b34 b54 b64 hX5
          go_wp2_with fail
          exact ⟨⟨j + 1, by omega, by go_num, y, HN.out, b35, b55, b65, hB5⟩, by simp [intOf]; omega⟩
        · have HNE := Lib.hid (show g0 + g1 ≠ x from fun e => hs (by rw [e]))
          skip
          refine wp_region_rg 15 [(12, Spec.val (.agg #[.int .u64 (fv (g0 + g1).a), .int .u64 (fv (g0 + g1).b)]))] (by kernel_rfl) (by kernel_rfl) (by kernel_rfl) trivial ?_
          iterate 12 (refine rg_det rfl rfl rfl (fun K hK => ?_); go_big_quiet_op; refine hK _ ?_; clear hK K)
          refine rg_val rfl rfl (fun W1 hW1 hF => step_callv en_attestor_attestorref02_Add (xAdd g0 g1 W1) rfl rfl) ?_
          intro a' ha
          simp only [Act.put, List.setIfInBounds_toArray, List.set_cons_succ, List.set_cons_zero] at ha
          subst ha
          iterate 2 (refine rg_det rfl rfl rfl (fun K hK => ?_); go_big_quiet_op; refine hK _ ?_; clear hK K)
          refine rg_nil (fun w' hw' hF => ?_)
          obtain ⟨z2, rfl⟩ := hw'
          simp only [List.drop_succ_cons, List.drop_zero]
          have bo := b62.gw z2
          have hBo := hB2.trans (z2.h.mono hB2.size)
          have e1 := bo.cell
          have e2 := bo.frozen
          have HRR := Lib.hid (HX.out.trans (congrArg (lastS x) (HSUM.out HNE.out)))
          clear hF
          go_wp2_with fail
          refine set2 (M := fun W => bodyPost _ _ _ _ _ W) bo fun X2 hp bo => ?_
          have f1 := bo.cell
          refine bodyPost_ret (v := .tuple #[.agg #[.int .u64 0, .int .u64 0], .int .i64 60]) (by simp [results, Tryz.results53, go_sem, f1]) rfl ⟨(by rw [HRR.out]; rfl), ?_⟩
          exact below_put hBo hp (by omega)
        · have HNE := Lib.hid (show g0 + g1 ≠ x from fun e => hs' (by rw [e]))
          skip
          refine wp_region_rg 15 [(12, Spec.val (.agg #[.int .u64 (fv (g0 + g1).a), .int .u64 (fv (g0 + g1).b)]))] (by kernel_rfl) (by kernel_rfl) (by kernel_rfl) trivial ?_
          iterate 12 (refine rg_det rfl rfl rfl (fun K hK => ?_); go_big_quiet_op; refine hK _ ?_; clear hK K)
          refine rg_val rfl rfl (fun W1 hW1 hF => step_callv en_attestor_attestorref02_Add (xAdd g0 g1 W1) rfl rfl) ?_
          intro a' ha
          simp only [Act.put, List.setIfInBounds_toArray, List.set_cons_succ, List.set_cons_zero] at ha
          subst ha
          iterate 2 (refine rg_det rfl rfl rfl (fun K hK => ?_); go_big_quiet_op; refine hK _ ?_; clear hK K)
          refine rg_nil (fun w' hw' hF => ?_)
          obtain ⟨z2, rfl⟩ := hw'
          simp only [List.drop_succ_cons, List.drop_zero]
          have bo := b62.gw z2
          have hBo := hB2.trans (z2.h.mono hB2.size)
          have e1 := bo.cell
          have e2 := bo.frozen
          have HRR := Lib.hid (HX.out.trans (congrArg (lastS x) (HSUM.out HNE.out)))
          clear hF
          go_wp2_with fail
          refine set2 (M := fun W => bodyPost _ _ _ _ _ W) bo fun X2 hp bo => ?_
          have f1 := bo.cell
          refine bodyPost_ret (v := .tuple #[.agg #[.int .u64 0, .int .u64 0], .int .i64 60]) (by simp [results, Tryz.results53, go_sem, f1]) rfl ⟨(by rw [HRR.out]; rfl), ?_⟩
          exact below_put hBo hp (by omega)
      · have hne : ((g.length : Int) != (d : Int) + 1) = true := by simp; omega
        have HRR := Lib.hid (HX.out.trans (congrArg (lastS x) (stepsL_bad d x gs cs j g c hg hc hgl)))
        go_wp2_with fail
        refine wp_region_rg 9 [] (by kernel_rfl) (by kernel_rfl) (by kernel_rfl) trivial ?_
        iterate 9 (refine rg_det rfl rfl rfl (fun K hK => ?_); go_big_quiet_op; refine hK _ ?_; clear hK K)
        refine rg_nil (fun w' hw' hF => ?_)
        obtain ⟨z1, rfl⟩ := hw'
        simp only [List.drop_succ_cons, List.drop_zero]
        have bo := b6.keep z1.h
        have hBo := hB.trans (z1.h.mono hB.size)
        have e1 := bo.cell
        have e2 := bo.frozen
        clear hF
        go_wp2_with fail
        refine set2 (M := fun W => bodyPost _ _ _ _ _ W) bo fun X2 hp bo => ?_
        have f1 := bo.cell
        refine bodyPost_ret (v := .tuple #[.agg #[.int .u64 0, .int .u64 0], .int .i64 61]) (by simp [results, Tryz.results53, go_sem, f1]) rfl ⟨(by rw [HRR.out]; rfl), ?_⟩
        exact below_put hBo hp (by omega)
    · obtain rfl : j = L := by omega
      have HRR := Lib.hid (HX.out.trans (congrArg (lastS x) (stepsL_end d x gs cs j (by rw [← HLL.out]; exact Nat.le_refl _))))
      have e1 := b3.cell
      have e2 := b6.cell
      have e3 := b6.frozen
      go_wp2_with fail
      refine set2 (M := fun W => bodyPost _ _ _ _ _ W) b6 fun X2 hp bo => ?_
      have f1 := bo.cell
      refine bodyPost_ret (v := .tuple #[.agg #[.int .u64 (fv (x).a), .int .u64 (fv (x).b)], .int .i64 0]) (by simp [results, Tryz.results53, go_sem, f1]) rfl ⟨by rw [HRR.out]; rfl, ?_⟩
      exact below_put hB hp (by omega)
theorem rVerify (v : E) (gs : List (List E)) (cs : List E) (d : Int) (hd : -9223372036854775808 ≤ d ∧ d < 9223372036854775808) (vr vc : Value) (lo hi lo2 hi2 : Nat) (w : World) (hg : TabS lo hi w vr gs) (hc : ExtS lo2 hi2 w vc cs) :
    Calls Tryz.prog 53 #[ev v, vr, .agg #[vc, .int .i64 d]] w (Ret (.tuple #[ev (vrfE d v gs cs).1, .int .i64 (vrfE d v gs cs).2]) w) := by
  by_cases hbad : d < 1 ∨ 3 < d ∨ gs.length ≠ cs.length
  · rw [show vrfE d v gs cs = (0, 1) from if_pos hbad]
    exact rVerifyArg v gs cs d hd hbad vr vc lo hi lo2 hi2 w hg hc
  · rw [show vrfE d v gs cs = lastS v (stepsL d.toNat v gs cs) from if_neg hbad]
    obtain ⟨n, rfl⟩ : ∃ n : Nat, d = (n : Int) := ⟨d.toNat, by omega⟩
    exact rVerifyOk v gs cs n (by omega) (by omega) (by omega) vr vc lo hi lo2 hi2 w hg hc
end Go.Proofs.YtkgglhakimkkhaaGreatDoor
namespace Go.Proofs.YtkgglhakimkkhaaGreatDoor
open Go.RowKit

attribute [local irreducible] wpRg
set_option maxRecDepth 100000 in
set_option maxHeartbeats 4000000 in
theorem rProveB (T : List E) (cs : List ClW) (r : E) (coins : List E) (n : Nat) (hc : coins.length = n) (hn : n ≤ 8) (AC : Option Addr) (capC : Nat) (vt vl : Value) (lo hi lo2 hi2 lo3 hi3 : Nat) (w : World) (hT : ExtS lo2 hi2 w vt T) (hcs : ClmU lo hi w vl cs) (hcn : ExtS lo3 hi3 w (.slice AC coins.length capC) coins) (hTl : T.length = 2 ^ n) (hpl : ∀ x ∈ cs, x.1.p.length = n) :
    Calls Tryz.prog 9 #[vt, vl, fdV r coins AC capC] w fun e w' => ∃ v1, e = .returned (.tuple #[v1, clV (⟨coins, mev T coins⟩, (AC, capC))]) ∧ TabS w.heap.size w'.heap.size w' v1 (prvR (tabB T cs r) trmB coins) ∧ Below w.heap.size w w' := by
  obtain ⟨A, cap, rfl⟩ := hcs.len
  obtain ⟨AT, capT, rfl⟩ := Rd.len hT
  have h2n : 2 ^ n ≤ 2 ^ 8 := Nat.pow_le_pow_right (by decide) hn
  have HS := Lib.hid (fun W (hW : Below w.heap.size w W) => rSumB T cs r n hn (.slice AT T.length capT) (.slice A cs.length cap) lo hi lo2 hi2 W (Rd.keep hT hW) (hcs.keep hW) hTl hpl)
  have HP := Lib.hid (fun W (hW : Below w.heap.size w W) v1 v2 (h : SumS 0 W.heap.size W v1 v2 (tabB T cs r) trmB) => rProve (tabB T cs r) trmB coins n hc (by omega) (hTl ▸ tabB_all T cs r) (Nat.zero_lt_succ _) (show 2 ≤ 1000 by decide) v1 v2 (.slice AC coins.length capC) 0 W.heap.size lo3 hi3 W h (Rd.keep hcn hW))
  have HE := Lib.hid (fun W (hW : Below w.heap.size w W) => show Calls Tryz.prog 41 #[.slice AT T.length capT, .slice AC coins.length capC] W (Ret (ev (mev T coins)) W) from by
    rw [← dotE_all T coins (by rw [hc, hTl])]
    exact rEval T coins (by rw [hTl]; omega) (by rw [hc]; omega) _ _ _ _ _ _ W (Rd.keep hT hW) (Rd.keep hcn hW))
  have HC := Lib.hid hcn
  clear hT hcs hcn hpl
  unfold clV clc ptV fdV
  unfold ev sv at HS
  unfold sv at HP
  change Hid (∀ W (hW : Below w.heap.size w W), Calls _ _ _ _ (fun e w' => ∃ v1 v2, e = _ ∧ SumS 0 w'.heap.size w' v1 v2 (tabB T cs r) trmB ∧ _)) at HS
  generalize tabB T cs r = tb at *
  generalize valB cs r = yv at *
  generalize mev T coins = x0 at *
  generalize prvR tb trmB coins = rs at *
  dsimp only
  obtain ⟨M, hM⟩ : ∃ M, M = cs.length := ⟨_, rfl⟩
  rw [← hM] at HS ⊢
  clear hM
  obtain ⟨NT, hNT⟩ : ∃ NT, NT = T.length := ⟨_, rfl⟩
  rw [← hNT] at HS HE ⊢
  rw [hc] at HP HC HE ⊢
  clear hNT hTl hc
  go_enter Tryz.func9, Tryz.ntmps9
  go_upto_region 1 with (fail)
  refine wp_stk2 fun W hB hz b1 b2 => ?_
  have hWs := hz.out
  have e1 := b1.cell
  clear hz
  go_wp2_with fail
  refine (HS.out W hB).mono ?_
  rintro e w2 ⟨v1, v2, rfl, hSm, hb2⟩
  have b12 := b1.keep hb2
  have b22 := b2.keep hb2
  have hB2 := hB.trans (hb2.mono hB.size)
  have hs2 := hb2.size
  obtain ⟨A1, cp1, rfl⟩ := hSm.ht.len
  obtain ⟨A2, cp2, rfl⟩ := hSm.hp.len
  clear b1 b2 e1
  go_upto_region 2 with (fail)
  refine wp_stk2 fun X hBX hz c1 c2 => ?_
  have b1X := b12.keep hBX
  have b2X := b22.keep hBX
  have hB3 := hB2.trans (hBX.mono hB2.size)
  have hSX := hSm.keep hBX
  have hXs := hz.out
  have e1 := b1X.cell
  have e2 := c1.cell
  clear hz hSm b12 b22 c1 c2
  go_wp2_with fail
  refine (HP.out X hB3 _ _ ⟨hSX.ht.wide (Nat.le_refl _) hBX.size, hSX.hp.wide (Nat.le_refl _) hBX.size, hSX.ix, hSX.few, hSX.short⟩).mono ?_
  rintro e w4 ⟨v1, v2, rfl, hR, hE, hb4⟩
  obtain ⟨A3, cp3, rfl⟩ := hR.len
  obtain ⟨A4, cp4, rfl⟩ := Rd.len hE
  have b1Y := b1X.keep hb4
  have b2Y := b2X.keep hb4
  have hB4 := hB3.trans (hb4.mono hB3.size)
  have y1 := gw_blk b1Y
  have hs4 := hb4.size
  have hsX := hBX.size
  have hR2 := Lib.hid hR
  have hwX : w.heap.size + 1 < X.heap.size := by omega
  generalize rs.length = nr at *
  clear e1 e2 hSX b1X b2X hE hR
  go_upto_region 3 with (fail)
  refine wp_region_rg 9 [(6, Spec.val (.agg #[.int .u64 (fv (x0).a), .int .u64 (fv (x0).b)]))] (by kernel_rfl) (by kernel_rfl) (by kernel_rfl) trivial ?_
  iterate 6 (refine rg_det rfl rfl rfl (fun K hK => ?_); go_big_quiet_op; refine hK _ ?_; clear hK K)
  refine rg_val rfl rfl (fun W1 hW1 hF => step_callv en_attestor_attestorref05_Eval (HE.out W1 (hB4.trans ((grw_below hW1).mono hB4.size))) rfl rfl) ?_
  intro a' ha
  simp only [Act.put, List.setIfInBounds_toArray, List.set_cons_succ, List.set_cons_zero] at ha
  subst ha
  iterate 2 (refine rg_det rfl rfl rfl (fun K hK => ?_); go_big_quiet_op; refine hK _ ?_; clear hK K)
  refine rg_nil (fun w' hw' hF => ?_)
  obtain ⟨z, rfl⟩ := hw'
  simp only [List.drop_succ_cons, List.drop_zero]
  have b2z := b2Y.gw z
  have e1 := b2z.cell
  have e2 := b2z.frozen
  have hzs := z.h.size
  have hBz := hB4.trans (z.h.mono hB4.size)
  have hRz := Lib.hid (hR2.out.keep z.h)
  clear hF y1
  go_wp2_with fail
  obtain ⟨Z, hZ⟩ : ∃ Z, (((z.w.setCell ⟨w.heap.size + 1, 0, none⟩ (.slice AC n capC)).setCell ⟨w.heap.size + 1, 1, none⟩ (.int .u64 (fv x0.a))).setCell ⟨w.heap.size + 1, 2, none⟩ (.int .u64 (fv x0.b))) = Z := ⟨_, rfl⟩
  rw [hZ]
  have hp : Put z.w Z (w.heap.size + 1) := by rw [← hZ]; exact ((Put.set _ _ _ _).trans (Put.set _ _ _ _)).trans (Put.set _ _ _ _)
  have bZ : Blk Z (w.heap.size + 1) 42 #[.slice AC n capC, .int .u64 (fv x0.a), .int .u64 (fv x0.b)] := by rw [← hZ]; exact ((b2z.set_ 0 _).set_ 1 _).set_ 2 _
  have f1 := bZ.cell
  refine bodyPost_ret (v := .tuple #[.slice A3 nr cp3, .agg #[.slice AC n capC, .int .u64 (fv x0.a), .int .u64 (fv x0.b)]]) (by simp [results, Tryz.results9, go_sem, f1]) rfl ⟨_, rfl, ?_, below_put hBz hp (by omega)⟩
  exact (hRz.out.put hp (.inl hwX)).wide (by omega) (by rw [hp.size]; exact z.h.size)
end Go.Proofs.YtkgglhakimkkhaaGreatDoor
namespace Go.Proofs.YtkgglhakimkkhaaGreatDoor
open Go.RowKit

theorem en_attestor_attestorref21_Verify : ∀ args w, (callFunc 19 args).run Tryz.prog w = .ok (.enter 19 args) w := enters_of Tryz.func19 (by kernel_rfl) rfl
set_option maxRecDepth 100000 in
set_option maxHeartbeats 4000000 in
theorem rVerifyB (cs : List ClW) (r : E) (gs : List (List E)) (coins : List E) (V : E) (AC : Option Addr) (capC : Nat) (vl vr : Value) (lo hi lo2 hi2 lo3 hi3 : Nat) (w : World) (hcs : ClmU lo hi w vl cs) (hcn : ExtS lo3 hi3 w (.slice AC coins.length capC) coins) (hgs : TabS lo2 hi2 w vr gs) (hpl : ∀ x ∈ cs, coins.length = x.1.p.length) :
    Calls Tryz.prog 19 #[vl, vr, .agg #[.int .u64 (fv r.a), .int .u64 (fv r.b), .slice AC coins.length capC, .int .u64 (fv V.a), .int .u64 (fv V.b)]] w (Ret (vfyB cs r gs coins V AC capC) w) := by
  obtain ⟨A, cap, rfl⟩ := hcs.len
  obtain ⟨AR, capR, rfl⟩ := hgs.len
  have HB := Lib.hid (fun W (hW : Below w.heap.size w W) => rValueB cs r (.slice A cs.length cap) lo hi W (hcs.keep hW))
  have HF := Lib.hid (fun W (hW : Below w.heap.size w W) => rVerify (valB cs r) gs coins 2 (by decide) (.slice AR gs.length capR) (.slice AC coins.length capC) lo2 hi2 lo3 hi3 W (hgs.keep hW) (Rd.keep hcn hW))
  have HW := Lib.hid (fun W (hW : Below w.heap.size w W) => rWeightB cs r coins (.slice A cs.length cap) (.slice AC coins.length capC) lo hi lo3 hi3 W (hcs.keep hW) (Rd.keep hcn hW) hpl)
  clear hcs hcn hgs hpl
  obtain ⟨res, hres⟩ : ∃ res, res = vfyB cs r gs coins V AC capC := ⟨_, rfl⟩
  have HR := Lib.hid hres
  rw [← hres]
  clear hres
  unfold vfyB at HR
  change Hid (∀ W (hW : Below w.heap.size w W), Calls _ _ _ _ (Ret (ev (valB cs r)) W)) at HB
  generalize valB cs r = yv at *
  generalize wgtC cs r coins = wg at *
  obtain ⟨f, hf⟩ : ∃ f, f = vrfE 2 yv gs coins := ⟨_, rfl⟩
  rw [← hf] at HF HR
  clear hf
  obtain ⟨fy, fe⟩ := f
  unfold clV clc ptV clm0 at HR
  dsimp only at HF HR
  generalize gs.length = ng at *
  generalize coins.length = nc at *
  generalize cs.length = M at *
  go_enter Tryz.func19, Tryz.ntmps19
  go_upto_region 1 with (fail)
  refine wp_stk2 fun W hB hz b1 b2 => ?_
  have hWs := hz.out
  have y1 := gw_blk b1
  clear hz
  obtain ⟨i0, hi0, iz0, iz1, iz2⟩ := info_parts ext_info
  refine wp_region_swap 15 13 undef [(4, Spec.val (.agg #[.int .u64 (fv (yv).a), .int .u64 (fv (yv).b)])), (10, Spec.val (.tuple #[.agg #[.int .u64 (fv (fy).a), .int .u64 (fv (fy).b)], .int .i64 fe])), (14, Spec.rel (New 26 #[.int .u64 0, .int .u64 0]) (NewF))] (by kernel_rfl) (by kernel_rfl) (by kernel_rfl) rfl rfl rfl rfl ⟨fit_new, trivial⟩ ?_ ?_
  iterate 4 (refine rg_det rfl rfl rfl (fun K hK => ?_); go_big_quiet_op; refine hK _ ?_; clear hK K)
  refine rg_val rfl rfl (fun W1 hW1 hF => step_callv en_attestor_attestorref21_Value (HB.out W1 (hB.trans ((grw_below hW1).mono hB.size))) rfl rfl) ?_
  intro a' ha
  simp only [Act.put, List.setIfInBounds_toArray, List.set_cons_succ, List.set_cons_zero] at ha
  subst ha
  iterate 5 (refine rg_det rfl rfl rfl (fun K hK => ?_); go_big_quiet_op; refine hK _ ?_; clear hK K)
  refine rg_val rfl rfl (fun W1 hW1 hF => step_callv en_attestor_attestorref06_Verify (HF.out W1 (hB.trans ((grw_below hW1).mono hB.size))) rfl rfl) ?_
  intro a' ha
  simp only [Act.put, List.setIfInBounds_toArray, List.set_cons_succ, List.set_cons_zero] at ha
  subst ha
  iterate 3 (refine rg_det rfl rfl rfl (fun K hK => ?_); go_big_quiet_op; refine hK _ ?_; clear hK K)
  refine rg_rel rfl rfl (fun W1 hW1 hF => step_new hi0 iz0 rfl) ?_
  intro n14 m14 v14 hn14 hm14 hd14 hf14 a' ha
  simp only [Act.put, List.setIfInBounds_toArray, List.set_cons_succ, List.set_cons_zero] at ha
  subst ha
  obtain rfl := hf14
  refine rg_nil (fun w' hw' hF => ?_)
  obtain ⟨z, rfl⟩ := hw'
  simp only [List.drop_succ_cons, List.drop_zero]
  rotate_left 1
  iterate 4 (refine rg_det rfl rfl rfl (fun K hK => ?_); go_big_quiet_op; refine hK _ ?_; clear hK K)
  refine rg_val rfl rfl (fun W1 hW1 hF => step_callv en_attestor_attestorref21_Value (HB.out W1 (hB.trans ((grw_below hW1).mono hB.size))) rfl rfl) ?_
  intro a' ha
  simp only [Act.put, List.setIfInBounds_toArray, List.set_cons_succ, List.set_cons_zero] at ha
  subst ha
  iterate 5 (refine rg_det rfl rfl rfl (fun K hK => ?_); go_big_quiet_op; refine hK _ ?_; clear hK K)
  refine rg_val rfl rfl (fun W1 hW1 hF => step_callv en_attestor_attestorref06_Verify (HF.out W1 (hB.trans ((grw_below hW1).mono hB.size))) rfl rfl) ?_
  intro a' ha
  simp only [Act.put, List.setIfInBounds_toArray, List.set_cons_succ, List.set_cons_zero] at ha
  subst ha
  iterate 2 (refine rg_det rfl rfl rfl (fun K hK => ?_); go_big_quiet_op; refine hK _ ?_; clear hK K)
  refine rg_pass rfl rfl ?_
  intro a' ha
  simp only [Act.put, List.setIfInBounds_toArray, List.set_cons_succ, List.set_cons_zero] at ha
  subst ha
  refine rg_rel rfl rfl (fun W1 hW1 hF => step_new hi0 iz0 rfl) ?_
  intro n14 m14 v14 hn14 hm14 hd14 hf14 a' ha
  simp only [Act.put, List.setIfInBounds_toArray, List.set_cons_succ, List.set_cons_zero] at ha
  subst ha
  obtain rfl := hf14
  refine rg_nil (fun w' hw' hF => ?_)
  obtain ⟨z, rfl⟩ := hw'
  simp only [List.drop_succ_cons, List.drop_zero]
  refine wpList_putS ?_
  intro a' ha
  simp only [Act.put, List.setIfInBounds_toArray, List.set_cons_succ, List.set_cons_zero] at ha
  subst ha
  rotate_right 1
  all_goals
    obtain ⟨hm14, -, hl14, b14⟩ := end_last hF
    have b1z := b1.gw z
    have b2z := b2.gw z
    have hzs := z.h.size
    have hBz := hB.trans (z.h.mono hB.size)
    have e1 := b14.cell
    have e2 := b14.frozen
    have hnw : w.heap.size + 1 < n14 := by omega
    clear hF y1
    go_upto_region 2 with (fail)
    clear e1 e2
    refine set2 (M := fun W => Code.wp _ _ _ _ W) b14 fun X hX bX => ?_
    have b1X := hX.blk b1z (by omega)
    have b2X := hX.blk b2z (by omega)
    have hBX := below_put hBz hX (by omega)
    have d1 := b2X.cell
    have d2 := b2X.frozen
    by_cases hfe : fe = 0
    · subst hfe
      have y1 := gw_blk b1X
      have y2 := gw_blk bX
      rcases ext_casesB fy (V * wg) with hq | ⟨hq, hq1⟩ | ⟨hq, hq1, hq2⟩
      · subst hq; have HX := Lib.hid (show res = .tuple #[.agg #[.slice AC nc capC, .int .u64 (fv V.a), .int .u64 (fv V.b)], .int .i64 0] by rw [HR.out]; simp [])
        go_upto_region 4 with (fail)
        refine wp_region_rg 13 [(10, Spec.val (.agg #[.int .u64 (fv (wg).a), .int .u64 (fv (wg).b)])), (11, Spec.val (.agg #[.int .u64 (fv (V * wg).a), .int .u64 (fv (V * wg).b)]))] (by kernel_rfl) (by kernel_rfl) (by kernel_rfl) trivial ?_
        iterate 10 (refine rg_det rfl rfl rfl (fun K hK => ?_); go_big_quiet_op; refine hK _ ?_; clear hK K)
        refine rg_val rfl rfl (fun W1 hW1 hF => step_callv en_attestor_attestorref21_Weight (HW.out W1 (hBX.trans ((grw_below hW1).mono hBX.size))) rfl rfl) ?_
        intro a' ha
        simp only [Act.put, List.setIfInBounds_toArray, List.set_cons_succ, List.set_cons_zero] at ha
        subst ha
        refine rg_val rfl rfl (fun W1 hW1 hF => step_callv en_attestor_attestorref02_Mul (xMul V wg W1) rfl rfl) ?_
        intro a' ha
        simp only [Act.put, List.setIfInBounds_toArray, List.set_cons_succ, List.set_cons_zero] at ha
        subst ha
        refine rg_det rfl rfl rfl (fun K hK => ?_)
        go_big_quiet_op
        refine hK _ ?_; clear hK K
        refine rg_nil (fun w' hw' hF => ?_)
        obtain ⟨z4, rfl⟩ := hw'
        simp only [List.drop_succ_cons, List.drop_zero]
        have b2z4 := b2X.gw z4
        have b1z4 := b1X.gw z4
        have hB4 := hBX.trans (z4.h.mono hBX.size)
        clear hF y1 y2 d1 d2
        have d1 := b2z4.cell
        have d2 := b2z4.frozen
        have d3 := b1z4.cell
        go_wp2_with fail
        refine set3B (M := fun W => bodyPost _ _ _ _ _ W) b2z4 fun Z hp bo => ?_
        have f1 := bo.cell
        rw [HX.out]
        refine bodyPost_ret (v := .tuple #[.agg #[.slice AC nc capC, .int .u64 (fv V.a), .int .u64 (fv V.b)], .int .i64 0]) (by simp [results, Tryz.results19, go_sem, f1]) rfl ⟨rfl, below_put hB4 hp (by omega)⟩
      · have HX := Lib.hid (show res = .tuple #[.agg #[.slice none 0 0, .int .u64 0, .int .u64 0], .int .i64 111] by rw [HR.out]; simp [hq])
        go_upto_region 4 with (fail)
        refine wp_region_rg 13 [(10, Spec.val (.agg #[.int .u64 (fv (wg).a), .int .u64 (fv (wg).b)])), (11, Spec.val (.agg #[.int .u64 (fv (V * wg).a), .int .u64 (fv (V * wg).b)]))] (by kernel_rfl) (by kernel_rfl) (by kernel_rfl) trivial ?_
        iterate 10 (refine rg_det rfl rfl rfl (fun K hK => ?_); go_big_quiet_op; refine hK _ ?_; clear hK K)
        refine rg_val rfl rfl (fun W1 hW1 hF => step_callv en_attestor_attestorref21_Weight (HW.out W1 (hBX.trans ((grw_below hW1).mono hBX.size))) rfl rfl) ?_
        intro a' ha
        simp only [Act.put, List.setIfInBounds_toArray, List.set_cons_succ, List.set_cons_zero] at ha
        subst ha
        refine rg_val rfl rfl (fun W1 hW1 hF => step_callv en_attestor_attestorref02_Mul (xMul V wg W1) rfl rfl) ?_
        intro a' ha
        simp only [Act.put, List.setIfInBounds_toArray, List.set_cons_succ, List.set_cons_zero] at ha
        subst ha
        refine rg_det rfl rfl rfl (fun K hK => ?_)
        go_big_quiet_op
        refine hK _ ?_; clear hK K
        refine rg_nil (fun w' hw' hF => ?_)
        obtain ⟨z4, rfl⟩ := hw'
        simp only [List.drop_succ_cons, List.drop_zero]
        have b2z4 := b2X.gw z4
        have b1z4 := b1X.gw z4
        have hB4 := hBX.trans (z4.h.mono hBX.size)
        clear hF y1 y2 d1 d2
        have d1 := b2z4.cell
        have d2 := b2z4.frozen
        have d3 := b1z4.cell
        go_wp2_with fail
        refine set3B (M := fun W => bodyPost _ _ _ _ _ W) b2z4 fun Z hp bo => ?_
        have f1 := bo.cell
        rw [HX.out]
        refine bodyPost_ret (v := .tuple #[.agg #[.slice none 0 0, .int .u64 0, .int .u64 0], .int .i64 111]) (by simp [results, Tryz.results19, go_sem, f1]) rfl ⟨rfl, below_put hB4 hp (by omega)⟩
      · have HX := Lib.hid (show res = .tuple #[.agg #[.slice none 0 0, .int .u64 0, .int .u64 0], .int .i64 111] by rw [HR.out]; simp [hq])
        go_upto_region 4 with (fail)
        refine wp_region_rg 13 [(10, Spec.val (.agg #[.int .u64 (fv (wg).a), .int .u64 (fv (wg).b)])), (11, Spec.val (.agg #[.int .u64 (fv (V * wg).a), .int .u64 (fv (V * wg).b)]))] (by kernel_rfl) (by kernel_rfl) (by kernel_rfl) trivial ?_
        iterate 10 (refine rg_det rfl rfl rfl (fun K hK => ?_); go_big_quiet_op; refine hK _ ?_; clear hK K)
        refine rg_val rfl rfl (fun W1 hW1 hF => step_callv en_attestor_attestorref21_Weight (HW.out W1 (hBX.trans ((grw_below hW1).mono hBX.size))) rfl rfl) ?_
        intro a' ha
        simp only [Act.put, List.setIfInBounds_toArray, List.set_cons_succ, List.set_cons_zero] at ha
        subst ha
        refine rg_val rfl rfl (fun W1 hW1 hF => step_callv en_attestor_attestorref02_Mul (xMul V wg W1) rfl rfl) ?_
        intro a' ha
        simp only [Act.put, List.setIfInBounds_toArray, List.set_cons_succ, List.set_cons_zero] at ha
        subst ha
        refine rg_det rfl rfl rfl (fun K hK => ?_)
        go_big_quiet_op
        refine hK _ ?_; clear hK K
        refine rg_nil (fun w' hw' hF => ?_)
        obtain ⟨z4, rfl⟩ := hw'
        simp only [List.drop_succ_cons, List.drop_zero]
        have b2z4 := b2X.gw z4
        have b1z4 := b1X.gw z4
        have hB4 := hBX.trans (z4.h.mono hBX.size)
        clear hF y1 y2 d1 d2
        have d1 := b2z4.cell
        have d2 := b2z4.frozen
        have d3 := b1z4.cell
        go_wp2_with fail
        refine set3B (M := fun W => bodyPost _ _ _ _ _ W) b2z4 fun Z hp bo => ?_
        have f1 := bo.cell
        rw [HX.out]
        refine bodyPost_ret (v := .tuple #[.agg #[.slice none 0 0, .int .u64 0, .int .u64 0], .int .i64 111]) (by simp [results, Tryz.results19, go_sem, f1]) rfl ⟨rfl, below_put hB4 hp (by omega)⟩
    · have HX := Lib.hid (show res = .tuple #[.agg #[.slice none 0 0, .int .u64 0, .int .u64 0], .int .i64 fe] by rw [HR.out]; simp [hfe])
      clear HB HF HW
      go_wp2_with fail
      refine set3B (M := fun W => bodyPost _ _ _ _ _ W) b2X fun Z hp bo => ?_
      have f1 := bo.cell
      rw [HX.out]
      refine bodyPost_ret (v := .tuple #[.agg #[.slice none 0 0, .int .u64 0, .int .u64 0], .int .i64 fe]) (by simp [results, Tryz.results19, go_sem, f1]) rfl ⟨rfl, below_put hBX hp (by omega)⟩
end Go.Proofs.YtkgglhakimkkhaaGreatDoor
namespace Go.Proofs.YtkgglhakimkkhaaGreatDoor
open Go.RowKit

def bBatch : ByteArray := ⟨#[98, 97, 116, 99, 104]⟩
def bRound : ByteArray := ⟨#[114, 111, 117, 110, 100]⟩
def bCoin : ByteArray := ⟨#[99, 111, 105, 110]⟩
def rdT (st : List Nat) (g : List E) : List Nat := absT st (stB bRound) (exB g)
def coT (st : List Nat) : E := chaT st 0 (stB bCoin)
def rhT (st : List Nat) : E := chaT st 0 (stB bBatch)
def drS (st : List Nat) (gs : List (List E)) : List Nat := gs.foldl rdT st
def drC : List Nat → List (List E) → List E
  | _, [] => []
  | st, g :: gs => coT (rdT st g) :: drC (rdT st g) gs
theorem rdT_ok (st : List Nat) (g : List E) : StOk (rdT st g) := absT_ok _ _ _
theorem drS_ok (st : List Nat) (h : StOk st) (gs : List (List E)) : StOk (drS st gs) := by
  unfold drS
  induction gs generalizing st with
  | nil => exact h
  | cons g gs ih => exact ih _ (rdT_ok st g)
theorem drS_snoc (st : List Nat) (gs : List (List E)) (g : List E) : drS st (gs ++ [g]) = rdT (drS st gs) g := by unfold drS; rw [List.foldl_append]; rfl
theorem drC_snoc : ∀ (gs : List (List E)) (st : List Nat) (g : List E), drC st (gs ++ [g]) = drC st gs ++ [coT (rdT (drS st gs) g)]
  | [], _, _ => rfl
  | h :: gs, st, g => by
    rw [List.cons_append, drC, drC_snoc gs (rdT st h) g, drC, List.cons_append]
    rfl
theorem drC_len : ∀ (gs : List (List E)) (st : List Nat), (drC st gs).length = gs.length
  | [], _ => rfl
  | _ :: gs, _ => by rw [drC, List.length_cons, drC_len gs, List.length_cons]
theorem take_snoc {α : Type} (l : List α) (k : Nat) (x : α) (h : l[k]? = some x) : l.take (k + 1) = l.take k ++ [x] := by
  rw [List.take_add_one, h]
  rfl
theorem en_attestor_batch_coin : ∀ args w, (callFunc 58 args).run Tryz.prog w = .ok (.enter 58 args) w := enters_of Tryz.func58 (by kernel_rfl) rfl
theorem wpList_putT {ops : Array Oper} {rest : List Oper} {o : Oper} {a : Act} {Q : Exit → Act → World → Prop} {X : World} {g : Nat} {cs : Array Value} {st : List Nat} {cnt : Nat} (gd : o.guard = none) (x y : Operand) (ho : o.op = .store 60 x y) (hx : a.eval x = .pointer (some ⟨g, 0, none⟩)) (hy : a.eval y = tsV st cnt)
    (hb : Blk X g 60 cs) (hs : cs.size = 33) (hst : st.length = 32) (h : ∀ Y, Put X Y g → Blk Y g 60 (tsc st cnt).toArray → wpList Tryz.prog ops Q rest (a.put o.dst undef) Y) : wpList Tryz.prog ops Q (o :: rest) a X :=
  wpList_put gd _ x y ho (cells := tsc st cnt) hx hy hb (by rw [tsc_len _ _ hst, hs]; decide) (by rw [tr_size, tsc_len _ _ hst]) (ts_one _ _) (spl_all _ _ (by rw [hs, tsc_len _ _ hst])) h
theorem wpList_putE {ops : Array Oper} {rest : List Oper} {o : Oper} {a : Act} {Q : Exit → Act → World → Prop} {X : World} {g : Nat} {cs : Array Value} {e : E} (gd : o.guard = none) (x y : Operand) (ho : o.op = .store 26 x y) (hx : a.eval x = .pointer (some ⟨g, 0, none⟩)) (hy : a.eval y = ev e)
    (hb : Blk X g 26 cs) (hs : cs.size = 2) (h : ∀ Y, Put X Y g → Blk Y g 26 (ec e).toArray → wpList Tryz.prog ops Q rest (a.put o.dst undef) Y) : wpList Tryz.prog ops Q (o :: rest) a X :=
  wpList_put gd _ x y ho (cells := ec e) hx hy hb (by rw [hs]; exact Nat.le_refl 2) ext_size2 rfl (spl_all _ _ (by rw [hs]; rfl)) h
theorem step_loadT {o : Oper} {a : Act} {w : World} {x : Operand} {g : Nat} {st : List Nat} {cnt : Nat} (ho : o.op = .load 60 x) (hx : a.eval x = .pointer (some ⟨g, 0, none⟩)) (hst : st.length = 32) (hb : Blk w g 60 (tsc st cnt).toArray) : stepAt Tryz.prog o a w fun v w' => v = tsV st cnt ∧ w' = w :=
  step_loadR0 (cs := tsc st cnt) Tryz.underlying60 rfl (by rw [tr_size, tsc_len _ _ hst]) ho hx (blk_range hb)
theorem step_loadTB {o : Oper} {a : Act} {w : World} {x : Operand} {g : Nat} {st : List Nat} {cnt : Nat} (ho : o.op = .load 60 x) (hx : a.eval x = .pointer (some ⟨g, 0, none⟩)) (hst : st.length = 32) (hb : Blk w g 60 (tsc st cnt).toArray) : stepAt Tryz.prog o a w fun v w' => v = tsV st cnt ∧ Below w.heap.size w w' :=
  stepAt_mono (fun _ _ h => ⟨h.1, by rw [h.2]; exact Below.refl _ _⟩) (step_loadT ho hx hst hb)
theorem step_ext {P : Program} {o : Oper} {a : Act} {w : World} {x : Operand} {i : Nat} {vs : Array Value} {v : Value} (ho : o.op = .extract x i) (hx : a.eval x = .tuple vs) (hv : vs[i]? = some v) : stepAt P o a w fun u w' => u = v ∧ w' = w := by
  unfold stepAt execOp
  simp [ho, hx, hv, Instr.extract, Sem.run_bind]
  exact ⟨rfl, rfl⟩
set_option maxRecDepth 100000 in
set_option maxHeartbeats 4000000 in
theorem gCoin (st : List Nat) (cnt : Nat) (hst : StOk st) (g : List E) (hg : g.length ≤ 10000) (v : Value) (lo hi : Nat) (w : World) (hL : Lsh w) (h : ExtS lo hi w v g) :
    Calls Tryz.prog 58 #[tsV st cnt, v] w (Ret (.tuple #[tsV (rdT st g) 1, ev (coT (rdT st g))]) w) := by
  obtain ⟨S, hS⟩ : ∃ S, S = tsV st cnt := ⟨_, rfl⟩
  rw [← hS]
  obtain ⟨A, cap, rfl⟩ := Rd.len h
  have HV := Lib.hid h
  have HST := Lib.hid hst
  have HL := Lib.hid hL
  clear h hst hL
  go_enter Tryz.func58, Tryz.ntmps58
  go_upto_region 1 with (fail)
  refine wp_stk3 fun W hB hz b1 b2 b3 => ?_
  have b1' : Blk W w.heap.size 60 (tsc st cnt).toArray := by first | exact b1 | (rw [hS] at b1; exact b1)
  obtain ⟨cs0, hcs0, b2'⟩ : ∃ cs : Array Value, cs.size = 33 ∧ Blk W (w.heap.size + 1) 60 cs := ⟨_, rfl, b2⟩
  obtain ⟨cs1, hcs1, b3'⟩ : ∃ cs : Array Value, cs.size = 2 ∧ Blk W (w.heap.size + 1 + 1) 26 cs := ⟨_, rfl, b3⟩
  clear b1 b2 b3 hz
  refine wp_region_lit ?_
  refine wpList_plain rfl fun K1 hK1 => wp_of_step (stepAt_mono (fun v6 w6 hh => ?_) (step_loadT rfl rfl HST.out.len b1'))
  obtain ⟨rfl, rfl⟩ := hh
  refine hK1 _ _ ?_
  clear hK1 K1
  try simp only [Act.put, List.setIfInBounds_toArray, List.set_cons_succ, List.set_cons_zero]
  iterate 1 (refine wpList_plain rfl fun K hK => ?_; go_big_op; refine hK _ _ ?_; clear hK K)
  refine wpList_plain rfl fun K3 hK3 => wp_of_step (stepAt_mono (fun v8 w8' hh => ?_) (step_callv en_attestor_transcript_AbsorbExt (gAbsExt st cnt HST.out bRound (by decide) g hg _ lo hi _ (HL.out.keep hB) (Rd.keep HV.out hB)) rfl rfl))
  obtain ⟨rfl, B8⟩ := hh
  refine hK3 _ _ ?_
  clear hK3 K3
  try simp only [Act.put, List.setIfInBounds_toArray, List.set_cons_succ, List.set_cons_zero]
  have hB8 := hB.trans (B8.mono hB.size)
  refine wpList_plain rfl fun K4 hK4 => wp_of_step (stepAt_mono (fun v9 w9 hh => ?_) (step_callv en_attestor_transcript_Challenge (gChal (rdT st g) 0 (rdT_ok st g) (by decide) bCoin (by decide) _ (HL.out.keep hB8)) rfl rfl))
  obtain ⟨rfl, B9⟩ := hh
  refine hK4 _ _ ?_
  clear hK4 K4
  try simp only [Act.put, List.setIfInBounds_toArray, List.set_cons_succ, List.set_cons_zero]
  have hB9 := hB8.trans (B9.mono hB8.size)
  have b2y := (b2'.keep B8).keep B9
  have b3y := (b3'.keep B8).keep B9
  refine wpList_plain rfl fun K5 hK5 => wp_of_step (stepAt_mono (fun v10 w10 hh => ?_) (step_ext rfl rfl rfl))
  obtain ⟨rfl, rfl⟩ := hh
  refine hK5 _ _ ?_
  clear hK5 K5
  try simp only [Act.put, List.setIfInBounds_toArray, List.set_cons_succ, List.set_cons_zero]
  refine wpList_plain rfl fun K6 hK6 => wp_of_step (stepAt_mono (fun v11 w11 hh => ?_) (step_ext rfl rfl rfl))
  obtain ⟨rfl, rfl⟩ := hh
  refine hK6 _ _ ?_
  clear hK6 K6
  try simp only [Act.put, List.setIfInBounds_toArray, List.set_cons_succ, List.set_cons_zero]
  clear B8 B9 hB8 b1' b2' b3'
  refine wpList_putT rfl (.tmp 4) (.tmp 10) rfl rfl rfl b2y hcs0 (rdT_ok st g).len fun X hX bX => ?_
  have b3X := hX.blk b3y (by omega)
  have hBX := below_put hB9 hX (by omega)
  refine wpList_putE rfl (.tmp 5) (.tmp 11) rfl rfl rfl b3X hcs1 fun Y hY bY => ?_
  have b2Y := hY.blk bX (by omega)
  have hBY := below_put hBX hY (by omega)
  clear b2y b3y hB9 b3X hBX bX
  go_wp2_with fail
  exact bodyPost_ret (v := .tuple #[tsV (rdT st g) 1, ev (coT (rdT st g))]) (res_two (c1 := tsc (rdT st g) 1) (c2 := ec (coT (rdT st g))) rfl rfl rfl Tryz.underlying60 rfl (by rw [tr_size, tsc_len _ _ (rdT_ok st g).len]) b2Y Tryz.underlying26 rfl ext_size2 bY) rfl ⟨rfl, hBY⟩
end Go.Proofs.YtkgglhakimkkhaaGreatDoor
