/-
  The reference's sums: Bind, Round, Prove and SameRounds, by contract.
-/
import Derived.Test.YtilelegcniefcaaRs6
namespace Go.Proofs.Ytilelegcniefcaa
open Go.RowKit

theorem bndE_take (tabs : List (List E)) (r : E) (j : Nat) (t : List E) (h : tabs[j]? = some t) : (bndE tabs r).take (j + 1) = (bndE tabs r).take j ++ [bindL t r] := by
  rw [List.take_add_one, bndE_get tabs r j t h]; rfl
theorem bnd_stable (vp : Value) (tabs : List (List E)) : Stable (BndA vp tabs) := fun _ _ _ _ _ ⟨vt, h1, us, h2, h3, h4⟩ hb => ⟨vt, h1, us, h2, Rd.below h3 hb (Nat.le_refl _), fun k u t hu ht => Rd.below (h4 k u t hu ht) hb (Nat.le_refl _)⟩
set_option maxRecDepth 100000 in
set_option maxHeartbeats 4000000 in
theorem rBindS (tabs : List (List E)) (r : E) (n : Nat) (hall : AllLen tabs (2 * n)) (hn : n ≤ 1000) (hl : tabs.length ≤ 1000) (vt vp : Value) (lo hi : Nat) (w : World) (h : TabS lo hi w vt tabs) (hvp : ∃ A n c, vp = .slice A n c) :
    Calls Try.prog 52 #[sv vt vp, ev r] w (RetR (BndA vp (bndE tabs r)) w) := by
  obtain ⟨AP, nP, cP, rfl⟩ := hvp
  obtain ⟨A, capt, rfl⟩ := h.len
  obtain ⟨s0, hs0, hsz0, hsz1, hsz2⟩ := info_parts sl_info
  have HA := Lib.hid hall
  have HH := Lib.hid h
  have HBl := Lib.hid (bndE_length tabs r)
  obtain ⟨nt, hnt⟩ : ∃ nt, nt = tabs.length := ⟨_, rfl⟩
  have HNT := Lib.hid hnt
  rw [← hnt] at hl ⊢
  clear hall h hnt
  unfold sv ev
  go_enter Try.func52, Try.ntmps52
  go_upto_region 1 with (fail)
  refine wp_stk3 fun W hB hz b2 b3 b4 => ?_
  have hWs : W.heap.size = w.heap.size + 1 + 1 + 1 := hz.out
  have e1 := b2.cell
  clear hz
  go_upto_region 2 with (fail)
  refine wp_stk1 fun V hV hzV b5 => ?_
  have hVs : V.heap.size = W.heap.size + 1 := hzV.out
  have b2V := b2.keep hV
  have b3V := b3.keep hV
  have b4V := b4.keep hV
  have hBV := hB.trans (hV.mono hB.size)
  clear hzV e1 b2 b3 b4
  rw [hWs] at b5
  go_wp2_with fail
  go_loopw [6] (fun i wr => ∃ j : Nat, j ≤ nt ∧ i = .int .i64 j ∧ ∃ u, RowT (w.heap.size + 4) wr u ((bndE tabs r).take j) ∧ Blk wr (w.heap.size + 3) 30 #[u, .slice AP nP cP] ∧ Below (w.heap.size + 3) V wr ∧ w.heap.size + 4 ≤ wr.heap.size) (fun i _ => nt - (intOf i).toNat)
  case atStart => exact ⟨0, Nat.zero_le _, rfl, .slice none 0 0, RowT.first _ _, b5, Below.refl _ _, by omega⟩
  case round =>
    obtain ⟨j, hj, rfl, u, hrow, b5, hBr, hrs⟩ := hrel
    have hBw := hBV.trans (hBr.mono (by omega))
    have b2r := b2V.below hBr (by omega)
    have b3r := b3V.below hBr (by omega)
    have b4r := b4V.below hBr (by omega)
    have e1 := b2r.cell
    by_cases hlt : j < nt
    · obtain ⟨g, off, cap', hv, q1, q2, q3, q4, q5⟩ := tabs_cells HH.out (by rw [← HNT.out]; omega)
      rw [← HNT.out] at hv
      cases hv
      obtain ⟨t, ht⟩ : ∃ t, tabs[j]? = some t := ⟨_, List.getElem?_eq_getElem (by rw [← HNT.out]; exact hlt)⟩
      obtain ⟨At, ct, d1, hE⟩ := q5 j t ht
      have htl := HA.out t (List.mem_of_getElem? ht)
      have HTJ := Lib.hid (bndE_take tabs r j t ht)
      have hjl : ((bndE tabs r).take j).length = j := by rw [List.length_take, HBl.out, ← HNT.out]; omega
      have HJL := Lib.hid hjl
      have HE := Lib.hid (show ∀ W1, Below wr.heap.size wr W1 → Calls Try.prog 27 #[.slice At t.length ct, ev r] W1 (RetR (ExtA (bindL t r)) W1) from fun W1 hW => rBind t r n htl hn _ _ _ W1 (Rd.keep (Rd.keep hE hBw) hW))
      have f1 := gw_cell (W := wr) (Nat.lt_of_lt_of_le q4 hBw.size) ((hBw.cell (p := ⟨g, off + j, none⟩) q4).trans d1)
      have f2 := gw_blk b2r
      have f3 := gw_blk b3r
      have f4 := gw_blk b5
      obtain ⟨Au, cu, hv⟩ := hrow.len'
      rw [hjl] at hv
      subst hv
      have hbl := Lib.hid (bindL_length r n t htl)
      generalize bindL t r = y at *
      clear q5 ht htl hE d1 hjl
      go_wp2_with fail
      refine wp_region_rg 10 [(8, Spec.rel (ExtA y) (SlF y.length)), (9, Spec.rel (LitT wr.heap.size y) (LitF 1))] (by kernel_rfl) (by kernel_rfl) (by kernel_rfl) ⟨fit_ext, fit_litT, trivial⟩ ?_
      refine rg_det rfl rfl rfl (fun K hK => ?_)
      go_big_quiet_op
      refine hK _ ?_; clear hK K
      refine rg_det rfl rfl rfl (fun K hK => ?_)
      go_big_quiet_op
      refine hK _ ?_; clear hK K
      refine rg_det rfl rfl rfl (fun K hK => ?_)
      go_big_quiet_op
      refine hK _ ?_; clear hK K
      refine rg_det rfl rfl rfl (fun K hK => ?_)
      go_big_quiet_op
      refine hK _ ?_; clear hK K
      refine rg_det rfl rfl rfl (fun K hK => ?_)
      go_big_quiet_op
      refine hK _ ?_; clear hK K
      refine rg_det rfl rfl rfl (fun K hK => ?_)
      go_big_quiet_op
      refine hK _ ?_; clear hK K
      refine rg_det rfl rfl rfl (fun K hK => ?_)
      go_big_quiet_op
      refine hK _ ?_; clear hK K
      refine rg_det rfl rfl rfl (fun K hK => ?_)
      go_big_quiet_op
      refine hK _ ?_; clear hK K
      refine rg_rel rfl rfl (fun W1 hW1 hF => step_callr en_attestor_attestorref05_Bind (HE.out W1 (grw_below hW1)) rfl rfl) ?_
      intro n8 m8 v8 hn8 hm8 hd8 hf8 a' ha
      simp only [Act.put, List.setIfInBounds_toArray, List.set_cons_succ, List.set_cons_zero] at ha
      subst ha
      obtain ⟨A8, cap8, rfl⟩ := hf8
      refine rg_rel rfl rfl (fun W1 hW1 hF => stepAt_mono (fun v w' h => ⟨⟨h.1.1, h.1.2.1, _, _, _, h.1.2.2, rfl, Nat.le_trans (Nat.le_refl _) hn8, Nat.le_trans (pick_last hF (by kernel_rfl)).1 h.2.size, Rd.keep (pick_last hF (by kernel_rfl)).2 h.2⟩, h.2⟩) (step_lit1 Try.underlying27 hs0 hsz0 hsz1 (by decide) (by decide) rfl rfl rfl)) ?_
      intro n9 m9 v9 hn9 hm9 hd9 hf9 a' ha
      simp only [Act.put, List.setIfInBounds_toArray, List.set_cons_succ, List.set_cons_zero] at ha
      subst ha
      obtain rfl := hf9
      refine rg_nil (fun w' hw' hF => ?_)
      obtain ⟨z, rfl⟩ := hw'
      simp only [List.drop_succ_cons, List.drop_zero]
      obtain ⟨hm9', -, hl9, x, l1, l2, bx, hx1, hlo, hhi, hE9⟩ := end_last hF
      have hrz := hrow.keep z.h
      have hzs := z.h.size
      have b5z := b5.gw z
      have hBz := hBr.trans (z.h.mono (by omega))
      clear hF hd8 hd9 f1 f2 f3 f4 e1 b5
      go_wp2_with (at_builtin; refine wpList_appT (x := x) (y := y) (lo := l1) (hi := l2) (base := w.heap.size + 4) (ts := (bndE tabs r).take j) rfl _ _ rfl Try.underlying27 rfl rfl ?hrow ?hsrc hx1 ?hE ?hlo ?hhi ?hout ?hk ?hbase ?_)
      case hrow => exact hrz
      case hsrc => exact bx
      case hE => exact hE9
      case hlo => omega
      case hhi => omega
      case hout => exact hrow.out hlo
      case hk => rw [HJL.out]; omega
      case hbase => omega
      intro u' w3 hrow3 hB3 hg3 hob3
      rw [← HTJ.out] at hrow3
      obtain ⟨A', c', hv⟩ := hrow3.len'
      rw [show ((bndE tabs r).take (j + 1)).length = j + 1 by rw [List.length_take, HBl.out, ← HNT.out]; omega] at hv
      subst hv
      have b53 := b5z.below hB3 (by omega)
      have hs3 := hB3.size
      have hBw3 : Below (w.heap.size + 3) V w3 := hBz.trans (hB3.mono (by omega))
      have e1 := b53.cell
      have e2 := b53.frozen
      clear hrz b5z hg3 hob3 bx hE9 hrow
      go_wp2_with fail
      have hp : Put w3 _ (w.heap.size + 3) := Put.set w3 (w.heap.size + 3) 0 (.slice A' (j + 1) c')
      exact ⟨⟨j + 1, by omega, by go_num, .slice A' (j + 1) c', hrow3.put hp (by omega), b53.set_ 0 _, below_put hBw3 hp (Nat.le_refl _), by rw [hp.size]; omega⟩, by simp [intOf]; omega⟩
    · obtain rfl : j = nt := by omega
      rw [List.take_of_length_le (by rw [HBl.out, ← HNT.out]; exact Nat.le_refl _)] at hrow
      have e2 := b5.cell
      have e3 := b4r.cell
      have e4 := b4r.frozen
      have HT := Lib.hid (hrow.tabs (by rw [HBl.out, ← HNT.out]; omega))
      obtain ⟨Au, cu, hv⟩ := hrow.len'
      rw [HBl.out, ← HNT.out] at hv
      subst hv
      clear hrow
      go_wp2_with fail
      refine set2 (M := fun W => bodyPost _ _ _ _ _ W) b4r fun X2 hp bo => ?_
      have f1 := bo.cell
      refine bodyPost_ret (v := sv (.slice Au j cu) (.slice AP nP cP)) (by simp [results, Try.results52, go_sem, f1, sv]) rfl (show RetR (BndA _ _) w (.returned _) X2 from ⟨_, rfl, ⟨_, rfl, ?_⟩, ?_⟩)
      · rw [hp.size]
        exact (HT.out.put hp (.inl (by omega))).wide (by omega) (Nat.le_refl _)
      · exact below_put hBw hp (by omega)
theorem rnd_takeS (tabs : List (List E)) (ps : List Trm) (j : Nat) (h : j < degE ps + 1) : (rndE tabs ps).take (j + 1) = (rndE tabs ps).take j ++ [totE (bndE tabs (nodeE j)) ps] := by
  have hl := rndE_length tabs ps
  rw [List.take_add_one, List.getElem?_eq_getElem (by omega)]
  have := rndE_get tabs ps j h
  simp only [List.getD, List.getElem?_eq_getElem (show j < (rndE tabs ps).length by omega), Option.getD_some] at this
  rw [← this]
  rfl
set_option maxRecDepth 100000 in
set_option maxHeartbeats 4000000 in
theorem rRound (tabs : List (List E)) (ps : List Trm) (n : Nat) (hall : AllLen tabs (2 * n)) (h0 : 0 < tabs.length) (hl : tabs.length ≤ 1000) (hn : n ≤ 1000) (vt vp : Value) (lo hi : Nat) (w : World) (h : SumS lo hi w vt vp tabs ps) :
    Calls Try.prog 29 #[sv vt vp] w (RetR (ExtA (rndE tabs ps)) w) := by
  obtain ⟨i0, hi0, iz0, iz1, iz2⟩ := info_parts ext_info
  obtain ⟨AP, capP, rfl⟩ := h.hp.len
  obtain ⟨A, capt, rfl⟩ := h.ht.len
  have HA := Lib.hid hall
  have HH := Lib.hid h
  have HR := Lib.hid (fun j hj => rnd_takeS tabs ps j hj)
  have HRl := Lib.hid (rndE_length tabs ps)
  have hd1 : degE ps ≤ 1000 := degE_le ps 1000 (by decide) h.short
  obtain ⟨D, hD⟩ : ∃ D, D = degE ps := ⟨_, rfl⟩
  have HD := Lib.hid hD
  rw [← hD] at hd1 HR HRl
  obtain ⟨np, hnp⟩ : ∃ np, np = ps.length := ⟨_, rfl⟩
  have HNP := Lib.hid hnp
  rw [← hnp]
  obtain ⟨nt, hnt⟩ : ∃ nt, nt = tabs.length := ⟨_, rfl⟩
  have HNT := Lib.hid hnt
  rw [← hnt] at h0 hl ⊢
  clear hall h hnp hnt hD
  unfold sv
  go_enter Try.func29, Try.ntmps29
  go_upto_region 1 with (fail)
  refine wp_stk1 fun W hB hz b1 => ?_
  have hWs : W.heap.size = w.heap.size + 1 := hz.out
  go_upto_region 2 with (fail)
  refine wp_stk1 fun V hV hzV b3 => ?_
  have hVs : V.heap.size = W.heap.size + 1 := hzV.out
  rw [hWs] at b3
  have own0 : V.ownsRow (w.heap.size + 1) 43 2 (.slice (some ⟨(w.heap.size + 1), 0, none⟩) 0 0) 0 (((rndE tabs ps).take 0).flatMap ec) := ⟨rfl, .inr ⟨(w.heap.size + 1), 0, #[], rfl, Nat.le_refl _, b3, Nat.le_refl _, Nat.zero_le _, rfl, rfl⟩⟩
  have hBV := hB.trans (hV.mono hB.size)
  have b1V := b1.keep hV
  clear hz hzV b3
  go_wp2_with fail
  go_loopw [3, 4] (fun u i wr => ∃ j : Nat, j ≤ D + 1 ∧ i = .int .i64 j ∧ wr.ownsRow (w.heap.size + 1) 43 2 u j (((rndE tabs ps).take j).flatMap ec) ∧ Below (w.heap.size + 1) V wr) (fun _ i _ => D + 1 - (intOf i).toNat)
  case atStart => exact ⟨0, Nat.zero_le _, rfl, own0, Below.refl _ _⟩
  case round =>
    obtain ⟨j, hj, rfl, hown, hBr⟩ := hrel
    obtain ⟨Au, cu, rfl⟩ := own_len hown
    have hBw := hBV.trans (hBr.mono (by omega))
    have b1r := b1V.below hBr (by omega)
    have e1 := b1r.cell
    have hWr := hBr.size
    have hSr := HH.out.keep hBw
    have HDg := Lib.hid (show Calls Try.prog 21 #[.agg #[.slice A nt capt, .slice AP np capP]] wr (Ret (.int .i64 (D : Nat)) wr) by
      rw [HD.out]
      have := rDegree (.slice A tabs.length capt) (.slice AP ps.length capP) ps _ _ wr hSr.hp hSr.short
      rwa [← HNP.out, ← HNT.out] at this)
    have HSr := Lib.hid hSr
    have HO := Lib.hid hown
    clear hown hSr
    go_wp2_with fail
    refine HDg.out.mono ?_
    rintro e w2 ⟨rfl, hb2⟩
    have e2 := (b1r.keep hb2).cell
    have hB2 := hBr.trans (hb2.mono (by omega))
    have hw2 := hb2.size
    by_cases hlt : j < D + 1
    · have hle : ((j : Int) ≤ (D : Int)) := by omega
      have HTk := Lib.hid (HR.out j hlt)
      have f1 := gw_blk (b1r.keep hb2)
      have HFI := Lib.hid (show ∀ W1, Calls Try.prog 40 #[.int .i64 (j : Int)] W1 (Ret (ev (nodeE j)) W1) from fun W1 => by rw [nodeE_int]; exact xFromInt (j : Int) (by omega) (by omega) W1)
      have HBd := Lib.hid (show ∀ W1, Below w2.heap.size w2 W1 → Calls Try.prog 52 #[.agg #[.slice A nt capt, .slice AP np capP], ev (nodeE j)] W1 (RetR (BndA (.slice AP np capP) (bndE tabs (nodeE j))) W1) from fun W1 hW => by
        have := rBindS tabs (nodeE j) n HA.out hn (by rw [← HNT.out]; exact hl) _ (.slice AP np capP) _ _ W1 ((HSr.out.ht.keep hb2).keep hW) ⟨_, _, _, rfl⟩
        rwa [← HNT.out] at this)
      have HTb := Lib.hid (show ∀ W1 lo hi vb, Below w2.heap.size w2 W1 → TabS lo hi W1 vb (bndE tabs (nodeE j)) → hi ≤ W1.heap.size → Calls Try.prog 23 #[.agg #[vb, .slice AP np capP]] W1 (Ret (ev (totE (bndE tabs (nodeE j)) ps)) W1) from fun W1 lo' hi' vb hW hvb hhi => by
        have hp := ((HSr.out.hp.keep hb2).keep hW).base
        rw [← HNP.out] at hp
        exact rTotal (bndE tabs (nodeE j)) n _ _ ps 0 W1.heap.size W1 ⟨hvb.wide (Nat.zero_le _) hhi, hp, fun p hp k hk => by rw [bndE_length]; exact HSr.out.ix p hp k hk, HSr.out.few, HSr.out.short⟩ (by rw [bndE_length, ← HNT.out]; exact h0) (by rw [bndE_length, ← HNT.out]; exact hl) (AllLen.bnd HA.out _) (by omega))
      generalize totE (bndE tabs (nodeE j)) ps = T at *
      generalize bndE tabs (nodeE j) = tb at *
      generalize nodeE j = x at *
      clear e1 e2
      go_wp2_with fail
      refine wp_region_rg 7 [(3, Spec.val (.agg #[.int .u64 (fv (x).a), .int .u64 (fv (x).b)])), (4, Spec.rel (BndA (.slice AP np capP) tb) AnyV), (5, Spec.val (.agg #[.int .u64 (fv (T).a), .int .u64 (fv (T).b)])), (6, Spec.rel (Lit 43 1 #[.int .u64 (fv T.a), .int .u64 (fv T.b)]) (LitF 1))] (by kernel_rfl) (by kernel_rfl) (by kernel_rfl) ⟨fit_of (bnd_stable _ _), fit_lit, trivial⟩ ?_
      refine rg_det rfl rfl rfl (fun K hK => ?_)
      go_big_quiet_op
      refine hK _ ?_; clear hK K
      refine rg_det rfl rfl rfl (fun K hK => ?_)
      go_big_quiet_op
      refine hK _ ?_; clear hK K
      refine rg_det rfl rfl rfl (fun K hK => ?_)
      go_big_quiet_op
      refine hK _ ?_; clear hK K
      refine rg_val rfl rfl (fun W1 hW1 hF => step_callv en_attestor_attestorref02_FromInt (HFI.out W1) rfl rfl) ?_
      intro a' ha
      simp only [Act.put, List.setIfInBounds_toArray, List.set_cons_succ, List.set_cons_zero] at ha
      subst ha
      refine rg_rel rfl rfl (fun W1 hW1 hF => step_callr en_attestor_attestorref06_Bind (HBd.out W1 (grw_below hW1)) rfl rfl) ?_
      intro n4 m4 v4 hn4 hm4 hd4 hf4 a' ha
      simp only [Act.put, List.setIfInBounds_toArray, List.set_cons_succ, List.set_cons_zero] at ha
      subst ha
      refine rg_val rfl rfl (fun W1 hW1 hF => (by obtain ⟨hm, vt, rfl, ht⟩ := pick_last hF (by kernel_rfl); exact step_callv en_attestor_attestorref06_Total (HTb.out W1 _ _ vt (grw_below hW1) ht hm) rfl rfl)) ?_
      intro a' ha
      simp only [Act.put, List.setIfInBounds_toArray, List.set_cons_succ, List.set_cons_zero] at ha
      subst ha
      refine rg_rel rfl rfl (fun W1 hW1 hF => step_lit1 Try.underlying22 hi0 iz0 iz1 (by decide) (by decide) rfl rfl rfl) ?_
      intro n6 m6 v6 hn6 hm6 hd6 hf6 a' ha
      simp only [Act.put, List.setIfInBounds_toArray, List.set_cons_succ, List.set_cons_zero] at ha
      subst ha
      obtain rfl := hf6
      refine rg_nil (fun w' hw' hF => ?_)
      obtain ⟨z, rfl⟩ := hw'
      simp only [List.drop_succ_cons, List.drop_zero]
      obtain ⟨hm6', -, hl6, b6⟩ := end_last hF
      have hO2 := own_below (own_below HO.out (Nat.le_refl _) hb2) (Nat.le_refl _) z.h
      have hzs := z.h.size
      clear hF f1
      go_wp2_with (at_builtin; refine wpList_app1 rfl _ _ rfl Try.underlying22 hi0 iz0 iz1 iz2 rfl (by decide) (cl := ec T) rfl (ec_one _) rfl rfl hO2 b6 ?h63 ?hby ?hbase ?_)
      case h63 => unfold maxLen; omega
      case hby => omega
      case hbase => omega
      intro v1 w4 hown4 hgrow hB5
      have hown5 : w4.ownsRow (w.heap.size + 1) 43 2 v1 (j + 1) (((rndE tabs ps).take (j + 1)).flatMap ec) := by rw [HTk.out, List.flatMap_append]; simpa using hown4
      have hB6 : Below (w.heap.size + 1) V w4 := (hB2.trans (z.h.mono (by omega))).trans hB5
      clear hgrow hown4 hO2 b6
      go_wp2_with fail
      exact ⟨⟨j + 1, by omega, by go_num, hown5, hB6⟩, by simp [intOf]; omega⟩
    · obtain rfl : j = D + 1 := by omega
      have hX : Hid (ExtS (w.heap.size + 1) w2.heap.size w2 (.slice Au (D + 1) cu) (rndE tabs ps)) := Lib.hid (by
        have h1 := own_below HO.out (Nat.le_refl _) hb2
        rw [List.take_of_length_le (by rw [HRl.out]; exact Nat.le_refl _)] at h1
        exact exts_of_own h1 HRl.out (by omega) (Nat.le_refl _))
      go_wp2_with fail
      go_ret
      exact ⟨_, rfl, Rd.wide hX.out (by omega) (Nat.le_refl _), hBV.trans (hB2.mono (by omega))⟩
end Go.Proofs.Ytilelegcniefcaa
