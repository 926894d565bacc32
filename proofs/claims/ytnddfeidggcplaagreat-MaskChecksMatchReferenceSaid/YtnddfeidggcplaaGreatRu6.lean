/-
  The reference's sums: Bind, Round, Prove and SameRounds, by contract.
  The reference's sums: Prove and SameRounds, by contract.
  The reference's Valid and SameRounds, and the law's own small, by contract.
-/
import Derived.Test.YtnddfeidggcplaaGreatMd32
import Derived.Test.YtnddfeidggcplaaGreatMr2
namespace Go.Proofs.YtnddfeidggcplaaGreat
open Go.RowKit

theorem bndE_take (tabs : List (List E)) (r : E) (j : Nat) (t : List E) (h : tabs[j]? = some t) : (bndE tabs r).take (j + 1) = (bndE tabs r).take j ++ [bindL t r] := by
  rw [List.take_add_one, bndE_get tabs r j t h]; rfl
theorem bnd_stable (vp : Value) (tabs : List (List E)) : Stable (BndA vp tabs) := fun _ _ _ _ _ ⟨vt, h1, us, h2, h3, h4⟩ hb => ⟨vt, h1, us, h2, Rd.below h3 hb (Nat.le_refl _), fun k u t hu ht => Rd.below (h4 k u t hu ht) hb (Nat.le_refl _)⟩
set_option maxRecDepth 100000 in
set_option maxHeartbeats 4000000 in
theorem rBindS (tabs : List (List E)) (r : E) (n : Nat) (hall : AllLen tabs (2 * n)) (hn : n ≤ 1000) (hl : tabs.length ≤ 1000) (vt vp : Value) (lo hi : Nat) (w : World) (h : TabS lo hi w vt tabs) (hvp : ∃ A n c, vp = .slice A n c) :
    Calls Tryz.prog 97 #[sv vt vp, ev r] w (RetR (BndA vp (bndE tabs r)) w) := by
  obtain ⟨AP, nP, cP, rfl⟩ := hvp
  obtain ⟨A, capt, rfl⟩ := h.len
  obtain ⟨s0, hs0, hsz0, hsz1, hsz2⟩ := info_parts sl_info
  have HA := Lib.hid hall
  have HH := Lib.hid h
  have HBl := Lib.hid (bndE_length tabs r)
  obtain ⟨nt, hnt⟩ : ∃ nt, nt = tabs.length := ⟨_, rfl⟩
  have HNT := Lib.hid hnt
  rw [← hnt] at hl ⊢
  clear hall h hnt
  unfold sv ev
  go_enter Tryz.func97, Tryz.ntmps97
  go_upto_region 1 with (fail)
  refine wp_stk3 fun W hB hz b2 b3 b4 => ?_
  have hWs : W.heap.size = w.heap.size + 1 + 1 + 1 := hz.out
  have e1 := b2.cell
  clear hz
  go_upto_region 2 with (fail)
  refine wp_stk1 fun V hV hzV b5 => ?_
  have hVs : V.heap.size = W.heap.size + 1 := hzV.out
  have b2V := b2.keep hV
  have b3V := b3.keep hV
  have b4V := b4.keep hV
  have hBV := hB.trans (hV.mono hB.size)
  clear hzV e1 b2 b3 b4
  rw [hWs] at b5
  go_wp2_with fail
  go_loopw [6] (fun i wr => ∃ j : Nat, j ≤ nt ∧ i = .int .i64 j ∧ ∃ u, RowT (w.heap.size + 4) wr u ((bndE tabs r).take j) ∧ Blk wr (w.heap.size + 3) 36 #[u, .slice AP nP cP] ∧ Below (w.heap.size + 3) V wr ∧ w.heap.size + 4 ≤ wr.heap.size) (fun i _ => nt - (intOf i).toNat)
  case atStart => exact ⟨0, Nat.zero_le _, rfl, .slice none 0 0, RowT.first _ _, b5, Below.refl _ _, by omega⟩
  case round =>
    obtain ⟨j, hj, rfl, u, hrow, b5, hBr, hrs⟩ := hrel
    have hBw := hBV.trans (hBr.mono (by omega))
    have b2r := b2V.below hBr (by omega)
    have b3r := b3V.below hBr (by omega)
    have b4r := b4V.below hBr (by omega)
    have e1 := b2r.cell
    by_cases hlt : j < nt
    · obtain ⟨g, off, cap', hv, q1, q2, q3, q4, q5⟩ := tabs_cells HH.out (by rw [← HNT.out]; omega)
      rw [← HNT.out] at hv
      cases hv
      obtain ⟨t, ht⟩ : ∃ t, tabs[j]? = some t := ⟨_, List.getElem?_eq_getElem (by rw [← HNT.out]; exact hlt)⟩
      obtain ⟨At, ct, d1, hE⟩ := q5 j t ht
      have htl := HA.out t (List.mem_of_getElem? ht)
      have HTJ := Lib.hid (bndE_take tabs r j t ht)
      have hjl : ((bndE tabs r).take j).length = j := by rw [List.length_take, HBl.out, ← HNT.out]; omega
      have HJL := Lib.hid hjl
      have HE := Lib.hid (show ∀ W1, Below wr.heap.size wr W1 → Calls Tryz.prog 128 #[.slice At t.length ct, ev r] W1 (RetR (ExtA (bindL t r)) W1) from fun W1 hW => rBind t r n htl hn _ _ _ W1 (Rd.keep (Rd.keep hE hBw) hW))
      have f1 := gw_cell (W := wr) (Nat.lt_of_lt_of_le q4 hBw.size) ((hBw.cell (p := ⟨g, off + j, none⟩) q4).trans d1)
      have f2 := gw_blk b2r
      have f3 := gw_blk b3r
      have f4 := gw_blk b5
      obtain ⟨Au, cu, hv⟩ := hrow.len'
      rw [hjl] at hv
      subst hv
      have hbl := Lib.hid (bindL_length r n t htl)
      generalize bindL t r = y at *
      clear q5 ht htl hE d1 hjl
      go_wp2_with fail
      refine wp_region_rg 10 [(8, Spec.rel (ExtA y) (SlF y.length)), (9, Spec.rel (LitT wr.heap.size y) (LitF 1))] (by kernel_rfl) (by kernel_rfl) (by kernel_rfl) ⟨fit_ext, fit_litT, trivial⟩ ?_
      refine rg_det rfl rfl rfl (fun K hK => ?_)
      go_big_quiet_op
      refine hK _ ?_; clear hK K
      refine rg_det rfl rfl rfl (fun K hK => ?_)
      go_big_quiet_op
      refine hK _ ?_; clear hK K
      refine rg_det rfl rfl rfl (fun K hK => ?_)
      go_big_quiet_op
      refine hK _ ?_; clear hK K
      refine rg_det rfl rfl rfl (fun K hK => ?_)
      go_big_quiet_op
      refine hK _ ?_; clear hK K
      refine rg_det rfl rfl rfl (fun K hK => ?_)
      go_big_quiet_op
      refine hK _ ?_; clear hK K
      refine rg_det rfl rfl rfl (fun K hK => ?_)
      go_big_quiet_op
      refine hK _ ?_; clear hK K
      refine rg_det rfl rfl rfl (fun K hK => ?_)
      go_big_quiet_op
      refine hK _ ?_; clear hK K
      refine rg_det rfl rfl rfl (fun K hK => ?_)
      go_big_quiet_op
      refine hK _ ?_; clear hK K
      refine rg_rel rfl rfl (fun W1 hW1 hF => step_callr en_attestor_attestorref05_Bind (HE.out W1 (grw_below hW1)) rfl rfl) ?_
      intro n8 m8 v8 hn8 hm8 hd8 hf8 a' ha
      simp only [Act.put, List.setIfInBounds_toArray, List.set_cons_succ, List.set_cons_zero] at ha
      subst ha
      obtain ⟨A8, cap8, rfl⟩ := hf8
      refine rg_rel rfl rfl (fun W1 hW1 hF => stepAt_mono (fun v w' h => ⟨⟨h.1.1, h.1.2.1, _, _, _, h.1.2.2, rfl, Nat.le_trans (Nat.le_refl _) hn8, Nat.le_trans (pick_last hF (by kernel_rfl)).1 h.2.size, Rd.keep (pick_last hF (by kernel_rfl)).2 h.2⟩, h.2⟩) (step_lit1 Tryz.underlying27 hs0 hsz0 hsz1 (by decide) (by decide) rfl rfl rfl)) ?_
      intro n9 m9 v9 hn9 hm9 hd9 hf9 a' ha
      simp only [Act.put, List.setIfInBounds_toArray, List.set_cons_succ, List.set_cons_zero] at ha
      subst ha
      obtain rfl := hf9
      refine rg_nil (fun w' hw' hF => ?_)
      obtain ⟨z, rfl⟩ := hw'
      simp only [List.drop_succ_cons, List.drop_zero]
      obtain ⟨hm9', -, hl9, x, l1, l2, bx, hx1, hlo, hhi, hE9⟩ := end_last hF
      have hrz := hrow.keep z.h
      have hzs := z.h.size
      have b5z := b5.gw z
      have hBz := hBr.trans (z.h.mono (by omega))
      clear hF hd8 hd9 f1 f2 f3 f4 e1 b5
      go_wp2_with (at_builtin; refine wpList_appT (x := x) (y := y) (lo := l1) (hi := l2) (base := w.heap.size + 4) (ts := (bndE tabs r).take j) rfl _ _ rfl Tryz.underlying27 rfl rfl ?hrow ?hsrc hx1 ?hE ?hlo ?hhi ?hout ?hk ?hbase ?_)
      case hrow => exact hrz
      case hsrc => exact bx
      case hE => exact hE9
      case hlo => omega
      case hhi => omega
      case hout => exact hrow.out hlo
      case hk => rw [HJL.out]; omega
      case hbase => omega
      intro u' w3 hrow3 hB3 hg3 hob3
      rw [← HTJ.out] at hrow3
      obtain ⟨A', c', hv⟩ := hrow3.len'
      rw [show ((bndE tabs r).take (j + 1)).length = j + 1 by rw [List.length_take, HBl.out, ← HNT.out]; omega] at hv
      subst hv
      have b53 := b5z.below hB3 (by omega)
      have hs3 := hB3.size
      have hBw3 : Below (w.heap.size + 3) V w3 := hBz.trans (hB3.mono (by omega))
      have e1 := b53.cell
      have e2 := b53.frozen
      clear hrz b5z hg3 hob3 bx hE9 hrow
      go_wp2_with fail
      have hp : Put w3 _ (w.heap.size + 3) := Put.set w3 (w.heap.size + 3) 0 (.slice A' (j + 1) c')
      exact ⟨⟨j + 1, by omega, by go_num, .slice A' (j + 1) c', hrow3.put hp (by omega), b53.set_ 0 _, below_put hBw3 hp (Nat.le_refl _), by rw [hp.size]; omega⟩, by simp [intOf]; omega⟩
    · obtain rfl : j = nt := by omega
      rw [List.take_of_length_le (by rw [HBl.out, ← HNT.out]; exact Nat.le_refl _)] at hrow
      have e2 := b5.cell
      have e3 := b4r.cell
      have e4 := b4r.frozen
      have HT := Lib.hid (hrow.tabs (by rw [HBl.out, ← HNT.out]; omega))
      obtain ⟨Au, cu, hv⟩ := hrow.len'
      rw [HBl.out, ← HNT.out] at hv
      subst hv
      clear hrow
      go_wp2_with fail
      refine set2 (M := fun W => bodyPost _ _ _ _ _ W) b4r fun X2 hp bo => ?_
      have f1 := bo.cell
      refine bodyPost_ret (v := sv (.slice Au j cu) (.slice AP nP cP)) (by simp [results, Tryz.results97, go_sem, f1, sv]) rfl (show RetR (BndA _ _) w (.returned _) X2 from ⟨_, rfl, ⟨_, rfl, ?_⟩, ?_⟩)
      · rw [hp.size]
        exact (HT.out.put hp (.inl (by omega))).wide (by omega) (Nat.le_refl _)
      · exact below_put hBw hp (by omega)
theorem rnd_takeS (tabs : List (List E)) (ps : List Trm) (j : Nat) (h : j < degE ps + 1) : (rndE tabs ps).take (j + 1) = (rndE tabs ps).take j ++ [totE (bndE tabs (nodeE j)) ps] := by
  have hl := rndE_length tabs ps
  rw [List.take_add_one, List.getElem?_eq_getElem (by omega)]
  have := rndE_get tabs ps j h
  simp only [List.getD, List.getElem?_eq_getElem (show j < (rndE tabs ps).length by omega), Option.getD_some] at this
  rw [← this]
  rfl
set_option maxRecDepth 100000 in
set_option maxHeartbeats 4000000 in
theorem rRound (tabs : List (List E)) (ps : List Trm) (n : Nat) (hall : AllLen tabs (2 * n)) (h0 : 0 < tabs.length) (hl : tabs.length ≤ 1000) (hn : n ≤ 1000) (vt vp : Value) (lo hi : Nat) (w : World) (h : SumS lo hi w vt vp tabs ps) :
    Calls Tryz.prog 96 #[sv vt vp] w (RetR (ExtA (rndE tabs ps)) w) := by
  obtain ⟨i0, hi0, iz0, iz1, iz2⟩ := info_parts ext_info
  obtain ⟨AP, capP, rfl⟩ := h.hp.len
  obtain ⟨A, capt, rfl⟩ := h.ht.len
  have HA := Lib.hid hall
  have HH := Lib.hid h
  have HR := Lib.hid (fun j hj => rnd_takeS tabs ps j hj)
  have HRl := Lib.hid (rndE_length tabs ps)
  have hd1 : degE ps ≤ 1000 := degE_le ps 1000 (by decide) h.short
  obtain ⟨D, hD⟩ : ∃ D, D = degE ps := ⟨_, rfl⟩
  have HD := Lib.hid hD
  rw [← hD] at hd1 HR HRl
  obtain ⟨np, hnp⟩ : ∃ np, np = ps.length := ⟨_, rfl⟩
  have HNP := Lib.hid hnp
  rw [← hnp]
  obtain ⟨nt, hnt⟩ : ∃ nt, nt = tabs.length := ⟨_, rfl⟩
  have HNT := Lib.hid hnt
  rw [← hnt] at h0 hl ⊢
  clear hall h hnp hnt hD
  unfold sv
  go_enter Tryz.func96, Tryz.ntmps96
  go_upto_region 1 with (fail)
  refine wp_stk1 fun W hB hz b1 => ?_
  have hWs : W.heap.size = w.heap.size + 1 := hz.out
  go_upto_region 2 with (fail)
  refine wp_stk1 fun V hV hzV b3 => ?_
  have hVs : V.heap.size = W.heap.size + 1 := hzV.out
  rw [hWs] at b3
  have own0 : V.ownsRow (w.heap.size + 1) 30 2 (.slice (some ⟨(w.heap.size + 1), 0, none⟩) 0 0) 0 (((rndE tabs ps).take 0).flatMap ec) := ⟨rfl, .inr ⟨(w.heap.size + 1), 0, #[], rfl, Nat.le_refl _, b3, Nat.le_refl _, Nat.zero_le _, rfl, rfl⟩⟩
  have hBV := hB.trans (hV.mono hB.size)
  have b1V := b1.keep hV
  clear hz hzV b3
  go_wp2_with fail
  go_loopw [3, 4] (fun u i wr => ∃ j : Nat, j ≤ D + 1 ∧ i = .int .i64 j ∧ wr.ownsRow (w.heap.size + 1) 30 2 u j (((rndE tabs ps).take j).flatMap ec) ∧ Below (w.heap.size + 1) V wr) (fun _ i _ => D + 1 - (intOf i).toNat)
  case atStart => exact ⟨0, Nat.zero_le _, rfl, own0, Below.refl _ _⟩
  case round =>
    obtain ⟨j, hj, rfl, hown, hBr⟩ := hrel
    obtain ⟨Au, cu, rfl⟩ := own_len hown
    have hBw := hBV.trans (hBr.mono (by omega))
    have b1r := b1V.below hBr (by omega)
    have e1 := b1r.cell
    have hWr := hBr.size
    have hSr := HH.out.keep hBw
    have HDg := Lib.hid (show Calls Tryz.prog 19 #[.agg #[.slice A nt capt, .slice AP np capP]] wr (Ret (.int .i64 (D : Nat)) wr) by
      rw [HD.out]
      have := rDegree (.slice A tabs.length capt) (.slice AP ps.length capP) ps _ _ wr hSr.hp hSr.short
      rwa [← HNP.out, ← HNT.out] at this)
    have HSr := Lib.hid hSr
    have HO := Lib.hid hown
    clear hown hSr
    go_wp2_with fail
    refine HDg.out.mono ?_
    rintro e w2 ⟨rfl, hb2⟩
    have e2 := (b1r.keep hb2).cell
    have hB2 := hBr.trans (hb2.mono (by omega))
    have hw2 := hb2.size
    by_cases hlt : j < D + 1
    · have hle : ((j : Int) ≤ (D : Int)) := by omega
      have HTk := Lib.hid (HR.out j hlt)
      have f1 := gw_blk (b1r.keep hb2)
      have HFI := Lib.hid (show ∀ W1, Calls Tryz.prog 38 #[.int .i64 (j : Int)] W1 (Ret (ev (nodeE j)) W1) from fun W1 => by rw [nodeE_int]; exact xFromInt (j : Int) (by omega) (by omega) W1)
      have HBd := Lib.hid (show ∀ W1, Below w2.heap.size w2 W1 → Calls Tryz.prog 97 #[.agg #[.slice A nt capt, .slice AP np capP], ev (nodeE j)] W1 (RetR (BndA (.slice AP np capP) (bndE tabs (nodeE j))) W1) from fun W1 hW => by
        have := rBindS tabs (nodeE j) n HA.out hn (by rw [← HNT.out]; exact hl) _ (.slice AP np capP) _ _ W1 ((HSr.out.ht.keep hb2).keep hW) ⟨_, _, _, rfl⟩
        rwa [← HNT.out] at this)
      have HTb := Lib.hid (show ∀ W1 lo hi vb, Below w2.heap.size w2 W1 → TabS lo hi W1 vb (bndE tabs (nodeE j)) → hi ≤ W1.heap.size → Calls Tryz.prog 127 #[.agg #[vb, .slice AP np capP]] W1 (Ret (ev (totE (bndE tabs (nodeE j)) ps)) W1) from fun W1 lo' hi' vb hW hvb hhi => by
        have hp := ((HSr.out.hp.keep hb2).keep hW).base
        rw [← HNP.out] at hp
        exact rTotal (bndE tabs (nodeE j)) n _ _ ps 0 W1.heap.size W1 ⟨hvb.wide (Nat.zero_le _) hhi, hp, fun p hp k hk => by rw [bndE_length]; exact HSr.out.ix p hp k hk, HSr.out.few, HSr.out.short⟩ (by rw [bndE_length, ← HNT.out]; exact h0) (by rw [bndE_length, ← HNT.out]; exact hl) (AllLen.bnd HA.out _) (by omega))
      generalize totE (bndE tabs (nodeE j)) ps = T at *
      generalize bndE tabs (nodeE j) = tb at *
      generalize nodeE j = x at *
      clear e1 e2
      go_wp2_with fail
      refine wp_region_rg 7 [(3, Spec.val (.agg #[.int .u64 (fv (x).a), .int .u64 (fv (x).b)])), (4, Spec.rel (BndA (.slice AP np capP) tb) AnyV), (5, Spec.val (.agg #[.int .u64 (fv (T).a), .int .u64 (fv (T).b)])), (6, Spec.rel (Lit 30 1 #[.int .u64 (fv T.a), .int .u64 (fv T.b)]) (LitF 1))] (by kernel_rfl) (by kernel_rfl) (by kernel_rfl) ⟨fit_of (bnd_stable _ _), fit_lit, trivial⟩ ?_
      refine rg_det rfl rfl rfl (fun K hK => ?_)
      go_big_quiet_op
      refine hK _ ?_; clear hK K
      refine rg_det rfl rfl rfl (fun K hK => ?_)
      go_big_quiet_op
      refine hK _ ?_; clear hK K
      refine rg_det rfl rfl rfl (fun K hK => ?_)
      go_big_quiet_op
      refine hK _ ?_; clear hK K
      refine rg_val rfl rfl (fun W1 hW1 hF => step_callv en_attestor_attestorref02_FromInt (HFI.out W1) rfl rfl) ?_
      intro a' ha
      simp only [Act.put, List.setIfInBounds_toArray, List.set_cons_succ, List.set_cons_zero] at ha
      subst ha
      refine rg_rel rfl rfl (fun W1 hW1 hF => step_callr en_attestor_attestorref06_Bind (HBd.out W1 (grw_below hW1)) rfl rfl) ?_
      intro n4 m4 v4 hn4 hm4 hd4 hf4 a' ha
      simp only [Act.put, List.setIfInBounds_toArray, List.set_cons_succ, List.set_cons_zero] at ha
      subst ha
      refine rg_val rfl rfl (fun W1 hW1 hF => (by obtain ⟨hm, vt, rfl, ht⟩ := pick_last hF (by kernel_rfl); exact step_callv en_attestor_attestorref06_Total (HTb.out W1 _ _ vt (grw_below hW1) ht hm) rfl rfl)) ?_
      intro a' ha
      simp only [Act.put, List.setIfInBounds_toArray, List.set_cons_succ, List.set_cons_zero] at ha
      subst ha
      refine rg_rel rfl rfl (fun W1 hW1 hF => step_lit1 Tryz.underlying22 hi0 iz0 iz1 (by decide) (by decide) rfl rfl rfl) ?_
      intro n6 m6 v6 hn6 hm6 hd6 hf6 a' ha
      simp only [Act.put, List.setIfInBounds_toArray, List.set_cons_succ, List.set_cons_zero] at ha
      subst ha
      obtain rfl := hf6
      refine rg_nil (fun w' hw' hF => ?_)
      obtain ⟨z, rfl⟩ := hw'
      simp only [List.drop_succ_cons, List.drop_zero]
      obtain ⟨hm6', -, hl6, b6⟩ := end_last hF
      have hO2 := own_below (own_below HO.out (Nat.le_refl _) hb2) (Nat.le_refl _) z.h
      have hzs := z.h.size
      clear hF f1
      go_wp2_with (at_builtin; refine wpList_app1 rfl _ _ rfl Tryz.underlying22 hi0 iz0 iz1 iz2 rfl (by decide) (cl := ec T) rfl (ec_one _) rfl rfl hO2 b6 ?h63 ?hby ?hbase ?_)
      case h63 => unfold maxLen; omega
      case hby => omega
      case hbase => omega
      intro v1 w4 hown4 hgrow hB5
      have hown5 : w4.ownsRow (w.heap.size + 1) 30 2 v1 (j + 1) (((rndE tabs ps).take (j + 1)).flatMap ec) := by rw [HTk.out, List.flatMap_append]; simpa using hown4
      have hB6 : Below (w.heap.size + 1) V w4 := (hB2.trans (z.h.mono (by omega))).trans hB5
      clear hgrow hown4 hO2 b6
      go_wp2_with fail
      exact ⟨⟨j + 1, by omega, by go_num, hown5, hB6⟩, by simp [intOf]; omega⟩
    · obtain rfl : j = D + 1 := by omega
      have hX : Hid (ExtS (w.heap.size + 1) w2.heap.size w2 (.slice Au (D + 1) cu) (rndE tabs ps)) := Lib.hid (by
        have h1 := own_below HO.out (Nat.le_refl _) hb2
        rw [List.take_of_length_le (by rw [HRl.out]; exact Nat.le_refl _)] at h1
        exact exts_of_own h1 HRl.out (by omega) (Nat.le_refl _))
      go_wp2_with fail
      go_ret
      exact ⟨_, rfl, Rd.wide hX.out (by omega) (Nat.le_refl _), hBV.trans (hB2.mono (by omega))⟩
end Go.Proofs.YtnddfeidggcplaaGreat
namespace Go.Proofs.YtnddfeidggcplaaGreat
open Go.RowKit

theorem pow_le_9 (n j : Nat) (h : n ≤ 9) : 2 ^ (n - 1 - j) ≤ 256 := Nat.le_trans (Nat.pow_le_pow_right (by decide) (show n - 1 - j ≤ 8 by omega)) (by decide)
set_option maxRecDepth 100000 in
set_option maxHeartbeats 8000000 in
theorem rProve (tabs : List (List E)) (ps : List Trm) (coins : List E) (n : Nat) (hc : coins.length = n) (hn : n ≤ 9) (hall : AllLen tabs (2 ^ n)) (h0 : 0 < tabs.length) (hl : tabs.length ≤ 1000) (vt vp vc : Value) (lo hi lo2 hi2 : Nat) (w : World) (h : SumS lo hi w vt vp tabs ps) (hcs : ExtS lo2 hi2 w vc coins) :
    Calls Tryz.prog 55 #[sv vt vp, vc] w (PrvR w (prvR tabs ps coins) (prvV tabs coins) · ·) := by
  obtain ⟨i0, hi0, iz0, iz1, iz2⟩ := info_parts ext_info
  obtain ⟨AC, capC, rfl⟩ := Rd.len hcs
  obtain ⟨AP, capP, rfl⟩ := h.hp.len
  have HAl := Lib.hid (fun j (hj : j < n) => bndAll_at tabs coins n j hall hc hj)
  have HAe := Lib.hid (show AllLen (bndAll tabs coins) 1 by have := bndAll_len n coins tabs (by omega) hall; rwa [hc, Nat.sub_self] at this)
  have HH := Lib.hid h
  have HCS := Lib.hid hcs
  have HPL := Lib.hid (prvR_length ps coins tabs)
  have HBl := Lib.hid (bndAll_length tabs)
  have HC := Lib.hid hc
  rw [hc]
  clear hall h hcs hc
  obtain ⟨np, hnp⟩ : ∃ np, np = ps.length := ⟨_, rfl⟩
  rw [← hnp]
  have HNP := Lib.hid hnp
  clear hnp
  unfold sv
  go_enter Tryz.func55, Tryz.ntmps55
  go_upto_region 1 with (fail)
  refine wp_stk1 fun W hB hz b1 => ?_
  have hWs : W.heap.size = w.heap.size + 1 := hz.out
  go_upto_region 2 with (fail)
  refine wp_stk1 fun V hV hzV b10 => ?_
  have hVs : V.heap.size = W.heap.size + 1 := hzV.out
  rw [hWs] at b10
  have own0 : V.ownsRow (w.heap.size + 1) 22 1 (.slice (some ⟨w.heap.size + 1, 0, none⟩) 0 0) 0 [] := ⟨rfl, .inr ⟨w.heap.size + 1, 0, #[], rfl, Nat.le_refl _, b10, Nat.le_refl _, Nat.zero_le _, rfl, rfl⟩⟩
  have hBV := hB.trans (hV.mono hB.size)
  have b1V := b1.keep hV
  have HT0 := Lib.hid (HH.out.ht.base.keep hBV)
  have HRo := Lib.hid (show RowT (w.heap.size + 1) V (.slice (some ⟨w.heap.size + 1, 0, none⟩) 0 0) [] from ⟨[], own0, rfl, fun k x t h => by simp at h⟩)
  clear hz hzV b10 own0 b1
  go_wp2_with fail
  go_loopw [6, 7] (fun u i wr => ∃ j : Nat, j ≤ n ∧ i = .int .i64 j ∧ RowT (w.heap.size + 1) wr u (prvR tabs ps (coins.take j)) ∧ ∃ vt L H, Blk wr w.heap.size 36 #[vt, .slice AP np capP] ∧ TabS L H wr vt (bndAll tabs (coins.take j)) ∧ Outside L H u ∧ H ≤ wr.heap.size ∧ Below w.heap.size w wr ∧ w.heap.size + 1 ≤ wr.heap.size) (fun _ i _ => n - (intOf i).toNat)
  case atStart => exact ⟨0, Nat.zero_le _, rfl, HRo.out, vt, 0, w.heap.size, b1V, HT0.out, fun b hb => .inr (by simp [Value.ownBlock] at hb; omega), by omega, hBV, by omega⟩
  case round =>
    obtain ⟨j, hj, rfl, hrow, vt', L, H, bb, hT, hout, hH, hBr, hsz⟩ := hrel
    clear b1V hBV hB
    obtain ⟨Au, cu, hv⟩ := hrow.len'
    have hlr : (prvR tabs ps (coins.take j)).length = j := by rw [prvR_length, List.length_take, HC.out, Nat.min_eq_left (by omega)]
    rw [hlr] at hv
    subst hv
    by_cases hlt : j < n
    · obtain ⟨g, off, cap', hv, q1, q2, q3, q4, q5⟩ := exts_cells HCS.out (by rw [HC.out]; omega)
      rw [HC.out] at hv
      cases hv
      obtain ⟨r, hr, hrd⟩ := get_of (l := coins) (k := j) (by rw [HC.out]; exact hlt)
      obtain ⟨d1, d2⟩ := q5 j r hr
      have HPS := Lib.hid (prvR_succ ps r coins j tabs hr)
      have HBS := Lib.hid (bndAll_succ tabs coins j r hr)
      have hal := HAl.out j hlt
      have hlt2 := HBl.out (coins.take j)
      obtain ⟨m, hm⟩ : ∃ m, m = 2 ^ (n - 1 - j) := ⟨_, rfl⟩
      have hm1 : m ≤ 256 := by rw [hm]; exact pow_le_9 n j hn
      rw [← hm] at hal
      have HAL := Lib.hid hal
      have HL2 := Lib.hid hlt2
      have HLR := Lib.hid hlr
      clear q5 hr hrd hal hlt2 hm hlr
      generalize bndAll tabs (coins.take j) = T at *
      generalize prvR tabs ps (coins.take j) = R at *
      obtain ⟨wo, hwo⟩ : ∃ wo, wo = wr := ⟨_, rfl⟩
      subst hwo
      obtain ⟨AT, capT, rfl⟩ := hT.len
      have e0 := bb.cell
      go_wp2_with fail
      have hSX := HH.out.keep hBr
      refine (rRound T ps m HAL.out (by rw [HL2.out]; exact h0) (by rw [HL2.out]; exact hl) (by omega) _ _ 0 wo.heap.size wo ⟨hT.base, by have := hSX.hp.base; rwa [← HNP.out] at this, by rw [HL2.out]; exact hSX.ix, hSX.few, hSX.short⟩).mono ?_
      rintro e w2 ⟨v2, rfl, t2, hb2⟩
      replace t2 : ExtS wo.heap.size w2.heap.size w2 v2 (rndE T ps) := t2
      obtain ⟨A2, c2, rfl⟩ := Rd.len t2
      generalize rndE T ps = y at *
      have hs2 := hb2.size
      clear e0
      go_wp2_with (at_builtin; refine wpList_appT (x := .slice A2 y.length c2) (y := y) (lo := wo.heap.size) (hi := w2.heap.size) (base := w.heap.size + 1) (ts := R) rfl _ _ rfl Tryz.underlying37 rfl rfl ?hrow ?hsrc rfl ?hE ?hlo ?hhi ?hout ?hk ?hbase ?_)
      case hrow => exact (hrow.keep hb2).keep ((Below.refl _ _).alloc (Nat.le_refl _) _)
      case hsrc => exact Blk.new_at _ _ _ rfl
      case hE => exact Rd.keep t2 ((Below.refl _ _).alloc (Nat.le_refl _) _)
      case hlo => omega
      case hhi => simp
      case hout => exact hrow.out (Nat.le_refl _)
      case hk => rw [HLR.out]; omega
      case hbase => simp; omega
      intro u' w3 hrow3 hB3 hg3 hob3
      have hal2 : Below w2.heap.size w2 (w2.alloc (.cells #[.slice A2 y.length c2] 22)) := (Below.refl _ _).alloc (Nat.le_refl _) _
      have hXa := hb2.trans (hal2.mono hs2)
      have bb3 := (bb.keep hXa).below hB3 (by omega)
      have hT3 := tabs_kept (hT.keep hXa) (Kept.of_grown hg3 hout (by simp; omega)) hg3.size
      have hBw3 : Below w.heap.size w w3 := (hBr.trans (hXa.mono hBr.size)).trans (hB3.mono (by omega))
      have hs3 : w2.heap.size + 1 ≤ w3.heap.size := by simpa using hB3.size
      rw [← HPS.out] at hrow3
      obtain ⟨A3, c3, hv⟩ := hrow3.len'
      rw [prvR_length, List.length_take, HC.out, Nat.min_eq_left (by omega)] at hv
      subst hv
      have f1 := gw_blk bb3
      have f2 := gw_cell (W := w3) (Nat.lt_of_lt_of_le q4 hBw3.size) ((hBw3.cell (p := ⟨g, off + j * 2, none⟩) q4).trans d1)
      have f3 := gw_cell (W := w3) (Nat.lt_of_lt_of_le q4 hBw3.size) ((hBw3.cell (p := ⟨g, off + j * 2 + 1, none⟩) q4).trans d2)
      have HBd := Lib.hid (show ∀ W1, Below w3.heap.size w3 W1 → Calls Tryz.prog 97 #[.agg #[.slice AT T.length capT, .slice AP np capP], ev r] W1 (RetR (BndA (.slice AP np capP) (bndE T r)) W1) from fun W1 hW =>
        rBindS T r m HAL.out (by omega) (by rw [HL2.out]; exact hl) _ (.slice AP np capP) _ _ W1 (hT3.keep hW) ⟨_, _, _, rfl⟩)
      rw [← HBS.out] at HBd
      clear hg3 hob3 t2 hb2 d1 d2 hT hrow bb
      go_wp2_with fail
      refine wp_region_rg 6 [(5, Spec.rel (BndA (.slice AP np capP) (bndAll tabs (coins.take (j + 1)))) AnyV)] (by kernel_rfl) (by kernel_rfl) (by kernel_rfl) ⟨fit_of (bnd_stable _ _), trivial⟩ ?_
      refine rg_det rfl rfl rfl (fun K hK => ?_)
      go_big_quiet_op
      refine hK _ ?_; clear hK K
      refine rg_det rfl rfl rfl (fun K hK => ?_)
      go_big_quiet_op
      refine hK _ ?_; clear hK K
      refine rg_det rfl rfl rfl (fun K hK => ?_)
      go_big_quiet_op
      refine hK _ ?_; clear hK K
      refine rg_det rfl rfl rfl (fun K hK => ?_)
      go_big_quiet_op
      refine hK _ ?_; clear hK K
      refine rg_det rfl rfl rfl (fun K hK => ?_)
      go_big_quiet_op
      refine hK _ ?_; clear hK K
      refine rg_rel rfl rfl (fun W1 hW1 hF => step_callr en_attestor_attestorref06_Bind (HBd.out W1 (grw_below hW1)) rfl rfl) ?_
      intro na5 ma5 va5 hna5 hma5 hda5 hfa5 a' ha
      simp only [Act.put, List.setIfInBounds_toArray, List.set_cons_succ, List.set_cons_zero] at ha
      subst ha
      refine rg_nil (fun w' hw' hF => ?_)
      obtain ⟨z6, rfl⟩ := hw'
      simp only [List.drop_succ_cons, List.drop_zero]
      obtain ⟨hma5', vt4, rfl, hT4⟩ := end_last hF
      obtain ⟨A4, cap4, rfl⟩ := hT4.len
      have bb4 := bb3.gw z6
      have hrow4 := hrow3.keep z6.h
      have hB4 := hBw3.trans (z6.h.mono hBw3.size)
      have hz6 := z6.h.size
      have e2 := bb4.frozen
      have e3 := bb4.cell
      unfold sv
      clear hF f1 f2 f3 hda5
      go_upto_region 4 with (fail)
      refine set2 (M := fun W => Code.wp _ _ _ _ W) bb4 fun Y hY bY => ?_
      have HT5 := Lib.hid (hT4.put hY (.inl (by omega)))
      have HR5 := Lib.hid (hrow4.put hY (by omega))
      have hB5 := below_put hB4 hY (Nat.le_refl _)
      have hYs := hY.size
      have HO5 := Lib.hid (show Outside na5 ma5 (.slice A3 (j + 1) c3) from hrow3.out hna5)
      clear e2 e3 bb4 hT4 hY hrow3 hrow4
      go_wp2_with fail
      exact ⟨⟨j + 1, by omega, by go_num, HR5.out, _, na5, ma5, bY, HT5.out, HO5.out, by omega, hB5, by omega⟩, by simp [intOf]; omega⟩
    · obtain rfl : j = n := by omega
      have htk : coins.take j = coins := by rw [← HC.out, List.take_length]
      rw [htk] at hrow hT
      have hlT : (bndAll tabs coins).length = tabs.length := HBl.out coins
      have HV := Lib.hid (show colE (bndAll tabs coins) 0 tabs.length = prvV tabs coins by unfold colE prvV; rw [← hlT, List.take_length])
      obtain ⟨AT, capT, rfl⟩ := hT.len
      rw [hlT] at bb hT
      obtain ⟨nt, hnt⟩ : ∃ nt, nt = tabs.length := ⟨_, rfl⟩
      rw [← hnt] at bb hT h0 hl
      have HNT := Lib.hid hnt
      have HT := Lib.hid hT
      have HLT := Lib.hid (hlT.trans hnt.symm)
      have HRW := Lib.hid hrow
      have HT1 := Lib.hid (fun k (hk : k < nt) => show ∃ t, (bndAll tabs coins)[k]? = some t ∧ t.length = 1 from ⟨_, List.getElem?_eq_getElem (by rw [hlT, ← hnt]; exact hk), HAe.out _ (List.getElem_mem ..)⟩)
      clear hT hlT htk hrow hlr hnt
      generalize bndAll tabs coins = T at *
      obtain ⟨wo, hwo⟩ : ∃ wo, wo = wr := ⟨_, rfl⟩
      subst hwo
      go_upto_region 8 with (fail)
      refine wp_stk1 fun X hBX hzX bv => ?_
      have hXs : X.heap.size = wo.heap.size + 1 := hzX.out
      have bbX := bb.keep hBX
      have ownV : X.ownsRow wo.heap.size 30 2 (.slice (some ⟨wo.heap.size, 0, none⟩) 0 0) 0 ((colE T 0 0).flatMap ec) := ⟨rfl, .inr ⟨wo.heap.size, 0, #[], rfl, Nat.le_refl _, bv, Nat.le_refl _, Nat.zero_le _, rfl, rfl⟩⟩
      have hBXw := hBr.trans (hBX.mono hBr.size)
      have hblt := bb.lt
      clear bb hzX bv
      go_wp2_with fail
      go_loopw [8, 9] (fun u i wr => ∃ k : Nat, k ≤ nt ∧ i = .int .i64 k ∧ wr.ownsRow wo.heap.size 30 2 u k ((colE T 0 k).flatMap ec) ∧ Below wo.heap.size X wr) (fun _ i _ => nt - (intOf i).toNat)
      case atStart => exact ⟨0, Nat.zero_le _, rfl, ownV, Below.refl _ _⟩
      case round =>
        obtain ⟨k, hk, rfl, hown, hBz⟩ := hrel
        obtain ⟨Av, cv, rfl⟩ := own_len hown
        have hwz := hBX.trans hBz
        have e1 := (bbX.below hBz hblt).cell
        have hwzs := hwz.size
        by_cases hltk : k < nt
        · obtain ⟨t, ht, ht1⟩ := HT1.out k hltk
          obtain ⟨g, off, cap', hv, q1, q2, q3, q4, q5⟩ := tabs_cells HT.out (by rw [HLT.out]; omega)
          rw [HLT.out] at hv
          cases hv
          obtain ⟨A2, c2, d0, hE⟩ := q5 k t ht
          obtain ⟨g2, off2, cap2, hv, r1, r2, r3, r4, r5⟩ := exts_cells hE (by omega)
          rw [ht1] at hv d0 r1
          cases hv
          obtain ⟨x, hx, hxd⟩ := get_of (l := t) (k := 0) (by omega)
          obtain ⟨d1, d2⟩ := r5 0 x hx
          simp only [Nat.zero_mul, Nat.add_zero] at d1 d2
          have HC1 := Lib.hid (show (colE T 0 (k + 1)).flatMap ec = (colE T 0 k).flatMap ec ++ ec x by rw [colE_succ T 0 k t ht, List.flatMap_append, hxd]; simp)
          have e2 := (hwz.cell (p := ⟨g, off + k, none⟩) q4).trans d0
          have e3 := (hwz.cell (p := ⟨g2, off2, none⟩) r4).trans d1
          have e4 := (hwz.cell (p := ⟨g2, off2 + 1, none⟩) r4).trans d2
          have HO := Lib.hid hown
          clear q5 r5 ht hE hx hxd d0 d1 d2 hown
          go_wp2_with (at_builtin; refine wpList_app1 rfl _ _ rfl Tryz.underlying22 hi0 iz0 iz1 iz2 rfl (by decide) (cl := ec x) rfl (ec_one _) rfl rfl (own_below HO.out (Nat.le_refl _) ((Below.refl _ _).alloc (Nat.le_refl _) _)) (Blk.new_at _ _ _ rfl) ?h63 ?hby ?hbase ?_)
          case h63 => unfold maxLen; omega
          case hby => omega
          case hbase => simp; omega
          intro v1 w4 hown4 hgrow hB5
          have hB6 : Below wo.heap.size X w4 := (hBz.trans (((Below.refl _ _).alloc (Nat.le_refl _) _).mono hwzs)).trans hB5
          rw [← HC1.out] at hown4
          clear e1 e2 e3 e4 hgrow hB5
          go_wp2_with fail
          exact ⟨⟨k + 1, by omega, by go_num, hown4, hB6⟩, by simp [intOf]; omega⟩
        · obtain rfl : k = nt := by omega
          have hcl := colE_len T 0 k (by rw [HLT.out]; exact Nat.le_refl _)
          have HX : Hid (ExtS wo.heap.size wr.heap.size wr (.slice Av k cv) (prvV tabs coins)) := Lib.hid (by
            have := exts_of_own hown hcl (by omega) (Nat.le_refl _)
            rwa [← HV.out, ← HNT.out])
          have HRs := Lib.hid ((HRW.out.tabs (by rw [HPL.out, HC.out]; omega)).other hwz.size fun g h1 h2 h3 => hwz.block g h3)
          have hBww := hBr.trans (hwz.mono hBr.size)
          clear hown hcl
          go_wp2_with fail
          go_ret2
          exact ⟨_, _, rfl, HRs.out.wide (by omega) (by omega), Rd.wide HX.out (by omega) (Nat.le_refl _), hBww⟩
end Go.Proofs.YtnddfeidggcplaaGreat
namespace Go.Proofs.YtnddfeidggcplaaGreat
open Go.RowKit

set_option maxRecDepth 100000 in
set_option maxHeartbeats 2000000 in
theorem rSameR (gs : List (List E)) (v1 v2 : Value) (lo hi lo2 hi2 : Nat) (w : World) (h1 : TabS lo hi w v1 gs) (h2 : TabS lo2 hi2 w v2 gs) :
    Calls Tryz.prog 24 #[v1, v2] w (Ret (.bool true) w) := by
  obtain ⟨A1, c1, rfl⟩ := h1.len
  obtain ⟨A2, c2, rfl⟩ := h2.len
  have hsm := h1.small
  have H1 := Lib.hid h1
  have H2 := Lib.hid h2
  have hne : ((gs.length : Int) != (gs.length : Int)) = false := by simp
  clear h1 h2
  go_enter Tryz.func24, Tryz.ntmps24
  go_wp2_with fail
  go_loopw [5] (fun i wr => ∃ j : Nat, j ≤ gs.length ∧ i = .int .i64 j ∧ Below w.heap.size w wr) (fun i _ => gs.length - (intOf i).toNat)
  case atStart => exact ⟨0, Nat.zero_le _, rfl, Below.refl _ _⟩
  case round =>
    obtain ⟨j, hj, rfl, hB⟩ := hrel
    by_cases hlt : j < gs.length
    · obtain ⟨g1, o1, k1, hv, -, -, -, l1, q1⟩ := tabs_cells H1.out (by omega)
      cases hv
      obtain ⟨g2, o2, k2, hv, -, -, -, l2, q2⟩ := tabs_cells H2.out (by omega)
      cases hv
      obtain ⟨g, hg⟩ : ∃ g, gs[j]? = some g := ⟨_, List.getElem?_eq_getElem hlt⟩
      obtain ⟨B1, d1, r1, E1⟩ := q1 j g hg
      obtain ⟨B2, d2, r2, E2⟩ := q2 j g hg
      have f1 := gw_cell (W := wr) (Nat.lt_of_lt_of_le l1 hB.size) ((hB.cell (p := ⟨g1, o1 + j, none⟩) l1).trans r1)
      have f2 := gw_cell (W := wr) (Nat.lt_of_lt_of_le l2 hB.size) ((hB.cell (p := ⟨g2, o2 + j, none⟩) l2).trans r2)
      have HS := Lib.hid (show ∀ W1, Below wr.heap.size wr W1 → Calls Tryz.prog 67 #[.slice B1 g.length d1, .slice B2 g.length d2] W1 (Ret (.bool true) W1) from fun W1 hW => xSame3 g _ _ _ _ _ _ W1 (Rd.keep (Rd.keep E1 hB) hW) (Rd.keep (Rd.keep E2 hB) hW))
      clear q1 q2 hg r1 r2 E1 E2
      go_wp2_with fail
      refine wp_region_rg 10 [(8, Spec.val (.bool true))] (by kernel_rfl) (by kernel_rfl) (by kernel_rfl) trivial ?_
      refine rg_det rfl rfl rfl (fun K hK => ?_)
      go_big_quiet_op
      refine hK _ ?_; clear hK K
      refine rg_det rfl rfl rfl (fun K hK => ?_)
      go_big_quiet_op
      refine hK _ ?_; clear hK K
      refine rg_det rfl rfl rfl (fun K hK => ?_)
      go_big_quiet_op
      refine hK _ ?_; clear hK K
      refine rg_det rfl rfl rfl (fun K hK => ?_)
      go_big_quiet_op
      refine hK _ ?_; clear hK K
      refine rg_det rfl rfl rfl (fun K hK => ?_)
      go_big_quiet_op
      refine hK _ ?_; clear hK K
      refine rg_det rfl rfl rfl (fun K hK => ?_)
      go_big_quiet_op
      refine hK _ ?_; clear hK K
      refine rg_det rfl rfl rfl (fun K hK => ?_)
      go_big_quiet_op
      refine hK _ ?_; clear hK K
      refine rg_det rfl rfl rfl (fun K hK => ?_)
      go_big_quiet_op
      refine hK _ ?_; clear hK K
      refine rg_val rfl rfl (fun W1 hW1 hF => step_callv en_attestor_attestorref03_Same (HS.out W1 (grw_below hW1)) rfl rfl) ?_
      intro a' ha
      simp only [Act.put, List.setIfInBounds_toArray, List.set_cons_succ, List.set_cons_zero] at ha
      subst ha
      refine rg_det rfl rfl rfl (fun K hK => ?_)
      go_big_quiet_op
      refine hK _ ?_; clear hK K
      refine rg_nil (fun w' hw' hF => ?_)
      obtain ⟨z, rfl⟩ := hw'
      simp only [List.drop_succ_cons, List.drop_zero]
      clear hF f1 f2
      go_wp2_with fail
      exact ⟨⟨j + 1, by omega, by go_num, hB.trans (z.h.mono hB.size)⟩, by simp [intOf]; omega⟩
    · obtain rfl : j = gs.length := by omega
      go_wp2_with fail
      go_ret
      exact ⟨rfl, hB⟩
theorem all_trueI {α : Type} (xs : List α) (f : α → Bool) (h : ∀ (k : Nat) x, xs[k]? = some x → f x = true) : xs.all f = true := by
  rw [List.all_eq_true]
  intro x hx
  obtain ⟨k, hk⟩ := List.mem_iff_getElem?.1 hx
  exact h k x hk
theorem all_falseI {α : Type} (xs : List α) (f : α → Bool) (k : Nat) (x : α) (hk : xs[k]? = some x) (h : f x = false) : xs.all f = false := by
  rw [List.all_eq_false]
  exact ⟨x, List.mem_of_getElem? hk, by rw [h]; decide⟩
end Go.Proofs.YtnddfeidggcplaaGreat
