/-
  The reference's sums: Degree, Final, Total, by contract.
-/
import Derived.Test.YtipaecageimnnaaDoorIp
import Derived.Test.YtipaecageimnnaaDoorCpm
import Derived.Test.YtipaecageimnnaaDoorP3
namespace Go.Proofs.YtipaecageimnnaaDoor
open Go.RowKit

set_option maxRecDepth 100000 in
set_option maxHeartbeats 2000000 in
theorem rFinal (vals : List E) (vt vp v : Value) (ps : List Trm) (lo hi lo2 hi2 : Nat) (w : World) (hp : TrmS lo hi w vp ps) (h : ExtS lo2 hi2 w v vals) (hix : ∀ p ∈ ps, ∀ k ∈ p.t, k < vals.length) :
    Calls Tryd.prog 51 #[sv vt vp, v] w (Ret (ev (finE (valL vals) ps)) w) := by
  obtain ⟨A, capP, rfl⟩ := hp.len
  obtain ⟨AV, capV, rfl⟩ := Rd.len h
  have hsm := hp.small
  have hsv := h.2.1
  have HIX := Lib.hid hix
  have HP := Lib.hid hp
  have HV := Lib.hid h
  clear hix hp h
  unfold sv ev
  go_enter Tryd.func51, Tryd.ntmps51
  go_upto_region 2 with (fail)
  refine wp_stk3 fun W hB hz b2 b4 b5 => ?_
  have hWs : W.heap.size = w.heap.size + 1 + 1 + 1 := hz.out
  clear hz
  go_wp2_with fail
  go_loopw [6] (fun i wr => ∃ j : Nat, j ≤ ps.length ∧ i = .int .i64 j ∧ Blk wr (w.heap.size + 2) 26 #[.int .u64 (fv (finK (valL vals) ps j).a), .int .u64 (fv (finK (valL vals) ps j).b)] ∧ Below (w.heap.size + 2) W wr) (fun i _ => ps.length - (intOf i).toNat)
  case atStart => exact ⟨0, Nat.zero_le _, rfl, b5, Below.refl _ _⟩
  case round =>
    obtain ⟨j, hj, rfl, b5, hBr⟩ := hrel
    have b2r := b2.below hBr (by omega)
    have b4r := b4.below hBr (by omega)
    have hBw := hB.trans (hBr.mono (by omega))
    have e1 := b2r.cell
    by_cases hlt : j < ps.length
    · obtain ⟨g, off, cap', hv, q1, q2, q3, q4, q5⟩ := trms_cells (HP.out.keep hBw) (by omega)
      cases hv
      obtain ⟨p, hpj⟩ : ∃ p, ps[j]? = some p := ⟨_, List.getElem?_eq_getElem hlt⟩
      obtain ⟨A2, c2, d1, d2, d3, hI⟩ := q5 j p hpj
      have HF := Lib.hid (finK_succ (valL vals) ps j p hpj)
      have HPI := Lib.hid (HIX.out p (List.mem_of_getElem? hpj))
      have HI := Lib.hid hI
      have hpl : p.t.length ≤ 140737488355327 := hI.2.1
      obtain ⟨X0, hX0⟩ : ∃ X, X = wr := ⟨_, rfl⟩
      subst hX0
      clear q5 hpj hI
      go_upto_region 6 with (fail)
      refine wp_stk1 fun X hX hzX b7 => ?_
      have hXs : X.heap.size = X0.heap.size + 1 := hzX.out
      have b2X := b2r.keep hX
      have b5X := b5.keep hX
      have k1 := (hX.cell (p := ⟨g, off + j * 3 + 2, none⟩) q4).trans d3
      have B7 : Blk X X0.heap.size 26 #[.int .u64 (fv (trmK (valL vals) p 0).a), .int .u64 (fv (trmK (valL vals) p 0).b)] := b7
      clear hzX e1 d1 d2 d3 b7
      go_wp2_with fail
      go_loopw [8] (fun i wr => ∃ k : Nat, k ≤ p.t.length ∧ i = .int .i64 k ∧ Blk wr X0.heap.size 26 #[.int .u64 (fv (trmK (valL vals) p k).a), .int .u64 (fv (trmK (valL vals) p k).b)] ∧ Below X0.heap.size X wr) (fun i _ => p.t.length - (intOf i).toNat)
      case atStart => exact ⟨0, Nat.zero_le _, rfl, B7, Below.refl _ _⟩
      case round =>
        obtain ⟨k, hk, rfl, b7, hBz⟩ := hrel
        have b2z := b2X.below hBz b2r.lt
        have b5z := b5X.below hBz b5.lt
        have k2 := (hBz.cell (p := ⟨g, off + j * 3 + 2, none⟩) q4).trans k1
        have e1 := b2z.cell
        have hXB := hX.trans hBz
        by_cases hltk : k < p.t.length
        · obtain ⟨gi, oi, ci, hv, -, -, -, li, qi⟩ := idxs_cells HI.out (by omega)
          cases hv
          obtain ⟨x, hx⟩ : ∃ x, p.t[k]? = some x := ⟨_, List.getElem?_eq_getElem hltk⟩
          have hxl := HPI.out x (List.mem_of_getElem? hx)
          obtain ⟨gV, oV, cV, hv, -, -, -, lV, qV⟩ := exts_cells HV.out (by omega)
          cases hv
          obtain ⟨y, hy, hyd⟩ := get_of hxl
          have HT := Lib.hid (show trmK (valL vals) p (k + 1) = trmK (valL vals) p k * y by rw [trmK_succ _ _ _ _ hx]; unfold valL; rw [hyd])
          obtain ⟨d1, d2⟩ := qV x y hy
          have hwz := hBw.trans (hXB.mono hBw.size)
          have f1 := gw_blk b7
          have f2 := gw_blk b2z
          have f3 := gw_cell (W := wr) (Nat.lt_of_lt_of_le q4 hXB.size) k2
          have f4 := gw_cell (W := wr) (Nat.lt_of_lt_of_le li hXB.size) ((hXB.cell (p := ⟨gi, oi + k, none⟩) li).trans (qi k x hx))
          have f5 := gw_cell (W := wr) (Nat.lt_of_lt_of_le lV hwz.size) ((hwz.cell (p := ⟨gV, oV + x * 2, none⟩) lV).trans d1)
          have f6 := gw_cell (W := wr) (Nat.lt_of_lt_of_le lV hwz.size) ((hwz.cell (p := ⟨gV, oV + x * 2 + 1, none⟩) lV).trans d2)
          clear qi qV hx hy hyd d1 d2
          generalize trmK (valL vals) p k = m at *
          go_wp2_with fail
          refine wp_region_rg 14 [(13, Spec.val (.agg #[.int .u64 (fv (m * y).a), .int .u64 (fv (m * y).b)]))] (by kernel_rfl) (by kernel_rfl) (by kernel_rfl) trivial ?_
          refine rg_det rfl rfl rfl (fun K hK => ?_)
          go_big_quiet_op
          refine hK _ ?_; clear hK K
          refine rg_det rfl rfl rfl (fun K hK => ?_)
          go_big_quiet_op
          refine hK _ ?_; clear hK K
          refine rg_det rfl rfl rfl (fun K hK => ?_)
          go_big_quiet_op
          refine hK _ ?_; clear hK K
          refine rg_det rfl rfl rfl (fun K hK => ?_)
          go_big_quiet_op
          refine hK _ ?_; clear hK K
          refine rg_det rfl rfl rfl (fun K hK => ?_)
          go_big_quiet_op
          refine hK _ ?_; clear hK K
          refine rg_det rfl rfl rfl (fun K hK => ?_)
          go_big_quiet_op
          refine hK _ ?_; clear hK K
          refine rg_det rfl rfl rfl (fun K hK => ?_)
          go_big_quiet_op
          refine hK _ ?_; clear hK K
          refine rg_det rfl rfl rfl (fun K hK => ?_)
          go_big_quiet_op
          refine hK _ ?_; clear hK K
          refine rg_det rfl rfl rfl (fun K hK => ?_)
          go_big_quiet_op
          refine hK _ ?_; clear hK K
          refine rg_det rfl rfl rfl (fun K hK => ?_)
          go_big_quiet_op
          refine hK _ ?_; clear hK K
          refine rg_det rfl rfl rfl (fun K hK => ?_)
          go_big_quiet_op
          refine hK _ ?_; clear hK K
          refine rg_det rfl rfl rfl (fun K hK => ?_)
          go_big_quiet_op
          refine hK _ ?_; clear hK K
          refine rg_det rfl rfl rfl (fun K hK => ?_)
          go_big_quiet_op
          refine hK _ ?_; clear hK K
          refine rg_val rfl rfl (fun W1 hW1 hF => step_callv en_attestor_attestorref02_Mul (xMul m y W1) rfl rfl) ?_
          intro a' ha
          simp only [Act.put, List.setIfInBounds_toArray, List.set_cons_succ, List.set_cons_zero] at ha
          subst ha
          refine rg_nil (fun w' hw' hF => ?_)
          obtain ⟨z9, rfl⟩ := hw'
          simp only [List.drop_succ_cons, List.drop_zero]
          have b7z := b7.gw z9
          have hBz9 := hBz.trans (z9.h.mono (by have := hX.size; have := hBz.size; omega))
          have e2 := b7z.frozen
          have e3 := b7z.cell
          clear hF f1 f2 f3 f4 f5 f6 b7
          go_upto_region 8 with (fail)
          refine set2 (M := fun W => Code.wp _ _ _ _ W) b7z fun Y hY bY => ?_
          have HN := Lib.hid (show Blk Y X0.heap.size 26 #[.int .u64 (fv (trmK (valL vals) p (k + 1)).a), .int .u64 (fv (trmK (valL vals) p (k + 1)).b)] by rw [HT.out]; exact bY)
          have hBY := below_put hBz9 hY (Nat.le_refl _)
          clear e1 e2 e3 b7z bY hY
          go_wp2_with fail
          exact ⟨⟨k + 1, by omega, by go_num, HN.out, hBY⟩, by simp [intOf]; omega⟩
        · obtain rfl : k = p.t.length := by omega
          rw [trmK_all] at b7
          have e2 := b5z.cell
          have e3 := b7.cell
          generalize finK (valL vals) ps j = s at *
          generalize trmE (valL vals) p = y at *
          go_wp2_with fail
          refine (xAdd s y _).mono ?_
          rintro e w3 ⟨he, hb3⟩
          unfold ev at he
          subst he
          have b53 := b5z.keep hb3
          have e4 := b53.frozen
          have e5 := b53.cell
          have hB3 := (hBr.trans ((hX.trans hBz).mono (by have := hBr.size; omega))).trans (hb3.mono (by have := hBr.size; have := hXB.size; omega))
          clear e1 e2 e3 b7
          go_upto_region 4 with (fail)
          refine set2 (M := fun W => Code.wp _ _ _ _ W) b53 fun Y hY bY => ?_
          have HN := Lib.hid (show Blk Y (w.heap.size + 2) 26 #[.int .u64 (fv (finK (valL vals) ps (j + 1)).a), .int .u64 (fv (finK (valL vals) ps (j + 1)).b)] by rw [HF.out]; exact bY)
          have hBY := below_put hB3 hY (Nat.le_refl _)
          clear e4 e5 b53 bY hY
          go_wp2_with fail
          exact ⟨⟨j + 1, by omega, by go_num, HN.out, hBY⟩, by simp [intOf]; omega⟩
    · obtain rfl : j = ps.length := by omega
      rw [finK_all] at b5
      have e2 := b5.cell
      have e3 := b4r.cell
      have e4 := b4r.frozen
      generalize finE (valL vals) ps = y at *
      go_wp2_with fail
      refine bodyPost_ret (v := .agg #[.int .u64 (fv (y).a), .int .u64 (fv (y).b)]) (by simp [results, Tryd.results51, go_sem, e3]) rfl ⟨rfl, ?_⟩
      exact below_set2 hBw (by omega)
def colE (tabs : List (List E)) (j k : Nat) : List E := (tabs.take k).map fun t => t.getD j 0
theorem colE_succ (tabs : List (List E)) (j k : Nat) (t : List E) (h : tabs[k]? = some t) : colE tabs j (k + 1) = colE tabs j k ++ [t.getD j 0] := by simp [colE, List.take_add_one, h]
theorem colE_len (tabs : List (List E)) (j k : Nat) (h : k ≤ tabs.length) : (colE tabs j k).length = k := by simp [colE]; omega
theorem colE_fin (tabs : List (List E)) (j : Nat) (ps : List Trm) (hix : ∀ p ∈ ps, ∀ k ∈ p.t, k < tabs.length) : finE (valL (colE tabs j tabs.length)) ps = finE (valT tabs j) ps :=
  finE_congr _ _ ps tabs.length hix fun k hk => by
    unfold valL valT colE
    rw [List.take_length]
    simp [List.getD, hk]
set_option maxRecDepth 100000 in
set_option maxHeartbeats 2000000 in
theorem rTotal (tabs : List (List E)) (N : Nat) (vt vp : Value) (ps : List Trm) (lo hi : Nat) (w : World) (h : SumS lo hi w vt vp tabs ps) (h0 : 0 < tabs.length) (hl : tabs.length ≤ 1000) (hall : AllLen tabs N) (hN : N ≤ 1000000) :
    Calls Tryd.prog 26 #[sv vt vp] w (Ret (ev (totE tabs ps)) w) := by
  obtain ⟨i0, hi0, iz0, iz1, iz2⟩ := info_parts ext_info
  obtain ⟨AP, capP, rfl⟩ := h.hp.len
  obtain ⟨A, capt, rfl⟩ := h.ht.len
  have HT := Lib.hid (show totK tabs ps N = totE tabs ps by unfold totE; rw [hall.lenT h0])
  have HA := Lib.hid hall
  have HH := Lib.hid h
  clear hall h
  obtain ⟨g, off, cap', hv, q1, q2, q3, q4, q5⟩ := tabs_cells HH.out.ht h0
  cases hv
  obtain ⟨t0, ht0⟩ : ∃ t, tabs[0]? = some t := ⟨_, List.getElem?_eq_getElem h0⟩
  obtain ⟨A0, c0, k0, hE0⟩ := q5 0 t0 ht0
  have hl0 : t0.length = N := HA.out t0 (List.mem_of_getElem? ht0)
  rw [hl0] at k0
  rw [Nat.add_zero] at k0
  have HQ5 := Lib.hid q5
  clear q5 ht0 hE0 hl0
  obtain ⟨np, hnp⟩ : ∃ np, np = ps.length := ⟨_, rfl⟩
  have HNP := Lib.hid hnp
  rw [← hnp]
  obtain ⟨nt, hnt⟩ : ∃ nt, nt = tabs.length := ⟨_, rfl⟩
  have HNT := Lib.hid hnt
  rw [← hnt] at h0 hl ⊢
  clear hnp hnt
  unfold sv ev
  go_enter Tryd.func26, Tryd.ntmps26
  go_upto_region 2 with (fail)
  refine wp_stk3 fun W hB hz b1 b2 b3 => ?_
  have hWs : W.heap.size = w.heap.size + 1 + 1 + 1 := hz.out
  have k1 := (hB.cell (p := ⟨g, off, none⟩) q4).trans k0
  clear hz k0
  go_wp2_with fail
  go_loopw [4] (fun i wr => ∃ j : Nat, j ≤ N ∧ i = .int .i64 j ∧ Blk wr (w.heap.size + 2) 26 #[.int .u64 (fv (totK tabs ps j).a), .int .u64 (fv (totK tabs ps j).b)] ∧ Below (w.heap.size + 2) W wr) (fun i _ => N - (intOf i).toNat)
  case atStart => exact ⟨0, Nat.zero_le _, rfl, b3, Below.refl _ _⟩
  case round =>
    obtain ⟨j, hj, rfl, b3, hBr⟩ := hrel
    have b1r := b1.below hBr (by omega)
    have b2r := b2.below hBr (by omega)
    have hBw := hB.trans (hBr.mono (by omega))
    have e1 := b1r.cell
    have k2 := (hBr.cell (p := ⟨g, off, none⟩) (by show g < w.heap.size + 2; omega)).trans k1
    by_cases hlt : j < N
    · have HFT := Lib.hid (totK_succ tabs ps j)
      have hNs := hBr.size
      obtain ⟨X0, hX0⟩ : ∃ X, X = wr := ⟨_, rfl⟩
      subst hX0
      go_upto_region 6 with (fail)
      refine wp_stk1 fun X hX hzX b5 => ?_
      have hXs : X.heap.size = X0.heap.size + 1 := hzX.out
      have own0 : X.ownsRow X0.heap.size 26 2 (.slice (some ⟨X0.heap.size, 0, none⟩) 0 0) 0 ((colE tabs j 0).flatMap ec) := ⟨rfl, .inr ⟨X0.heap.size, 0, #[], rfl, Nat.le_refl _, b5, Nat.le_refl _, Nat.zero_le _, rfl, rfl⟩⟩
      clear hzX e1 k2 b5
      go_wp2_with fail
      go_loopw [5, 6] (fun u i wr => ∃ k : Nat, k ≤ nt ∧ i = .int .i64 k ∧ wr.ownsRow X0.heap.size 26 2 u k ((colE tabs j k).flatMap ec) ∧ Below X0.heap.size X wr) (fun _ i _ => nt - (intOf i).toNat)
      case atStart => exact ⟨0, Nat.zero_le _, rfl, own0, Below.refl _ _⟩
      case round =>
        obtain ⟨k, hk, rfl, hown, hBz⟩ := hrel
        obtain ⟨Au, cu, rfl⟩ := own_len hown
        have hXB := hX.trans hBz
        have b1z := b1r.below hXB b1r.lt
        have hwz := hBw.trans (hXB.mono hBw.size)
        have e1 := b1z.cell
        have hXz : X0.heap.size ≤ wr.heap.size := hXB.size
        by_cases hltk : k < nt
        · obtain ⟨t, ht⟩ : ∃ t, tabs[k]? = some t := ⟨_, List.getElem?_eq_getElem (by rw [← HNT.out]; exact hltk)⟩
          obtain ⟨At, ct, d1, hE⟩ := HQ5.out k t ht
          have htl := HA.out t (List.mem_of_getElem? ht)
          obtain ⟨gt, ot, ct', hv, -, -, -, lt', qt⟩ := exts_cells hE (by omega)
          cases hv
          obtain ⟨y, hy, hyd⟩ := get_of (l := t) (k := j) (by omega)
          obtain ⟨d2, d3⟩ := qt j y hy
          have HC := Lib.hid (show (colE tabs j (k + 1)).flatMap ec = (colE tabs j k).flatMap ec ++ ec y by rw [colE_succ tabs j k t ht, List.flatMap_append, hyd]; simp)
          have e2 := (hwz.cell (p := ⟨g, off + k, none⟩) q4).trans d1
          have e3 := (hwz.cell (p := ⟨gt, ot + j * 2, none⟩) lt').trans d2
          have e4 := (hwz.cell (p := ⟨gt, ot + j * 2 + 1, none⟩) lt').trans d3
          rw [htl] at e2
          have HO := Lib.hid hown
          clear qt ht htl hE hy hyd d1 d2 d3 hown
          go_wp2_with (at_builtin; refine wpList_app1 rfl _ _ rfl Tryd.underlying22 hi0 iz0 iz1 iz2 rfl (by decide) (cl := ec y) rfl (ec_one _) rfl rfl (own_below HO.out (Nat.le_refl _) ((Below.refl _ _).alloc (Nat.le_refl _) _)) (Blk.new_at _ _ _ rfl) ?h63 ?hby ?hbase ?_)
          case h63 => unfold maxLen; omega
          case hby => omega
          case hbase => simp; omega
          intro v1 w4 hown4 hgrow hB5
          have hB6 : Below X0.heap.size X w4 := (hBz.trans (((Below.refl _ _).alloc (Nat.le_refl _) _).mono hXz)).trans hB5
          rw [← HC.out] at hown4
          clear e1 e2 e3 e4 hgrow hB5
          go_wp2_with fail
          exact ⟨⟨k + 1, by omega, by go_num, hown4, hB6⟩, by simp [intOf]; omega⟩
        · obtain rfl : k = nt := by omega
          have hcl := colE_len tabs j k (by rw [← HNT.out]; exact Nat.le_refl _)
          have hcf : Hid (finE (valL (colE tabs j k)) ps = finE (valT tabs j) ps) := Lib.hid (by
            have := colE_fin tabs j ps HH.out.ix
            rwa [← HNT.out] at this)
          have HO : Hid (ExtS X0.heap.size wr.heap.size wr (.slice Au k cu) (colE tabs j k)) := Lib.hid (by
            have := exts_of_own hown hcl (by omega) (Nat.le_refl _)
            exact this)
          have b3z := b3.below hXB b3.lt
          have HFn := Lib.hid (show ∀ W1, Below wr.heap.size wr W1 → Calls Tryd.prog 51 #[.agg #[.slice (some ⟨g, off, none⟩) k capt, .slice AP np capP], .slice Au k cu] W1 (Ret (ev (finE (valT tabs j) ps)) W1) from fun W1 hW => by
            rw [← hcf.out]
            have hp := (HH.out.hp.keep hwz).keep hW
            rw [← HNP.out] at hp
            exact rFinal (colE tabs j k) _ _ _ ps _ _ _ _ W1 hp (Rd.keep HO.out hW) (fun p hp i hi => by rw [hcl]; have := HH.out.ix p hp i hi; rwa [← HNT.out] at this))
          have f1 := gw_blk b3z
          have f2 := gw_blk b1z
          generalize totK tabs ps j = m at *
          generalize finE (valT tabs j) ps = y at *
          clear hown hcl
          go_wp2_with fail
          refine wp_region_rg 5 [(3, Spec.val (.agg #[.int .u64 (fv (y).a), .int .u64 (fv (y).b)])), (4, Spec.val (.agg #[.int .u64 (fv (m + y).a), .int .u64 (fv (m + y).b)]))] (by kernel_rfl) (by kernel_rfl) (by kernel_rfl) trivial ?_
          refine rg_det rfl rfl rfl (fun K hK => ?_)
          go_big_quiet_op
          refine hK _ ?_; clear hK K
          refine rg_det rfl rfl rfl (fun K hK => ?_)
          go_big_quiet_op
          refine hK _ ?_; clear hK K
          refine rg_det rfl rfl rfl (fun K hK => ?_)
          go_big_quiet_op
          refine hK _ ?_; clear hK K
          refine rg_val rfl rfl (fun W1 hW1 hF => step_callv en_attestor_attestorref06_Final (HFn.out W1 (grw_below hW1)) rfl rfl) ?_
          intro a' ha
          simp only [Act.put, List.setIfInBounds_toArray, List.set_cons_succ, List.set_cons_zero] at ha
          subst ha
          refine rg_val rfl rfl (fun W1 hW1 hF => step_callv en_attestor_attestorref02_Add (xAdd m y W1) rfl rfl) ?_
          intro a' ha
          simp only [Act.put, List.setIfInBounds_toArray, List.set_cons_succ, List.set_cons_zero] at ha
          subst ha
          refine rg_nil (fun w' hw' hF => ?_)
          obtain ⟨z9, rfl⟩ := hw'
          simp only [List.drop_succ_cons, List.drop_zero]
          have b39 := b3z.gw z9
          have hB9 := (hBr.trans (hXB.mono (by omega))).trans (z9.h.mono (by omega))
          have e2 := b39.frozen
          have e3 := b39.cell
          clear hF f1 f2 e1
          go_upto_region 4 with (fail)
          refine set2 (M := fun W => Code.wp _ _ _ _ W) b39 fun Y hY bY => ?_
          have HN := Lib.hid (show Blk Y (w.heap.size + 2) 26 #[.int .u64 (fv (totK tabs ps (j + 1)).a), .int .u64 (fv (totK tabs ps (j + 1)).b)] by rw [HFT.out]; exact bY)
          have hBY := below_put hB9 hY (Nat.le_refl _)
          clear e2 e3 b39 bY hY
          go_wp2_with fail
          exact ⟨⟨j + 1, by omega, by go_num, HN.out, hBY⟩, by simp [intOf]; omega⟩
    · obtain rfl : j = N := by omega
      rw [HT.out] at b3
      have e2 := b3.cell
      have e3 := b2r.cell
      have e4 := b2r.frozen
      generalize totE tabs ps = y at *
      go_wp2_with fail
      refine bodyPost_ret (v := .agg #[.int .u64 (fv (y).a), .int .u64 (fv (y).b)]) (by simp [results, Tryd.results26, go_sem, e3]) rfl ⟨rfl, ?_⟩
      exact below_set2 hBw (by omega)
end Go.Proofs.YtipaecageimnnaaDoor
