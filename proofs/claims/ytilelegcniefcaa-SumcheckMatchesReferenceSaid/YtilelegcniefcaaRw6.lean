/-
  The reference's Valid of a sum, by contract.
-/
import Derived.Test.YtilelegcniefcaaRu6
namespace Go.Proofs.Ytilelegcniefcaa
open Go.RowKit

theorem any_falseI {α : Type} (xs : List α) (f : α → Bool) (h : ∀ (k : Nat) x, xs[k]? = some x → f x = false) : xs.any f = false := by
  rw [List.any_eq_false]
  intro x hx
  obtain ⟨k, hk⟩ := List.mem_iff_getElem?.1 hx
  rw [h k x hk]
  decide
theorem any_trueI {α : Type} (xs : List α) (f : α → Bool) (k : Nat) (x : α) (hk : xs[k]? = some x) (h : f x = true) : xs.any f = true := List.any_eq_true.2 ⟨x, List.mem_of_getElem? hk, h⟩
theorem lt_succ_case {k j : Nat} (h : k < j + 1) : k < j ∨ k = j := by omega
attribute [local irreducible] wpRg
set_option maxRecDepth 100000 in
set_option maxHeartbeats 4000000 in
theorem rValidS (tabs : List (List Raw)) (ps : List RTrm) (vt vp : Value) (lo hi : Nat) (w : World) (ht : RTabS lo hi w vt tabs) (hp : RTrmS lo hi w vp ps) :
    Calls Try.prog 12 #[.agg #[vt, vp]] w (Ret (.bool (validB tabs ps)) w) := by
  obtain ⟨A, cap, rfl⟩ := ht.len
  obtain ⟨AP, capP, rfl⟩ := hp.len
  have hs1 := ht.small
  have hs2 := hp.small
  obtain ⟨R, hR⟩ : ∃ R, R = validB tabs ps := ⟨_, rfl⟩
  rw [← hR]
  have HR := Lib.hid hR
  have HTt := Lib.hid ht
  have HPp := Lib.hid hp
  clear hR ht hp
  by_cases h0 : tabs.length = 0
  · have HQ := Lib.hid (show R = false by rw [HR.out, List.eq_nil_of_length_eq_zero h0]; rfl)
    rw [h0]
    clear HR
    go_enter Try.func12, Try.ntmps12
    go_wp2_with fail
    go_ret
    exact ⟨by rw [HQ.out]; rfl, (Below.refl _ _).alloc (Nat.le_refl _) _⟩
  · obtain ⟨N, hN⟩ : ∃ N, N = tabs.length := ⟨_, rfl⟩
    have HN := Lib.hid hN
    obtain ⟨g, off, cap', hv, q1, q2⟩ := rtabs_cells HTt.out (by omega)
    cases hv
    obtain ⟨t0, ht0⟩ : ∃ t, tabs[0]? = some t := ⟨_, List.getElem?_eq_getElem (by omega)⟩
    obtain ⟨A0, c0, k0, hE0⟩ := q2 0 t0 ht0
    rw [Nat.add_zero] at k0
    have hl0 := hE0.1.2.1
    obtain ⟨n, hn⟩ : ∃ n, n = t0.length := ⟨_, rfl⟩
    rw [← hn] at k0 hl0
    have HVB := Lib.hid (show R = (validN n && !tabs.any (badTab n) && !ps.any (badTrm N)) by
      rw [HR.out, hn, hN]
      unfold validB
      match tabs, ht0 with
      | t :: ts, h => simp only [List.getElem?_cons_zero, Option.some.injEq] at h; subst h; rfl)
    rw [← hN] at h0 hs1 HTt ⊢
    have hb0 : ((N : Int) == 0) = false := by simp; exact h0
    have HQ2 := Lib.hid q2
    clear ht0 hE0 hn HR q2 hN
    go_enter Try.func12, Try.ntmps12
    go_upto_region 1 with (fail)
    refine wp_stk1 fun W hB hz b1 => ?_
    have e1 := b1.cell
    have e2 := (hB.cell (p := ⟨g, off, none⟩) q1).trans k0
    clear hz k0
    by_cases h1 : 1 ≤ n
    · by_cases h2 : n ≤ 65536
      · have hq := and_pred n h2 h1
        by_cases h3 : n &&& (n - 1) = 0
        · have hq0 : bits .and .i64 (n : Int) ((n : Int) - 1) = 0 := by rw [hq, h3]; rfl
          have HQ := Lib.hid (show R = (!tabs.any (badTab n) && !ps.any (badTrm N)) by rw [HVB.out]; unfold validN; simp [h1, h2, h3])
          clear HVB hq h3
          go_wp2_with fail
          clear hq0 e2
          go_loopw [4] (fun i wr => ∃ j : Nat, j ≤ N ∧ i = .int .i64 j ∧ Hid (∀ (k : Nat) t, k < j → tabs[k]? = some t → badTab n t = false) ∧ Below W.heap.size W wr) (fun i _ => N - (intOf i).toNat)
          case atStart => exact ⟨0, Nat.zero_le _, rfl, Lib.hid fun k t hk => absurd hk (by omega), Below.refl _ _⟩
          case round =>
            obtain ⟨j, hj, rfl, HG, hBr⟩ := hrel
            have hBw := hB.trans (hBr.mono hB.size)
            have b1r := b1.keep hBr
            clear e1
            have e1 := b1r.cell
            by_cases hlt : j < N
            · obtain ⟨t, ht⟩ : ∃ t, tabs[j]? = some t := ⟨_, List.getElem?_eq_getElem (by rw [← HN.out]; exact hlt)⟩
              obtain ⟨A2, c2, d1, hE⟩ := HQ2.out j t ht
              have htl := hE.1.2.1
              have HTJ := Lib.hid ht
              have HE := Lib.hid hE
              have e2 := (hBw.cell (p := ⟨g, off + j, none⟩) q1).trans d1
              clear ht d1 hE
              by_cases hl : t.length = n
              · rw [hl] at e2 HE
                have HL := Lib.hid hl
                have HE2 := Lib.hid e2
                have hnn : ((n : Int) != (n : Int)) = false := by simp
                obtain ⟨X, hX⟩ : ∃ X, X = wr := ⟨_, rfl⟩
                subst hX
                clear hl htl
                go_wp2_with fail
                clear e1 e2
                go_loopw [5] (fun i wr => ∃ m : Nat, m ≤ n ∧ i = .int .i64 m ∧ Hid (∀ (k : Nat) x, k < m → t[k]? = some x → vld x = true) ∧ Below X.heap.size X wr) (fun i _ => n - (intOf i).toNat)
                case atStart => exact ⟨0, Nat.zero_le _, rfl, Lib.hid fun k t hk => absurd hk (by omega), Below.refl _ _⟩
                case round =>
                  obtain ⟨m, hm, rfl, HV, hBz⟩ := hrel
                  have e1 := (b1r.keep hBz).cell
                  have hwz := hBw.trans (hBz.mono hBw.size)
                  by_cases hltm : m < n
                  · obtain ⟨g2, o2, cp2, hv, -, -, -, l2, qx⟩ := raws_cells HE.out (by rw [HL.out]; omega)
                    rw [HL.out] at hv
                    cases hv
                    obtain ⟨x, hx⟩ : ∃ x, t[m]? = some x := ⟨_, List.getElem?_eq_getElem (by rw [HL.out]; exact hltm)⟩
                    obtain ⟨r1, r2⟩ := qx m x hx
                    have HXm := Lib.hid hx
                    have e2 := (hBz.cell (p := ⟨g, off + j, none⟩) (Nat.lt_of_lt_of_le q1 hBw.size)).trans HE2.out
                    have e3 := (hwz.cell (p := ⟨g2, o2 + m * 2, none⟩) l2).trans r1
                    have e4 := (hwz.cell (p := ⟨g2, o2 + m * 2 + 1, none⟩) l2).trans r2
                    clear qx hx r1 r2
                    obtain ⟨x1, x2⟩ := x
                    simp only at e3 e4
                    go_wp2_with fail
                    refine (xValid (x1, x2) _).mono ?_
                    rintro e w5 ⟨rfl, hb5⟩
                    cases hv : vld (x1, x2)
                    · have HR0 := Lib.hid (show R = false by rw [HQ.out, any_trueI tabs (badTab n) j t HTJ.out (by unfold badTab; rw [all_falseI t vld m _ HXm.out hv]; simp)]; rfl)
                      clear hv
                      go_wp2_with fail
                      go_ret
                      exact ⟨by rw [HR0.out]; rfl, hwz.trans (hb5.mono hwz.size)⟩
                    · have HV2 := Lib.hid (show ∀ (k : Nat) x, k < m + 1 → t[k]? = some x → vld x = true from fun k x hk hx => by
                        rcases lt_succ_case hk with h | rfl
                        · exact HV.out k x h hx
                        · rw [Option.some.inj (hx.symm.trans HXm.out)]; exact hv)
                      clear hv
                      go_wp2_with fail
                      exact ⟨⟨m + 1, by omega, by go_num, HV2, hBz.trans (hb5.mono hBz.size)⟩, by simp [intOf]; omega⟩
                  · obtain rfl : m = n := by omega
                    have HG2 := Lib.hid (show ∀ (k : Nat) s, k < j + 1 → tabs[k]? = some s → badTab m s = false from fun k s hk hs => by
                      rcases lt_succ_case hk with h | rfl
                      · exact HG.out k s h hs
                      · rw [Option.some.inj (hs.symm.trans HTJ.out)]
                        unfold badTab
                        rw [all_trueI t vld (fun i x hx => HV.out i x (by rw [← HL.out]; exact (List.getElem?_eq_some_iff.1 hx).1) hx), HL.out]
                        simp)
                    go_wp2_with fail
                    exact ⟨⟨j + 1, by omega, by go_num, HG2, hBr.trans (hBz.mono hBr.size)⟩, by simp [intOf]; omega⟩
              · have hne : ((t.length : Int) != (n : Int)) = true := by simp; omega
                have HR0 := Lib.hid (show R = false by rw [HQ.out, any_trueI tabs (badTab n) j t HTJ.out (by unfold badTab; simp [hl])]; rfl)
                clear hl
                go_wp2_with fail
                go_ret
                exact ⟨by rw [HR0.out]; rfl, hBw⟩
            · obtain rfl : j = N := by omega
              have HP := Lib.hid (show R = !ps.any (badTrm j) by
                rw [HQ.out, any_falseI tabs (badTab n) (fun k x hx => HG.out k x (by rw [HN.out]; exact (List.getElem?_eq_some_iff.1 hx).1) hx)]; rfl)
              obtain ⟨X, hX⟩ : ∃ X, X = wr := ⟨_, rfl⟩
              subst hX
              clear HQ HG b1 hB hBr
              go_wp2_with fail
              clear e1
              go_loopw [6] (fun i wr => ∃ m : Nat, m ≤ ps.length ∧ i = .int .i64 m ∧ Hid (∀ (k : Nat) p, k < m → ps[k]? = some p → badTrm j p = false) ∧ Below X.heap.size X wr) (fun i _ => ps.length - (intOf i).toNat)
              case atStart => exact ⟨0, Nat.zero_le _, rfl, Lib.hid fun k t hk => absurd hk (by omega), Below.refl _ _⟩
              case round =>
                obtain ⟨m, hm, rfl, HV, hBz⟩ := hrel
                have b1z := b1r.keep hBz
                have e1 := b1z.cell
                have hwz := hBw.trans (hBz.mono hBw.size)
                by_cases hltm : m < ps.length
                · obtain ⟨g2, o2, cp2, hv, l2, qx⟩ := rtrms_cells HPp.out (by omega)
                  cases hv
                  obtain ⟨p, hp⟩ : ∃ x, ps[m]? = some x := ⟨_, List.getElem?_eq_getElem hltm⟩
                  obtain ⟨At, ct, r1, r2, r3, hI⟩ := qx m p hp
                  have HPm := Lib.hid hp
                  have HI := Lib.hid hI
                  have htl := hI.1.2.1
                  have e2 := (hwz.cell (p := ⟨g2, o2 + m * 3, none⟩) l2).trans r1
                  have e3 := (hwz.cell (p := ⟨g2, o2 + m * 3 + 1, none⟩) l2).trans r2
                  have e4 := (hwz.cell (p := ⟨g2, o2 + m * 3 + 2, none⟩) l2).trans r3
                  have HBt := Lib.hid (fun hb => show R = false by rw [HP.out, any_trueI ps (badTrm j) m p HPm.out hb]; rfl)
                  clear qx hp r1 r2 r3 hI
                  obtain ⟨⟨p1, p2⟩, pt⟩ := p
                  simp only at *
                  go_upto_region 20 with (fail)
                  refine wp_stk1 fun Y hY hzY b7 => ?_
                  have hYs : Y.heap.size = wr.heap.size + 1 := hzY.out
                  have hwY := hwz.trans (hY.mono hwz.size)
                  have hzY2 := hBz.trans (hY.mono hBz.size)
                  have b1Y := b1z.keep hY
                  clear e1 e2 e3 e4 hzY b1z hwz
                  have e1 := b7.cell
                  go_wp2_with fail
                  refine (xValid (p1, p2) _).mono ?_
                  rintro e w5 ⟨rfl, hb5⟩
                  have hw5 := hwY.trans (hb5.mono hwY.size)
                  have hz5 := hzY2.trans (hb5.mono hzY2.size)
                  have b15 := b1Y.keep hb5
                  have b75 := b7.keep hb5
                  clear e1
                  have e1 := b75.cell
                  cases hv : vld (p1, p2)
                  · have HR0 := Lib.hid (HBt.out (by unfold badTrm; rw [hv]; rfl))
                    clear hv
                    go_wp2_with fail
                    go_ret
                    exact ⟨by rw [HR0.out]; rfl, hw5⟩
                  · have HVL := Lib.hid hv
                    clear hv
                    by_cases hp1 : pt.length < 1
                    · have HR0 := Lib.hid (HBt.out (by unfold badTrm; simp [hp1]))
                      go_wp2_with fail
                      go_ret
                      exact ⟨by rw [HR0.out]; rfl, hw5⟩
                    · by_cases hp3 : 3 < pt.length
                      · have HR0 := Lib.hid (HBt.out (by unfold badTrm; simp [hp3]))
                        go_wp2_with fail
                        go_ret
                        exact ⟨by rw [HR0.out]; rfl, hw5⟩
                      · obtain ⟨Z, hZ⟩ : ∃ Z, Z = w5 := ⟨_, rfl⟩
                        subst hZ
                        go_wp2_with fail
                        clear e1
                        go_loopw [8] (fun i wr => ∃ k : Nat, k ≤ pt.length ∧ i = .int .i64 k ∧ Hid (∀ (i : Nat) z, i < k → pt[i]? = some z → badIx j z = false) ∧ Below Z.heap.size Z wr) (fun i _ => pt.length - (intOf i).toNat)
                        case atStart => exact ⟨0, Nat.zero_le _, rfl, Lib.hid fun k t hk => absurd hk (by omega), Below.refl _ _⟩
                        case round =>
                          obtain ⟨k, hk, rfl, HI2, hBq⟩ := hrel
                          have b1q := b15.keep hBq
                          have b7q := b75.keep hBq
                          have hwq := hw5.trans (hBq.mono hw5.size)
                          have e1 := b7q.cell
                          by_cases hltk : k < pt.length
                          · obtain ⟨gi, oi, ci, hv, -, -, -, li, qi⟩ := Rd.form HI.out.1 (by omega)
                            cases hv
                            obtain ⟨z0, hz0⟩ : ∃ z, pt[k]? = some z := ⟨_, List.getElem?_eq_getElem hltk⟩
                            have r1 := qi (k * 1) _ (by simpa using flat_get zc_len pt k 0 z0 _ hz0 rfl)
                            rw [Nat.mul_one] at r1
                            have hzn := HI.out.2 z0 (List.mem_of_getElem? hz0)
                            unfold Num at hzn
                            obtain ⟨hzn1, hzn2⟩ := hzn
                            have HZ0 := Lib.hid hz0
                            have f1 := gw_blk b7q
                            have f2 := gw_blk b1q
                            have f3 := gw_cell (W := wr) (Nat.lt_of_lt_of_le li hwq.size) ((hwq.cell (p := ⟨gi, oi + k, none⟩) li).trans r1)
                            clear qi r1 hz0
                            have HBi := Lib.hid (fun hb => HBt.out (by unfold badTrm; rw [any_trueI pt (badIx j) k z0 HZ0.out hb]; simp))
                            go_wp2_with fail
                            by_cases hlo : z0 < 0
                            · have HR0 := Lib.hid (HBi.out (by unfold badIx; simp [hlo]))
                              refine wp_region_rg 17 [] (by kernel_rfl) (by kernel_rfl) (by kernel_rfl) trivial ?_
                              refine rg_det rfl rfl rfl (fun K hK => ?_)
                              go_big_quiet_op
                              refine hK _ ?_; clear hK K
                              refine rg_det rfl rfl rfl (fun K hK => ?_)
                              go_big_quiet_op
                              refine hK _ ?_; clear hK K
                              refine rg_det rfl rfl rfl (fun K hK => ?_)
                              go_big_quiet_op
                              refine hK _ ?_; clear hK K
                              refine rg_det rfl rfl rfl (fun K hK => ?_)
                              go_big_quiet_op
                              refine hK _ ?_; clear hK K
                              refine rg_det rfl rfl rfl (fun K hK => ?_)
                              go_big_quiet_op
                              refine hK _ ?_; clear hK K
                              refine rg_det rfl rfl rfl (fun K hK => ?_)
                              go_big_quiet_op
                              refine hK _ ?_; clear hK K
                              refine rg_det rfl rfl rfl (fun K hK => ?_)
                              go_big_quiet_op
                              refine hK _ ?_; clear hK K
                              refine rg_skip (by kernel_rfl) ?_
                              intro a' ha
                              simp only [Act.put, List.setIfInBounds_toArray, List.set_cons_succ, List.set_cons_zero] at ha
                              subst ha
                              refine rg_skip (by kernel_rfl) ?_
                              intro a' ha
                              simp only [Act.put, List.setIfInBounds_toArray, List.set_cons_succ, List.set_cons_zero] at ha
                              subst ha
                              refine rg_skip (by kernel_rfl) ?_
                              intro a' ha
                              simp only [Act.put, List.setIfInBounds_toArray, List.set_cons_succ, List.set_cons_zero] at ha
                              subst ha
                              refine rg_skip (by kernel_rfl) ?_
                              intro a' ha
                              simp only [Act.put, List.setIfInBounds_toArray, List.set_cons_succ, List.set_cons_zero] at ha
                              subst ha
                              refine rg_skip (by kernel_rfl) ?_
                              intro a' ha
                              simp only [Act.put, List.setIfInBounds_toArray, List.set_cons_succ, List.set_cons_zero] at ha
                              subst ha
                              refine rg_skip (by kernel_rfl) ?_
                              intro a' ha
                              simp only [Act.put, List.setIfInBounds_toArray, List.set_cons_succ, List.set_cons_zero] at ha
                              subst ha
                              refine rg_skip (by kernel_rfl) ?_
                              intro a' ha
                              simp only [Act.put, List.setIfInBounds_toArray, List.set_cons_succ, List.set_cons_zero] at ha
                              subst ha
                              refine rg_skip (by kernel_rfl) ?_
                              intro a' ha
                              simp only [Act.put, List.setIfInBounds_toArray, List.set_cons_succ, List.set_cons_zero] at ha
                              subst ha
                              refine rg_skip (by kernel_rfl) ?_
                              intro a' ha
                              simp only [Act.put, List.setIfInBounds_toArray, List.set_cons_succ, List.set_cons_zero] at ha
                              subst ha
                              refine rg_det rfl rfl rfl (fun K hK => ?_)
                              go_big_quiet_op
                              refine hK _ ?_; clear hK K
                              refine rg_nil (fun w' hw' hF => ?_)
                              obtain ⟨z8, rfl⟩ := hw'
                              simp only [List.drop_succ_cons, List.drop_zero]
                              clear hF f1 f2 f3
                              go_wp2_with fail
                              go_ret
                              exact ⟨by rw [HR0.out]; rfl, hwq.trans (z8.h.mono hwq.size)⟩
                            · by_cases hhi : (j : Int) ≤ z0
                              · have HR0 := Lib.hid (HBi.out (by unfold badIx; simp [hhi]))
                                refine wp_region_rg 17 [] (by kernel_rfl) (by kernel_rfl) (by kernel_rfl) trivial ?_
                                refine rg_det rfl rfl rfl (fun K hK => ?_)
                                go_big_quiet_op
                                refine hK _ ?_; clear hK K
                                refine rg_det rfl rfl rfl (fun K hK => ?_)
                                go_big_quiet_op
                                refine hK _ ?_; clear hK K
                                refine rg_det rfl rfl rfl (fun K hK => ?_)
                                go_big_quiet_op
                                refine hK _ ?_; clear hK K
                                refine rg_det rfl rfl rfl (fun K hK => ?_)
                                go_big_quiet_op
                                refine hK _ ?_; clear hK K
                                refine rg_det rfl rfl rfl (fun K hK => ?_)
                                go_big_quiet_op
                                refine hK _ ?_; clear hK K
                                refine rg_det rfl rfl rfl (fun K hK => ?_)
                                go_big_quiet_op
                                refine hK _ ?_; clear hK K
                                refine rg_det rfl rfl rfl (fun K hK => ?_)
                                go_big_quiet_op
                                refine hK _ ?_; clear hK K
                                refine rg_det rfl rfl rfl (fun K hK => ?_)
                                go_big_quiet_op
                                refine hK _ ?_; clear hK K
                                refine rg_det rfl rfl rfl (fun K hK => ?_)
                                go_big_quiet_op
                                refine hK _ ?_; clear hK K
                                refine rg_det rfl rfl rfl (fun K hK => ?_)
                                go_big_quiet_op
                                refine hK _ ?_; clear hK K
                                refine rg_det rfl rfl rfl (fun K hK => ?_)
                                go_big_quiet_op
                                refine hK _ ?_; clear hK K
                                refine rg_det rfl rfl rfl (fun K hK => ?_)
                                go_big_quiet_op
                                refine hK _ ?_; clear hK K
                                refine rg_det rfl rfl rfl (fun K hK => ?_)
                                go_big_quiet_op
                                refine hK _ ?_; clear hK K
                                refine rg_det rfl rfl rfl (fun K hK => ?_)
                                go_big_quiet_op
                                refine hK _ ?_; clear hK K
                                refine rg_det rfl rfl rfl (fun K hK => ?_)
                                go_big_quiet_op
                                refine hK _ ?_; clear hK K
                                refine rg_det rfl rfl rfl (fun K hK => ?_)
                                go_big_quiet_op
                                refine hK _ ?_; clear hK K
                                refine rg_det rfl rfl rfl (fun K hK => ?_)
                                go_big_quiet_op
                                refine hK _ ?_; clear hK K
                                refine rg_nil (fun w' hw' hF => ?_)
                                obtain ⟨z8, rfl⟩ := hw'
                                simp only [List.drop_succ_cons, List.drop_zero]
                                clear hF f1 f2 f3
                                go_wp2_with fail
                                go_ret
                                exact ⟨by rw [HR0.out]; rfl, hwq.trans (z8.h.mono hwq.size)⟩
                              · have HI3 := Lib.hid (show ∀ (i : Nat) z, i < k + 1 → pt[i]? = some z → badIx j z = false from fun i z hi hz => by
                                  rcases lt_succ_case hi with h | rfl
                                  · exact HI2.out i z h hz
                                  · rw [Option.some.inj (hz.symm.trans HZ0.out)]
                                    unfold badIx
                                    simp only [hlo, hhi, decide_false, Bool.or_self])
                                refine wp_region_rg 17 [] (by kernel_rfl) (by kernel_rfl) (by kernel_rfl) trivial ?_
                                refine rg_det rfl rfl rfl (fun K hK => ?_)
                                go_big_quiet_op
                                refine hK _ ?_; clear hK K
                                refine rg_det rfl rfl rfl (fun K hK => ?_)
                                go_big_quiet_op
                                refine hK _ ?_; clear hK K
                                refine rg_det rfl rfl rfl (fun K hK => ?_)
                                go_big_quiet_op
                                refine hK _ ?_; clear hK K
                                refine rg_det rfl rfl rfl (fun K hK => ?_)
                                go_big_quiet_op
                                refine hK _ ?_; clear hK K
                                refine rg_det rfl rfl rfl (fun K hK => ?_)
                                go_big_quiet_op
                                refine hK _ ?_; clear hK K
                                refine rg_det rfl rfl rfl (fun K hK => ?_)
                                go_big_quiet_op
                                refine hK _ ?_; clear hK K
                                refine rg_det rfl rfl rfl (fun K hK => ?_)
                                go_big_quiet_op
                                refine hK _ ?_; clear hK K
                                refine rg_det rfl rfl rfl (fun K hK => ?_)
                                go_big_quiet_op
                                refine hK _ ?_; clear hK K
                                refine rg_det rfl rfl rfl (fun K hK => ?_)
                                go_big_quiet_op
                                refine hK _ ?_; clear hK K
                                refine rg_det rfl rfl rfl (fun K hK => ?_)
                                go_big_quiet_op
                                refine hK _ ?_; clear hK K
                                refine rg_det rfl rfl rfl (fun K hK => ?_)
                                go_big_quiet_op
                                refine hK _ ?_; clear hK K
                                refine rg_det rfl rfl rfl (fun K hK => ?_)
                                go_big_quiet_op
                                refine hK _ ?_; clear hK K
                                refine rg_det rfl rfl rfl (fun K hK => ?_)
                                go_big_quiet_op
                                refine hK _ ?_; clear hK K
                                refine rg_det rfl rfl rfl (fun K hK => ?_)
                                go_big_quiet_op
                                refine hK _ ?_; clear hK K
                                refine rg_det rfl rfl rfl (fun K hK => ?_)
                                go_big_quiet_op
                                refine hK _ ?_; clear hK K
                                refine rg_det rfl rfl rfl (fun K hK => ?_)
                                go_big_quiet_op
                                refine hK _ ?_; clear hK K
                                refine rg_det rfl rfl rfl (fun K hK => ?_)
                                go_big_quiet_op
                                refine hK _ ?_; clear hK K
                                refine rg_nil (fun w' hw' hF => ?_)
                                obtain ⟨z8, rfl⟩ := hw'
                                simp only [List.drop_succ_cons, List.drop_zero]
                                clear hF f1 f2 f3
                                go_wp2_with fail
                                exact ⟨⟨k + 1, by omega, by go_num, HI3, hBq.trans (z8.h.mono hBq.size)⟩, by simp [intOf]; omega⟩
                          · obtain rfl : k = pt.length := by omega
                            have HV2 := Lib.hid (show ∀ (k : Nat) p, k < m + 1 → ps[k]? = some p → badTrm j p = false from fun k p hk hp => by
                              rcases lt_succ_case hk with h | rfl
                              · exact HV.out k p h hp
                              · rw [Option.some.inj (hp.symm.trans HPm.out)]
                                unfold badTrm
                                rw [any_falseI pt (badIx j) fun i z hz => HI2.out i z (List.getElem?_eq_some_iff.1 hz).1 hz, HVL.out]
                                simp only [hp1, hp3, decide_false, Bool.or_self, Bool.not_true])
                            go_wp2_with fail
                            exact ⟨⟨m + 1, by omega, by go_num, HV2, hz5.trans (hBq.mono hz5.size)⟩, by simp [intOf]; omega⟩
                · obtain rfl : m = ps.length := by omega
                  have HR1 := Lib.hid (show R = true by
                    rw [HP.out, any_falseI ps (badTrm j) fun k p hp => HV.out k p (List.getElem?_eq_some_iff.1 hp).1 hp]; rfl)
                  go_wp2_with fail
                  go_ret
                  exact ⟨by rw [HR1.out]; rfl, hwz⟩
        · have hq0 : ((bits .and .i64 (n : Int) ((n : Int) - 1)) != 0) = true := by rw [hq]; simpa using h3
          have HQ := Lib.hid (show R = false by rw [HVB.out]; unfold validN; simp [h3])
          clear HVB hq h3
          go_wp2_with fail
          go_ret
          exact ⟨by rw [HQ.out]; rfl, hB⟩
      · have HQ := Lib.hid (show R = false by rw [HVB.out]; unfold validN; simp [h2])
        clear HVB
        go_wp2_with fail
        go_ret
        exact ⟨by rw [HQ.out]; rfl, hB⟩
    · have HQ := Lib.hid (show R = false by rw [HVB.out]; unfold validN; simp [h1])
      clear HVB
      go_wp2_with fail
      go_ret
      exact ⟨by rw [HQ.out]; rfl, hB⟩
end Go.Proofs.Ytilelegcniefcaa
