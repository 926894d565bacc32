/-
  The reference's Valid and SameRounds, and the law's own small, by contract.
-/
import Derived.Test.YtilelegcniefcaaRr6
import Derived.Test.YtilelegcniefcaaVa
namespace Go.Proofs.Ytilelegcniefcaa
open Go.RowKit

set_option maxRecDepth 100000 in
set_option maxHeartbeats 2000000 in
theorem rSameR (gs : List (List E)) (v1 v2 : Value) (lo hi lo2 hi2 : Nat) (w : World) (h1 : TabS lo hi w v1 gs) (h2 : TabS lo2 hi2 w v2 gs) :
    Calls Try.prog 18 #[v1, v2] w (Ret (.bool true) w) := by
  obtain ⟨A1, c1, rfl⟩ := h1.len
  obtain ⟨A2, c2, rfl⟩ := h2.len
  have hsm := h1.small
  have H1 := Lib.hid h1
  have H2 := Lib.hid h2
  have hne : ((gs.length : Int) != (gs.length : Int)) = false := by simp
  clear h1 h2
  go_enter Try.func18, Try.ntmps18
  go_wp2_with fail
  go_loopw [5] (fun i wr => ∃ j : Nat, j ≤ gs.length ∧ i = .int .i64 j ∧ Below w.heap.size w wr) (fun i _ => gs.length - (intOf i).toNat)
  case atStart => exact ⟨0, Nat.zero_le _, rfl, Below.refl _ _⟩
  case round =>
    obtain ⟨j, hj, rfl, hB⟩ := hrel
    by_cases hlt : j < gs.length
    · obtain ⟨g1, o1, k1, hv, -, -, -, l1, q1⟩ := tabs_cells H1.out (by omega)
      cases hv
      obtain ⟨g2, o2, k2, hv, -, -, -, l2, q2⟩ := tabs_cells H2.out (by omega)
      cases hv
      obtain ⟨g, hg⟩ : ∃ g, gs[j]? = some g := ⟨_, List.getElem?_eq_getElem hlt⟩
      obtain ⟨B1, d1, r1, E1⟩ := q1 j g hg
      obtain ⟨B2, d2, r2, E2⟩ := q2 j g hg
      have f1 := gw_cell (W := wr) (Nat.lt_of_lt_of_le l1 hB.size) ((hB.cell (p := ⟨g1, o1 + j, none⟩) l1).trans r1)
      have f2 := gw_cell (W := wr) (Nat.lt_of_lt_of_le l2 hB.size) ((hB.cell (p := ⟨g2, o2 + j, none⟩) l2).trans r2)
      have HS := Lib.hid (show ∀ W1, Below wr.heap.size wr W1 → Calls Try.prog 19 #[.slice B1 g.length d1, .slice B2 g.length d2] W1 (Ret (.bool true) W1) from fun W1 hW => xSame3 g _ _ _ _ _ _ W1 (Rd.keep (Rd.keep E1 hB) hW) (Rd.keep (Rd.keep E2 hB) hW))
      clear q1 q2 hg r1 r2 E1 E2
      go_wp2_with fail
      refine wp_region_rg 10 [(8, Spec.val (.bool true))] (by kernel_rfl) (by kernel_rfl) (by kernel_rfl) trivial ?_
      refine rg_det rfl rfl rfl (fun K hK => ?_)
      go_big_quiet_op
      refine hK _ ?_; clear hK K
      refine rg_det rfl rfl rfl (fun K hK => ?_)
      go_big_quiet_op
      refine hK _ ?_; clear hK K
      refine rg_det rfl rfl rfl (fun K hK => ?_)
      go_big_quiet_op
      refine hK _ ?_; clear hK K
      refine rg_det rfl rfl rfl (fun K hK => ?_)
      go_big_quiet_op
      refine hK _ ?_; clear hK K
      refine rg_det rfl rfl rfl (fun K hK => ?_)
      go_big_quiet_op
      refine hK _ ?_; clear hK K
      refine rg_det rfl rfl rfl (fun K hK => ?_)
      go_big_quiet_op
      refine hK _ ?_; clear hK K
      refine rg_det rfl rfl rfl (fun K hK => ?_)
      go_big_quiet_op
      refine hK _ ?_; clear hK K
      refine rg_det rfl rfl rfl (fun K hK => ?_)
      go_big_quiet_op
      refine hK _ ?_; clear hK K
      refine rg_val rfl rfl (fun W1 hW1 hF => step_callv en_attestor_attestorref03_Same (HS.out W1 (grw_below hW1)) rfl rfl) ?_
      intro a' ha
      simp only [Act.put, List.setIfInBounds_toArray, List.set_cons_succ, List.set_cons_zero] at ha
      subst ha
      refine rg_det rfl rfl rfl (fun K hK => ?_)
      go_big_quiet_op
      refine hK _ ?_; clear hK K
      refine rg_nil (fun w' hw' hF => ?_)
      obtain ⟨z, rfl⟩ := hw'
      simp only [List.drop_succ_cons, List.drop_zero]
      clear hF f1 f2
      go_wp2_with fail
      exact ⟨⟨j + 1, by omega, by go_num, hB.trans (z.h.mono hB.size)⟩, by simp [intOf]; omega⟩
    · obtain rfl : j = gs.length := by omega
      go_wp2_with fail
      go_ret
      exact ⟨rfl, hB⟩
theorem all_trueI {α : Type} (xs : List α) (f : α → Bool) (h : ∀ (k : Nat) x, xs[k]? = some x → f x = true) : xs.all f = true := by
  rw [List.all_eq_true]
  intro x hx
  obtain ⟨k, hk⟩ := List.mem_iff_getElem?.1 hx
  exact h k x hk
theorem all_falseI {α : Type} (xs : List α) (f : α → Bool) (k : Nat) (x : α) (hk : xs[k]? = some x) (h : f x = false) : xs.all f = false := by
  rw [List.all_eq_false]
  exact ⟨x, List.mem_of_getElem? hk, by rw [h]; decide⟩
def smallB (tabs : List (List Raw)) (ps : List RTrm) : Bool := decide (tabs.length ≤ 6) && decide (ps.length ≤ 8) && tabs.all (fun t => decide (t.length ≤ 40)) && ps.all (fun p => decide (p.t.length ≤ 8))
set_option maxRecDepth 100000 in
set_option maxHeartbeats 2000000 in
theorem lSmall (tabs : List (List Raw)) (ps : List RTrm) (vt vp : Value) (lo hi : Nat) (w : World) (ht : RTabS lo hi w vt tabs) (hp : RTrmS lo hi w vp ps) :
    Calls Try.prog 10 #[.agg #[vt, vp]] w (Ret (.bool (smallB tabs ps)) w) := by
  obtain ⟨A, cap, rfl⟩ := ht.len
  obtain ⟨AP, capP, rfl⟩ := hp.len
  have hs1 := ht.small
  have hs2 := hp.small
  have HT := Lib.hid ht
  have HP := Lib.hid hp
  obtain ⟨R, hR⟩ : ∃ R, R = smallB tabs ps := ⟨_, rfl⟩
  rw [← hR]
  have HR := Lib.hid hR
  clear ht hp hR
  go_enter Try.func10, Try.ntmps10
  go_upto_region 1 with (fail)
  refine wp_stk1 fun W hB hz b1 => ?_
  have e1 := b1.cell
  clear hz
  by_cases h6 : tabs.length ≤ 6
  · by_cases h8 : ps.length ≤ 8
    · go_wp2_with fail
      go_loopw [3] (fun i wr => ∃ j : Nat, j ≤ tabs.length ∧ i = .int .i64 j ∧ Hid (∀ (k : Nat) t, k < j → tabs[k]? = some t → t.length ≤ 40) ∧ Below W.heap.size W wr) (fun i _ => tabs.length - (intOf i).toNat)
      case atStart => exact ⟨0, Nat.zero_le _, rfl, Lib.hid fun k t hk => absurd hk (by omega), Below.refl _ _⟩
      case round =>
        obtain ⟨j, hj, rfl, HG, hBr⟩ := hrel
        have hBw := hB.trans (hBr.mono hB.size)
        have e1 := (b1.keep hBr).cell
        by_cases hlt : j < tabs.length
        · obtain ⟨g, off, cap', hv, l1, q1⟩ := rtabs_cells HT.out (by omega)
          cases hv
          obtain ⟨t, ht⟩ : ∃ t, tabs[j]? = some t := ⟨_, List.getElem?_eq_getElem hlt⟩
          obtain ⟨A2, c2, d1, hE⟩ := q1 j t ht
          have hl := hE.1.2.1
          have e2 := (hBw.cell (p := ⟨g, off + j, none⟩) l1).trans d1
          have HTJ := Lib.hid ht
          clear q1 ht d1 hE
          by_cases h40 : t.length ≤ 40
          · have HG2 := Lib.hid (show ∀ (k : Nat) s, k < j + 1 → tabs[k]? = some s → s.length ≤ 40 from fun k s hk hs => by
              rcases Nat.lt_succ_iff_lt_or_eq.1 hk with h | rfl
              · exact HG.out k s h hs
              · rw [Option.some.inj (hs.symm.trans HTJ.out)]; exact h40)
            go_wp2_with fail
            exact ⟨⟨j + 1, by omega, by go_num, HG2, hBr⟩, by simp [intOf]; omega⟩
          · have HR0 := Lib.hid (show R = false by rw [HR.out]; unfold smallB; rw [all_falseI tabs _ j t HTJ.out (by simp [h40])]; simp)
            go_wp2_with fail
            go_ret
            exact ⟨by rw [HR0.out]; rfl, hBw⟩
        · obtain rfl : j = tabs.length := by omega
          have bX := b1.keep hBr
          have hBX := hBw
          clear b1
          obtain ⟨X, hX⟩ : ∃ X, X = wr := ⟨_, rfl⟩
          subst hX
          clear hBr hBw
          go_wp2_with fail
          go_loopw [4] (fun i wr => ∃ j : Nat, j ≤ ps.length ∧ i = .int .i64 j ∧ Hid (∀ (k : Nat) p, k < j → ps[k]? = some p → p.t.length ≤ 8) ∧ Below X.heap.size X wr) (fun i _ => ps.length - (intOf i).toNat)
          case atStart => exact ⟨0, Nat.zero_le _, rfl, Lib.hid fun k t hk => absurd hk (by omega), Below.refl _ _⟩
          case round =>
            obtain ⟨j, hj, rfl, HV, hBr⟩ := hrel
            have hBw := hBX.trans (hBr.mono hBX.size)
            have e1 := (bX.keep hBr).cell
            by_cases hlt : j < ps.length
            · obtain ⟨g, off, cap', hv, l1, q1⟩ := rtrms_cells HP.out (by omega)
              cases hv
              obtain ⟨p, hp⟩ : ∃ t, ps[j]? = some t := ⟨_, List.getElem?_eq_getElem hlt⟩
              obtain ⟨A2, c2, -, -, d1, hE⟩ := q1 j p hp
              have hl := hE.1.2.1
              have e2 := (hBw.cell (p := ⟨g, off + j * 3 + 2, none⟩) l1).trans d1
              have HPJ := Lib.hid hp
              clear q1 hp d1 hE
              by_cases h8' : p.t.length ≤ 8
              · have HV2 := Lib.hid (show ∀ (k : Nat) s, k < j + 1 → ps[k]? = some s → s.t.length ≤ 8 from fun k s hk hs => by
                  rcases Nat.lt_succ_iff_lt_or_eq.1 hk with h | rfl
                  · exact HV.out k s h hs
                  · rw [Option.some.inj (hs.symm.trans HPJ.out)]; exact h8')
                go_wp2_with fail
                exact ⟨⟨j + 1, by omega, by go_num, HV2, hBr⟩, by simp [intOf]; omega⟩
              · have HR0 := Lib.hid (show R = false by rw [HR.out]; unfold smallB; rw [all_falseI ps _ j p HPJ.out (by simp [h8'])]; simp)
                go_wp2_with fail
                go_ret
                exact ⟨by rw [HR0.out]; rfl, hBw⟩
            · obtain rfl : j = ps.length := by omega
              have HR1 := Lib.hid (show R = true by
                rw [HR.out]
                unfold smallB
                rw [all_trueI tabs _ fun k t hk => decide_eq_true (HG.out k t (List.getElem?_eq_some_iff.1 hk).1 hk), all_trueI ps _ fun k t hk => decide_eq_true (HV.out k t (List.getElem?_eq_some_iff.1 hk).1 hk)]
                simp [h6, h8])
              go_wp2_with fail
              go_ret
              exact ⟨by rw [HR1.out]; rfl, hBw⟩
    · have HR0 := Lib.hid (show R = false by rw [HR.out]; unfold smallB; simp [h8])
      go_wp2_with fail
      go_ret
      exact ⟨by rw [HR0.out]; rfl, hB⟩
  · have HR0 := Lib.hid (show R = false by rw [HR.out]; unfold smallB; simp [h6])
    go_wp2_with fail
    go_ret
    exact ⟨by rw [HR0.out]; rfl, hB⟩
end Go.Proofs.Ytilelegcniefcaa
