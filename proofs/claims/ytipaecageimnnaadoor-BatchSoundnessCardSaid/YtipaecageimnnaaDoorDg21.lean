/-
  Same over any two rows, and Degree, of the reference's polynomials, by contract.
-/
import Derived.Test.YtipaecageimnnaaDoorIp
import Derived.Test.YtipaecageimnnaaDoorP3
namespace Go.Proofs.YtipaecageimnnaaDoor
open Go.RowKit

theorem ext_casesS (x F : E) : x = F ∨ (x ≠ F ∧ fv x.a ≠ fv F.a) ∨ (x ≠ F ∧ fv x.a = fv F.a ∧ fv x.b ≠ fv F.b) := by
  by_cases ha : fv x.a = fv F.a
  · by_cases hb : fv x.b = fv F.b
    · exact .inl (E.ext_ (fv_inj ha) (fv_inj hb))
    · exact .inr (.inr ⟨fun e => hb (by rw [e]), ha, hb⟩)
  · exact .inr (.inl ⟨fun e => ha (by rw [e]), ha⟩)
theorem take_snoc_ne {xs ys : List E} {k : Nat} {x y : E} (hx : xs[k]? = some x) (hy : ys[k]? = some y) (h : x ≠ y) : xs ≠ ys := fun e => by
  subst e
  rw [hx] at hy
  exact h (Option.some.inj hy)
theorem take_snoc_eq {xs ys : List E} {k : Nat} {x : E} (hx : xs[k]? = some x) (hy : ys[k]? = some x) (h : xs.take k = ys.take k) : xs.take (k + 1) = ys.take (k + 1) := by
  rw [List.take_add_one, List.take_add_one, hx, hy, h]
set_option maxRecDepth 100000 in
set_option maxHeartbeats 2000000 in
theorem xSameG (xs ys : List E) (v1 v2 : Value) (lo1 hi1 lo2 hi2 : Nat) (w : World) (h1 : ExtS lo1 hi1 w v1 xs) (h2 : ExtS lo2 hi2 w v2 ys) :
    Calls Tryd.prog 14 #[v1, v2] w (Ret (.bool (decide (xs = ys))) w) := by
  obtain ⟨A1, cap1, rfl⟩ := h1.len
  obtain ⟨A2, cap2, rfl⟩ := h2.len
  have hlen := h1.2.1
  have hlen2 := h2.2.1
  have H1 := Lib.hid h1
  have H2 := Lib.hid h2
  clear h1 h2
  obtain ⟨n, hn⟩ : ∃ n, n = xs.length := ⟨_, rfl⟩
  obtain ⟨m, hm⟩ : ∃ m, m = ys.length := ⟨_, rfl⟩
  obtain ⟨b, hb⟩ : ∃ b, b = decide (xs = ys) := ⟨_, rfl⟩
  rw [← hn] at H1 hlen
  rw [← hm] at H2 hlen2
  rw [← hn, ← hm, ← hb]
  have Hb := Lib.hid hb
  have Hn := Lib.hid hn
  have Hm := Lib.hid hm
  clear hb hn hm
  by_cases hnm : n = m
  · subst hnm
    have hnn : (((n : Int) != (n : Int))) = false := by simp
    go_enter Tryd.func14, Tryd.ntmps14
    go_wp2
    go_loopw [5] (fun i wr => ∃ k : Nat, k ≤ n ∧ i = .int .i64 k ∧ xs.take k = ys.take k ∧ Below w.heap.size w wr) (fun i _ => n - (intOf i).toNat)
    case atStart => exact ⟨0, Nat.zero_le _, rfl, rfl, Below.refl _ _⟩
    case round =>
      obtain ⟨k, hk, rfl, htk, hB⟩ := hrel
      have HTk := Lib.hid htk
      clear htk
      by_cases hlt : k < n
      · obtain ⟨g, off, cap', hv, q1, q2, q3, q4, q5⟩ := exts_cells H1.out (by rw [← Hn.out]; omega)
        rw [← Hn.out] at hv
        cases hv
        obtain ⟨g', off', cap'', hv, r1, r2, r3, r4, r5⟩ := exts_cells H2.out (by rw [← Hm.out]; omega)
        rw [← Hm.out] at hv
        cases hv
        obtain ⟨x, hx⟩ : ∃ x, xs[k]? = some x := ⟨_, List.getElem?_eq_getElem (by rw [← Hn.out]; exact hlt)⟩
        obtain ⟨y, hy⟩ : ∃ y, ys[k]? = some y := ⟨_, List.getElem?_eq_getElem (by rw [← Hm.out]; exact hlt)⟩
        obtain ⟨d1, d2⟩ := q5 k x hx
        obtain ⟨d3, d4⟩ := r5 k y hy
        have c1 := gw_cell (W := wr) (Nat.lt_of_lt_of_le q4 hB.size) ((hB.cell (p := ⟨g, off + k * 2, none⟩) q4).trans d1)
        have c2 := gw_cell (W := wr) (Nat.lt_of_lt_of_le q4 hB.size) ((hB.cell (p := ⟨g, off + k * 2 + 1, none⟩) q4).trans d2)
        have c3 := gw_cell (W := wr) (Nat.lt_of_lt_of_le r4 hB.size) ((hB.cell (p := ⟨g', off' + k * 2, none⟩) r4).trans d3)
        have c4 := gw_cell (W := wr) (Nat.lt_of_lt_of_le r4 hB.size) ((hB.cell (p := ⟨g', off' + k * 2 + 1, none⟩) r4).trans d4)
        have HX := Lib.hid hx
        have HY := Lib.hid hy
        clear q5 r5 d1 d2 d3 d4 hx hy
        rcases ext_casesS x y with rfl | ⟨hne, hq⟩ | ⟨hne, hq1, hq⟩
        · go_wp2
          refine wp_region_rg 9 [] (by kernel_rfl) (by kernel_rfl) (by kernel_rfl) trivial ?_
          refine rg_det rfl rfl rfl (fun K hK => ?_)
          go_big_quiet_op
          refine hK _ ?_; clear hK K
          refine rg_det rfl rfl rfl (fun K hK => ?_)
          go_big_quiet_op
          refine hK _ ?_; clear hK K
          refine rg_det rfl rfl rfl (fun K hK => ?_)
          go_big_quiet_op
          refine hK _ ?_; clear hK K
          refine rg_det rfl rfl rfl (fun K hK => ?_)
          go_big_quiet_op
          refine hK _ ?_; clear hK K
          refine rg_det rfl rfl rfl (fun K hK => ?_)
          go_big_quiet_op
          refine hK _ ?_; clear hK K
          refine rg_det rfl rfl rfl (fun K hK => ?_)
          go_big_quiet_op
          refine hK _ ?_; clear hK K
          refine rg_det rfl rfl rfl (fun K hK => ?_)
          go_big_quiet_op
          refine hK _ ?_; clear hK K
          refine rg_det rfl rfl rfl (fun K hK => ?_)
          go_big_quiet_op
          refine hK _ ?_; clear hK K
          refine rg_det rfl rfl rfl (fun K hK => ?_)
          go_big_quiet_op
          refine hK _ ?_; clear hK K
          refine rg_nil (fun w' hw' hF => ?_)
          obtain ⟨z, rfl⟩ := hw'
          simp only [List.drop_succ_cons, List.drop_zero]
          go_wp2
          exact ⟨⟨k + 1, by omega, by go_num, take_snoc_eq HX.out HY.out HTk.out, hB.trans (z.h.mono hB.size)⟩, by simp [intOf]; omega⟩
        · have hb : b = false := by rw [Hb.out]; exact decide_eq_false (take_snoc_ne HX.out HY.out hne)
          clear hne
          subst hb
          go_wp2
          refine wp_region_rg 9 [] (by kernel_rfl) (by kernel_rfl) (by kernel_rfl) trivial ?_
          refine rg_det rfl rfl rfl (fun K hK => ?_)
          go_big_quiet_op
          refine hK _ ?_; clear hK K
          refine rg_det rfl rfl rfl (fun K hK => ?_)
          go_big_quiet_op
          refine hK _ ?_; clear hK K
          refine rg_det rfl rfl rfl (fun K hK => ?_)
          go_big_quiet_op
          refine hK _ ?_; clear hK K
          refine rg_det rfl rfl rfl (fun K hK => ?_)
          go_big_quiet_op
          refine hK _ ?_; clear hK K
          refine rg_det rfl rfl rfl (fun K hK => ?_)
          go_big_quiet_op
          refine hK _ ?_; clear hK K
          refine rg_det rfl rfl rfl (fun K hK => ?_)
          go_big_quiet_op
          refine hK _ ?_; clear hK K
          refine rg_det rfl rfl rfl (fun K hK => ?_)
          go_big_quiet_op
          refine hK _ ?_; clear hK K
          refine rg_det rfl rfl rfl (fun K hK => ?_)
          go_big_quiet_op
          refine hK _ ?_; clear hK K
          refine rg_det rfl rfl rfl (fun K hK => ?_)
          go_big_quiet_op
          refine hK _ ?_; clear hK K
          refine rg_nil (fun w' hw' hF => ?_)
          obtain ⟨z, rfl⟩ := hw'
          simp only [List.drop_succ_cons, List.drop_zero]
          go_wp2
          go_ret
          exact ⟨rfl, hB.trans (z.h.mono hB.size)⟩
        · have hb : b = false := by rw [Hb.out]; exact decide_eq_false (take_snoc_ne HX.out HY.out hne)
          clear hne
          subst hb
          go_wp2
          refine wp_region_rg 9 [] (by kernel_rfl) (by kernel_rfl) (by kernel_rfl) trivial ?_
          refine rg_det rfl rfl rfl (fun K hK => ?_)
          go_big_quiet_op
          refine hK _ ?_; clear hK K
          refine rg_det rfl rfl rfl (fun K hK => ?_)
          go_big_quiet_op
          refine hK _ ?_; clear hK K
          refine rg_det rfl rfl rfl (fun K hK => ?_)
          go_big_quiet_op
          refine hK _ ?_; clear hK K
          refine rg_det rfl rfl rfl (fun K hK => ?_)
          go_big_quiet_op
          refine hK _ ?_; clear hK K
          refine rg_det rfl rfl rfl (fun K hK => ?_)
          go_big_quiet_op
          refine hK _ ?_; clear hK K
          refine rg_det rfl rfl rfl (fun K hK => ?_)
          go_big_quiet_op
          refine hK _ ?_; clear hK K
          refine rg_det rfl rfl rfl (fun K hK => ?_)
          go_big_quiet_op
          refine hK _ ?_; clear hK K
          refine rg_det rfl rfl rfl (fun K hK => ?_)
          go_big_quiet_op
          refine hK _ ?_; clear hK K
          refine rg_det rfl rfl rfl (fun K hK => ?_)
          go_big_quiet_op
          refine hK _ ?_; clear hK K
          refine rg_nil (fun w' hw' hF => ?_)
          obtain ⟨z, rfl⟩ := hw'
          simp only [List.drop_succ_cons, List.drop_zero]
          go_wp2
          go_ret
          exact ⟨rfl, hB.trans (z.h.mono hB.size)⟩
      · obtain rfl : k = n := by omega
        have hb : b = true := by
          have := HTk.out
          rw [List.take_of_length_le (by rw [← Hn.out]; exact Nat.le_refl _), List.take_of_length_le (by rw [← Hm.out]; exact Nat.le_refl _)] at this
          rw [Hb.out]
          exact decide_eq_true this
        subst hb
        go_wp2
        go_ret
        exact ⟨rfl, hB⟩
  · have hnn : (((n : Int) != (m : Int))) = true := by rw [bne_iff_ne]; omega
    have hb : b = false := by
      rw [Hb.out]
      refine decide_eq_false fun e => hnm ?_
      rw [Hn.out, Hm.out, e]
    subst hb
    clear hnm
    go_enter Tryd.func14, Tryd.ntmps14
    go_wp2
    go_ret
    exact ⟨rfl, Below.refl _ _⟩
theorem en_attestor_attestorref03_Degree : ∀ args w, (callFunc 17 args).run Tryd.prog w = .ok (.enter 17 args) w := enters_of Tryd.func17 (by kernel_rfl) rfl
set_option maxRecDepth 100000 in
set_option maxHeartbeats 1000000 in
theorem pDegree (xs : List E) (hn : xs.length ≤ 100000) (v : Value) (lo hi : Nat) (w : World) (h : ExtS lo hi w v xs) :
    Calls Tryd.prog 17 #[v] w fun e w' => ∃ d : Int, e = .returned (.int .i64 d) ∧ Below w.heap.size w w' := by
  have HT := Lib.hid (pTrim xs hn v lo hi w h)
  obtain ⟨A, cap, rfl⟩ := Rd.len h
  clear h
  go_enter Tryd.func17, Tryd.ntmps17
  go_wp2_with fail
  refine HT.out.mono ?_
  rintro e w1 ⟨v1, rfl, ⟨cs, hl, -, hc⟩, hb⟩
  obtain ⟨A1, c1, rfl⟩ := Rd.len hc
  go_wp2_with fail
  go_ret
  exact ⟨_, rfl, hb⟩
end Go.Proofs.YtipaecageimnnaaDoor
