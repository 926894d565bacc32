/-
  The reference's Verify of the sum-check, by contract.
-/
import Derived.Test.YtnddfeidggcplaaGreatIp
import Derived.Test.YtnddfeidggcplaaGreatCpm
namespace Go.Proofs.YtnddfeidggcplaaGreat
open Go.RowKit

theorem ext_cases (x F : E) : x = F ∨ fv x.a ≠ fv F.a ∨ (fv x.a = fv F.a ∧ fv x.b ≠ fv F.b) := by
  by_cases ha : fv x.a = fv F.a
  · by_cases hb : fv x.b = fv F.b
    · exact .inl (E.ext_ (fv_inj ha) (fv_inj hb))
    · exact .inr (.inr ⟨ha, hb⟩)
  · exact .inr (.inl ha)
theorem lastS_ok (v y : E) (xs : List (E × Int)) : lastS v ((y, 0) :: xs) = lastS y xs := rfl
theorem lastS_bad (v : E) (x : E × Int) : lastS v [x] = x := rfl
theorem vrf_zero (d : Int) (v : E) (gs : List (List E)) (cs : List E) : (vrfE d v gs cs).2 = 0 ∨ (vrfE d v gs cs).1 = 0 := by
  unfold vrfE
  by_cases h : d < 1 ∨ 3 < d ∨ gs.length ≠ cs.length
  · rw [if_pos h]; exact .inr rfl
  · rw [if_neg h]
    have key : ∀ (gs : List (List E)) (cs : List E) (v : E), (lastS v (stepsL d.toNat v gs cs)).2 = 0 ∨ (lastS v (stepsL d.toNat v gs cs)).1 = 0 := by
      intro gs
      induction gs with
      | nil => intro cs v; exact .inl rfl
      | cons g gs ih =>
        intro cs v
        cases cs with
        | nil => exact .inl rfl
        | cons c cs =>
          rw [stepsL]
          split
          · exact .inr rfl
          · split
            · exact .inr rfl
            · rw [lastS_ok]; exact ih cs _
    exact key gs cs v
theorem gw_next {W : World} {b i : Nat} {v : Value} (h : ∀ z : GW W, z.w.cell? ⟨b, i, none⟩ = some v) (z : GW W) (y : GW z.w) : y.w.cell? ⟨b, i, none⟩ = some v := h ⟨y.w, z.h.trans (y.h.mono z.h.size)⟩
theorem gw_nextB {W : World} {b : Nat} {cs : Array Value} (h : ∀ (z : GW W) (i : Nat), z.w.cell? ⟨b, i, none⟩ = cs[i]?) (z : GW W) (y : GW z.w) (i : Nat) : y.w.cell? ⟨b, i, none⟩ = cs[i]? := h ⟨y.w, z.h.trans (y.h.mono z.h.size)⟩ i
set_option maxRecDepth 100000 in
set_option maxHeartbeats 2000000 in
theorem rVerifyArg (v : E) (gs : List (List E)) (cs : List E) (d : Int) (hd : -9223372036854775808 ≤ d ∧ d < 9223372036854775808) (hbad : d < 1 ∨ 3 < d ∨ gs.length ≠ cs.length) (vr vc : Value) (lo hi lo2 hi2 : Nat) (w : World) (hg : TabS lo hi w vr gs) (hc : ExtS lo2 hi2 w vc cs) :
    Calls Tryz.prog 74 #[ev v, vr, .agg #[vc, .int .i64 d]] w (Ret (.tuple #[ev 0, .int .i64 1]) w) := by
  obtain ⟨A, cap, rfl⟩ := hg.len
  obtain ⟨AC, capC, rfl⟩ := Rd.len hc
  have hs1 := hg.small
  have hs2 := hc.2.1
  obtain ⟨hd1, hd2⟩ := hd
  have hv0 : (.tuple #[ev 0, .int .i64 1] : Value) = .tuple #[.agg #[.int .u64 0, .int .u64 0], .int .i64 1] := rfl
  rw [hv0]
  unfold ev
  clear hg hc hv0
  by_cases h1 : d < 1
  · skip
    go_enter Tryz.func74, Tryz.ntmps74
    go_upto_region 1 with (fail)
    refine wp_stk3 fun W hB hz b3 b5 b6 => ?_
    have e1 := b5.cell
    have e2 := b6.cell
    have e3 := b6.frozen
    clear hz
    go_wp2_with fail
    refine set2 (M := fun W => bodyPost _ _ _ _ _ W) b6 fun X2 hp bo => ?_
    have f1 := bo.cell
    refine bodyPost_ret (v := .tuple #[.agg #[.int .u64 0, .int .u64 0], .int .i64 1]) (by simp [results, Tryz.results74, go_sem, f1]) rfl ⟨rfl, ?_⟩
    exact below_put hB hp (by omega)
  · by_cases h2 : 3 < d
    · skip
      go_enter Tryz.func74, Tryz.ntmps74
      go_upto_region 1 with (fail)
      refine wp_stk3 fun W hB hz b3 b5 b6 => ?_
      have e1 := b5.cell
      have e2 := b6.cell
      have e3 := b6.frozen
      clear hz
      go_wp2_with fail
      refine set2 (M := fun W => bodyPost _ _ _ _ _ W) b6 fun X2 hp bo => ?_
      have f1 := bo.cell
      refine bodyPost_ret (v := .tuple #[.agg #[.int .u64 0, .int .u64 0], .int .i64 1]) (by simp [results, Tryz.results74, go_sem, f1]) rfl ⟨rfl, ?_⟩
      exact below_put hB hp (by omega)
    · have h3 : ((gs.length : Int) != (cs.length : Int)) = true := by simp; omega
      clear hbad
      go_enter Tryz.func74, Tryz.ntmps74
      go_upto_region 1 with (fail)
      refine wp_stk3 fun W hB hz b3 b5 b6 => ?_
      have e1 := b5.cell
      have e2 := b6.cell
      have e3 := b6.frozen
      clear hz
      go_wp2_with fail
      refine set2 (M := fun W => bodyPost _ _ _ _ _ W) b6 fun X2 hp bo => ?_
      have f1 := bo.cell
      refine bodyPost_ret (v := .tuple #[.agg #[.int .u64 0, .int .u64 0], .int .i64 1]) (by simp [results, Tryz.results74, go_sem, f1]) rfl ⟨rfl, ?_⟩
      exact below_put hB hp (by omega)
set_option maxRecDepth 100000 in
set_option maxHeartbeats 8000000 in
theorem rVerifyOk (v : E) (gs : List (List E)) (cs : List E) (d : Nat) (hd : d ≤ 3) (hd1 : 1 ≤ d) (hl : gs.length = cs.length) (vr vc : Value) (lo hi lo2 hi2 : Nat) (w : World) (hg : TabS lo hi w vr gs) (hc : ExtS lo2 hi2 w vc cs) :
    Calls Tryz.prog 74 #[ev v, vr, .agg #[vc, .int .i64 (d : Int)]] w (Ret (.tuple #[ev (lastS v (stepsL d v gs cs)).1, .int .i64 (lastS v (stepsL d v gs cs)).2]) w) := by
  obtain ⟨A, cap, rfl⟩ := hg.len
  obtain ⟨AC, capC, rfl⟩ := Rd.len hc
  have hsm := hg.small
  have HG := Lib.hid hg
  have HC := Lib.hid hc
  have HL := Lib.hid hl
  rw [← hl]
  have h3 : ((gs.length : Int) != (gs.length : Int)) = false := by simp
  clear hg hc hl
  obtain ⟨R, hR⟩ : ∃ R, R = lastS v (stepsL d v gs cs) := ⟨_, rfl⟩
  rw [← hR]
  have HR := Lib.hid (show R = lastS v (stepsL d v (gs.drop 0) (cs.drop 0)) from hR)
  clear hR
  obtain ⟨L, hL⟩ : ∃ L, L = gs.length := ⟨_, rfl⟩
  have HLL := Lib.hid hL
  rw [← hL] at h3 hsm ⊢
  clear hL
  unfold ev
  go_enter Tryz.func74, Tryz.ntmps74
  go_upto_region 1 with (fail)
  refine wp_stk3 fun W hB hz b3 b5 b6 => ?_
  have e1 := b5.cell
  have hWs : W.heap.size = w.heap.size + 1 + 1 + 1 := hz.out
  clear hz
  go_wp2_with fail
  go_loopw [8] (fun i wr => ∃ j : Nat, j ≤ L ∧ i = .int .i64 j ∧ ∃ x : E, R = lastS x (stepsL d x (gs.drop j) (cs.drop j)) ∧ Blk wr w.heap.size 30 #[.int .u64 (fv x.a), .int .u64 (fv x.b)] ∧ Blk wr (w.heap.size + 1) 112 #[.slice AC L capC, .int .i64 (d : Int)] ∧ Blk wr (w.heap.size + 1 + 1) 30 #[.int .u64 0, .int .u64 0] ∧ Below w.heap.size w wr) (fun i _ => L - (intOf i).toNat)
  case atStart => exact ⟨0, Nat.zero_le _, rfl, v, HR.out, b3, b5, b6, hB⟩
  case round =>
    obtain ⟨j, hj, rfl, x, hx, b3, b5, b6, hB⟩ := hrel
    have HX := Lib.hid hx
    clear hx
    by_cases hlt : j < L
    · obtain ⟨gG, oG, cG, hv, -, -, -, lG, qG⟩ := tabs_cells HG.out (by rw [← HLL.out]; omega)
      rw [← HLL.out] at hv
      cases hv
      obtain ⟨gC, oC, cC, hv, -, -, -, lC, qC⟩ := exts_cells HC.out (by rw [← HL.out, ← HLL.out]; omega)
      rw [← HL.out, ← HLL.out] at hv
      cases hv
      obtain ⟨g, hg⟩ : ∃ g, gs[j]? = some g := ⟨_, List.getElem?_eq_getElem (by rw [← HLL.out]; exact hlt)⟩
      obtain ⟨c, hc⟩ : ∃ c, cs[j]? = some c := ⟨_, List.getElem?_eq_getElem (by rw [← HL.out, ← HLL.out]; exact hlt)⟩
      obtain ⟨Ag, cg, d1, hE⟩ := qG j g hg
      obtain ⟨d2, d3⟩ := qC j c hc
      have f1 := gw_cell (W := wr) (Nat.lt_of_lt_of_le lG hB.size) ((hB.cell (p := ⟨gG, oG + j, none⟩) lG).trans d1)
      have f2 := gw_cell (W := wr) (Nat.lt_of_lt_of_le lC hB.size) ((hB.cell (p := ⟨gC, oC + j * 2, none⟩) lC).trans d2)
      have f3 := gw_cell (W := wr) (Nat.lt_of_lt_of_le lC hB.size) ((hB.cell (p := ⟨gC, oC + j * 2 + 1, none⟩) lC).trans d3)
      have f4 := gw_blk b5
      have HE := Lib.hid (Rd.keep hE hB)
      have hgs := (show g.length ≤ 140737488355327 from hE.2.1)
      clear qG qC d1 d2 d3 hE
      by_cases hgl : g.length = d + 1
      · obtain ⟨g0, hg0, hgd0⟩ := get_of (l := g) (k := 0) (by omega)
        obtain ⟨g1, hg1, hgd1⟩ := get_of (l := g) (k := 1) (by omega)
        obtain ⟨gE, oE, cE, hv, -, -, -, lE, qE⟩ := exts_cells HE.out (by omega)
        cases hv
        obtain ⟨q1, q2⟩ := qE 0 g0 hg0
        obtain ⟨q3, q4⟩ := qE 1 g1 hg1
        simp only [Nat.zero_mul, Nat.one_mul, Nat.add_zero, Nat.add_assoc, Nat.reduceAdd] at q1 q2 q3 q4
        have f5 := gw_cell lE q1
        have f6 := gw_cell lE q2
        have f7 := gw_cell lE q3
        have f8 := gw_cell lE q4
        have f9 := gw_blk b3
        have HP := Lib.hid (show ∀ W1, Below wr.heap.size wr W1 → Calls Tryz.prog 64 #[.slice (some ⟨gE, oE, none⟩) g.length cg, ev c] W1 (Ret (ev (atE g c)) W1) from fun W1 hW => pAt g c (by omega) _ _ _ W1 (Rd.keep HE.out hW))
        have HOK := Lib.hid (fun hs => stepsL_ok d x gs cs j g c hg hc hgl hs)
        have HSUM := Lib.hid (fun hs => stepsL_sum d x gs cs j g c hg hc hgl hs)
        rw [hgd0, hgd1] at HOK HSUM
        rw [hgl] at HP f1
        clear qE q1 q2 q3 q4 hg0 hg1 hgd0 hgd1 hg hc hgl HE hgs
        obtain ⟨y, hy⟩ : ∃ y, y = atE g c := ⟨_, rfl⟩
        rw [← hy] at HP HOK
        clear hy
        go_wp2_with fail
        refine wp_region_rg 9 [] (by kernel_rfl) (by kernel_rfl) (by kernel_rfl) trivial ?_
        refine rg_det rfl rfl rfl (fun K hK => ?_)
        go_big_quiet_op
        refine hK _ ?_; clear hK K
        refine rg_det rfl rfl rfl (fun K hK => ?_)
        go_big_quiet_op
        refine hK _ ?_; clear hK K
        refine rg_det rfl rfl rfl (fun K hK => ?_)
        go_big_quiet_op
        refine hK _ ?_; clear hK K
        refine rg_det rfl rfl rfl (fun K hK => ?_)
        go_big_quiet_op
        refine hK _ ?_; clear hK K
        refine rg_det rfl rfl rfl (fun K hK => ?_)
        go_big_quiet_op
        refine hK _ ?_; clear hK K
        refine rg_det rfl rfl rfl (fun K hK => ?_)
        go_big_quiet_op
        refine hK _ ?_; clear hK K
        refine rg_det rfl rfl rfl (fun K hK => ?_)
        go_big_quiet_op
        refine hK _ ?_; clear hK K
        refine rg_det rfl rfl rfl (fun K hK => ?_)
        go_big_quiet_op
        refine hK _ ?_; clear hK K
        refine rg_det rfl rfl rfl (fun K hK => ?_)
        go_big_quiet_op
        refine hK _ ?_; clear hK K
        refine rg_nil (fun w' hw' hF => ?_)
        obtain ⟨z1, rfl⟩ := hw'
        simp only [List.drop_succ_cons, List.drop_zero]
        have b32 := b3.keep z1.h
        have b52 := b5.keep z1.h
        have b62 := b6.keep z1.h
        have hB2 := hB.trans (z1.h.mono hB.size)
        replace f1 := gw_next f1 z1
        replace f2 := gw_next f2 z1
        replace f3 := gw_next f3 z1
        replace f4 := gw_nextB f4 z1
        replace f5 := gw_next f5 z1
        replace f6 := gw_next f6 z1
        replace f7 := gw_next f7 z1
        replace f8 := gw_next f8 z1
        replace f9 := gw_nextB f9 z1
        clear hF
        go_wp2_with fail
        rcases ext_cases (g0 + g1) x with hs | hs | ⟨hs, hs'⟩
        · have HS := Lib.hid (HOK.out hs)
          rw [← hs] at f9 HX HS
          clear HSUM HOK
          refine wp_region_rg 15 [(12, Spec.val (.agg #[.int .u64 (fv (g0 + g1).a), .int .u64 (fv (g0 + g1).b)]))] (by kernel_rfl) (by kernel_rfl) (by kernel_rfl) trivial ?_
          refine rg_det rfl rfl rfl (fun K hK => ?_)
          go_big_quiet_op
          refine hK _ ?_; clear hK K
          refine rg_det rfl rfl rfl (fun K hK => ?_)
          go_big_quiet_op
          refine hK _ ?_; clear hK K
          refine rg_det rfl rfl rfl (fun K hK => ?_)
          go_big_quiet_op
          refine hK _ ?_; clear hK K
          refine rg_det rfl rfl rfl (fun K hK => ?_)
          go_big_quiet_op
          refine hK _ ?_; clear hK K
          refine rg_det rfl rfl rfl (fun K hK => ?_)
          go_big_quiet_op
          refine hK _ ?_; clear hK K
          refine rg_det rfl rfl rfl (fun K hK => ?_)
          go_big_quiet_op
          refine hK _ ?_; clear hK K
          refine rg_det rfl rfl rfl (fun K hK => ?_)
          go_big_quiet_op
          refine hK _ ?_; clear hK K
          refine rg_det rfl rfl rfl (fun K hK => ?_)
          go_big_quiet_op
          refine hK _ ?_; clear hK K
          refine rg_det rfl rfl rfl (fun K hK => ?_)
          go_big_quiet_op
          refine hK _ ?_; clear hK K
          refine rg_det rfl rfl rfl (fun K hK => ?_)
          go_big_quiet_op
          refine hK _ ?_; clear hK K
          refine rg_det rfl rfl rfl (fun K hK => ?_)
          go_big_quiet_op
          refine hK _ ?_; clear hK K
          refine rg_det rfl rfl rfl (fun K hK => ?_)
          go_big_quiet_op
          refine hK _ ?_; clear hK K
          refine rg_val rfl rfl (fun W1 hW1 hF => step_callv en_attestor_attestorref02_Add (xAdd g0 g1 W1) rfl rfl) ?_
          intro a' ha
          simp only [Act.put, List.setIfInBounds_toArray, List.set_cons_succ, List.set_cons_zero] at ha
          subst ha
          refine rg_det rfl rfl rfl (fun K hK => ?_)
          go_big_quiet_op
          refine hK _ ?_; clear hK K
          refine rg_det rfl rfl rfl (fun K hK => ?_)
          go_big_quiet_op
          refine hK _ ?_; clear hK K
          refine rg_nil (fun w' hw' hF => ?_)
          obtain ⟨z2, rfl⟩ := hw'
          simp only [List.drop_succ_cons, List.drop_zero]
          replace f1 := gw_next f1 z2
          replace f2 := gw_next f2 z2
          replace f3 := gw_next f3 z2
          replace f4 := gw_nextB f4 z2
          have hB3 := hB2.trans (z2.h.mono hB2.size)
          have b33 := b32.keep z2.h
          have b53 := b52.keep z2.h
          have b63 := b62.keep z2.h
          have h12 := z1.h.trans (z2.h.mono z1.h.size)
          clear hF f5 f6 f7 f8 f9
          go_wp2_with fail
          refine wp_region_rg 10 [(9, Spec.val (.agg #[.int .u64 (fv (y).a), .int .u64 (fv (y).b)]))] (by kernel_rfl) (by kernel_rfl) (by kernel_rfl) trivial ?_
          refine rg_det rfl rfl rfl (fun K hK => ?_)
          go_big_quiet_op
          refine hK _ ?_; clear hK K
          refine rg_det rfl rfl rfl (fun K hK => ?_)
          go_big_quiet_op
          refine hK _ ?_; clear hK K
          refine rg_det rfl rfl rfl (fun K hK => ?_)
          go_big_quiet_op
          refine hK _ ?_; clear hK K
          refine rg_det rfl rfl rfl (fun K hK => ?_)
          go_big_quiet_op
          refine hK _ ?_; clear hK K
          refine rg_det rfl rfl rfl (fun K hK => ?_)
          go_big_quiet_op
          refine hK _ ?_; clear hK K
          refine rg_det rfl rfl rfl (fun K hK => ?_)
          go_big_quiet_op
          refine hK _ ?_; clear hK K
          refine rg_det rfl rfl rfl (fun K hK => ?_)
          go_big_quiet_op
          refine hK _ ?_; clear hK K
          refine rg_det rfl rfl rfl (fun K hK => ?_)
          go_big_quiet_op
          refine hK _ ?_; clear hK K
          refine rg_det rfl rfl rfl (fun K hK => ?_)
          go_big_quiet_op
          refine hK _ ?_; clear hK K
          refine rg_val rfl rfl (fun W1 hW1 hF => step_callv en_attestor_attestorref03_At (HP.out W1 (h12.trans ((grw_below hW1).mono h12.size))) rfl rfl) ?_
          intro a' ha
          simp only [Act.put, List.setIfInBounds_toArray, List.set_cons_succ, List.set_cons_zero] at ha
          subst ha
          refine rg_nil (fun w' hw' hF => ?_)
          obtain ⟨z3, rfl⟩ := hw'
          simp only [List.drop_succ_cons, List.drop_zero]
          have b34 := b33.gw z3
          have b54 := b53.gw z3
          have b64 := b63.gw z3
          have hB4 := hB3.trans (z3.h.mono hB3.size)
          have e1 := b34.cell
          have e2 := b34.frozen
          clear hF f1 f2 f3 f4
          go_upto_region 5 with (fail)
          refine set2 (M := fun W => Code.wp _ _ _ _ W) b34 fun X5 hX5 b35 => ?_
          have HN := Lib.hid (show R = lastS y (stepsL d y (gs.drop (j + 1)) (cs.drop (j + 1))) by rw [HX.out, HS.out]; exact lastS_ok _ _ _)
          have b55 := hX5.blk b54 (by omega)
          have b65 := hX5.blk b64 (by omega)
          have hB5 := below_put hB4 hX5 (Nat.le_refl _)
          clear e1 e2 b34 b54 b64 hX5
          go_wp2_with fail
          exact ⟨⟨j + 1, by omega, by go_num, y, HN.out, b35, b55, b65, hB5⟩, by simp [intOf]; omega⟩
        · have HNE := Lib.hid (show g0 + g1 ≠ x from fun e => hs (by rw [e]))
          skip
          refine wp_region_rg 15 [(12, Spec.val (.agg #[.int .u64 (fv (g0 + g1).a), .int .u64 (fv (g0 + g1).b)]))] (by kernel_rfl) (by kernel_rfl) (by kernel_rfl) trivial ?_
          refine rg_det rfl rfl rfl (fun K hK => ?_)
          go_big_quiet_op
          refine hK _ ?_; clear hK K
          refine rg_det rfl rfl rfl (fun K hK => ?_)
          go_big_quiet_op
          refine hK _ ?_; clear hK K
          refine rg_det rfl rfl rfl (fun K hK => ?_)
          go_big_quiet_op
          refine hK _ ?_; clear hK K
          refine rg_det rfl rfl rfl (fun K hK => ?_)
          go_big_quiet_op
          refine hK _ ?_; clear hK K
          refine rg_det rfl rfl rfl (fun K hK => ?_)
          go_big_quiet_op
          refine hK _ ?_; clear hK K
          refine rg_det rfl rfl rfl (fun K hK => ?_)
          go_big_quiet_op
          refine hK _ ?_; clear hK K
          refine rg_det rfl rfl rfl (fun K hK => ?_)
          go_big_quiet_op
          refine hK _ ?_; clear hK K
          refine rg_det rfl rfl rfl (fun K hK => ?_)
          go_big_quiet_op
          refine hK _ ?_; clear hK K
          refine rg_det rfl rfl rfl (fun K hK => ?_)
          go_big_quiet_op
          refine hK _ ?_; clear hK K
          refine rg_det rfl rfl rfl (fun K hK => ?_)
          go_big_quiet_op
          refine hK _ ?_; clear hK K
          refine rg_det rfl rfl rfl (fun K hK => ?_)
          go_big_quiet_op
          refine hK _ ?_; clear hK K
          refine rg_det rfl rfl rfl (fun K hK => ?_)
          go_big_quiet_op
          refine hK _ ?_; clear hK K
          refine rg_val rfl rfl (fun W1 hW1 hF => step_callv en_attestor_attestorref02_Add (xAdd g0 g1 W1) rfl rfl) ?_
          intro a' ha
          simp only [Act.put, List.setIfInBounds_toArray, List.set_cons_succ, List.set_cons_zero] at ha
          subst ha
          refine rg_det rfl rfl rfl (fun K hK => ?_)
          go_big_quiet_op
          refine hK _ ?_; clear hK K
          refine rg_det rfl rfl rfl (fun K hK => ?_)
          go_big_quiet_op
          refine hK _ ?_; clear hK K
          refine rg_nil (fun w' hw' hF => ?_)
          obtain ⟨z2, rfl⟩ := hw'
          simp only [List.drop_succ_cons, List.drop_zero]
          have bo := b62.gw z2
          have hBo := hB2.trans (z2.h.mono hB2.size)
          have e1 := bo.cell
          have e2 := bo.frozen
          have HRR := Lib.hid (HX.out.trans (congrArg (lastS x) (HSUM.out HNE.out)))
          clear hF
          go_wp2_with fail
          refine set2 (M := fun W => bodyPost _ _ _ _ _ W) bo fun X2 hp bo => ?_
          have f1 := bo.cell
          refine bodyPost_ret (v := .tuple #[.agg #[.int .u64 0, .int .u64 0], .int .i64 60]) (by simp [results, Tryz.results74, go_sem, f1]) rfl ⟨(by rw [HRR.out]; rfl), ?_⟩
          exact below_put hBo hp (by omega)
        · have HNE := Lib.hid (show g0 + g1 ≠ x from fun e => hs' (by rw [e]))
          skip
          refine wp_region_rg 15 [(12, Spec.val (.agg #[.int .u64 (fv (g0 + g1).a), .int .u64 (fv (g0 + g1).b)]))] (by kernel_rfl) (by kernel_rfl) (by kernel_rfl) trivial ?_
          refine rg_det rfl rfl rfl (fun K hK => ?_)
          go_big_quiet_op
          refine hK _ ?_; clear hK K
          refine rg_det rfl rfl rfl (fun K hK => ?_)
          go_big_quiet_op
          refine hK _ ?_; clear hK K
          refine rg_det rfl rfl rfl (fun K hK => ?_)
          go_big_quiet_op
          refine hK _ ?_; clear hK K
          refine rg_det rfl rfl rfl (fun K hK => ?_)
          go_big_quiet_op
          refine hK _ ?_; clear hK K
          refine rg_det rfl rfl rfl (fun K hK => ?_)
          go_big_quiet_op
          refine hK _ ?_; clear hK K
          refine rg_det rfl rfl rfl (fun K hK => ?_)
          go_big_quiet_op
          refine hK _ ?_; clear hK K
          refine rg_det rfl rfl rfl (fun K hK => ?_)
          go_big_quiet_op
          refine hK _ ?_; clear hK K
          refine rg_det rfl rfl rfl (fun K hK => ?_)
          go_big_quiet_op
          refine hK _ ?_; clear hK K
          refine rg_det rfl rfl rfl (fun K hK => ?_)
          go_big_quiet_op
          refine hK _ ?_; clear hK K
          refine rg_det rfl rfl rfl (fun K hK => ?_)
          go_big_quiet_op
          refine hK _ ?_; clear hK K
          refine rg_det rfl rfl rfl (fun K hK => ?_)
          go_big_quiet_op
          refine hK _ ?_; clear hK K
          refine rg_det rfl rfl rfl (fun K hK => ?_)
          go_big_quiet_op
          refine hK _ ?_; clear hK K
          refine rg_val rfl rfl (fun W1 hW1 hF => step_callv en_attestor_attestorref02_Add (xAdd g0 g1 W1) rfl rfl) ?_
          intro a' ha
          simp only [Act.put, List.setIfInBounds_toArray, List.set_cons_succ, List.set_cons_zero] at ha
          subst ha
          refine rg_det rfl rfl rfl (fun K hK => ?_)
          go_big_quiet_op
          refine hK _ ?_; clear hK K
          refine rg_det rfl rfl rfl (fun K hK => ?_)
          go_big_quiet_op
          refine hK _ ?_; clear hK K
          refine rg_nil (fun w' hw' hF => ?_)
          obtain ⟨z2, rfl⟩ := hw'
          simp only [List.drop_succ_cons, List.drop_zero]
          have bo := b62.gw z2
          have hBo := hB2.trans (z2.h.mono hB2.size)
          have e1 := bo.cell
          have e2 := bo.frozen
          have HRR := Lib.hid (HX.out.trans (congrArg (lastS x) (HSUM.out HNE.out)))
          clear hF
          go_wp2_with fail
          refine set2 (M := fun W => bodyPost _ _ _ _ _ W) bo fun X2 hp bo => ?_
          have f1 := bo.cell
          refine bodyPost_ret (v := .tuple #[.agg #[.int .u64 0, .int .u64 0], .int .i64 60]) (by simp [results, Tryz.results74, go_sem, f1]) rfl ⟨(by rw [HRR.out]; rfl), ?_⟩
          exact below_put hBo hp (by omega)
      · have hne : ((g.length : Int) != (d : Int) + 1) = true := by simp; omega
        have HRR := Lib.hid (HX.out.trans (congrArg (lastS x) (stepsL_bad d x gs cs j g c hg hc hgl)))
        go_wp2_with fail
        refine wp_region_rg 9 [] (by kernel_rfl) (by kernel_rfl) (by kernel_rfl) trivial ?_
        refine rg_det rfl rfl rfl (fun K hK => ?_)
        go_big_quiet_op
        refine hK _ ?_; clear hK K
        refine rg_det rfl rfl rfl (fun K hK => ?_)
        go_big_quiet_op
        refine hK _ ?_; clear hK K
        refine rg_det rfl rfl rfl (fun K hK => ?_)
        go_big_quiet_op
        refine hK _ ?_; clear hK K
        refine rg_det rfl rfl rfl (fun K hK => ?_)
        go_big_quiet_op
        refine hK _ ?_; clear hK K
        refine rg_det rfl rfl rfl (fun K hK => ?_)
        go_big_quiet_op
        refine hK _ ?_; clear hK K
        refine rg_det rfl rfl rfl (fun K hK => ?_)
        go_big_quiet_op
        refine hK _ ?_; clear hK K
        refine rg_det rfl rfl rfl (fun K hK => ?_)
        go_big_quiet_op
        refine hK _ ?_; clear hK K
        refine rg_det rfl rfl rfl (fun K hK => ?_)
        go_big_quiet_op
        refine hK _ ?_; clear hK K
        refine rg_det rfl rfl rfl (fun K hK => ?_)
        go_big_quiet_op
        refine hK _ ?_; clear hK K
        refine rg_nil (fun w' hw' hF => ?_)
        obtain ⟨z1, rfl⟩ := hw'
        simp only [List.drop_succ_cons, List.drop_zero]
        have bo := b6.keep z1.h
        have hBo := hB.trans (z1.h.mono hB.size)
        have e1 := bo.cell
        have e2 := bo.frozen
        clear hF
        go_wp2_with fail
        refine set2 (M := fun W => bodyPost _ _ _ _ _ W) bo fun X2 hp bo => ?_
        have f1 := bo.cell
        refine bodyPost_ret (v := .tuple #[.agg #[.int .u64 0, .int .u64 0], .int .i64 61]) (by simp [results, Tryz.results74, go_sem, f1]) rfl ⟨(by rw [HRR.out]; rfl), ?_⟩
        exact below_put hBo hp (by omega)
    · obtain rfl : j = L := by omega
      have HRR := Lib.hid (HX.out.trans (congrArg (lastS x) (stepsL_end d x gs cs j (by rw [← HLL.out]; exact Nat.le_refl _))))
      have e1 := b3.cell
      have e2 := b6.cell
      have e3 := b6.frozen
      go_wp2_with fail
      refine set2 (M := fun W => bodyPost _ _ _ _ _ W) b6 fun X2 hp bo => ?_
      have f1 := bo.cell
      refine bodyPost_ret (v := .tuple #[.agg #[.int .u64 (fv (x).a), .int .u64 (fv (x).b)], .int .i64 0]) (by simp [results, Tryz.results74, go_sem, f1]) rfl ⟨by rw [HRR.out]; rfl, ?_⟩
      exact below_put hB hp (by omega)
theorem rVerify (v : E) (gs : List (List E)) (cs : List E) (d : Int) (hd : -9223372036854775808 ≤ d ∧ d < 9223372036854775808) (vr vc : Value) (lo hi lo2 hi2 : Nat) (w : World) (hg : TabS lo hi w vr gs) (hc : ExtS lo2 hi2 w vc cs) :
    Calls Tryz.prog 74 #[ev v, vr, .agg #[vc, .int .i64 d]] w (Ret (.tuple #[ev (vrfE d v gs cs).1, .int .i64 (vrfE d v gs cs).2]) w) := by
  by_cases hbad : d < 1 ∨ 3 < d ∨ gs.length ≠ cs.length
  · rw [show vrfE d v gs cs = (0, 1) from if_pos hbad]
    exact rVerifyArg v gs cs d hd hbad vr vc lo hi lo2 hi2 w hg hc
  · rw [show vrfE d v gs cs = lastS v (stepsL d.toNat v gs cs) from if_neg hbad]
    obtain ⟨n, rfl⟩ : ∃ n : Nat, d = (n : Int) := ⟨d.toNat, by omega⟩
    exact rVerifyOk v gs cs n (by omega) (by omega) (by omega) vr vc lo hi lo2 hi2 w hg hc
end Go.Proofs.YtnddfeidggcplaaGreat
