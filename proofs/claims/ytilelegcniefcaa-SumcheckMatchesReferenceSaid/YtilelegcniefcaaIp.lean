/-
  Eval, Interpolate and At of the reference of package poly, by contract.
-/
import Derived.Test.YtilelegcniefcaaPam
namespace Go.Proofs.Ytilelegcniefcaa
open Go.RowKit

set_option maxRecDepth 100000 in
set_option maxHeartbeats 2000000 in
theorem pEval (p : List E) (x : E) (hn : p.length ≤ 100000) (v : Value) (lo hi : Nat) (w : World) (h : ExtS lo hi w v p) :
    Calls Try.prog 64 #[v, ev x] w (Ret (ev (pev p x)) w) := by
  obtain ⟨A, cap, rfl⟩ := Rd.len h
  have HH := Lib.hid h
  clear h
  unfold ev
  go_enter Try.func64, Try.ntmps64
  go_wp2_with fail
  refine wp_stk3 fun W hB hz b1 b2 b3 => ?_
  clear hz
  have hp0 : pev (p.drop p.length) x = 0 := by rw [List.drop_length, pev_nil]
  have B3 : Blk W (w.heap.size + 2) 43 #[.int .u64 (fv (pev (p.drop p.length) x).a), .int .u64 (fv (pev (p.drop p.length) x).b)] := by rw [hp0]; exact b3
  clear b3 hp0
  go_loopw [6] (fun i wr => ∃ j : Nat, j ≤ p.length ∧ i = .int .i64 ((j : Int) - 1) ∧ Blk wr (w.heap.size + 2) 43 #[.int .u64 (fv (pev (p.drop j) x).a), .int .u64 (fv (pev (p.drop j) x).b)] ∧ Blk wr w.heap.size 43 #[.int .u64 (fv x.a), .int .u64 (fv x.b)] ∧ Blk wr (w.heap.size + 1) 43 #[.int .u64 0, .int .u64 0] ∧ Below w.heap.size w wr) (fun i _ => (intOf i + 1).toNat)
  case atStart => exact ⟨p.length, Nat.le_refl _, rfl, B3, b1, b2, hB⟩
  case round =>
    obtain ⟨j, hj, rfl, bv, bx, br, hBr⟩ := hrel
    clear B3 b1 b2 hB
    by_cases h0 : 0 < j
    · obtain ⟨k, rfl⟩ : ∃ k, j = k + 1 := ⟨j - 1, by omega⟩
      rw [show ((k + 1 : Nat) : Int) - 1 = (k : Int) by omega]
      obtain ⟨g, off, cap', hv, q1, q2, q3, q4, q5⟩ := exts_cells HH.out (by omega)
      cases hv
      obtain ⟨a, ha, had⟩ := get_of (l := p) (k := k) (by omega)
      obtain ⟨d1, d2⟩ := q5 k a ha
      have q6 : g < wr.heap.size := Nat.lt_of_lt_of_le q4 hBr.size
      have f1 := gw_cell q6 ((hBr.cell (p := ⟨g, off + k * 2, none⟩) q4).trans d1)
      have f2 := gw_cell q6 ((hBr.cell (p := ⟨g, off + k * 2 + 1, none⟩) q4).trans d2)
      have f3 := gw_blk bv
      have f4 := gw_blk bx
      have hE : pev (p.drop k) x = pev (p.drop (k + 1)) x * x + a := by rw [pev_drop x p k (by omega), had]; ac_rfl
      have HE := Lib.hid hE
      clear q5 d1 d2 ha had hE
      generalize pev (p.drop (k + 1)) x = m at *
      go_wp2_with fail
      refine wp_region_rg 8 [(2, Spec.val (.agg #[.int .u64 (fv (m * x).a), .int .u64 (fv (m * x).b)])), (7, Spec.val (.agg #[.int .u64 (fv (m * x + a).a), .int .u64 (fv (m * x + a).b)]))] (by kernel_rfl) (by kernel_rfl) (by kernel_rfl) trivial ?_
      refine rg_det rfl rfl rfl (fun K hK => ?_)
      go_big_quiet_op
      refine hK _ ?_; clear hK K
      refine rg_det rfl rfl rfl (fun K hK => ?_)
      go_big_quiet_op
      refine hK _ ?_; clear hK K
      refine rg_val rfl rfl (fun W1 hW1 hF => step_callv en_attestor_attestorref02_Mul (xMul m x W1) rfl rfl) ?_
      intro a' ha
      simp only [Act.put, List.setIfInBounds_toArray, List.set_cons_succ, List.set_cons_zero] at ha
      subst ha
      refine rg_det rfl rfl rfl (fun K hK => ?_)
      go_big_quiet_op
      refine hK _ ?_; clear hK K
      refine rg_det rfl rfl rfl (fun K hK => ?_)
      go_big_quiet_op
      refine hK _ ?_; clear hK K
      refine rg_det rfl rfl rfl (fun K hK => ?_)
      go_big_quiet_op
      refine hK _ ?_; clear hK K
      refine rg_det rfl rfl rfl (fun K hK => ?_)
      go_big_quiet_op
      refine hK _ ?_; clear hK K
      refine rg_val rfl rfl (fun W1 hW1 hF => step_callv en_attestor_attestorref02_Add (xAdd (m * x) a W1) rfl rfl) ?_
      intro a' ha
      simp only [Act.put, List.setIfInBounds_toArray, List.set_cons_succ, List.set_cons_zero] at ha
      subst ha
      refine rg_nil (fun w' hw' hF => ?_)
      obtain ⟨z, rfl⟩ := hw'
      simp only [List.drop_succ_cons, List.drop_zero]
      have bz := bv.keep z.h
      have e1 := bz.cell
      have e2 := bz.frozen
      have hBz := hBr.trans (z.h.mono hBr.size)
      have bxz := bx.keep z.h
      have brz := br.keep z.h
      have HZ := Lib.hid (show Blk ((z.w.setCell ⟨w.heap.size + 2, 0, none⟩ (.int .u64 (fv (m * x + a).a))).setCell ⟨w.heap.size + 2, 1, none⟩ (.int .u64 (fv (m * x + a).b))) (w.heap.size + 2) 43 #[.int .u64 (fv (pev (p.drop k) x).a), .int .u64 (fv (pev (p.drop k) x).b)] by rw [HE.out]; exact blk_set2 bz)
      clear hF f1 f2 f3 f4 HE
      go_wp2_with fail
      exact ⟨⟨k, by omega, by go_num, HZ.out, blk_far2 bxz (by omega), blk_far2 brz (by omega), below_set2 hBz (by omega)⟩, by simp [intOf]⟩
    · obtain rfl : j = 0 := by omega
      rw [show ((0 : Nat) : Int) - 1 = -1 by omega]
      rw [List.drop_zero] at bv
      have e1 := bv.cell
      have e3 := br.cell
      have e4 := br.frozen
      generalize pev p x = y at *
      go_wp2_with fail
      refine bodyPost_ret (v := .agg #[.int .u64 (fv (y).a), .int .u64 (fv (y).b)]) (by simp [results, Try.results64, go_sem, e3]) rfl ⟨rfl, ?_⟩
      exact below_set2 hBr (by omega)
theorem ev_cells (x : E) : (ev x).cells = (ec x).toArray := rfl
/-- A slice literal of some elements. -/
theorem step_litE {o : Oper} {a : Act} {w : World} {len : Nat} {parts : List (Nat × Operand)} (xs : List E) (hlen : xs.length = len) (hpos : 0 < len) (hsmall : len ≤ 1000000)
    (ho : o.op = .buildSlice 22 len parts.toArray) (hv : (parts.map fun x => (x.1, a.eval x.2)) = ((xs.map ev).zipIdx 0).map fun x => (x.2, x.1)) :
    stepAt Try.prog o a w (fun v w' => Lit 43 len (xs.flatMap ec).toArray w.heap.size w'.heap.size v w' ∧ Below w.heap.size w w') := by
  obtain ⟨i0, hi0, hz0, hz1, hz2⟩ := info_parts ext_info
  refine step_lit Try.underlying22 hi0 hz0 (by rw [hz1]; omega) (by rw [hz1]; omega) ho ?_
  have hm : (parts.toArray.map fun (i, x) => (i, a.eval x)).toList = ((xs.map ev).zipIdx 0).map fun x => (x.2, x.1) := by rw [← hv]; simp
  rw [hm, hz1]
  obtain ⟨r, h1', h2, h3⟩ := Great.fill_dense (s := 2) (by decide) (xs.map ev) 0 ((Array.range (len * 2)).map ((Value.agg #[.int .u64 0, .int .u64 0]).cells[· % (Value.agg #[.int .u64 0, .int .u64 0]).cells.size]!)) (fun u hu => by obtain ⟨x, _, rfl⟩ := List.mem_map.1 hu; rfl) (by simp; omega)
  rw [h1']
  refine congrArg some ?_
  apply Array.ext_getElem?
  intro k
  rw [h3 k]
  by_cases hk : k < len * 2
  · rw [if_pos (by simp; omega)]
    obtain ⟨x, hx⟩ : ∃ x, xs[k / 2]? = some x := ⟨xs[k / 2]'(by omega), List.getElem?_eq_getElem (by omega)⟩
    obtain ⟨u, hu⟩ : ∃ u, (ec x)[k % 2]? = some u := ⟨(ec x)[k % 2]'(by rw [ec_len]; omega), List.getElem?_eq_getElem (by rw [ec_len]; omega)⟩
    have hg := flat_get ec_len xs (k / 2) (k % 2) x u hx hu
    rw [show k / 2 * 2 + k % 2 = k by omega] at hg
    rw [List.getElem?_toArray, hg, Nat.sub_zero, List.getElem?_map, hx]
    show (ev x).cells[k % 2]? = some u
    rw [ev_cells, List.getElem?_toArray, hu]
  · rw [if_neg (by simp; omega), Array.getElem?_eq_none (by simp; omega), Array.getElem?_eq_none (by simp [flat_length ec_len]; omega)]
theorem refK_same (x : E) (i k : Nat) (v : E) (h : k = i) : refK x i v (k + 1) = refK x i v k := if_pos h
theorem refK_step (x : E) (i k : Nat) (v : E) (h : k ≠ i) : refK x i v (k + 1) = refK x i v k * (intE (-(k : Int)) * einv (intE ((i : Int) - k)) + x * einv (intE ((i : Int) - k))) := if_neg h
theorem pev_two (a b x : E) : pev [a, b] x = a + x * b := by rw [pev_cons, pev_cons, pev_nil, E.mul_zero, E.add_zero]
set_option maxRecDepth 100000 in
set_option maxHeartbeats 4000000 in
theorem pInterp (v : List E) (hn : v.length ≤ 1000) (vv : Value) (lo hi : Nat) (w : World) (h : ExtS lo hi w vv v) :
    Calls Try.prog 65 #[vv] w (RetR (PolA (2 * v.length + 1) (fun x => atE v x)) w) := by
  obtain ⟨A, cap, rfl⟩ := Rd.len h
  have HH := Lib.hid h
  clear h
  go_enter Try.func65, Try.ntmps65
  go_wp2_with fail
  refine wp_stk1 fun W hB hz b => ?_
  clear hz b
  go_loopw [3, 4] (fun o i wr => ∃ j : Nat, j ≤ v.length ∧ i = .int .i64 j ∧ (∃ cs : List E, cs.length ≤ 2 * v.length + 1 ∧ (∀ x, pev cs x = refAtK v x j) ∧ ExtS w.heap.size wr.heap.size wr o cs) ∧ Below w.heap.size w wr) (fun _ i _ => v.length - (intOf i).toNat)
  case atStart => exact ⟨0, Nat.zero_le _, rfl, ⟨[], Nat.zero_le _, fun x => rfl, rd_nil _ _ _ _ _ _⟩, hB⟩
  case round =>
    obtain ⟨j, hj, rfl, ⟨os, o1, o2, o3⟩, hBr⟩ := hrel
    clear hB
    obtain ⟨Ao, capo, rfl⟩ := Rd.len o3
    have HO3 := Lib.hid o3
    have HO2 := Lib.hid o2
    clear o2 o3
    by_cases hlt : j < v.length
    · obtain ⟨g, off, cap', hv, q1, q2, q3, q4, q5⟩ := exts_cells HH.out (by omega)
      cases hv
      obtain ⟨a, ha, had⟩ := get_of hlt
      obtain ⟨d1, d2⟩ := q5 j a ha
      have q6 := Nat.lt_of_lt_of_le q4 hBr.size
      have f1 := (hBr.cell (p := ⟨g, off + j * 2, none⟩) q4).trans d1
      have f2 := (hBr.cell (p := ⟨g, off + j * 2 + 1, none⟩) q4).trans d2
      have HAD := Lib.hid had
      clear q5 d1 d2 ha had
      obtain ⟨wo, hwo⟩ : ∃ wo, wo = wr := ⟨_, rfl⟩
      subst hwo
      go_upto_region 6 with (fail)
      refine wp_stk1 fun W6 hB6 hz6 b6 => ?_
      have hs6 : W6.heap.size = wo.heap.size + 1 := hz6.out
      have hX6 := exts_blk (L := [a]) (lo := w.heap.size) (hi := W6.heap.size) b6 rfl (by simp) hBr.size b6.lt
      have HX6 := Lib.hid hX6
      clear hz6 f1 f2 b6 hX6
      go_wp2_with fail
      go_loopw [5, 6] (fun o i wr => ∃ k : Nat, k ≤ v.length ∧ i = .int .i64 k ∧ (∃ cs : List E, cs.length ≤ 2 * k + 1 ∧ (∀ x, pev cs x = refK x j a k) ∧ ExtS w.heap.size wr.heap.size wr o cs) ∧ Below wo.heap.size wo wr) (fun _ i _ => v.length - (intOf i).toNat)
      case atStart => exact ⟨0, Nat.zero_le _, rfl, ⟨[a], by simp, fun x => by rw [pev_cons, pev_nil, E.mul_zero, E.add_zero]; rfl, HX6.out⟩, hB6⟩
      case round =>
        obtain ⟨k, hk, rfl, ⟨cs, o4, o5, o6⟩, hBs⟩ := hrel
        clear hB6
        obtain ⟨Ac, capc, rfl⟩ := Rd.len o6
        have HO6 := Lib.hid o6
        have HO5 := Lib.hid o5
        clear o5 o6
        by_cases hlk : k < v.length
        · by_cases hjk : k = j
          · have hb : ((k : Int) != (j : Int)) = false := by simp; omega
            have HP := Lib.hid (show ∀ x, pev cs x = refK x j a (k + 1) from fun x => by rw [HO5.out, refK_same x j k a hjk])
            go_wp2_with fail
            exact ⟨⟨k + 1, by omega, by go_num, ⟨cs, by omega, HP.out, HO6.out⟩, hBs⟩, by simp [intOf]; omega⟩
          · have hb : ((k : Int) != (j : Int)) = true := by simp; omega
            have HP := Lib.hid (fun x => refK_step x j k a hjk)
            have HI := Lib.hid (xInv (intE ((j : Int) - k)) (intE_ne _ (by omega) (by omega) (by omega)))
            have HF1 := Lib.hid (xFromInt ((j : Int) - k) (by omega) (by omega))
            have HF2 := Lib.hid (xFromInt (-(k : Int)) (by omega) (by omega))
            obtain ⟨y, hy⟩ : ∃ y, y = einv (intE ((j : Int) - k)) := ⟨_, rfl⟩
            obtain ⟨x1, hx1⟩ : ∃ y, y = intE ((j : Int) - k) := ⟨_, rfl⟩
            obtain ⟨x2, hx2⟩ : ∃ y, y = intE (-(k : Int)) := ⟨_, rfl⟩
            rw [show eb (fz ((j : Int) - k)) = x1 from hx1.symm] at HF1
            rw [show eb (fz (-(k : Int))) = x2 from hx2.symm] at HF2
            rw [← hy, ← hx1] at HI
            rw [← hy, ← hx2] at HP
            clear hy hx1 hx2 hjk
            go_wp2_with fail
            refine (HF1.out _).mono ?_
            rintro e w7 ⟨rfl, hb7⟩
            go_wp2_with fail
            refine (HI.out _).mono ?_
            rintro e w8 ⟨rfl, hb8⟩
            unfold ev
            go_upto_region 11 with (fail)
            refine wp_stk1 fun W9 hB9 hz9 b9 => ?_
            have h79 := hb7.trans ((hb8.trans (hB9.mono hb8.size)).mono hb7.size)
            have hO9 := Lib.hid (Rd.keep HO6.out h79)
            have hB9o := hBs.trans (h79.mono hBs.size)
            have c1 := gw_blk b9
            clear hz9 hb7 hb8 hB9 HI HF1 hb
            refine wp_region_rg 9 [(3, Spec.val (.agg #[.int .u64 (fv (x2).a), .int .u64 (fv (x2).b)])), (5, Spec.val (.agg #[.int .u64 (fv (x2 * y).a), .int .u64 (fv (x2 * y).b)])), (7, Spec.rel (Lit 43 2 ([x2 * y, y].flatMap ec).toArray) (LitF 2)), (8, Spec.rel (PolA (cs.length + 2) (fun x => pev cs x * pev [x2 * y, y] x)) AnyV)] (by kernel_rfl) (by kernel_rfl) (by kernel_rfl) ⟨fit_lit, fit_of (pol_stable _ _), trivial⟩ ?_
            refine rg_det rfl rfl rfl (fun K hK => ?_)
            go_big_quiet_op
            refine hK _ ?_; clear hK K
            refine rg_det rfl rfl rfl (fun K hK => ?_)
            go_big_quiet_op
            refine hK _ ?_; clear hK K
            refine rg_det rfl rfl rfl (fun K hK => ?_)
            go_big_quiet_op
            refine hK _ ?_; clear hK K
            refine rg_val rfl rfl (fun W1 hW1 hF => step_callv en_attestor_attestorref02_FromInt (HF2.out W1) rfl rfl) ?_
            intro a' ha
            simp only [Act.put, List.setIfInBounds_toArray, List.set_cons_succ, List.set_cons_zero] at ha
            subst ha
            refine rg_det rfl rfl rfl (fun K hK => ?_)
            go_big_quiet_op
            refine hK _ ?_; clear hK K
            refine rg_val rfl rfl (fun W1 hW1 hF => step_callv en_attestor_attestorref02_Mul (xMul x2 y W1) rfl rfl) ?_
            intro a' ha
            simp only [Act.put, List.setIfInBounds_toArray, List.set_cons_succ, List.set_cons_zero] at ha
            subst ha
            refine rg_det rfl rfl rfl (fun K hK => ?_)
            go_big_quiet_op
            refine hK _ ?_; clear hK K
            refine rg_rel rfl rfl (fun W1 hW1 hF => step_litE [x2 * y, y] rfl (by decide) (by decide) rfl rfl) ?_
            intro n7 m7 v7 hn7 hm7 hd7 hf7 a' ha
            simp only [Act.put, List.setIfInBounds_toArray, List.set_cons_succ, List.set_cons_zero] at ha
            subst ha
            obtain rfl := hf7
            refine rg_rel rfl rfl (fun W1 hW1 hF => step_callr en_attestor_attestorref03_Mul (pMul cs [x2 * y, y] (cs.length + 2) rfl (by omega) _ _ _ _ _ _ W1 (Rd.keep hO9.out (grw_below hW1)) (exts_blk (lo := n7) (hi := m7) (pick_last hF (by kernel_rfl)).2.2.2 rfl (by simp) (Nat.le_refl _) (pick_last hF (by kernel_rfl)).2.2.1)) rfl rfl) ?_
            intro n8 m8 v8 hn8 hm8 hd8 hf8 a' ha
            simp only [Act.put, List.setIfInBounds_toArray, List.set_cons_succ, List.set_cons_zero] at ha
            subst ha
            refine rg_nil (fun w' hw' hF => ?_)
            obtain ⟨z, rfl⟩ := hw'
            simp only [List.drop_succ_cons, List.drop_zero]
            obtain ⟨hm8b, ds, p1, p2, p3⟩ := end_last hF
            have hBz := hB9o.trans (z.h.mono hB9o.size)
            have hwz := hBr.size
            have h9s := hB9o.size
            have PX := Lib.hid (show ∀ x, pev ds x = refK x j a (k + 1) from fun x => by rw [p2, HP.out, ← HO5.out x]; show pev cs x * pev [x2 * y, y] x = _; rw [pev_two])
            have P3 := Lib.hid (Rd.wide (lo' := w.heap.size) (hi' := z.w.heap.size) p3 (by omega) hm8b)
            have hdl : ds.length ≤ 2 * (k + 1) + 1 := by omega
            obtain ⟨Ad, cd, rfl⟩ := Rd.len p3
            clear hF p2 p3 c1 hd7 hd8 b9 p1
            go_wp2_with fail
            exact ⟨⟨k + 1, by omega, by go_num, ⟨ds, hdl, PX.out, P3.out⟩, hBz⟩, by simp [intOf]; omega⟩
        · obtain rfl : k = v.length := by omega
          obtain ⟨N, hN⟩ : ∃ N, N = max os.length cs.length := ⟨_, rfl⟩
          have HA := Lib.hid (pAdd os cs N hN (by omega) _ _ _ _ _ _ _ (Rd.keep HO3.out hBs) HO6.out)
          have hNl : N ≤ 2 * v.length + 1 := by omega
          have hBw := hBr.trans (hBs.mono hBr.size)
          have HS := Lib.hid (fun x => refAtK_succ v x j)
          clear hN
          go_wp2_with fail
          refine HA.out.mono ?_
          rintro e w9 ⟨v9, rfl, ⟨ds, p1, p2, p3⟩, hb9⟩
          obtain ⟨A9, c9, rfl⟩ := Rd.len p3
          have PX := Lib.hid (show ∀ x, pev ds x = refAtK v x (j + 1) from fun x => by rw [p2, HS.out]; show pev os x + pev cs x = _; rw [HO2.out, HO5.out, HAD.out])
          have P3 := Lib.hid (Rd.wide (lo' := w.heap.size) (hi' := w9.heap.size) p3 hBw.size (Nat.le_refl _))
          have hdl : ds.length ≤ 2 * v.length + 1 := by omega
          have hB9 := hBw.trans (hb9.mono hBw.size)
          clear p1 p2 p3 HA
          go_wp2_with fail
          exact ⟨⟨j + 1, by omega, by go_num, ⟨ds, hdl, PX.out, P3.out⟩, hB9⟩, by simp [intOf]; omega⟩
    · obtain rfl : j = v.length := by omega
      go_wp2_with fail
      go_ret
      exact ⟨_, rfl, ⟨os, o1, fun x => by rw [HO2.out, refAt_eq], HO3.out⟩, hBr⟩
set_option maxRecDepth 100000 in
set_option maxHeartbeats 1000000 in
theorem pAt (v : List E) (x : E) (hn : v.length ≤ 1000) (vv : Value) (lo hi : Nat) (w : World) (h : ExtS lo hi w vv v) :
    Calls Try.prog 37 #[vv, ev x] w (Ret (ev (atE v x)) w) := by
  obtain ⟨A, cap, rfl⟩ := Rd.len h
  have HH := Lib.hid h
  clear h
  unfold ev
  go_enter Try.func37, Try.ntmps37
  go_wp2_with fail
  refine wp_stk2 fun W hB hz b1 b2 => ?_
  have c1 := gw_blk b1
  refine wp_region_rg 4 [(1, Spec.rel (PolA (2 * v.length + 1) (fun x => atE v x)) AnyV), (3, Spec.val (.agg #[.int .u64 (fv (atE v x).a), .int .u64 (fv (atE v x).b)]))] (by kernel_rfl) (by kernel_rfl) (by kernel_rfl) ⟨fit_of (pol_stable _ _), trivial⟩ ?_
  refine rg_det rfl rfl rfl (fun K hK => ?_)
  go_big_quiet_op
  refine hK _ ?_; clear hK K
  refine rg_rel rfl rfl (fun W1 hW1 hF => step_callr en_attestor_attestorref03_Interpolate (pInterp v hn _ lo hi W1 (Rd.keep HH.out (hB.trans ((grw_below hW1).mono hB.size)))) rfl rfl) ?_
  intro n1 m1 v1 hn1 hm1 hd1 hf1 a' ha
  simp only [Act.put, List.setIfInBounds_toArray, List.set_cons_succ, List.set_cons_zero] at ha
  subst ha
  refine rg_det rfl rfl rfl (fun K hK => ?_)
  go_big_quiet_op
  refine hK _ ?_; clear hK K
  refine rg_val rfl rfl (fun W1 hW1 hF => (by obtain ⟨_, cs, q1, q2, q3⟩ := pick_last hF (by kernel_rfl); have := pEval cs x (by omega) _ _ _ W1 q3; rw [q2] at this; exact step_callv en_attestor_attestorref03_Eval this rfl rfl)) ?_
  intro a' ha
  simp only [Act.put, List.setIfInBounds_toArray, List.set_cons_succ, List.set_cons_zero] at ha
  subst ha
  refine rg_nil (fun w' hw' hF => ?_)
  obtain ⟨z, rfl⟩ := hw'
  simp only [List.drop_succ_cons, List.drop_zero]
  have e1 := (b2.gw z).cell
  have e2 := (b2.gw z).frozen
  go_wp2
  refine bodyPost_ret (v := .agg #[.int .u64 (fv (atE v x).a), .int .u64 (fv (atE v x).b)]) (by simp [results, Try.results37, go_sem, e1]) rfl ⟨rfl, ?_⟩
  exact ((hB.trans (z.h.mono hB.size)).setCell (by show w.heap.size ≤ w.heap.size + 1; omega) _).setCell (by show w.heap.size ≤ w.heap.size + 1; omega) _
end Go.Proofs.Ytilelegcniefcaa
