/-
  Verify of package sumcheck: the iterator over the results of the rounds, by contract.
  Verify of package sumcheck, by contract.
-/
import Derived.Test.YtnddfeidggcplaaGreatSeqG
import Derived.Test.YtnddfeidggcplaaGreatPv
namespace Go.Proofs.YtnddfeidggcplaaGreat
open Go.RowKit
attribute [local go_sem] Oper.semAt_some

/-- The results of the rounds, to the first error. -/
def stepsL (d : Nat) : E → List (List E) → List E → List (E × Int)
  | v, g :: gs, c :: cs => if g.length ≠ d + 1 then [(0, 61)] else if g.getD 0 0 + g.getD 1 0 ≠ v then [(0, 60)] else (atE g c, 0) :: stepsL d (atE g c) gs cs
  | _, _, _ => []
def stc (x : E × Int) : Array Value := #[.int .u64 (fv x.1.a), .int .u64 (fv x.1.b), .int .i64 x.2]
def stv (x : E × Int) : Value := .agg (stc x)
theorem stepsL_bad (d : Nat) (v : E) (gs : List (List E)) (cs : List E) (k : Nat) (g : List E) (c : E) (hg : gs[k]? = some g) (hc : cs[k]? = some c) (h : g.length ≠ d + 1) : stepsL d v (gs.drop k) (cs.drop k) = [(0, 61)] := by
  have h1 := List.getElem?_eq_some_iff.1 hg
  have h2 := List.getElem?_eq_some_iff.1 hc
  rw [List.drop_eq_getElem_cons h1.1, List.drop_eq_getElem_cons h2.1, stepsL, h1.2, if_pos h]
theorem stepsL_sum (d : Nat) (v : E) (gs : List (List E)) (cs : List E) (k : Nat) (g : List E) (c : E) (hg : gs[k]? = some g) (hc : cs[k]? = some c) (h : g.length = d + 1) (hs : g.getD 0 0 + g.getD 1 0 ≠ v) : stepsL d v (gs.drop k) (cs.drop k) = [(0, 60)] := by
  have h1 := List.getElem?_eq_some_iff.1 hg
  have h2 := List.getElem?_eq_some_iff.1 hc
  rw [List.drop_eq_getElem_cons h1.1, List.drop_eq_getElem_cons h2.1, stepsL, h1.2, if_neg (fun hh => hh h), if_pos hs]
theorem stepsL_ok (d : Nat) (v : E) (gs : List (List E)) (cs : List E) (k : Nat) (g : List E) (c : E) (hg : gs[k]? = some g) (hc : cs[k]? = some c) (h : g.length = d + 1) (hs : g.getD 0 0 + g.getD 1 0 = v) :
    stepsL d v (gs.drop k) (cs.drop k) = (atE g c, 0) :: stepsL d (atE g c) (gs.drop (k + 1)) (cs.drop (k + 1)) := by
  have h1 := List.getElem?_eq_some_iff.1 hg
  have h2 := List.getElem?_eq_some_iff.1 hc
  rw [List.drop_eq_getElem_cons h1.1, List.drop_eq_getElem_cons h2.1, stepsL, h1.2, h2.2, if_neg (fun hh => hh h), if_neg (fun hh => hh hs)]
theorem stepsL_end (d : Nat) (v : E) (gs : List (List E)) (cs : List E) (k : Nat) (h : gs.length ≤ k) : stepsL d v (gs.drop k) (cs.drop k) = [] := by
  rw [List.drop_eq_nil_of_le h]
  rfl
/-- The data, and the iterator's boxes. -/
def StS6 (n0 Bv : Nat) (g : Nat) : Prop := g < n0 ∨ g = Bv ∨ g = Bv + 1 ∨ g = Bv + 2
def StD6 (n0 Bv : Nat) (g : Nat) : Prop := g < n0 ∨ g = Bv + 1 ∨ g = Bv + 2
theorem StD6.keeps {n0 Bv : Nat} {A B : World} (h : Keeps (StS6 n0 Bv) A B) : Keeps (StD6 n0 Bv) A B := ⟨h.size, fun g hg hl => h.same g (by unfold StD6 at hg; unfold StS6; omega) hl⟩
set_option maxRecDepth 100000 in
set_option maxHeartbeats 4000000 in
theorem wSteps (v : E) (gs : List (List E)) (cs : List E) (d n0 Bv lo : Nat) (vr vc : Value) (n : Nat) (hn : 1 ≤ n) (w : World) (hgs : TabS lo n0 w vr gs) (hcs : ExtS lo n0 w vc cs) (hl : gs.length = cs.length) (hgl : gs.length ≤ 1000) (hd : d ≤ 3) (hd1 : 1 ≤ d)
    (b0 : Blk w Bv 30 #[.int .u64 (fv v.a), .int .u64 (fv v.b)]) (b1 : Blk w (Bv + 1) 37 #[vr]) (b2 : Blk w (Bv + 2) 112 #[vc, .int .i64 (d : Int)]) (hB : n0 ≤ Bv) :
    SeqCell n Tryz.prog 134 #[.pointer (some ⟨Bv + 1, 0, none⟩), .pointer (some ⟨Bv + 2, 0, none⟩), .pointer (some ⟨Bv, 0, none⟩)] (fun x : E × Int => #[stv x]) Bv (StS6 n0 Bv) (stepsL d v gs cs) w := fun l J W hW hJ1 hJ2 hY h0 => by
  obtain ⟨A, cap, rfl⟩ := hgs.len
  obtain ⟨AC, capC, rfl⟩ := Rd.len hcs
  have hop := open_wide Tryz.prog
  have hgsW := hgs.keep hW
  have hcsW := Rd.keep hcs hW
  have b0W := b0.keep hW
  have b1W := b1.keep hW
  have b2W := b2.keep hW
  rw [← hl] at b2W
  have HL := Lib.hid hl
  have HJ1 := Lib.hid hJ1
  have HJ2 := Lib.hid hJ2
  have HY := Lib.hid hY
  have HGS := Lib.hid hgsW
  have HCS := Lib.hid hcsW
  clear hgs hcs b0 b1 b2 hl hgsW hcsW hJ1 hJ2 hY hW
  refine callsIn_of_wp Tryz.func134 rfl trivial ?_ rfl
  simp only [Tryz.ntmps134, List.size_toArray, List.length_cons, List.length_nil, Nat.reduceAdd, Nat.reduceSub, Array.replicate_succ, Array.replicate_zero, List.push_toArray, List.append_toArray, List.nil_append, List.cons_append]
  have c1 := b1W.cell
  gi_wp2
  clear c1
  gi_loopw [9] (fun i wr => ∃ k : Nat, k ≤ gs.length ∧ i = .int .i64 k ∧ ∃ pre vk, stepsL d v gs cs = pre ++ stepsL d vk (gs.drop k) (cs.drop k) ∧ J pre wr ∧ Blk wr Bv 30 #[.int .u64 (fv vk.a), .int .u64 (fv vk.b)] ∧ Keeps (StD6 n0 Bv) W wr) (fun i _ => gs.length - (intOf i).toNat)
  case atStart => exact ⟨0, Nat.zero_le _, rfl, [], v, by simp, h0, b0W, Keeps.refl _⟩
  case round =>
    obtain ⟨k, hk, rfl, pre, vk, hpre, hJs, bv, hnx⟩ := hrel
    clear b0W h0
    by_cases hlt : k < gs.length
    · obtain ⟨g, hgk⟩ : ∃ g, gs[k]? = some g := ⟨_, List.getElem?_eq_getElem hlt⟩
      obtain ⟨c, hck⟩ : ∃ c, cs[k]? = some c := ⟨_, List.getElem?_eq_getElem (by rw [← HL.out]; exact hlt)⟩
      obtain ⟨b, off, cap', hv, q1, q2, q3, q4, q5⟩ := tabs_cells HGS.out (by omega)
      cases hv
      obtain ⟨A2, c2, d0, hE⟩ := q5 k g hgk
      have d1 := hnx.cell (show StD6 n0 Bv b from .inl q3) d0
      have o1 := hnx.cell (show StD6 n0 Bv (Bv + 1) from .inr (.inl rfl)) (b1W.cell 0)
      have o2 := hnx.cell (show StD6 n0 Bv (Bv + 2) from .inr (.inr rfl)) (b2W.cell 1)
      have o3 := hnx.cell (show StD6 n0 Bv (Bv + 2) from .inr (.inr rfl)) (b2W.cell 0)
      have hgl2 := hE.2.1
      have HGK := Lib.hid hgk
      have HCK := Lib.hid hck
      have HP := Lib.hid hpre
      clear q5 d0 hgk hck hpre
      by_cases hbad : g.length = d + 1
      · have hb1 : ((g.length : Int) != (d : Int) + 1) = false := by simp; omega
        obtain ⟨b2, off2, cap2, hv, r1, r2, r3, r4, r5⟩ := exts_cells hE (by omega)
        rw [hbad] at hv
        cases hv
        obtain ⟨x, hx, hxd⟩ := get_of (l := g) (k := 0) (by omega)
        obtain ⟨y, hy0, hyd⟩ := get_of (l := g) (k := 1) (by omega)
        obtain ⟨d3, d4⟩ := r5 0 x hx
        obtain ⟨d5, d6⟩ := r5 1 y hy0
        simp only [Nat.zero_mul, Nat.one_mul, Nat.add_zero, Nat.add_assoc, Nat.reduceAdd] at d3 d4 d5 d6
        have hbl : b2 < wr.heap.size := Nat.lt_of_lt_of_le r4 hnx.size
        have f1 := gw_cell hbl (hnx.cell (show StD6 n0 Bv b2 from .inl r3) d3)
        have f2 := gw_cell hbl (hnx.cell (show StD6 n0 Bv b2 from .inl r3) d4)
        have f3 := gw_cell hbl (hnx.cell (show StD6 n0 Bv b2 from .inl r3) d5)
        have f4 := gw_cell hbl (hnx.cell (show StD6 n0 Bv b2 from .inl r3) d6)
        have f5 := gw_blk bv
        have HE : Hid (ExtS lo n0 W (.slice (some ⟨b2, off2, none⟩) (d + 1) c2) g) := by rw [← hbad]; exact hE
        have HSm := Lib.hid (show g.getD 0 0 + g.getD 1 0 = x + y by rw [hxd, hyd])
        have HBad := Lib.hid hbad
        rw [hbad] at d1
        clear r5 d3 d4 d5 d6 hx hy0 hxd hyd hE hbad
        by_cases hs : x + y = vk
        · have hxs := Lib.hid (stepsL_ok d vk gs cs k g c HGK.out HCK.out HBad.out (by rw [HSm.out]; exact hs))
          have HA : ∀ W1, Calls Tryz.prog 32 #[ev x, ev y] W1 (Ret (ev vk) W1) := fun W1 => by rw [← hs]; exact eAdd x y W1
          have HAd := Lib.hid HA
          clear HA hs
          gi_wp2_with fail
          refine wpIn_region_rg hop 9 [(6, Spec.val (.agg #[.int .u64 (fv (vk).a), .int .u64 (fv (vk).b)]))] (by kernel_rfl) (by kernel_rfl) (by kernel_rfl) trivial ?_
          refine rg_det rfl rfl rfl (fun K hK => ?_)
          go_big_quiet_op
          refine hK _ ?_; clear hK K
          refine rg_det rfl rfl rfl (fun K hK => ?_)
          go_big_quiet_op
          refine hK _ ?_; clear hK K
          refine rg_det rfl rfl rfl (fun K hK => ?_)
          go_big_quiet_op
          refine hK _ ?_; clear hK K
          refine rg_det rfl rfl rfl (fun K hK => ?_)
          go_big_quiet_op
          refine hK _ ?_; clear hK K
          refine rg_det rfl rfl rfl (fun K hK => ?_)
          go_big_quiet_op
          refine hK _ ?_; clear hK K
          refine rg_det rfl rfl rfl (fun K hK => ?_)
          go_big_quiet_op
          refine hK _ ?_; clear hK K
          refine rg_val rfl rfl (fun W1 hW1 hF => step_callv en_attestor_ext_Add (HAd.out W1) rfl rfl) ?_
          intro a' ha
          simp only [Act.put, List.setIfInBounds_toArray, List.set_cons_succ, List.set_cons_zero] at ha
          subst ha
          refine rg_det rfl rfl rfl (fun K hK => ?_)
          go_big_quiet_op
          refine hK _ ?_; clear hK K
          refine rg_det rfl rfl rfl (fun K hK => ?_)
          go_big_quiet_op
          refine hK _ ?_; clear hK K
          refine rg_nil (fun w' hw' hF => ?_)
          obtain ⟨z, rfl⟩ := hw'
          simp only [List.drop_succ_cons, List.drop_zero]
          have bz := bv.gw z
          have hJz := HJ1.out pre wr z.w hJs z.h
          have hnz := hnx.trans (Keeps.of_below z.h)
          have o3z := (z.h.cell (p := ⟨Bv + 2, 0, none⟩) (Nat.lt_of_lt_of_le b2W.lt hnx.size)).trans o3
          obtain ⟨b3, off3, cap3, hv, t1, t2, t3, t4, t5⟩ := exts_cells HCS.out (by rw [← HL.out]; omega)
          cases hv
          obtain ⟨k1, k2⟩ := t5 k c HCK.out
          have k1z := hnz.cell (show StD6 n0 Bv b3 from .inl t3) k1
          have k2z := hnz.cell (show StD6 n0 Bv b3 from .inl t3) k2
          have hEz : ExtS lo n0 z.w (.slice (some ⟨b2, off2, none⟩) (d + 1) c2) g := Keeps.rd HE.out hnz (fun i h1 h2 => .inl h2)
          have HEZ := Lib.hid hEz
          clear t5 k1 k2 hF f1 f2 f3 f4 f5 o3 hEz
          gi_wp2_with fail
          refine ⟨trivial, (callsIn_wide.2 (gAt g c (by rw [HBad.out]; omega) _ lo n0 z.w HEZ.out)).mono ?_⟩
          rintro e w5 ⟨he, hb5⟩
          have hcs5 : stepsL d v gs cs = (pre ++ [(atE g c, 0)]) ++ stepsL d (atE g c) (gs.drop (k + 1)) (cs.drop (k + 1)) := by rw [HP.out, hxs.out, List.append_assoc]; rfl
          have HCS5 := Lib.hid hcs5
          clear hcs5 hxs
          unfold ev at he
          subst he
          generalize atE g c = u at *
          have bz5 := bz.keep hb5
          have e1 := bz5.frozen
          have e2 := bz5.cell
          have hp6 : Put w5 ((w5.setCell ⟨Bv, 0, none⟩ (.int .u64 (fv u.a))).setCell ⟨Bv, 1, none⟩ (.int .u64 (fv u.b))) Bv := (Put.set _ Bv _ _).trans (Put.set _ Bv _ _)
          have hJ6 := HJ2.out pre _ _ (HJ1.out pre _ _ hJz hb5) hp6
          have bv6 : Blk ((w5.setCell ⟨Bv, 0, none⟩ (.int .u64 (fv u.a))).setCell ⟨Bv, 1, none⟩ (.int .u64 (fv u.b))) Bv 30 #[.int .u64 (fv u.a), .int .u64 (fv u.b)] := blk_set2 bz5
          have hn6 : Keeps (StD6 n0 Bv) W ((w5.setCell ⟨Bv, 0, none⟩ (.int .u64 (fv u.a))).setCell ⟨Bv, 1, none⟩ (.int .u64 (fv u.b))) := (hnz.trans (Keeps.of_below hb5)).trans ⟨by rw [hp6.size]; exact Nat.le_refl _, fun i hi _ => hp6.other i (by unfold StD6 at hi; omega)⟩
          obtain ⟨fn, tmps, assign, body, hy, hR⟩ := HY.out pre (u, 0) _ hJ6 (by rw [HCS5.out]; simp)
          simp only [stv, stc] at hy
          have HN6 := Lib.hid hn6
          have HB6 := Lib.hid bv6
          clear hJ6 hp6 hn6 bv6 hnz hJz o3z k1z k2z
          gi_wp2
          refine hR.mono ?_
          rintro e W3 ⟨rfl, hJ3, hk3⟩
          have bv7 := Lib.hid (show Blk W3 Bv 30 #[.int .u64 (fv u.a), .int .u64 (fv u.b)] from (hk3.same Bv (.inr (.inl rfl)) HB6.out.lt).trans HB6.out)
          have hn7 := Lib.hid (HN6.out.trans (StD6.keeps hk3))
          clear e1 e2
          gi_wp2
          go_roundw
          case rel => exact ⟨k + 1, by omega, by go_num, _, u, HCS5.out, hJ3, bv7.out, hn7.out⟩
          case measure => simp [intOf]; omega
        · have hxs : stepsL d v gs cs = pre ++ [(0, 60)] := by rw [HP.out, stepsL_sum d vk gs cs k g c HGK.out HCK.out HBad.out (by rw [HSm.out]; exact hs)]
          have HXS := Lib.hid hxs
          have hne : fv (x + y).a = fv vk.a → ¬ fv (x + y).b = fv vk.b := fun h1 h2 => hs (E.ext_ (fv_inj h1) (fv_inj h2))
          clear hxs hs
          by_cases ha : fv (x + y).a = fv vk.a
          · have hb := hne ha
            clear hne
            gi_wp2_with fail
            refine wpIn_region_rg hop 9 [(6, Spec.val (.agg #[.int .u64 (fv (x + y).a), .int .u64 (fv (x + y).b)]))] (by kernel_rfl) (by kernel_rfl) (by kernel_rfl) trivial ?_
            refine rg_det rfl rfl rfl (fun K hK => ?_)
            go_big_quiet_op
            refine hK _ ?_; clear hK K
            refine rg_det rfl rfl rfl (fun K hK => ?_)
            go_big_quiet_op
            refine hK _ ?_; clear hK K
            refine rg_det rfl rfl rfl (fun K hK => ?_)
            go_big_quiet_op
            refine hK _ ?_; clear hK K
            refine rg_det rfl rfl rfl (fun K hK => ?_)
            go_big_quiet_op
            refine hK _ ?_; clear hK K
            refine rg_det rfl rfl rfl (fun K hK => ?_)
            go_big_quiet_op
            refine hK _ ?_; clear hK K
            refine rg_det rfl rfl rfl (fun K hK => ?_)
            go_big_quiet_op
            refine hK _ ?_; clear hK K
            refine rg_val rfl rfl (fun W1 hW1 hF => step_callv en_attestor_ext_Add (eAdd x y W1) rfl rfl) ?_
            intro a' ha
            simp only [Act.put, List.setIfInBounds_toArray, List.set_cons_succ, List.set_cons_zero] at ha
            subst ha
            refine rg_det rfl rfl rfl (fun K hK => ?_)
            go_big_quiet_op
            refine hK _ ?_; clear hK K
            refine rg_det rfl rfl rfl (fun K hK => ?_)
            go_big_quiet_op
            refine hK _ ?_; clear hK K
            refine rg_nil (fun w' hw' hF => ?_)
            obtain ⟨z, rfl⟩ := hw'
            simp only [List.drop_succ_cons, List.drop_zero]
            have hJz := HJ1.out pre wr z.w hJs z.h
            obtain ⟨fn, tmps, assign, body, hy, hR⟩ := HY.out pre (0, 60) z.w hJz (by rw [HXS.out]; simp)
            simp only [stv, stc, zero_a, zero_b, fv_zero] at hy
            clear hF f1 f2 f3 f4 f5
            gi_wp2
            refine hR.mono ?_
            rintro e W3 ⟨rfl, hJ3, -⟩
            gi_wp2
            refine bodyPost_ret (results_none rfl _ _ _) rfl ?_
            exact ⟨⟨_, rfl⟩, by rw [HXS.out]; exact hJ3⟩
          · clear hne
            gi_wp2_with fail
            refine wpIn_region_rg hop 9 [(6, Spec.val (.agg #[.int .u64 (fv (x + y).a), .int .u64 (fv (x + y).b)]))] (by kernel_rfl) (by kernel_rfl) (by kernel_rfl) trivial ?_
            refine rg_det rfl rfl rfl (fun K hK => ?_)
            go_big_quiet_op
            refine hK _ ?_; clear hK K
            refine rg_det rfl rfl rfl (fun K hK => ?_)
            go_big_quiet_op
            refine hK _ ?_; clear hK K
            refine rg_det rfl rfl rfl (fun K hK => ?_)
            go_big_quiet_op
            refine hK _ ?_; clear hK K
            refine rg_det rfl rfl rfl (fun K hK => ?_)
            go_big_quiet_op
            refine hK _ ?_; clear hK K
            refine rg_det rfl rfl rfl (fun K hK => ?_)
            go_big_quiet_op
            refine hK _ ?_; clear hK K
            refine rg_det rfl rfl rfl (fun K hK => ?_)
            go_big_quiet_op
            refine hK _ ?_; clear hK K
            refine rg_val rfl rfl (fun W1 hW1 hF => step_callv en_attestor_ext_Add (eAdd x y W1) rfl rfl) ?_
            intro a' ha
            simp only [Act.put, List.setIfInBounds_toArray, List.set_cons_succ, List.set_cons_zero] at ha
            subst ha
            refine rg_det rfl rfl rfl (fun K hK => ?_)
            go_big_quiet_op
            refine hK _ ?_; clear hK K
            refine rg_det rfl rfl rfl (fun K hK => ?_)
            go_big_quiet_op
            refine hK _ ?_; clear hK K
            refine rg_nil (fun w' hw' hF => ?_)
            obtain ⟨z, rfl⟩ := hw'
            simp only [List.drop_succ_cons, List.drop_zero]
            have hJz := HJ1.out pre wr z.w hJs z.h
            obtain ⟨fn, tmps, assign, body, hy, hR⟩ := HY.out pre (0, 60) z.w hJz (by rw [HXS.out]; simp)
            simp only [stv, stc, zero_a, zero_b, fv_zero] at hy
            clear hF f1 f2 f3 f4 f5
            gi_wp2
            refine hR.mono ?_
            rintro e W3 ⟨rfl, hJ3, -⟩
            gi_wp2
            refine bodyPost_ret (results_none rfl _ _ _) rfl ?_
            exact ⟨⟨_, rfl⟩, by rw [HXS.out]; exact hJ3⟩
      · have hb1 : ((g.length : Int) != (d : Int) + 1) = true := by simp; omega
        have hxs : stepsL d v gs cs = pre ++ [(0, 61)] := by rw [HP.out, stepsL_bad d vk gs cs k g c HGK.out HCK.out hbad]
        obtain ⟨fn, tmps, assign, body, hy, hR⟩ := HY.out pre (0, 61) wr hJs (by rw [hxs]; simp)
        simp only [stv, stc, zero_a, zero_b, fv_zero] at hy
        have HXS := Lib.hid hxs
        clear hxs hE
        gi_wp2
        refine hR.mono ?_
        rintro e W3 ⟨rfl, hJ3, -⟩
        gi_wp2
        refine bodyPost_ret (results_none rfl _ _ _) rfl ?_
        exact ⟨⟨_, rfl⟩, by rw [HXS.out]; exact hJ3⟩
    · obtain rfl : k = gs.length := by omega
      rw [stepsL_end d vk gs cs _ (Nat.le_refl _), List.append_nil] at hpre
      have HP := Lib.hid hpre
      clear hpre
      gi_wp2
      go_end0
      exact ⟨⟨_, rfl⟩, by rw [HP.out]; exact hJs⟩
end Go.Proofs.YtnddfeidggcplaaGreat
namespace Go.Proofs.YtnddfeidggcplaaGreat
open Go.RowKit
attribute [local go_sem] Oper.semAt_some

def lastS (v : E) (xs : List (E × Int)) : E × Int := xs.foldl (fun _ x => x) (v, 0)
theorem lastS_snoc (v : E) (xs : List (E × Int)) (x : E × Int) : lastS v (xs ++ [x]) = x := by unfold lastS; rw [List.foldl_append]; rfl
theorem below_putObj {N : Nat} {w W : World} (h : Below N w W) (l : Nat) (o : Obj) (hl : N ≤ l) : Below N w (W.putObj l o) :=
  ⟨h.os, h.tape, h.output, by simpa using h.size, fun k hk => (World.putObj_heap_other (by omega)).trans (h.block k hk)⟩
/-- What Verify hands back. -/
def vrfE (d : Int) (v : E) (gs : List (List E)) (cs : List E) : E × Int := if d < 1 ∨ 3 < d ∨ gs.length ≠ cs.length then (0, 1) else lastS v (stepsL d.toNat v gs cs)
set_option maxRecDepth 100000 in
set_option maxHeartbeats 400000 in
theorem gSteps (v : E) (A : Option Addr) (m cap : Nat) (A2 : Option Addr) (m2 cap2 : Nat) (d : Int) (w : World) : Calls Tryz.prog 114 #[ev v, .slice A m cap, .agg #[.slice A2 m2 cap2, .int .i64 d]] w fun e w' =>
    e = .returned (.func (.func 134) #[] #[.pointer (some ⟨w.heap.size + 1, 0, none⟩), .pointer (some ⟨w.heap.size + 2, 0, none⟩), .pointer (some ⟨w.heap.size, 0, none⟩)]) ∧
    w' = ((w.alloc (.cells #[.int .u64 (fv v.a), .int .u64 (fv v.b)] 30)).alloc (.cells #[.slice A m cap] 37)).alloc (.cells #[.slice A2 m2 cap2, .int .i64 d] 112) := by
  unfold ev
  go_enter Tryz.func114, Tryz.ntmps114
  go_wp2
  go_ret
  exact ⟨rfl, rfl⟩
set_option maxRecDepth 100000 in
set_option maxHeartbeats 2000000 in
theorem gVerifyArg (v : E) (gs : List (List E)) (cs : List E) (d : Int) (hd : -9223372036854775808 ≤ d ∧ d < 9223372036854775808) (hbad : d < 1 ∨ 3 < d ∨ gs.length ≠ cs.length) (vr vc : Value) (lo hi lo2 hi2 : Nat) (w : World) (hg : TabS lo hi w vr gs) (hc : ExtS lo2 hi2 w vc cs) :
    Calls Tryz.prog 73 #[ev v, vr, .agg #[vc, .int .i64 d]] w (Ret (.tuple #[ev 0, .int .i64 1]) w) := by
  obtain ⟨A, cap, rfl⟩ := hg.len
  obtain ⟨AC, capC, rfl⟩ := Rd.len hc
  have hs1 := hg.small
  have hs2 := hc.2.1
  obtain ⟨hd1, hd2⟩ := hd
  have hv0 : (.tuple #[ev 0, .int .i64 1] : Value) = .tuple #[.agg #[.int .u64 0, .int .u64 0], .int .i64 1] := rfl
  rw [hv0]
  unfold ev
  clear hg hc hv0
  by_cases h1 : d < 1
  · skip
    go_enter Tryz.func73, Tryz.ntmps73
    go_wp2_with fail
    refine bodyPost_ret (v := .tuple #[.agg #[.int .u64 0, .int .u64 0], .int .i64 1]) (by simp [results, Tryz.results73, go_sem]) rfl ⟨rfl, (((Below.refl _ _).alloc (Nat.le_refl _) _).alloc (by simp) _).alloc (by simp; omega) _⟩
  · by_cases h2 : 3 < d
    · skip
      go_enter Tryz.func73, Tryz.ntmps73
      go_wp2_with fail
      refine bodyPost_ret (v := .tuple #[.agg #[.int .u64 0, .int .u64 0], .int .i64 1]) (by simp [results, Tryz.results73, go_sem]) rfl ⟨rfl, (((Below.refl _ _).alloc (Nat.le_refl _) _).alloc (by simp) _).alloc (by simp; omega) _⟩
    · have h3 : ((gs.length : Int) != (cs.length : Int)) = true := by simp; omega
      clear hbad
      go_enter Tryz.func73, Tryz.ntmps73
      go_wp2_with fail
      refine bodyPost_ret (v := .tuple #[.agg #[.int .u64 0, .int .u64 0], .int .i64 1]) (by simp [results, Tryz.results73, go_sem]) rfl ⟨rfl, (((Below.refl _ _).alloc (Nat.le_refl _) _).alloc (by simp) _).alloc (by simp; omega) _⟩
set_option maxRecDepth 100000 in
set_option maxHeartbeats 4000000 in
theorem gVerifyOk (v : E) (gs : List (List E)) (cs : List E) (d : Nat) (hd : d ≤ 3) (hd1 : 1 ≤ d) (hl : gs.length = cs.length) (hgl : gs.length ≤ 1000) (vr vc : Value) (lo hi lo2 hi2 : Nat) (w : World) (hg : TabS lo hi w vr gs) (hc : ExtS lo2 hi2 w vc cs) :
    Calls Tryz.prog 73 #[ev v, vr, .agg #[vc, .int .i64 (d : Int)]] w (Ret (.tuple #[ev (lastS v (stepsL d v gs cs)).1, .int .i64 (lastS v (stepsL d v gs cs)).2]) w) := by
  obtain ⟨A, cap, rfl⟩ := hg.len
  obtain ⟨AC, capC, rfl⟩ := Rd.len hc
  have HG := Lib.hid hg.base
  have HC := Lib.hid (ext_base hc)
  have HL := Lib.hid hl
  rw [← hl]
  have h3 : ((gs.length : Int) != (gs.length : Int)) = false := by simp
  have HS := Lib.hid (show stepsL d v gs cs = stepsL d v gs cs from rfl)
  clear hg hc hl
  obtain ⟨xs, hxs⟩ : ∃ xs, xs = stepsL d v gs cs := ⟨_, rfl⟩
  rw [← hxs]
  have HXS := Lib.hid hxs
  clear hxs HS
  refine (callsIn_wide (n := 3)).1 ?_
  refine callsIn_of_wp_marks Tryz.func73 rfl trivial ?_ rfl
  unfold ev
  simp only [Tryz.ntmps73, List.size_toArray, List.length_cons, List.length_nil, Nat.reduceAdd, Nat.reduceSub, Array.replicate_succ, Array.replicate_zero, List.push_toArray, List.append_toArray, List.nil_append, List.cons_append]
  gi_wp2_with fail
  refine ⟨trivial, ?_⟩
  refine stk4 (M := fun W => CallsIn _ _ _ _ _ W _) fun W hB hz b1 b2 b3 b4 => ?_
  have hW : W.heap.size = w.heap.size + 1 + 1 + 1 + 1 := hz.out
  clear hz
  refine (callsIn_wide.2 (gSteps v A gs.length cap AC gs.length capC d W)).mono ?_
  rintro e w2 ⟨rfl, rfl⟩
  gi_wp2_with fail
  refine stk3 (M := fun W => Code.wpIn _ _ _ _ _ _ W) fun X hBX hzX c1 c2 c3 => ?_
  have hX : X.heap.size = W.heap.size + 1 + 1 + 1 := hzX.out
  have b3X := b3.keep hBX
  have b4X := b4.keep hBX
  have hBw := hB.trans (hBX.mono hB.size)
  have HG2 := HG.out.keep hBw
  have HC2 := Rd.keep HC.out hBw
  rw [hW] at *
  clear b1 b2 b3 b4 hBX hB hzX
  refine wpIn_seqW (wSteps v gs cs d w.heap.size (w.heap.size + 4) 0 (.slice A gs.length cap) (.slice AC gs.length capC) 2 (by decide) X HG2 (by rw [HL.out]; exact HC2) HL.out hgl hd hd1 c1 c2 c3 (by omega)) (Below.refl _ _) (by decide) rfl (enters_of Tryz.func134 (by kernel_rfl) rfl) (by omega) (fun g hg => by unfold StS6 at hg; omega)
    (fun pre V => Blk V (w.heap.size + 3) 144 (stc (lastS v pre)) ∧ Blk V (w.heap.size + 2) 30 #[.int .u64 0, .int .u64 0] ∧ Below w.heap.size w V ∧ X.heap.size ≤ V.heap.size)
    ?hI1 ?hI2 ?hI3 ?h0 9 144 stc ?assign ?body ?done
  case hI1 => exact fun s A B h hb => ⟨h.1.keep hb, h.2.1.keep hb, h.2.2.1.trans (hb.mono h.2.2.1.size), Nat.le_trans h.2.2.2 hb.size⟩
  case hI2 => exact fun s A B h hp => ⟨hp.blk h.1 (by omega), hp.blk h.2.1 (by omega), below_put h.2.2.1 hp (by omega), by rw [hp.size]; exact h.2.2.2⟩
  case hI3 => exact fun s V l o hl h => ⟨(World.putObj_heap_other (by omega)).trans h.1, (World.putObj_heap_other (by omega)).trans h.2.1, below_putObj h.2.2.1 l o (by omega), by simpa using h.2.2.2⟩
  case h0 => exact ⟨b4X, b3X, hBw, Nat.le_refl _⟩
  case assign =>
    intro l x V K hK
    simp only [stv, stc, List.setIfInBounds_toArray, List.set_cons_succ, List.set_cons_zero] at hK ⊢
    gi_wp2_with fail
    exact hK _ _ rfl rfl
  case body =>
    rintro l pre x Bx V a' rfl ⟨q1, q2, q3, q4⟩ hBx bX hlt
    simp only [stv, stc, List.setIfInBounds_toArray, List.set_cons_succ, List.set_cons_zero] at q1 bX ⊢
    have e1 := bX.cell
    have e2 := q1.frozen
    have e3 := q1.cell
    gi_wp2_with fail
    have hp : Put V (((V.setCell ⟨w.heap.size + 1 + 1 + 1, 0, none⟩ (.int .u64 (fv x.1.a))).setCell ⟨w.heap.size + 1 + 1 + 1, 1, none⟩ (.int .u64 (fv x.1.b))).setCell ⟨w.heap.size + 1 + 1 + 1, 2, none⟩ (.int .i64 x.2)) (w.heap.size + 1 + 1 + 1) := ((Put.set _ _ _ _).trans (Put.set _ _ _ _)).trans (Put.set _ _ _ _)
    refine ⟨((KeepsOthers.setCell _ _ _).trans (KeepsOthers.setCell _ _ _)).trans (KeepsOthers.setCell _ _ _), ⟨by rw [hp.size]; exact Nat.le_refl _, fun g hg _ => hp.other g (by unfold StS6 at hg; omega)⟩, ?_, hp.blk q2 (by omega), below_put q3 hp (by omega), by have := hp.size; omega⟩
    · rw [lastS_snoc]
      exact ((q1.set_ 0 _).set_ 1 _).set_ 2 _
  case done =>
    intro D V hD ⟨q1, q2, q3, q4⟩ hK
    rw [← HXS.out] at q1
    simp only [stc] at q1
    generalize lastS v xs = y at *
    have hop := open_wide Tryz.prog
    have f1 := gw_blk q1
    have hm : Tryz.prog.follows .mixedOrders = true := by kernel_rfl
    have e1 := q1.cell
    have e2 := q2.frozen
    have e3 := q2.cell
    clear f1
    gi_wp2_with fail
    gi_region
    obtain ⟨Z, hZ⟩ : ∃ Z, ((V.setCell ⟨w.heap.size + 1 + 1, 0, none⟩ (.int .u64 (fv y.1.a))).setCell ⟨w.heap.size + 1 + 1, 1, none⟩ (.int .u64 (fv y.1.b))).drew = Z := ⟨_, rfl⟩
    rw [hZ]
    have hpz : Put V ((V.setCell ⟨w.heap.size + 1 + 1, 0, none⟩ (.int .u64 (fv y.1.a))).setCell ⟨w.heap.size + 1 + 1, 1, none⟩ (.int .u64 (fv y.1.b))) (w.heap.size + 1 + 1) := (Put.set _ _ _ _).trans (Put.set _ _ _ _)
    have bZ : Blk Z (w.heap.size + 1 + 1) 30 #[.int .u64 (fv y.1.a), .int .u64 (fv y.1.b)] := by rw [← hZ]; exact blk_set2 q2
    have hBZ : Below w.heap.size w Z := by rw [← hZ]; exact (below_put q3 hpz (by omega)).drew
    have hKZ : Z.heap[D]? = some (.deferred (some [])) := by rw [← hZ]; exact (hpz.other D (by omega)).trans hK
    clear e1 e2 e3 hpz hZ q1 q2
    gi_wp2_with fail
    have hne : D ≠ w.heap.size + 1 + 1 := by omega
    refine ⟨by simp, .inl ⟨_, _, rfl, run_takeDeferred hKZ, ?_⟩⟩
    have bZ' : Blk (Z.putObj D (.deferred none)) (w.heap.size + 1 + 1) 30 #[.int .u64 (fv y.1.a), .int .u64 (fv y.1.b)] := (World.putObj_heap_other (Ne.symm hne)).trans bZ
    have e4 := bZ'.cell
    refine ⟨.tuple #[.agg #[.int .u64 (fv y.1.a), .int .u64 (fv y.1.b)], .int .i64 y.2], ?_, ?_⟩
    · simp [results, Tryz.results73, go_sem, e4]
    · exact ⟨rfl, below_putObj hBZ D _ (by omega)⟩
theorem gVerify (v : E) (gs : List (List E)) (cs : List E) (d : Int) (hd : -9223372036854775808 ≤ d ∧ d < 9223372036854775808) (hgl : gs.length ≤ 1000) (vr vc : Value) (lo hi lo2 hi2 : Nat) (w : World) (hg : TabS lo hi w vr gs) (hc : ExtS lo2 hi2 w vc cs) :
    Calls Tryz.prog 73 #[ev v, vr, .agg #[vc, .int .i64 d]] w (Ret (.tuple #[ev (vrfE d v gs cs).1, .int .i64 (vrfE d v gs cs).2]) w) := by
  by_cases hbad : d < 1 ∨ 3 < d ∨ gs.length ≠ cs.length
  · rw [show vrfE d v gs cs = (0, 1) from if_pos hbad]
    exact gVerifyArg v gs cs d hd hbad vr vc lo hi lo2 hi2 w hg hc
  · rw [show vrfE d v gs cs = lastS v (stepsL d.toNat v gs cs) from if_neg hbad]
    obtain ⟨n, rfl⟩ : ∃ n : Nat, d = (n : Int) := ⟨d.toNat, by omega⟩
    exact gVerifyOk v gs cs n (by omega) (by omega) (by omega) hgl vr vc lo hi lo2 hi2 w hg hc
end Go.Proofs.YtnddfeidggcplaaGreat
