/-
  MleStreaming: the walk.
-/
import Derived.Test.YtphokpkigbonlaaDoorChg
import Derived.Deep.Cut
namespace Go.Proofs.YtphokpkigbonlaaDoor
open Go.RowKit

/-- What lies in a round: the table, the two values, the point. -/
structure StS (w : World) (gT B np mp : Nat) (vp : Value) (p : List E) (rT : List Value) (wr : World) (T : List E) (v b : E) : Prop where
  bt : Blk wr gT 27 (T.flatMap ec ++ rT).toArray
  bv : Blk wr B 27 #[.int .u64 (fv v.a), .int .u64 (fv v.b)]
  bb : Blk wr (B + 1) 27 #[.int .u64 (fv b.a), .int .u64 (fv b.b)]
  hP : ExtS np mp wr vp p
  hB : Below w.heap.size w wr
  hs : B + 1 < wr.heap.size
structure StC (w : World) (gT B np mp : Nat) : Prop where
  h1 : gT < B
  h2 : mp ≤ B
  h3 : gT < np ∨ mp ≤ gT
  h4 : w.heap.size ≤ gT
section
variable {w : World} {gT B np mp : Nat} {vp : Value} {p : List E} {rT : List Value} {wr X : World} {T : List E} {v b : E}
theorem StS.keep (h : StS w gT B np mp vp p rT wr T v b) (hb : Below wr.heap.size wr X) : StS w gT B np mp vp p rT X T v b :=
  ⟨h.bt.keep hb, h.bv.keep hb, h.bb.keep hb, Rd.keep h.hP hb, h.hB.trans (hb.mono h.hB.size), Nat.lt_of_lt_of_le h.hs hb.size⟩
theorem StS.putT (h : StS w gT B np mp vp p rT wr T v b) (c : StC w gT B np mp) {T' : List E} (hp : Put wr X gT) (ht : Blk X gT 27 (T'.flatMap ec ++ rT).toArray) : StS w gT B np mp vp p rT X T' v b :=
  ⟨ht, hp.blk h.bv (by have := c.h1; omega), hp.blk h.bb (by have := c.h1; omega), hp.rd h.hP c.h3, below_put h.hB hp c.h4, by rw [hp.size]; exact h.hs⟩
theorem StS.putV (h : StS w gT B np mp vp p rT wr T v b) (c : StC w gT B np mp) {v' : E} (hp : Put wr X B) (ht : Blk X B 27 #[.int .u64 (fv v'.a), .int .u64 (fv v'.b)]) : StS w gT B np mp vp p rT X T v' b :=
  ⟨hp.blk h.bt (by have := c.h1; omega), ht, hp.blk h.bb (by omega), hp.rd h.hP (.inr c.h2), below_put h.hB hp (by have := c.h1; have := c.h4; omega), by rw [hp.size]; exact h.hs⟩
theorem StS.putB (h : StS w gT B np mp vp p rT wr T v b) (c : StC w gT B np mp) {b' : E} (hp : Put wr X (B + 1)) (ht : Blk X (B + 1) 27 #[.int .u64 (fv b'.a), .int .u64 (fv b'.b)]) : StS w gT B np mp vp p rT X T v b' :=
  ⟨hp.blk h.bt (by have := c.h1; omega), hp.blk h.bv (by omega), ht, hp.rd h.hP (.inr (by have := c.h2; omega)), below_put h.hB hp (by have := c.h1; have := c.h4; omega), by rw [hp.size]; exact h.hs⟩
theorem StS.putO (h : StS w gT B np mp vp p rT wr T v b) (c : StC w gT B np mp) {g : Nat} (hp : Put wr X g) (hg : B + 1 < g) : StS w gT B np mp vp p rT X T v b :=
  ⟨hp.blk h.bt (by have := c.h1; omega), hp.blk h.bv (by omega), hp.blk h.bb (by omega), hp.rd h.hP (.inr (by have := c.h2; omega)), below_put h.hB hp (by have := c.h1; have := c.h4; omega), by rw [hp.size]; exact h.hs⟩
end
set_option maxRecDepth 100000 in
set_option maxHeartbeats 8000000 in
theorem wkMleStreaming (q : Q5) (vT vP vQ vC : Value) (cs : List Chg) (w : World) (h : Q5S w.heap.size w q vT vP vQ) (hC : ChgS 0 w.heap.size w vC cs) (hL : Laid w) :
    Calls Tryd.prog 9 #[qv5 vT vP vQ q, vC] w (Ret (.bool true) w) := by
  obtain ⟨i0, hi0, iz0, iz1, iz2⟩ := info_parts ext_info
  obtain ⟨AC, capC, rfl⟩ := Rd.len hC.1
  have hcl := hC.1.2.1
  unfold qv5
  go_enter Tryd.func9, Tryd.ntmps9
  go_wp2_with fail
  refine calls_stk1 fun W1 hB1 hz1 b1 => ?_
  refine (lSanity5 W1 (hL.keep hB1)).mono ?_
  rintro e w2 ⟨rfl, hb2⟩
  have hB2 := hB1.trans (hb2.mono hB1.size)
  have e1 := (b1.keep hb2).cell
  go_wp2_with fail
  refine (lMade5 q vT vP vQ w.heap.size w2 (h.keep hB2) hB2.size).mono ?_
  rintro e w3 ⟨a, b, c, nt, mt, np, mp, ns, ms, rfl, ot, op, os, ⟨lt1, lp1, ls1, lt2, lp2, ls2⟩, ⟨dtp, dts, dps⟩, hb3⟩
  obtain ⟨Aa, capa, rfl⟩ := ot.1.len
  obtain ⟨Ab, capb, rfl⟩ := op.1.len
  obtain ⟨Ac, capc, rfl⟩ := os.1.len
  have hB3 := hB2.trans (hb3.mono hB2.size)
  have Ly := lay_made5 ot op os lt2 lp2 ls2 (hL.keep hB3)
  clear e1 h
  generalize q.t = t at *
  generalize q.p = p at *
  generalize q.s = s at *
  have hpl := Ly.pl
  have ht64 := Ly.t64
  have ht0 := Ly.t0
  obtain ⟨gT, cT, rT, hvT, l1, l2, l3, bT⟩ := ot.2 ht0
  cases hvT
  have hP3 : ExtS np mp w3 _ p := op.1
  have HT := Lib.hid Ly.tl
  have hgp : gT < np ∨ mp ≤ gT := by unfold Apart at dtp; omega
  clear Ly ot op os dtp dts dps
  go_wp2_with fail
  go_loopw [9] (fun i wr => ∃ j : Nat, j ≤ t.length ∧ i = .int .i64 j ∧ Blk wr gT 27 ((zeroK t j).flatMap ec ++ rT).toArray ∧ Put w3 wr gT) (fun i _ => t.length - (intOf i).toNat)
  case atStart => exact ⟨0, Nat.zero_le _, rfl, by rw [show zeroK t 0 = t by simp [zeroK]]; exact bT, Put.refl _ _⟩
  case round =>
    obtain ⟨j, hj, rfl, bz, hp⟩ := hrel
    by_cases hlt : j < t.length
    · have hzl := zeroK_len t j hj
      obtain ⟨x, hx⟩ : ∃ x, (zeroK t j)[j]? = some x := ⟨_, List.getElem?_eq_getElem (by rw [hzl]; exact hlt)⟩
      obtain ⟨s1, s2⟩ := blk_cellP bz hx
      have e1 := bz.frozen
      have HS := Lib.hid (zeroK_set t j hlt)
      have HZL := Lib.hid hzl
      clear hx hzl
      go_wp2_with fail
      have bz2 := blk_setP bz j 0 (by rw [HZL.out]; exact hlt)
      rw [HS.out] at bz2
      refine ⟨⟨j + 1, by omega, by go_num, by simpa [zero_a, zero_b, fv_zero] using bz2, (hp.trans (Put.set _ gT _ _)).trans (Put.set _ gT _ _)⟩, by simp [intOf]; omega⟩
    · obtain rfl : j = t.length := by omega
      rw [zeroK_all] at bz
      have hBr := below_put hB3 hp (by have := hB2.size; omega)
      have hPr := hp.rd hP3 hgp
      have hmr : mp ≤ wr.heap.size := by rw [hp.size]; exact lp2
      have hgr : gT < wr.heap.size := bz.lt
      have hCr := ChgS.keep hC hBr
      have hLr := hL.keep hBr
      have hwr := hBr.size
      have hgw : w.heap.size ≤ gT := by have := hB2.size; omega
      obtain ⟨n, hn⟩ : ∃ n, n = min cs.length 100 := ⟨_, rfl⟩
      have hmin : min (cs.length : Int) 100 = (n : Int) := by omega
      have hnc : n ≤ cs.length := by omega
      have hn100 : n ≤ 100 := by omega
      obtain ⟨N, hN⟩ : ∃ N, N = t.length := ⟨_, rfl⟩
      have hN2 := hN.trans HT.out
      rw [← hN] at bz ht0 ht64 l1 ⊢
      have HN := Lib.hid hN2
      have hN0 : N ≠ 0 := Nat.ne_of_gt ht0
      have HC := Lib.hid hC
      have HLd := Lib.hid hL
      clear hP3 bT hp hn hN hN2 HT hC hL
      go_wp2_with fail
      refine wp_stk2 fun X hBX hzX b10 b11 => ?_
      have bz := bz.keep hBX
      have hPX := Rd.keep hPr hBX
      have BX := hBr.trans (hBX.mono hwr)
      have hXs : X.heap.size = wr.heap.size + 1 + 1 := hzX.out
      clear hmin hPr hLr hCr hzX
      obtain ⟨B, hBe⟩ : ∃ B, B = wr.heap.size := ⟨_, rfl⟩
      rw [← hBe] at b10 b11 hmr hgr hXs ⊢
      clear hBX hBr hwr hBe hlt
      have hSC : StC w gT B np mp := ⟨hgr, hmr, hgp, hgw⟩
      have HCL := Lib.hid (chgT_len cs N)
      go_loopw [13] (fun i wr => ∃ j : Nat, j ≤ n ∧ i = .int .i64 j ∧ StS w gT B np mp (.slice Ab p.length capb) p rT wr (chgT cs N j) (chgV cs p N j) (chgB cs p N n j)) (fun i _ => n - (intOf i).toNat)
      case atStart => exact ⟨0, Nat.zero_le _, rfl, bz, b10, b11, hPX, BX, by omega⟩
      case round =>
        obtain ⟨j, hj, rfl, hS⟩ := hrel
        clear bz b10 b11 hPX BX
        by_cases hlt : j < n
        · have hCr := ChgS.keep HC.out hS.hB
          obtain ⟨gC, oC, cC, hv, -, -, -, q4, q5⟩ := chgs_cells hCr (by omega)
          cases hv
          obtain ⟨c, hc⟩ : ∃ c, cs[j]? = some c := ⟨_, List.getElem?_eq_getElem (by omega)⟩
          obtain ⟨m, hm⟩ : ∃ m, m = n - 1 - j := ⟨_, rfl⟩
          obtain ⟨c', hc'⟩ : ∃ c', cs[m]? = some c' := ⟨_, List.getElem?_eq_getElem (by omega)⟩
          have hca : chgAt cs j = c := by simp [chgAt, List.getD, hc]
          have hca' : chgAt cs m = c' := by simp [chgAt, List.getD, hc']
          obtain ⟨a, ha⟩ : ∃ a, a = c.i % N := ⟨_, rfl⟩
          obtain ⟨a', ha'⟩ : ∃ a', a' = c'.i % N := ⟨_, rfl⟩
          have e1 : cAt cs N j = a := by unfold cAt; rw [hca, ha]
          have e2 : cAt cs N m = a' := by unfold cAt; rw [hca', ha']
          have e3 : cBy cs j = em c.d.1 c.d.2 := by unfold cBy; rw [hca]
          have e4 : cBy cs m = em c'.d.1 c'.d.2 := by unfold cBy; rw [hca']
          have hT : chgT cs N (j + 1) = (chgT cs N j).set a ((chgT cs N j).getD a 0 + em c.d.1 c.d.2) := by rw [chgT, e1, e3]
          have hV := chgV_succ cs p N j
          rw [e1, e3] at hV
          have hBk := chgB_succ cs p N n j
          rw [← hm, e2, e4] at hBk
          obtain ⟨ok1, ok2, ok3⟩ := HC.out.2 c (List.mem_of_getElem? hc)
          obtain ⟨ok1', ok2', ok3'⟩ := HC.out.2 c' (List.mem_of_getElem? hc')
          obtain ⟨d1, d2, d3⟩ := q5 j c hc
          obtain ⟨d1', d2', d3'⟩ := q5 m c' hc'
          have haN : a < N := by rw [ha]; exact Nat.mod_lt _ ht0
          have haN' : a' < N := by rw [ha']; exact Nat.mod_lt _ ht0
          have hm1 : Int.tmod (c.i : Int) (N : Int) = (a : Int) := by rw [ha]; rfl
          have hm2 : (c.i : Int) % (N : Int) = (a : Int) := by rw [ha]; rfl
          have hm3 : Int.tmod (c'.i : Int) (N : Int) = (a' : Int) := by rw [ha']; rfl
          have hm4 : (c'.i : Int) % (N : Int) = (a' : Int) := by rw [ha']; rfl
          have hix : (n : Int) - 1 - (j : Int) = (m : Int) := by omega
          have hmc : m < cs.length := by omega
          have hjc : j < cs.length := by omega
          have htl := HCL.out j
          obtain ⟨x, hx, hxd⟩ := get_of (l := chgT cs N j) (k := a) (by rw [htl]; exact haN)
          rw [hxd] at hT
          have HX := Lib.hid hx
          have HTL := Lib.hid htl
          have HT2 := Lib.hid hT
          have HV := Lib.hid hV
          have HB2 := Lib.hid hBk
          generalize hTj : chgT cs N j = T at *
          generalize chgV cs p N j = v at *
          generalize chgB cs p N n j = bk at *
          generalize hdd : em c.d.1 c.d.2 = d at *
          generalize hdd' : em c'.d.1 c'.d.2 = d' at *
          have HM := Lib.hid (fun W1 => xMade c.d.1 c.d.2 ok2.1 ok2.2 ok3.1 ok3.2 W1)
          have HM' := Lib.hid (fun W1 => xMade c'.d.1 c'.d.2 ok2'.1 ok2'.2 ok3'.1 ok3'.2 W1)
          rw [hdd] at HM
          rw [hdd'] at HM'
          have HIX := Lib.hid hix
          have HCm := Lib.hid hc'
          have f1 := gw_cell q4 d1
          have f2 := gw_cell q4 d2
          have f3 := gw_cell q4 d3
          have hc256 : (c.i : Int) < 256 := by omega
          have hc256' : (c'.i : Int) < 256 := by omega
          clear q5 hc hc' hca hca' ha ha' e1 e2 e3 e4 hT hV hBk hx hxd htl hTj hdd hdd' hm hix ok1 ok2 ok3 ok1' ok2' ok3' hCr
          go_wp2_with fail
          refine wp_region_rg 16 [(14, Spec.val (.agg #[.int .u64 (fv (d).a), .int .u64 (fv (d).b)])), (15, Spec.rel (New 27 #[.int .u64 0, .int .u64 0]) (NewF))] (by kernel_rfl) (by kernel_rfl) (by kernel_rfl) ⟨fit_new, trivial⟩ ?_
          refine rg_det rfl rfl rfl (fun K hK => ?_)
          go_big_quiet_op
          refine hK _ ?_; clear hK K
          refine rg_det rfl rfl rfl (fun K hK => ?_)
          go_big_quiet_op
          refine hK _ ?_; clear hK K
          refine rg_det rfl rfl rfl (fun K hK => ?_)
          go_big_quiet_op
          refine hK _ ?_; clear hK K
          refine rg_det rfl rfl rfl (fun K hK => ?_)
          go_big_quiet_op
          refine hK _ ?_; clear hK K
          refine rg_det rfl rfl rfl (fun K hK => ?_)
          go_big_quiet_op
          refine hK _ ?_; clear hK K
          refine rg_det rfl rfl rfl (fun K hK => ?_)
          go_big_quiet_op
          refine hK _ ?_; clear hK K
          refine rg_det rfl rfl rfl (fun K hK => ?_)
          go_big_quiet_op
          refine hK _ ?_; clear hK K
          refine rg_det rfl rfl rfl (fun K hK => ?_)
          go_big_quiet_op
          refine hK _ ?_; clear hK K
          refine rg_det rfl rfl rfl (fun K hK => ?_)
          go_big_quiet_op
          refine hK _ ?_; clear hK K
          refine rg_det rfl rfl rfl (fun K hK => ?_)
          go_big_quiet_op
          refine hK _ ?_; clear hK K
          refine rg_det rfl rfl rfl (fun K hK => ?_)
          go_big_quiet_op
          refine hK _ ?_; clear hK K
          refine rg_det rfl rfl rfl (fun K hK => ?_)
          go_big_quiet_op
          refine hK _ ?_; clear hK K
          refine rg_det rfl rfl rfl (fun K hK => ?_)
          go_big_quiet_op
          refine hK _ ?_; clear hK K
          refine rg_det rfl rfl rfl (fun K hK => ?_)
          go_big_quiet_op
          refine hK _ ?_; clear hK K
          refine rg_val rfl rfl (fun W1 hW1 hF => step_callv en_attestor_attestorref02_Made (HM.out W1) rfl rfl) ?_
          intro a' ha
          simp only [Act.put, List.setIfInBounds_toArray, List.set_cons_succ, List.set_cons_zero] at ha
          subst ha
          refine rg_rel rfl rfl (fun W1 hW1 hF => step_new hi0 iz0 rfl) ?_
          intro n15 m15 v15 hn15 hm15 hd15 hf15 a' ha
          simp only [Act.put, List.setIfInBounds_toArray, List.set_cons_succ, List.set_cons_zero] at ha
          subst ha
          obtain rfl := hf15
          refine rg_nil (fun w' hw' hF => ?_)
          obtain ⟨z, rfl⟩ := hw'
          simp only [List.drop_succ_cons, List.drop_zero]
          obtain ⟨hm15, -, hl15, b15⟩ := end_last hF
          have S1 := hS.keep z.h
          have hsw := hS.hs
          have e1 := b15.cell
          have e2 := b15.frozen
          clear hF f1 f2 f3 hm1 hm2 hS
          go_wp2_with fail
          refine set2 (M := fun W => Code.wp _ _ _ _ W) b15 fun X hX bX => ?_
          have bX : Blk X n15 27 #[.int .u64 (fv d.a), .int .u64 (fv d.b)] := bX
          have S2 := S1.putO hSC hX (by omega)
          obtain ⟨s1, s2⟩ := blk_cellP S2.bt HX.out
          have f1 := gw_cell S2.bt.lt s1
          have f2 := gw_cell S2.bt.lt s2
          have f3 := gw_blk bX
          clear e1 e2 hX b15 S1 s1 s2
          refine wp_region_rg 9 [(7, Spec.val (.agg #[.int .u64 (fv (x + d).a), .int .u64 (fv (x + d).b)]))] (by kernel_rfl) (by kernel_rfl) (by kernel_rfl) trivial ?_
          refine rg_det rfl rfl rfl (fun K hK => ?_)
          go_big_quiet_op
          refine hK _ ?_; clear hK K
          refine rg_det rfl rfl rfl (fun K hK => ?_)
          go_big_quiet_op
          refine hK _ ?_; clear hK K
          refine rg_det rfl rfl rfl (fun K hK => ?_)
          go_big_quiet_op
          refine hK _ ?_; clear hK K
          refine rg_det rfl rfl rfl (fun K hK => ?_)
          go_big_quiet_op
          refine hK _ ?_; clear hK K
          refine rg_det rfl rfl rfl (fun K hK => ?_)
          go_big_quiet_op
          refine hK _ ?_; clear hK K
          refine rg_det rfl rfl rfl (fun K hK => ?_)
          go_big_quiet_op
          refine hK _ ?_; clear hK K
          refine rg_det rfl rfl rfl (fun K hK => ?_)
          go_big_quiet_op
          refine hK _ ?_; clear hK K
          refine rg_val rfl rfl (fun W1 hW1 hF => step_callv en_attestor_ext_Add (eAdd x d W1) rfl rfl) ?_
          intro a' ha
          simp only [Act.put, List.setIfInBounds_toArray, List.set_cons_succ, List.set_cons_zero] at ha
          subst ha
          refine rg_det rfl rfl rfl (fun K hK => ?_)
          go_big_quiet_op
          refine hK _ ?_; clear hK K
          refine rg_nil (fun w' hw' hF => ?_)
          obtain ⟨z2, rfl⟩ := hw'
          simp only [List.drop_succ_cons, List.drop_zero]
          have S3 := S2.keep z2.h
          have bd := bX.gw z2
          obtain ⟨s1, s2⟩ := blk_cellP S3.bt HX.out
          have e1 := S3.bt.frozen
          clear hF f1 f2 f3 S2 bX
          go_upto_region 14 with (fail)
          refine set2 (M := fun W => Code.wp _ _ _ _ W) S3.bt fun X4 hX4 b4 => ?_
          have hTl : a < T.length := by rw [HTL.out]; exact haN
          have b4 : Blk X4 gT 27 ((T.set a (x + d)).flatMap ec ++ rT).toArray := by rw [← flat_set_pad (x + d) rT T a hTl]; simpa using b4
          have S4 := S3.putT hSC hX4 b4
          rw [← HT2.out] at S4
          have hs3 := S3.hs
          have hz2s := z2.h.size
          have hne4 : n15 ≠ gT := by have := hSC.h1; omega
          have bd4 := hX4.blk bd hne4
          have c1 := S4.bv.cell
          have c2 := bd4.cell
          clear e1 s1 s2 b4 hX4 S3 bd
          go_wp2_with fail
          have hmp4 : mp ≤ X4.heap.size := by have := hSC.h2; have := S4.hs; omega
          refine (gAccumulate v d a p (by omega) (by omega) _ np mp X4 S4.hP hmp4 (HLd.out.keep S4.hB)).mono ?_
          rintro e w7 ⟨he, hb7⟩
          unfold ev at he
          subst he
          have S5 := S4.keep hb7
          clear c1 c2 bd4 S4
          have e1 := S5.bv.frozen
          have e2 := S5.bv.cell
          rw [← HV.out]
          generalize hv2 : chgV cs p N (j + 1) = v2 at *
          have HV2 := Lib.hid hv2
          clear hv2
          go_upto_region 15 with (fail)
          refine set2 (M := fun W => Code.wp _ _ _ _ W) S5.bv fun X6 hX6 b6 => ?_
          have b6 : Blk X6 B 27 #[.int .u64 (fv v2.a), .int .u64 (fv v2.b)] := b6
          have S6 := S5.putV hSC hX6 b6
          clear e1 e2 hX6 b6 S5
          obtain ⟨g', o', c'', hv, -, -, -, r4, r5⟩ := chgs_cells (ChgS.keep HC.out S6.hB) (by omega)
          cases hv
          obtain ⟨x1, x2, x3⟩ := r5 m c' HCm.out
          have hix := HIX.out
          clear r5 d1 d2 d3 d1' d2' d3'
          go_wp2_with fail
          refine wp_stk1 fun X7 hB7 hz7 b7 => ?_
          have S7 := S6.keep hB7
          have f1 := gw_blk S7.bb
          have f2 := gw_blk b7
          have hmp7 : mp ≤ X7.heap.size := by have := hSC.h2; have := S7.hs; omega
          have ha6 : a' ≤ 1000000 := by omega
          have hp60 : p.length ≤ 60 := by omega
          clear x1 x2 x3 hix S6
          refine wp_region_rg 12 [(9, Spec.val (.agg #[.int .u64 (fv (d').a), .int .u64 (fv (d').b)])), (11, Spec.val (.agg #[.int .u64 (fv (bk + d' * eqi a' p).a), .int .u64 (fv (bk + d' * eqi a' p).b)]))] (by kernel_rfl) (by kernel_rfl) (by kernel_rfl) trivial ?_
          refine rg_det rfl rfl rfl (fun K hK => ?_)
          go_big_quiet_op
          refine hK _ ?_; clear hK K
          refine rg_det rfl rfl rfl (fun K hK => ?_)
          go_big_quiet_op
          refine hK _ ?_; clear hK K
          refine rg_det rfl rfl rfl (fun K hK => ?_)
          go_big_quiet_op
          refine hK _ ?_; clear hK K
          refine rg_det rfl rfl rfl (fun K hK => ?_)
          go_big_quiet_op
          refine hK _ ?_; clear hK K
          refine rg_det rfl rfl rfl (fun K hK => ?_)
          go_big_quiet_op
          refine hK _ ?_; clear hK K
          refine rg_det rfl rfl rfl (fun K hK => ?_)
          go_big_quiet_op
          refine hK _ ?_; clear hK K
          refine rg_det rfl rfl rfl (fun K hK => ?_)
          go_big_quiet_op
          refine hK _ ?_; clear hK K
          refine rg_det rfl rfl rfl (fun K hK => ?_)
          go_big_quiet_op
          refine hK _ ?_; clear hK K
          refine rg_det rfl rfl rfl (fun K hK => ?_)
          go_big_quiet_op
          refine hK _ ?_; clear hK K
          refine rg_val rfl rfl (fun W1 hW1 hF => step_callv en_attestor_attestorref02_Made (HM'.out W1) rfl rfl) ?_
          intro a' ha
          simp only [Act.put, List.setIfInBounds_toArray, List.set_cons_succ, List.set_cons_zero] at ha
          subst ha
          refine rg_det rfl rfl rfl (fun K hK => ?_)
          go_big_quiet_op
          refine hK _ ?_; clear hK K
          refine rg_val rfl rfl (fun W1 hW1 hF => step_callv en_attestor_mle_Accumulate (gAccumulate bk d' a' p ha6 hp60 _ np mp W1 (Rd.keep S7.hP (grw_below hW1)) (Nat.le_trans hmp7 (grw_below hW1).size) (HLd.out.keep (S7.hB.trans ((grw_below hW1).mono S7.hB.size)))) rfl rfl) ?_
          intro a' ha
          simp only [Act.put, List.setIfInBounds_toArray, List.set_cons_succ, List.set_cons_zero] at ha
          subst ha
          refine rg_nil (fun w' hw' hF => ?_)
          obtain ⟨z3, rfl⟩ := hw'
          simp only [List.drop_succ_cons, List.drop_zero]
          have S8 := S7.keep z3.h
          have e1 := S8.bb.frozen
          have e2 := S8.bb.cell
          clear hF f1 f2 S7
          rw [← HB2.out]
          generalize hk2 : chgB cs p N n (j + 1) = bk2 at *
          have HK2 := Lib.hid hk2
          clear hk2
          go_wp2_with fail
          refine ⟨⟨j + 1, by omega, by go_num, ?_⟩, by simp [intOf]; omega⟩
          rw [HV2.out, HK2.out]
          exact S8.putB hSC ((Put.set _ (B + 1) _ _).trans (Put.set _ (B + 1) _ _)) (blk_set2 S8.bb)
        · obtain rfl : j = n := by omega
          rw [chgB_all] at hS
          have hmv := chg_mev cs p N HN.out j
          have HMV := Lib.hid hmv
          have HTl := Lib.hid ((HCL.out j).trans HN.out)
          have hmpr : mp ≤ wr.heap.size := by have := hSC.h2; have := hS.hs; omega
          have f1 := gw_blk hS.bv
          have f2 := gw_blk hS.bb
          have hTx := exts_pad hS.bt (HCL.out j) (by omega) (Nat.zero_le _) hS.bt.lt (show N ≤ capa from l1)
          clear hmv
          generalize chgT cs N j = T at *
          generalize chgV cs p N j = v at *
          go_wp2_with fail
          refine wp_region_rg 13 [(3, Spec.val (.agg #[.int .u64 (fv (v).a), .int .u64 (fv (v).b)]))] (by kernel_rfl) (by kernel_rfl) (by kernel_rfl) trivial ?_
          refine rg_det rfl rfl rfl (fun K hK => ?_)
          go_big_quiet_op
          refine hK _ ?_; clear hK K
          refine rg_det rfl rfl rfl (fun K hK => ?_)
          go_big_quiet_op
          refine hK _ ?_; clear hK K
          refine rg_det rfl rfl rfl (fun K hK => ?_)
          go_big_quiet_op
          refine hK _ ?_; clear hK K
          refine rg_val rfl rfl (fun W1 hW1 hF => step_callv en_attestor_mle_Eval ((by rw [← HMV.out]; exact gEval T p HTl.out (by omega) _ _ _ _ _ _ W1 (Rd.keep hTx (grw_below hW1)) (Rd.keep hS.hP (grw_below hW1)) (Nat.le_trans hmpr (grw_below hW1).size))) rfl rfl) ?_
          intro a' ha
          simp only [Act.put, List.setIfInBounds_toArray, List.set_cons_succ, List.set_cons_zero] at ha
          subst ha
          refine rg_det rfl rfl rfl (fun K hK => ?_)
          go_big_quiet_op
          refine hK _ ?_; clear hK K
          refine rg_det rfl rfl rfl (fun K hK => ?_)
          go_big_quiet_op
          refine hK _ ?_; clear hK K
          refine rg_det rfl rfl rfl (fun K hK => ?_)
          go_big_quiet_op
          refine hK _ ?_; clear hK K
          refine rg_det rfl rfl rfl (fun K hK => ?_)
          go_big_quiet_op
          refine hK _ ?_; clear hK K
          refine rg_det rfl rfl rfl (fun K hK => ?_)
          go_big_quiet_op
          refine hK _ ?_; clear hK K
          refine rg_det rfl rfl rfl (fun K hK => ?_)
          go_big_quiet_op
          refine hK _ ?_; clear hK K
          refine rg_det rfl rfl rfl (fun K hK => ?_)
          go_big_quiet_op
          refine hK _ ?_; clear hK K
          refine rg_det rfl rfl rfl (fun K hK => ?_)
          go_big_quiet_op
          refine hK _ ?_; clear hK K
          refine rg_det rfl rfl rfl (fun K hK => ?_)
          go_big_quiet_op
          refine hK _ ?_; clear hK K
          refine rg_nil (fun w' hw' hF => ?_)
          obtain ⟨z, rfl⟩ := hw'
          simp only [List.drop_succ_cons, List.drop_zero]
          clear hF f1 f2
          go_wp2_with fail
          go_ret
          exact ⟨rfl, hS.hB.trans (z.h.mono hS.hB.size)⟩
end Go.Proofs.YtphokpkigbonlaaDoor
