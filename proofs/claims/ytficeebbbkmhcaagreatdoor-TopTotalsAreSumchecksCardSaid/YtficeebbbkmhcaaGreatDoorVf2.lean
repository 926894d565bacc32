/-
  Round of package sumcheck, by contract.
  Prove of package sumcheck, by contract.
  Verify of package sumcheck: the iterator over the results of the rounds, by contract.
  Verify of package sumcheck, by contract.
-/
import Derived.Test.YtficeebbbkmhcaaGreatDoorZv
import Derived.Test.YtficeebbbkmhcaaGreatDoorRgM
namespace Go.Proofs.YtficeebbbkmhcaaGreatDoor
open Go.RowKit

theorem nodeE_succ (x : Nat) : nodeE (x + 1) = nodeE x + 1 := by
  unfold nodeE
  have : fz ((x + 1 : Nat) : Int) = fz (x : Int) + 1 := fv_inj (by rw [fv_fz, fv_add, fv_fz, fv_one]; omega)
  rw [this, eb_add]
  rfl
section
variable (tabs : List (List E)) (ps : List Trm)
def outF (m x : Nat) : E := totK (bndE tabs (nodeE x)) ps m
def stpF (m k : Nat) : E := valT tabs (2 * m + 1) k - valT tabs (2 * m) k
def curF (m x k : Nat) : E := valT tabs (2 * m) k + nodeE x * stpF tabs m k
theorem curF_zero (m k : Nat) : curF tabs m 0 k = valT tabs (2 * m) k := by unfold curF; rw [nodeE_zero, E.zero_mul, E.add_zero]
theorem curF_succ (m x k : Nat) : curF tabs m (x + 1) k = curF tabs m x k + stpF tabs m k := by
  unfold curF
  rw [nodeE_succ, E.add_mul, E.one_mul, E.add_assoc]
theorem outF_succ (m x n : Nat) (hall : AllLen tabs (2 * n)) (hm : m < n) (hix : ∀ p ∈ ps, ∀ k ∈ p.t, k < tabs.length) :
    outF tabs ps (m + 1) x = outF tabs ps m x + finE (valL (rngL tabs.length (curF tabs m x))) ps := by
  unfold outF
  rw [totK_succ]
  congr 1
  refine finE_congr _ _ ps tabs.length hix fun k hk => ?_
  rw [valT_bnd tabs _ n m k hall hm]
  unfold valL
  rw [List.getD_eq_getElem?_getD, rngL_get _ _ k hk]
  rfl
theorem rnd_all (n : Nat) (hall : AllLen tabs (2 * n)) (h0 : 0 < tabs.length) : rngL (degE ps + 1) (outF tabs ps n) = rndE tabs ps := by
  unfold rndE rngL
  apply List.map_congr_left
  intro x _
  unfold outF totE
  rw [(hall.bnd _).lenT (by rw [bndE_length]; exact h0)]
end
structure RnS (w : World) (D N go gc gs : Nat) (vt vp : Value) (wr : World) (fo fc fs : Nat → E) : Prop where
  bo : Blk wr go 39 ((rngL D fo).flatMap ec).toArray
  bc : Blk wr gc 39 ((rngL N fc).flatMap ec).toArray
  bs : Blk wr gs 39 ((rngL N fs).flatMap ec).toArray
  bx : Blk wr w.heap.size 46 #[vt, vp]
  hB : Below w.heap.size w wr
structure RnC (w : World) (go gc gs : Nat) : Prop where
  h1 : w.heap.size < go
  h2 : w.heap.size < gc
  h3 : w.heap.size < gs
  h4 : go ≠ gc
  h5 : go ≠ gs
  h6 : gc ≠ gs
section
variable {w wr X : World} {D N go gc gs : Nat} {vt vp : Value} {fo fc fs f' : Nat → E}
theorem RnS.keep (h : RnS w D N go gc gs vt vp wr fo fc fs) (hb : Below wr.heap.size wr X) : RnS w D N go gc gs vt vp X fo fc fs := ⟨h.bo.keep hb, h.bc.keep hb, h.bs.keep hb, h.bx.keep hb, h.hB.trans (hb.mono h.hB.size)⟩
theorem RnS.setO (h : RnS w D N go gc gs vt vp wr fo fc fs) (c : RnC w go gc gs) (k : Nat) (v : E) (hk : k < D) (e : (rngL D fo).set k v = rngL D f') : RnS w D N go gc gs vt vp ((wr.setCell ⟨go, k * 2, none⟩ (.int .u64 (fv v.a))).setCell ⟨go, k * 2 + 1, none⟩ (.int .u64 (fv v.b))) f' fc fs :=
  ⟨by rw [← e]; exact blk_setE h.bo k v (by rw [rngL_length]; exact hk), blk_farE h.bc (by have := c.h4; omega), blk_farE h.bs (by have := c.h5; omega), blk_farE h.bx (by have := c.h1; omega), below_setE h.hB (by have := c.h1; omega)⟩
theorem RnS.setC (h : RnS w D N go gc gs vt vp wr fo fc fs) (c : RnC w go gc gs) (k : Nat) (v : E) (hk : k < N) (e : (rngL N fc).set k v = rngL N f') : RnS w D N go gc gs vt vp ((wr.setCell ⟨gc, k * 2, none⟩ (.int .u64 (fv v.a))).setCell ⟨gc, k * 2 + 1, none⟩ (.int .u64 (fv v.b))) fo f' fs :=
  ⟨blk_farE h.bo (by have := c.h4; omega), by rw [← e]; exact blk_setE h.bc k v (by rw [rngL_length]; exact hk), blk_farE h.bs (by have := c.h6; omega), blk_farE h.bx (by have := c.h2; omega), below_setE h.hB (by have := c.h2; omega)⟩
theorem RnS.setS (h : RnS w D N go gc gs vt vp wr fo fc fs) (c : RnC w go gc gs) (k : Nat) (v : E) (hk : k < N) (e : (rngL N fs).set k v = rngL N f') : RnS w D N go gc gs vt vp ((wr.setCell ⟨gs, k * 2, none⟩ (.int .u64 (fv v.a))).setCell ⟨gs, k * 2 + 1, none⟩ (.int .u64 (fv v.b))) fo fc f' :=
  ⟨blk_farE h.bo (by have := c.h5; omega), blk_farE h.bc (by have := c.h6; omega), by rw [← e]; exact blk_setE h.bs k v (by rw [rngL_length]; exact hk), blk_farE h.bx (by have := c.h3; omega), below_setE h.hB (by have := c.h3; omega)⟩
theorem RnS.cellO (h : RnS w D N go gc gs vt vp wr fo fc fs) (k : Nat) (hk : k < D) : wr.cell? ⟨go, k * 2, none⟩ = some (.int .u64 (fv (fo k).a)) ∧ wr.cell? ⟨go, k * 2 + 1, none⟩ = some (.int .u64 (fv (fo k).b)) := blk_cellE h.bo (rngL_get D fo k hk)
theorem RnS.cellC (h : RnS w D N go gc gs vt vp wr fo fc fs) (k : Nat) (hk : k < N) : wr.cell? ⟨gc, k * 2, none⟩ = some (.int .u64 (fv (fc k).a)) ∧ wr.cell? ⟨gc, k * 2 + 1, none⟩ = some (.int .u64 (fv (fc k).b)) := blk_cellE h.bc (rngL_get N fc k hk)
theorem RnS.cellS (h : RnS w D N go gc gs vt vp wr fo fc fs) (k : Nat) (hk : k < N) : wr.cell? ⟨gs, k * 2, none⟩ = some (.int .u64 (fv (fs k).a)) ∧ wr.cell? ⟨gs, k * 2 + 1, none⟩ = some (.int .u64 (fv (fs k).b)) := blk_cellE h.bs (rngL_get N fs k hk)
theorem RnS.congr {fo' fc' fs' : Nat → E} (h : RnS w D N go gc gs vt vp wr fo fc fs) (e1 : ∀ j, j < D → fo j = fo' j) (e2 : ∀ j, j < N → fc j = fc' j) (e3 : ∀ j, j < N → fs j = fs' j) : RnS w D N go gc gs vt vp wr fo' fc' fs' :=
  ⟨by rw [← rngL_congr D fo fo' e1]; exact h.bo, by rw [← rngL_congr N fc fc' e2]; exact h.bc, by rw [← rngL_congr N fs fs' e3]; exact h.bs, h.bx, h.hB⟩
end
def mixF (k : Nat) (f g : Nat → E) : Nat → E := fun j => if j < k then f j else g j
theorem mixF_zero (f g : Nat → E) (j : Nat) : mixF 0 f g j = g j := by unfold mixF; rw [if_neg (by omega)]
theorem mixF_all (f g : Nat → E) (k j : Nat) (h : j < k) : mixF k f g j = f j := by unfold mixF; rw [if_pos h]
theorem mixF_at (f g : Nat → E) (k : Nat) : mixF k f g k = g k := by unfold mixF; rw [if_neg (by omega)]
theorem mixF_set (n : Nat) (f g : Nat → E) (k : Nat) : (rngL n (mixF k f g)).set k (f k) = rngL n (mixF (k + 1) f g) := by
  rw [rngL_set]
  refine rngL_congr _ _ _ fun j _ => ?_
  unfold mixF
  by_cases h : j = k
  · subst h; rw [if_pos rfl, if_pos (by omega)]
  · rw [if_neg h]
    by_cases h2 : j < k
    · rw [if_pos h2, if_pos (by omega)]
    · rw [if_neg h2, if_neg (by omega)]
set_option maxRecDepth 100000 in
set_option maxHeartbeats 8000000 in
theorem gRound (tabs : List (List E)) (ps : List Trm) (n : Nat) (hall : AllLen tabs (2 * n)) (h0 : 0 < tabs.length) (hl : tabs.length ≤ 1000) (hn : n ≤ 100000) (vt vp : Value) (lo hi : Nat) (w : World) (h : SumS lo hi w vt vp tabs ps) :
    Calls Tryz.prog 39 #[sv vt vp] w (RetR (ExtA (rndE tabs ps)) w) := by
  obtain ⟨A, capt, rfl⟩ := h.ht.len
  obtain ⟨D, hD⟩ : ∃ D, D = degE ps + 1 := ⟨_, rfl⟩
  have hD1 : D ≤ 1001 := by
    have : degE ps ≤ 1000 := degE_le ps 1000 (by decide) h.short
    omega
  have hdeg : ((degE ps : Nat) : Int) + 1 = (D : Int) := by omega
  obtain ⟨N, hN⟩ : ∃ N, N = tabs.length := ⟨_, rfl⟩
  have HR := Lib.hid (show rngL D (outF tabs ps n) = rndE tabs ps by rw [hD]; exact rnd_all tabs ps n hall h0)
  have HO := Lib.hid (fun m x (hm : m < n) => outF_succ tabs ps m x n hall hm h.ix)
  have HA := Lib.hid hall
  have HH := Lib.hid h
  rw [← hN] at h0 hl HH HO ⊢
  have HN := Lib.hid hN
  have HD := Lib.hid hD
  obtain ⟨g, off, cap', hv, q1, q2, q3, q4, q5⟩ := tabs_cells h.ht (by rw [← hN]; exact h0)
  rw [← hN] at hv q1
  cases hv
  obtain ⟨t0, ht0⟩ : ∃ t, tabs[0]? = some t := ⟨_, List.getElem?_eq_getElem (by rw [← hN]; exact h0)⟩
  obtain ⟨A0, c0, k0, hE0⟩ := q5 0 t0 ht0
  rw [hall t0 (List.mem_of_getElem? ht0), Nat.add_zero] at k0
  have HQ := Lib.hid q5
  have HK0 := Lib.hid k0
  clear hall h hN hD q5 ht0 hE0 k0
  unfold sv
  go_enter Tryz.func39, Tryz.ntmps39
  go_wp2_with fail
  refine calls_stk1 fun W hB hz b1 => ?_
  have hW := hz.out
  clear hz
  have hS1 := HH.out.keep hB
  refine (gDegree (.slice (some ⟨g, off, none⟩) N capt) vp ps lo hi W hS1.hp HH.out.short).mono ?_
  rintro e w2 ⟨rfl, hb2⟩
  have HMK := Lib.hid (mk_ext D (by omega))
  have b2 := b1.keep hb2
  have hB2 := hB.trans (hb2.mono hB.size)
  clear hS1 b1 hB
  go_upto_region 2 with (simp only [HMK.out])
  refine wp_stk1 fun X hBX hzX bo => ?_
  have hX := hzX.out
  have b3 := b2.keep hBX
  have hB3 := hB2.trans (hBX.mono hB2.size)
  have hw2 := b2.lt
  clear hzX hBX b2 hB2 hb2
  have c1 := gw_blk b3
  refine wp_region_rg 10 [(3, Spec.rel (Lit 39 N ((List.replicate N (0 : E)).flatMap ec).toArray) (LitF N)), (7, Spec.rel (Lit 39 N ((List.replicate N (0 : E)).flatMap ec).toArray) (LitF N))] (by kernel_rfl) (by kernel_rfl) (by kernel_rfl) ⟨fit_lit, fit_lit, trivial⟩ ?_
  iterate 3 (refine rg_det rfl rfl rfl (fun K hK => ?_); go_big_quiet_op; refine hK _ ?_; clear hK K)
  refine rg_rel rfl rfl (fun W1 hW1 hF => step_mkE N (by omega) rfl rfl rfl) ?_
  intro n3 m3 v3 hn3 hm3 hd3 hf3 a' ha
  simp only [Act.put, List.setIfInBounds_toArray, List.set_cons_succ, List.set_cons_zero] at ha
  subst ha
  obtain rfl := hf3
  iterate 3 (refine rg_det rfl rfl rfl (fun K hK => ?_); go_big_quiet_op; refine hK _ ?_; clear hK K)
  refine rg_rel rfl rfl (fun W1 hW1 hF => step_mkE N (by omega) rfl rfl rfl) ?_
  intro n7 m7 v7 hn7 hm7 hd7 hf7 a' ha
  simp only [Act.put, List.setIfInBounds_toArray, List.set_cons_succ, List.set_cons_zero] at ha
  subst ha
  obtain rfl := hf7
  iterate 2 (refine rg_det rfl rfl rfl (fun K hK => ?_); go_big_quiet_op; refine hK _ ?_; clear hK K)
  refine rg_nil (fun w' hw' hF => ?_)
  obtain ⟨z, rfl⟩ := hw'
  simp only [List.drop_succ_cons, List.drop_zero]
  obtain ⟨hm3b, -, hl3, bc⟩ := end_last (end_init hF)
  obtain ⟨hm7b, -, hl7, bs⟩ := end_last hF
  have hdd := hd7 (n3, m3) (by simp)
  simp only at hdd
  obtain ⟨go, hgo⟩ : ∃ go, go = w2.heap.size := ⟨_, rfl⟩
  rw [← hgo] at bo hw2 hX ⊢
  have HC : Hid (RnC w go n3 n7) := Lib.hid ⟨by omega, by omega, by omega, by omega, by omega, by omega⟩
  rw [rngL_zero] at bo bc bs
  have hS0 : RnS w D N go n3 n7 (.slice (some ⟨g, off, none⟩) N capt) vp z.w (fun _ => 0) (fun _ => 0) (fun _ => 0) := ⟨bo.gw z, bc, bs, b3.gw z, hB3.trans (z.h.mono hB3.size)⟩
  have hS1 : RnS w D N go n3 n7 (.slice (some ⟨g, off, none⟩) N capt) vp z.w (outF tabs ps 0) (fun _ => 0) (fun _ => 0) := hS0.congr (fun _ _ => rfl) (fun _ _ => rfl) (fun _ _ => rfl)
  clear hS0 hF c1 b3 bo bc bs hd3 hd7 hdd hB3 hgo
  obtain ⟨Z, hZ⟩ : ∃ Z, Z = z.w := ⟨_, rfl⟩
  rw [← hZ] at hS1 ⊢
  clear hZ hm3b hm7b hl3 hl7 hm3 hm7 hn3 hn7 z
  go_wp2_with fail
  go_loopw [6] (fun i wr => ∃ m : Nat, m ≤ n ∧ i = .int .i64 ((2 * m : Nat) : Int) ∧ ∃ fc fs, RnS w D N go n3 n7 (.slice (some ⟨g, off, none⟩) N capt) vp wr (outF tabs ps m) fc fs) (fun i _ => 2 * n - (intOf i).toNat)
  case atStart => exact ⟨0, Nat.zero_le _, rfl, _, _, hS1⟩
  case round =>
    obtain ⟨m, hm, rfl, fc, fs, hS⟩ := hrel
    clear hS1
    have k0 := (hS.hB.cell (p := ⟨g, off, none⟩) q4).trans HK0.out
    have q6 : g < wr.heap.size := Nat.lt_of_lt_of_le q4 hS.hB.size
    have e0 := hS.bx.cell
    by_cases hlt : m < n
    · have hlt2 : 2 * m < 2 * n := by omega
      go_wp2_with fail
      clear e0 k0
      go_loopw [35] (fun i wr => ∃ k : Nat, k ≤ N ∧ i = .int .i64 k ∧ RnS w D N go n3 n7 (.slice (some ⟨g, off, none⟩) N capt) vp wr (outF tabs ps m) (mixF k (fun j => valT tabs (2 * m) j) fc) (mixF k (stpF tabs m) fs)) (fun i _ => N - (intOf i).toNat)
      case atStart => exact ⟨0, Nat.zero_le _, rfl, hS.congr (fun _ _ => rfl) (fun j _ => (mixF_zero _ _ j).symm) (fun j _ => (mixF_zero _ _ j).symm)⟩
      case round =>
        obtain ⟨k, hk, rfl, hA⟩ := hrel
        clear hS
        by_cases hkl : k < N
        · obtain ⟨t, ht⟩ : ∃ t, tabs[k]? = some t := ⟨_, List.getElem?_eq_getElem (by rw [← HN.out]; exact hkl)⟩
          obtain ⟨A2, c2, d0, hE⟩ := HQ.out k t ht
          have htl := HA.out t (List.mem_of_getElem? ht)
          obtain ⟨g2, off2, cap2, hv, r1, r2, r3, r4, r5⟩ := exts_cells hE (by omega)
          rw [htl] at hv d0 r1
          cases hv
          obtain ⟨x, hx, hxd⟩ := get_of (l := t) (k := 2 * m) (by omega)
          obtain ⟨y, hy, hyd⟩ := get_of (l := t) (k := 2 * m + 1) (by omega)
          obtain ⟨d1, d2⟩ := r5 (2 * m) x hx
          obtain ⟨d3, d4⟩ := r5 (2 * m + 1) y hy
          have hgd : tabs.getD k [] = t := by simp [List.getD, ht]
          have HX : valT tabs (2 * m) k = x := by unfold valT; rw [hgd]; exact hxd
          have HY : stpF tabs m k = y - x := by unfold stpF valT; rw [hgd, hxd, hyd]
          have HS1 := Lib.hid (mixF_set N (fun j => valT tabs (2 * m) j) fc k)
          have HS2 := Lib.hid (mixF_set N (stpF tabs m) fs k)
          rw [HX] at HS1
          rw [HY] at HS2
          have d0' := (hA.hB.cell (p := ⟨g, off + k, none⟩) q4).trans d0
          have q7 : g < wr.heap.size := Nat.lt_of_lt_of_le q4 hA.hB.size
          have q8 : g2 < wr.heap.size := Nat.lt_of_lt_of_le r4 hA.hB.size
          have f1 := gw_cell q8 ((hA.hB.cell (p := ⟨g2, off2 + 2 * m * 2, none⟩) r4).trans d1)
          have f2 := gw_cell q8 ((hA.hB.cell (p := ⟨g2, off2 + 2 * m * 2 + 1, none⟩) r4).trans d2)
          have f3 := gw_cell q8 ((hA.hB.cell (p := ⟨g2, off2 + (2 * m + 1) * 2, none⟩) r4).trans d3)
          have f4 := gw_cell q8 ((hA.hB.cell (p := ⟨g2, off2 + (2 * m + 1) * 2 + 1, none⟩) r4).trans d4)
          have hm1 : 2 * m + 1 < 2 * n := by omega
          clear r5 d1 d2 d3 d4 hx hy hxd hyd hgd HX HY ht hE htl d0
          go_wp2_with fail
          clear d0'
          refine wp_region_lateM 18 [2,3] [(17, Spec.val (.agg #[.int .u64 (fv (y - x).a), .int .u64 (fv (y - x).b)]))] (by kernel_rfl) (by kernel_rfl) (by kernel_rfl) (by kernel_rfl) (by intro _ _ d _ _ h; cases d <;> exact h) trivial ?_
          iterate 17 (refine rg_det rfl rfl rfl (fun K hK => ?_); go_big_quiet_op; refine hK _ ?_; clear hK K)
          refine rg_val rfl rfl (fun W1 hW1 hF => step_callv en_attestor_ext_Sub (eSub y x W1) rfl rfl) ?_
          intro a' ha
          simp only [Act.put, List.setIfInBounds_toArray, List.set_cons_succ, List.set_cons_zero] at ha
          subst ha
          refine rg_nil (fun w' hw' hF => ?_)
          obtain ⟨z9, rfl⟩ := hw'
          simp only [List.drop_succ_cons, List.drop_zero]
          have S9 := hA.keep z9.h
          obtain ⟨s1, s2⟩ := S9.cellC k hkl
          obtain ⟨s3, s4⟩ := S9.cellS k hkl
          have e1 := S9.bc.frozen
          have e2 := S9.bs.frozen
          have hne := HC.out.h6
          have S10 := Lib.hid ((S9.setC HC.out k x hkl HS1.out).setS HC.out k (y - x) hkl HS2.out)
          clear hF f1 f2 f3 f4 hA S9 HS1 HS2
          go_wp2_with fail
          exact ⟨⟨k + 1, by omega, by go_num, S10.out⟩, by simp [intOf]; omega⟩
        · obtain rfl : k = N := by omega
          have S1 : RnS w D k go n3 n7 (.slice (some ⟨g, off, none⟩) k capt) vp wr (mixF 0 (outF tabs ps (m + 1)) (outF tabs ps m)) (curF tabs m 0) (stpF tabs m) := hA.congr (fun j _ => (mixF_zero _ _ j).symm) (fun j hj => by rw [mixF_all _ _ _ _ hj, curF_zero]) (fun j hj => mixF_all _ _ _ _ hj)
          clear hA
          go_wp2_with fail
          go_loopw [63] (fun i wr => ∃ x : Nat, x ≤ D ∧ i = .int .i64 x ∧ RnS w D k go n3 n7 (.slice (some ⟨g, off, none⟩) k capt) vp wr (mixF x (outF tabs ps (m + 1)) (outF tabs ps m)) (curF tabs m x) (stpF tabs m)) (fun i _ => D - (intOf i).toNat)
          case atStart => exact ⟨0, Nat.zero_le _, rfl, S1⟩
          case round =>
            obtain ⟨x, hx, rfl, hS⟩ := hrel
            clear S1
            by_cases hxl : x < D
            · have hO := HO.out m x hlt
              have HS1 := Lib.hid (mixF_set D (outF tabs ps (m + 1)) (outF tabs ps m) x)
              rw [hO] at HS1
              obtain ⟨s1, s2⟩ := hS.cellO x hxl
              rw [mixF_at] at s1 s2
              have f1 := gw_cell hS.bo.lt s1
              have f2 := gw_cell hS.bo.lt s2
              have f3 := gw_blk hS.bx
              have hFin : ∀ W1, Grw wr W1 → Calls Tryz.prog 75 #[sv (.slice (some ⟨g, off, none⟩) k capt) vp, .slice (some ⟨n3, 0, none⟩) k k] W1 (Ret (ev (finE (valL (rngL k (curF tabs m x))) ps)) W1) := fun W1 hW1 => by
                have hb := grw_below hW1
                have hS2 := hS.keep hb
                have hSm := HH.out.keep hS2.hB
                exact gFinal (rngL k (curF tabs m x)) _ vp _ ps lo hi 0 W1.heap.size W1 hSm.hp (exts_of_blk hS2.bc (rngL_length _ _) (by omega) (Nat.zero_le _) hS2.bc.lt) (by rw [rngL_length, HN.out]; exact hSm.ix) hSm.few hSm.short
              have HFin := Lib.hid hFin
              clear hO s1 s2 hFin
              generalize finE (valL (rngL k (curF tabs m x))) ps = y at *
              generalize outF tabs ps m x = q at *
              go_wp2_with fail
              refine wp_region_rg 11 [(8, Spec.val (.agg #[.int .u64 (fv (y).a), .int .u64 (fv (y).b)])), (9, Spec.val (.agg #[.int .u64 (fv (q + y).a), .int .u64 (fv (q + y).b)]))] (by kernel_rfl) (by kernel_rfl) (by kernel_rfl) trivial ?_
              iterate 8 (refine rg_det rfl rfl rfl (fun K hK => ?_); go_big_quiet_op; refine hK _ ?_; clear hK K)
              refine rg_val rfl rfl (fun W1 hW1 hF => step_callv en_attestor_sumcheck_Final (HFin.out W1 hW1) rfl rfl) ?_
              intro a' ha
              simp only [Act.put, List.setIfInBounds_toArray, List.set_cons_succ, List.set_cons_zero] at ha
              subst ha
              refine rg_val rfl rfl (fun W1 hW1 hF => step_callv en_attestor_ext_Add (eAdd q y W1) rfl rfl) ?_
              intro a' ha
              simp only [Act.put, List.setIfInBounds_toArray, List.set_cons_succ, List.set_cons_zero] at ha
              subst ha
              refine rg_det rfl rfl rfl (fun K hK => ?_)
              go_big_quiet_op
              refine hK _ ?_; clear hK K
              refine rg_nil (fun w' hw' hF => ?_)
              obtain ⟨z14, rfl⟩ := hw'
              simp only [List.drop_succ_cons, List.drop_zero]
              have S9 := hS.keep z14.h
              obtain ⟨s1, s2⟩ := S9.cellO x hxl
              have e1 := S9.bo.frozen
              have S10 := Lib.hid (S9.setO HC.out x (q + y) hxl HS1.out)
              clear hF f1 f2 f3 hS S9 HS1 HFin
              go_wp2_with fail
              have S11 := S10.out.congr (fun _ _ => rfl) (fun j _ => (mixF_zero (curF tabs m (x + 1)) _ j).symm) (fun _ _ => rfl)
              clear S10 s1 s2 e1
              go_loopw [79] (fun i wr => ∃ j : Nat, j ≤ k ∧ i = .int .i64 j ∧ RnS w D k go n3 n7 (.slice (some ⟨g, off, none⟩) k capt) vp wr (mixF (x + 1) (outF tabs ps (m + 1)) (outF tabs ps m)) (mixF j (curF tabs m (x + 1)) (curF tabs m x)) (stpF tabs m)) (fun i _ => k - (intOf i).toNat)
              case atStart => exact ⟨0, Nat.zero_le _, rfl, S11⟩
              case round =>
                obtain ⟨j, hj, rfl, hS⟩ := hrel
                clear S11
                by_cases hjl : j < k
                · have HS1 := Lib.hid (mixF_set k (curF tabs m (x + 1)) (curF tabs m x) j)
                  rw [curF_succ] at HS1
                  obtain ⟨s1, s2⟩ := hS.cellC j hjl
                  obtain ⟨s3, s4⟩ := hS.cellS j hjl
                  rw [mixF_at] at s1 s2
                  have f1 := gw_cell hS.bc.lt s1
                  have f2 := gw_cell hS.bc.lt s2
                  have f3 := gw_cell hS.bs.lt s3
                  have f4 := gw_cell hS.bs.lt s4
                  clear s1 s2 s3 s4
                  generalize curF tabs m x j = a at *
                  generalize stpF tabs m j = b at *
                  go_wp2_with fail
                  refine wp_region_rg 12 [(10, Spec.val (.agg #[.int .u64 (fv (a + b).a), .int .u64 (fv (a + b).b)]))] (by kernel_rfl) (by kernel_rfl) (by kernel_rfl) trivial ?_
                  iterate 10 (refine rg_det rfl rfl rfl (fun K hK => ?_); go_big_quiet_op; refine hK _ ?_; clear hK K)
                  refine rg_val rfl rfl (fun W1 hW1 hF => step_callv en_attestor_ext_Add (eAdd a b W1) rfl rfl) ?_
                  intro a' ha
                  simp only [Act.put, List.setIfInBounds_toArray, List.set_cons_succ, List.set_cons_zero] at ha
                  subst ha
                  refine rg_det rfl rfl rfl (fun K hK => ?_)
                  go_big_quiet_op
                  refine hK _ ?_; clear hK K
                  refine rg_nil (fun w' hw' hF => ?_)
                  obtain ⟨z18, rfl⟩ := hw'
                  simp only [List.drop_succ_cons, List.drop_zero]
                  have S9 := hS.keep z18.h
                  obtain ⟨s1, s2⟩ := S9.cellC j hjl
                  have e1 := S9.bc.frozen
                  have S10 := Lib.hid (S9.setC HC.out j (a + b) hjl HS1.out)
                  clear hF f1 f2 f3 f4 hS S9 HS1
                  go_wp2_with fail
                  exact ⟨⟨j + 1, by omega, by go_num, S10.out⟩, by simp [intOf]; omega⟩
                · obtain rfl : j = k := by omega
                  have S12 := hS.congr (fun _ _ => rfl) (fun i hi => mixF_all _ _ _ _ hi) (fun _ _ => rfl)
                  clear hS
                  go_wp2_with fail
                  exact ⟨⟨x + 1, by omega, by go_num, S12⟩, by simp [intOf]; omega⟩
            · obtain rfl : x = D := by omega
              have S12 := hS.congr (fun i hi => mixF_all _ _ _ _ hi) (fun _ _ => rfl) (fun _ _ => rfl)
              clear hS
              go_wp2_with fail
              exact ⟨⟨m + 1, by omega, by go_num, _, _, S12⟩, by simp [intOf]; omega⟩
    · obtain rfl : m = n := by omega
      go_wp2_with fail
      go_ret
      refine ⟨_, rfl, ?_, hS.hB⟩
      have := exts_of_blk hS.bo (rngL_length _ _) (by omega) (Nat.le_of_lt HC.out.h1) hS.bo.lt
      rw [HR.out] at this
      exact this
end Go.Proofs.YtficeebbbkmhcaaGreatDoor
namespace Go.Proofs.YtficeebbbkmhcaaGreatDoor
open Go.RowKit

theorem TrmS.base {lo hi : Nat} {w : World} {v : Value} {ps : List Trm} (h : TrmS lo hi w v ps) : TrmS 0 w.heap.size w v ps := by
  obtain ⟨us, h1, h2, h3⟩ := h
  have key : ∀ {n size : Nat} {v : Value} {cs : List Value}, Rd lo hi size w v n cs → Rd 0 w.heap.size size w v n cs := fun ⟨q1, q2, A, cap, q3, q4, q5⟩ => ⟨q1, q2, A, cap, q3, q4, fun h0 => by
    obtain ⟨g, off, r1, r2, r3, r4, r5⟩ := q5 h0
    exact ⟨g, off, r1, Nat.zero_le _, r4, r4, r5⟩⟩
  exact ⟨us, h1, key h2, fun k u t hu ht => key (h3 k u t hu ht)⟩
theorem bndAll_length (tabs : List (List E)) : ∀ cs : List E, (bndAll tabs cs).length = tabs.length := by
  intro cs
  unfold bndAll
  induction cs generalizing tabs with
  | nil => rfl
  | cons c cs ih => rw [List.foldl_cons, ih, bndE_length]
theorem bndAll_len (n : Nat) : ∀ (cs : List E) (tabs : List (List E)), cs.length ≤ n → AllLen tabs (2 ^ n) → AllLen (bndAll tabs cs) (2 ^ (n - cs.length))
  | [], tabs, _, h => h
  | c :: cs, tabs, hl, h => by
    obtain ⟨m, rfl⟩ : ∃ m, n = m + 1 := ⟨n - 1, by simp only [List.length_cons] at hl; omega⟩
    have h' : AllLen tabs (2 * 2 ^ m) := by rw [← Nat.pow_succ']; exact h
    have h2 := bndAll_len m cs (bndE tabs c) (by simp only [List.length_cons] at hl; omega) (h'.bnd c)
    rw [List.length_cons, show m + 1 - (cs.length + 1) = m - cs.length by omega]
    exact h2
theorem bndAll_at (tabs : List (List E)) (coins : List E) (n j : Nat) (h : AllLen tabs (2 ^ n)) (hc : coins.length = n) (hj : j < n) : AllLen (bndAll tabs (coins.take j)) (2 * 2 ^ (n - 1 - j)) := by
  have h1 := bndAll_len n (coins.take j) tabs (by rw [List.length_take]; omega) h
  rw [List.length_take, Nat.min_eq_left (by omega)] at h1
  have e : 2 * 2 ^ (n - 1 - j) = 2 ^ (n - j) := by rw [← Nat.pow_succ']; congr 1; omega
  rw [e]
  exact h1
theorem pow_le_of (n j : Nat) (h : n ≤ 16) : 2 ^ (n - 1 - j) ≤ 65536 := Nat.le_trans (Nat.pow_le_pow_right (by decide) (show n - 1 - j ≤ 16 by omega)) (by decide)
def PrvR (w : World) (rs : List (List E)) (vs : List E) (e : Ending) (w' : World) : Prop := ∃ v1 v2, e = .returned (.tuple #[v1, v2]) ∧ TabS w.heap.size w'.heap.size w' v1 rs ∧ ExtS w.heap.size w'.heap.size w' v2 vs ∧ Below w.heap.size w w'
set_option maxRecDepth 100000 in
set_option maxHeartbeats 8000000 in
theorem gProve (tabs : List (List E)) (ps : List Trm) (coins : List E) (n : Nat) (hc : coins.length = n) (hn : n ≤ 16) (hall : AllLen tabs (2 ^ n)) (h0 : 0 < tabs.length) (hl : tabs.length ≤ 1000) (vt vp vc : Value) (lo hi lo2 hi2 : Nat) (w : World) (h : SumS lo hi w vt vp tabs ps) (hcs : ExtS lo2 hi2 w vc coins) :
    Calls Tryz.prog 13 #[sv vt vp, vc] w (PrvR w (prvR tabs ps coins) (prvV tabs coins) · ·) := by
  obtain ⟨AC, capC, rfl⟩ := Rd.len hcs
  obtain ⟨AP, capP, rfl⟩ := h.hp.len
  have HAl := Lib.hid (fun j (hj : j < n) => bndAll_at tabs coins n j hall hc hj)
  have HAe := Lib.hid (show AllLen (bndAll tabs coins) 1 by have := bndAll_len n coins tabs (by omega) hall; rwa [hc, Nat.sub_self] at this)
  have HH := Lib.hid h
  have HCS := Lib.hid hcs
  have HPL := Lib.hid (prvR_length ps coins tabs)
  have HBl := Lib.hid (bndAll_length tabs)
  have HC := Lib.hid hc
  rw [hc]
  clear hall h hcs hc
  obtain ⟨np, hnp⟩ : ∃ np, np = ps.length := ⟨_, rfl⟩
  rw [← hnp]
  have HNP := Lib.hid hnp
  clear hnp
  unfold sv
  go_enter Tryz.func13, Tryz.ntmps13
  go_wp2_with fail
  refine wp_stk1 fun W hB hz b1 => ?_
  have hW := hz.out
  clear hz
  go_loopw [6, 14] (fun u i wr => ∃ j : Nat, j ≤ n ∧ i = .int .i64 j ∧ RowT (w.heap.size + 1) wr u (prvR tabs ps (coins.take j)) ∧ ∃ vt L H, Blk wr w.heap.size 46 #[vt, .slice AP np capP] ∧ TabS L H wr vt (bndAll tabs (coins.take j)) ∧ Outside L H u ∧ H ≤ wr.heap.size ∧ Below w.heap.size w wr ∧ w.heap.size + 1 ≤ wr.heap.size) (fun _ i _ => n - (intOf i).toNat)
  case atStart => exact ⟨0, Nat.zero_le _, rfl, RowT.first _ _, vt, 0, W.heap.size, b1, ((HH.out.ht.keep hB).base), fun b hb => by simp [Value.ownBlock] at hb, Nat.le_refl _, hB, by omega⟩
  case round =>
    obtain ⟨j, hj, rfl, hrow, vt', L, H, bb, hT, hout, hH, hBr, hsz⟩ := hrel
    clear b1 hB
    by_cases hlt : j < n
    · have hEc := Rd.keep HCS.out hBr
      obtain ⟨g, off, cap', hv, q1, q2, q3, q4, q5⟩ := exts_cells hEc (by rw [HC.out]; omega)
      rw [HC.out] at hv
      cases hv
      obtain ⟨r, hr, hrd⟩ := get_of (l := coins) (k := j) (by rw [HC.out]; exact hlt)
      obtain ⟨d1, d2⟩ := q5 j r hr
      have HPS := Lib.hid (prvR_succ ps r coins j tabs hr)
      have HBS := Lib.hid (bndAll_succ tabs coins j r hr)
      have hal := HAl.out j hlt
      have hlt2 := HBl.out (coins.take j)
      have hlr : (prvR tabs ps (coins.take j)).length = j := by rw [prvR_length, List.length_take, HC.out, Nat.min_eq_left (by omega)]
      obtain ⟨m, hm⟩ : ∃ m, m = 2 ^ (n - 1 - j) := ⟨_, rfl⟩
      have hm1 : m ≤ 65536 := by rw [hm]; exact pow_le_of n j hn
      have hm0 : 0 < m := by rw [hm]; exact Nat.two_pow_pos _
      rw [← hm] at hal
      have HAL := Lib.hid hal
      have HL2 := Lib.hid hlt2
      have HLR := Lib.hid hlr
      clear q5 hr hrd hal hlt2 hEc hm hlr
      generalize bndAll tabs (coins.take j) = T at *
      generalize prvR tabs ps (coins.take j) = R at *
      obtain ⟨wo, hwo⟩ : ∃ wo, wo = wr := ⟨_, rfl⟩
      subst hwo
      obtain ⟨AT, capT, rfl⟩ := hT.len
      go_upto_region 5 with (fail)
      refine wp_stk1 fun X hBX hzX b8 => ?_
      have hX := hzX.out
      have bbX := bb.keep hBX
      have hTX := hT.keep hBX
      have hrX := hrow.keep hBX
      have hBX2 := hBr.trans (hBX.mono hBr.size)
      have e0 := bbX.cell
      have hblk : ∀ b, u6.ownBlock = some b → b < wo.heap.size := fun b hb => (hrow.block hb).2
      clear hzX d1 d2 bb hT hrow
      go_wp2_with fail
      have hSX := HH.out.keep hBX2
      refine (gRound T ps m HAL.out (by rw [HL2.out]; exact h0) (by rw [HL2.out]; exact hl) (by omega) _ _ 0 X.heap.size X ⟨hTX.base, by have := hSX.hp.base; rwa [← HNP.out] at this, by rw [HL2.out]; exact hSX.ix, hSX.few, hSX.short⟩).mono ?_
      rintro e w2 ⟨v2, rfl, t2, hb2⟩
      replace t2 : ExtS X.heap.size w2.heap.size w2 v2 (rndE T ps) := t2
      obtain ⟨A2, c2, rfl⟩ := Rd.len t2
      generalize rndE T ps = y at *
      have hs2 := hb2.size
      clear e0
      go_wp2_with (at_builtin; refine wpList_appT (x := .slice A2 y.length c2) (y := y) (lo := X.heap.size) (hi := w2.heap.size) (base := w.heap.size + 1) (ts := R) rfl _ _ rfl Tryz.underlying56 rfl rfl ?hrow ?hsrc rfl ?hE ?hlo ?hhi ?hout ?hk ?hbase ?_)
      case hrow => exact (hrX.keep hb2).keep ((Below.refl _ _).alloc (Nat.le_refl _) _)
      case hsrc => exact Blk.new_at _ _ _ rfl
      case hE => exact Rd.keep t2 ((Below.refl _ _).alloc (Nat.le_refl _) _)
      case hlo => omega
      case hhi => simp
      case hout => exact hrX.out (Nat.le_refl _)
      case hk => rw [HLR.out]; omega
      case hbase => simp; omega
      intro u' w3 hrow3 hB3 hg3 hob3
      have hal2 : Below w2.heap.size w2 (w2.alloc (.cells #[.slice A2 y.length c2] 23)) := (Below.refl _ _).alloc (Nat.le_refl _) _
      have hXa := hb2.trans (hal2.mono hs2)
      have bb3 := (bbX.keep hXa).below hB3 (by omega)
      have hT3 := tabs_kept (hTX.keep hXa) (Kept.of_grown hg3 hout (by simp; omega)) hg3.size
      have b83 : Blk w3 wo.heap.size 39 #[.int .u64 (fv r.a), .int .u64 (fv r.b)] := grown_blk hg3 (b8.keep hXa) (fun e => absurd (hblk _ e.symm) (Nat.lt_irrefl _))
      have hBw3 : Below w.heap.size w w3 := (hBX2.trans (hXa.mono hBX2.size)).trans (hB3.mono (by omega))
      have hs3 := hB3.size
      have e0 := bb3.cell
      have e1 := b83.cell
      rw [← HPS.out] at hrow3
      clear hrX hTX bbX b8 hg3 hout hob3 t2 hb2
      go_wp2_with fail
      refine (gBndSum T r m HAL.out hm0 (by omega) (by rw [HL2.out]; exact hl) _ (.slice AP np capP) L H w3 hT3 ⟨_, _, _, rfl⟩).mono ?_
      rintro e w4 ⟨v4, rfl, ⟨vt4, rfl, hT4⟩, hb4⟩
      rw [← HBS.out] at hT4
      obtain ⟨A4, cap4, rfl⟩ := hT4.len
      have bb4 := bb3.keep hb4
      have hrow4 := hrow3.keep hb4
      have hB4 := hBw3.trans (hb4.mono hBw3.size)
      have e2 := bb4.frozen
      have e3 := bb4.cell
      unfold sv
      clear e0 e1
      go_wp2_with fail
      have hp : ∀ x y, Put w4 ((w4.setCell ⟨w.heap.size, 0, none⟩ x).setCell ⟨w.heap.size, 1, none⟩ y) w.heap.size := fun x y => (Put.set _ _ _ _).trans (Put.set _ _ _ _)
      refine ⟨⟨j + 1, by omega, by go_num, hrow4.put (hp _ _) (by omega), _, w3.heap.size, w4.heap.size, blk_set2 bb4, hT4.put (hp _ _) (.inl bb3.lt), hrow3.out (Nat.le_refl _), by rw [(hp _ _).size]; exact Nat.le_refl _, below_put hB4 (hp _ _) (Nat.le_refl _), by rw [(hp _ _).size]; exact bb4.lt⟩, by simp [intOf]; omega⟩
    · obtain rfl : j = n := by omega
      have htk : coins.take j = coins := by rw [← HC.out, List.take_length]
      rw [htk] at hrow hT
      have hlT : (bndAll tabs coins).length = tabs.length := HBl.out coins
      have HV := Lib.hid (show rngL tabs.length (fun k => valT (bndAll tabs coins) 0 k) = prvV tabs coins by
        unfold prvV
        rw [← hlT]
        apply List.ext_getElem?
        intro k
        by_cases hk : k < (bndAll tabs coins).length
        · rw [rngL_get _ _ k hk, List.getElem?_map, List.getElem?_eq_getElem hk]
          simp [valT, List.getD, hk]
        · rw [List.getElem?_eq_none (by rw [rngL_length]; omega), List.getElem?_eq_none (by rw [List.length_map]; omega)])
      have HT := Lib.hid hT
      obtain ⟨AT, capT, rfl⟩ := hT.len
      rw [hlT] at bb HT
      have HLT := Lib.hid hlT
      have HRW := Lib.hid hrow
      have HMK := Lib.hid (mk_ext tabs.length (by omega))
      have e0 := bb.cell
      have HT0 := Lib.hid (fun k (hk : k < tabs.length) => show ∃ t, (bndAll tabs coins)[k]? = some t ∧ t.length = 1 from ⟨_, List.getElem?_eq_getElem (by rw [hlT]; exact hk), HAe.out _ (List.getElem_mem ..)⟩)
      clear hT hlT htk hrow
      generalize bndAll tabs coins = T at *
      obtain ⟨wo, hwo⟩ : ∃ wo, wo = wr := ⟨_, rfl⟩
      subst hwo
      go_upto_region 9 with (simp only [HMK.out])
      refine wp_stk1 fun X hBX hzX bv => ?_
      have bbX := bb.keep hBX
      have HTX := Lib.hid (HT.out.keep hBX)
      have hRX := Lib.hid ((HRW.out.tabs (by rw [HPL.out, HC.out]; omega)).keep hBX)
      have hBXw := hBr.trans (hBX.mono hBr.size)
      have hbl := bb.lt
      clear e0 bb HT HRW hzX
      have e0 := bbX.cell
      go_wp2_with fail
      clear e0
      rw [rngL_zero] at bv
      have bv0 : Blk X wo.heap.size 39 ((rngL tabs.length (mixF 0 (fun k => valT T 0 k) (fun _ => 0))).flatMap ec).toArray := by
        rw [rngL_congr _ (mixF 0 (fun k => valT T 0 k) (fun _ => 0)) (fun _ => 0) (fun j _ => mixF_zero _ _ j)]; exact bv
      clear bv
      go_loopw [34] (fun i wr => ∃ k : Nat, k ≤ tabs.length ∧ i = .int .i64 k ∧ Blk wr wo.heap.size 39 ((rngL tabs.length (mixF k (fun k => valT T 0 k) (fun _ => 0))).flatMap ec).toArray ∧ Put X wr wo.heap.size) (fun i _ => tabs.length - (intOf i).toNat)
      case atStart => exact ⟨0, Nat.zero_le _, rfl, bv0, Put.refl _ _⟩
      case round =>
        obtain ⟨k, hk, rfl, bv, hp⟩ := hrel
        clear bv0
        by_cases hkl : k < tabs.length
        · obtain ⟨t, ht, ht1⟩ := HT0.out k hkl
          obtain ⟨g, off, cap', hv, q1, q2, q3, q4, q5⟩ := tabs_cells (HTX.out.put hp (.inr hH)) (by rw [HLT.out]; omega)
          rw [HLT.out] at hv
          cases hv
          obtain ⟨A2, c2, d0, hE⟩ := q5 k t ht
          obtain ⟨g2, off2, cap2, hv, r1, r2, r3, r4, r5⟩ := exts_cells hE (by omega)
          rw [ht1] at hv d0 r1
          cases hv
          obtain ⟨x, hx, hxd⟩ := get_of (l := t) (k := 0) (by omega)
          obtain ⟨d1, d2⟩ := r5 0 x hx
          simp only [Nat.zero_mul, Nat.add_zero] at d1 d2
          have HX : valT T 0 k = x := by unfold valT; rw [show T.getD k [] = t by simp [List.getD, ht]]; exact hxd
          have HS1 := Lib.hid (mixF_set tabs.length (fun k => valT T 0 k) (fun _ => 0) k)
          rw [HX] at HS1
          obtain ⟨s1, s2⟩ := blk_cellE bv (rngL_get tabs.length (mixF k (fun k => valT T 0 k) (fun _ => 0)) k hkl)
          have e1 := bv.frozen
          have b2 := Lib.hid (blk_setE bv k x (by rw [rngL_length]; exact hkl))
          rw [HS1.out] at b2
          clear q5 r5 ht hE hx hxd HX
          go_wp2_with fail
          exact ⟨⟨k + 1, by omega, by go_num, b2.out, (hp.trans (Put.set _ wo.heap.size _ _)).trans (Put.set _ wo.heap.size _ _)⟩, by simp [intOf]; omega⟩
        · obtain rfl : k = tabs.length := by omega
          rw [rngL_congr _ _ _ (fun j hj => mixF_all _ _ _ _ hj), HV.out] at bv
          have hlV : (prvV tabs coins).length = tabs.length := by rw [← HV.out, rngL_length]
          go_wp2_with fail
          go_ret2
          have hXs := hp.size
          have hXo := hBX.size
          refine ⟨_, _, rfl, (hRX.out.put hp (.inr (Nat.le_refl _))).wide (by omega) (by omega), ?_, below_put hBXw hp (by omega)⟩
          have := exts_of_blk bv hlV (by omega) (show w.heap.size ≤ wo.heap.size by omega) bv.lt
          exact this
end Go.Proofs.YtficeebbbkmhcaaGreatDoor
namespace Go.Proofs.YtficeebbbkmhcaaGreatDoor
open Go.RowKit
attribute [local go_sem] Oper.semAt_some

def stepsL (d : Nat) : E → List (List E) → List E → List (E × Int)
  | v, g :: gs, c :: cs => if g.length ≠ d + 1 then [(0, 61)] else if g.getD 0 0 + g.getD 1 0 ≠ v then [(0, 60)] else (atE g c, 0) :: stepsL d (atE g c) gs cs
  | _, _, _ => []
def stc (x : E × Int) : Array Value := #[.int .u64 (fv x.1.a), .int .u64 (fv x.1.b), .int .i64 x.2]
def stv (x : E × Int) : Value := .agg (stc x)
theorem stepsL_bad (d : Nat) (v : E) (gs : List (List E)) (cs : List E) (k : Nat) (g : List E) (c : E) (hg : gs[k]? = some g) (hc : cs[k]? = some c) (h : g.length ≠ d + 1) : stepsL d v (gs.drop k) (cs.drop k) = [(0, 61)] := by
  have h1 := List.getElem?_eq_some_iff.1 hg
  have h2 := List.getElem?_eq_some_iff.1 hc
  rw [List.drop_eq_getElem_cons h1.1, List.drop_eq_getElem_cons h2.1, stepsL, h1.2, if_pos h]
theorem stepsL_sum (d : Nat) (v : E) (gs : List (List E)) (cs : List E) (k : Nat) (g : List E) (c : E) (hg : gs[k]? = some g) (hc : cs[k]? = some c) (h : g.length = d + 1) (hs : g.getD 0 0 + g.getD 1 0 ≠ v) : stepsL d v (gs.drop k) (cs.drop k) = [(0, 60)] := by
  have h1 := List.getElem?_eq_some_iff.1 hg
  have h2 := List.getElem?_eq_some_iff.1 hc
  rw [List.drop_eq_getElem_cons h1.1, List.drop_eq_getElem_cons h2.1, stepsL, h1.2, if_neg (fun hh => hh h), if_pos hs]
theorem stepsL_ok (d : Nat) (v : E) (gs : List (List E)) (cs : List E) (k : Nat) (g : List E) (c : E) (hg : gs[k]? = some g) (hc : cs[k]? = some c) (h : g.length = d + 1) (hs : g.getD 0 0 + g.getD 1 0 = v) :
    stepsL d v (gs.drop k) (cs.drop k) = (atE g c, 0) :: stepsL d (atE g c) (gs.drop (k + 1)) (cs.drop (k + 1)) := by
  have h1 := List.getElem?_eq_some_iff.1 hg
  have h2 := List.getElem?_eq_some_iff.1 hc
  rw [List.drop_eq_getElem_cons h1.1, List.drop_eq_getElem_cons h2.1, stepsL, h1.2, h2.2, if_neg (fun hh => hh h), if_neg (fun hh => hh hs)]
theorem stepsL_end (d : Nat) (v : E) (gs : List (List E)) (cs : List E) (k : Nat) (h : gs.length ≤ k) : stepsL d v (gs.drop k) (cs.drop k) = [] := by
  rw [List.drop_eq_nil_of_le h]
  rfl
def StS6 (n0 Bv : Nat) (g : Nat) : Prop := g < n0 ∨ g = Bv ∨ g = Bv + 1 ∨ g = Bv + 2
def StD6 (n0 Bv : Nat) (g : Nat) : Prop := g < n0 ∨ g = Bv + 1 ∨ g = Bv + 2
theorem StD6.keeps {n0 Bv : Nat} {A B : World} (h : Keeps (StS6 n0 Bv) A B) : Keeps (StD6 n0 Bv) A B := ⟨h.size, fun g hg hl => h.same g (by unfold StD6 at hg; unfold StS6; omega) hl⟩
set_option maxRecDepth 100000 in
set_option maxHeartbeats 4000000 in
theorem wSteps (v : E) (gs : List (List E)) (cs : List E) (d n0 Bv lo : Nat) (vr vc : Value) (n : Nat) (hn : 1 ≤ n) (w : World) (hgs : TabS lo n0 w vr gs) (hcs : ExtS lo n0 w vc cs) (hl : gs.length = cs.length) (hgl : gs.length ≤ 1000) (hd : d ≤ 3) (hd1 : 1 ≤ d)
    (b0 : Blk w Bv 39 #[.int .u64 (fv v.a), .int .u64 (fv v.b)]) (b1 : Blk w (Bv + 1) 56 #[vr]) (b2 : Blk w (Bv + 2) 62 #[vc, .int .i64 (d : Int)]) (hB : n0 ≤ Bv) :
    SeqCell n Tryz.prog 77 #[.pointer (some ⟨Bv + 1, 0, none⟩), .pointer (some ⟨Bv + 2, 0, none⟩), .pointer (some ⟨Bv, 0, none⟩)] (fun x : E × Int => #[stv x]) Bv (StS6 n0 Bv) (stepsL d v gs cs) w := fun l J W hW hJ1 hJ2 hY h0 => by
  obtain ⟨A, cap, rfl⟩ := hgs.len
  obtain ⟨AC, capC, rfl⟩ := Rd.len hcs
  have hop := open_wide Tryz.prog
  have hgsW := hgs.keep hW
  have hcsW := Rd.keep hcs hW
  have b0W := b0.keep hW
  have b1W := b1.keep hW
  have b2W := b2.keep hW
  rw [← hl] at b2W
  have HL := Lib.hid hl
  have HJ1 := Lib.hid hJ1
  have HJ2 := Lib.hid hJ2
  have HY := Lib.hid hY
  have HGS := Lib.hid hgsW
  have HCS := Lib.hid hcsW
  clear hgs hcs b0 b1 b2 hl hgsW hcsW hJ1 hJ2 hY hW
  refine callsIn_of_wp Tryz.func77 rfl trivial ?_ rfl
  simp only [Tryz.ntmps77, List.size_toArray, List.length_cons, List.length_nil, Nat.reduceAdd, Nat.reduceSub, Array.replicate_succ, Array.replicate_zero, List.push_toArray, List.append_toArray, List.nil_append, List.cons_append]
  have c1 := b1W.cell
  gi_wp2
  clear c1
  gi_loopw [9] (fun i wr => ∃ k : Nat, k ≤ gs.length ∧ i = .int .i64 k ∧ ∃ pre vk, stepsL d v gs cs = pre ++ stepsL d vk (gs.drop k) (cs.drop k) ∧ J pre wr ∧ Blk wr Bv 39 #[.int .u64 (fv vk.a), .int .u64 (fv vk.b)] ∧ Keeps (StD6 n0 Bv) W wr) (fun i _ => gs.length - (intOf i).toNat)
  case atStart => exact ⟨0, Nat.zero_le _, rfl, [], v, by simp, h0, b0W, Keeps.refl _⟩
  case round =>
    obtain ⟨k, hk, rfl, pre, vk, hpre, hJs, bv, hnx⟩ := hrel
    clear b0W h0
    by_cases hlt : k < gs.length
    · obtain ⟨g, hgk⟩ : ∃ g, gs[k]? = some g := ⟨_, List.getElem?_eq_getElem hlt⟩
      obtain ⟨c, hck⟩ : ∃ c, cs[k]? = some c := ⟨_, List.getElem?_eq_getElem (by rw [← HL.out]; exact hlt)⟩
      obtain ⟨b, off, cap', hv, q1, q2, q3, q4, q5⟩ := tabs_cells HGS.out (by omega)
      cases hv
      obtain ⟨A2, c2, d0, hE⟩ := q5 k g hgk
      have d1 := hnx.cell (show StD6 n0 Bv b from .inl q3) d0
      have o1 := hnx.cell (show StD6 n0 Bv (Bv + 1) from .inr (.inl rfl)) (b1W.cell 0)
      have o2 := hnx.cell (show StD6 n0 Bv (Bv + 2) from .inr (.inr rfl)) (b2W.cell 1)
      have o3 := hnx.cell (show StD6 n0 Bv (Bv + 2) from .inr (.inr rfl)) (b2W.cell 0)
      have hgl2 := hE.2.1
      have HGK := Lib.hid hgk
      have HCK := Lib.hid hck
      have HP := Lib.hid hpre
      clear q5 d0 hgk hck hpre
      by_cases hbad : g.length = d + 1
      · have hb1 : ((g.length : Int) != (d : Int) + 1) = false := by simp; omega
        obtain ⟨b2, off2, cap2, hv, r1, r2, r3, r4, r5⟩ := exts_cells hE (by omega)
        rw [hbad] at hv
        cases hv
        obtain ⟨x, hx, hxd⟩ := get_of (l := g) (k := 0) (by omega)
        obtain ⟨y, hy0, hyd⟩ := get_of (l := g) (k := 1) (by omega)
        obtain ⟨d3, d4⟩ := r5 0 x hx
        obtain ⟨d5, d6⟩ := r5 1 y hy0
        simp only [Nat.zero_mul, Nat.one_mul, Nat.add_zero, Nat.add_assoc, Nat.reduceAdd] at d3 d4 d5 d6
        have hbl : b2 < wr.heap.size := Nat.lt_of_lt_of_le r4 hnx.size
        have f1 := gw_cell hbl (hnx.cell (show StD6 n0 Bv b2 from .inl r3) d3)
        have f2 := gw_cell hbl (hnx.cell (show StD6 n0 Bv b2 from .inl r3) d4)
        have f3 := gw_cell hbl (hnx.cell (show StD6 n0 Bv b2 from .inl r3) d5)
        have f4 := gw_cell hbl (hnx.cell (show StD6 n0 Bv b2 from .inl r3) d6)
        have f5 := gw_blk bv
        have HE : Hid (ExtS lo n0 W (.slice (some ⟨b2, off2, none⟩) (d + 1) c2) g) := by rw [← hbad]; exact hE
        have HSm := Lib.hid (show g.getD 0 0 + g.getD 1 0 = x + y by rw [hxd, hyd])
        have HBad := Lib.hid hbad
        rw [hbad] at d1
        clear r5 d3 d4 d5 d6 hx hy0 hxd hyd hE hbad
        by_cases hs : x + y = vk
        · have hxs := Lib.hid (stepsL_ok d vk gs cs k g c HGK.out HCK.out HBad.out (by rw [HSm.out]; exact hs))
          have HA : ∀ W1, Calls Tryz.prog 34 #[ev x, ev y] W1 (Ret (ev vk) W1) := fun W1 => by rw [← hs]; exact eAdd x y W1
          have HAd := Lib.hid HA
          clear HA hs
          gi_wp2_with fail
          refine wpIn_region_rg hop 9 [(6, Spec.val (.agg #[.int .u64 (fv (vk).a), .int .u64 (fv (vk).b)]))] (by kernel_rfl) (by kernel_rfl) (by kernel_rfl) trivial ?_
          iterate 6 (refine rg_det rfl rfl rfl (fun K hK => ?_); go_big_quiet_op; refine hK _ ?_; clear hK K)
          refine rg_val rfl rfl (fun W1 hW1 hF => step_callv en_attestor_ext_Add (HAd.out W1) rfl rfl) ?_
          intro a' ha
          simp only [Act.put, List.setIfInBounds_toArray, List.set_cons_succ, List.set_cons_zero] at ha
          subst ha
          iterate 2 (refine rg_det rfl rfl rfl (fun K hK => ?_); go_big_quiet_op; refine hK _ ?_; clear hK K)
          refine rg_nil (fun w' hw' hF => ?_)
          obtain ⟨z, rfl⟩ := hw'
          simp only [List.drop_succ_cons, List.drop_zero]
          have bz := bv.gw z
          have hJz := HJ1.out pre wr z.w hJs z.h
          have hnz := hnx.trans (Keeps.of_below z.h)
          have o3z := (z.h.cell (p := ⟨Bv + 2, 0, none⟩) (Nat.lt_of_lt_of_le b2W.lt hnx.size)).trans o3
          obtain ⟨b3, off3, cap3, hv, t1, t2, t3, t4, t5⟩ := exts_cells HCS.out (by rw [← HL.out]; omega)
          cases hv
          obtain ⟨k1, k2⟩ := t5 k c HCK.out
          have k1z := hnz.cell (show StD6 n0 Bv b3 from .inl t3) k1
          have k2z := hnz.cell (show StD6 n0 Bv b3 from .inl t3) k2
          have hEz : ExtS lo n0 z.w (.slice (some ⟨b2, off2, none⟩) (d + 1) c2) g := Keeps.rd HE.out hnz (fun i h1 h2 => .inl h2)
          have HEZ := Lib.hid hEz
          clear t5 k1 k2 hF f1 f2 f3 f4 f5 o3 hEz
          gi_wp2_with fail
          refine ⟨trivial, (callsIn_wide.2 (gAt g c (by rw [HBad.out]; omega) _ lo n0 z.w HEZ.out)).mono ?_⟩
          rintro e w5 ⟨he, hb5⟩
          have hcs5 : stepsL d v gs cs = (pre ++ [(atE g c, 0)]) ++ stepsL d (atE g c) (gs.drop (k + 1)) (cs.drop (k + 1)) := by rw [HP.out, hxs.out, List.append_assoc]; rfl
          have HCS5 := Lib.hid hcs5
          clear hcs5 hxs
          unfold ev at he
          subst he
          generalize atE g c = u at *
          have bz5 := bz.keep hb5
          have e1 := bz5.frozen
          have e2 := bz5.cell
          have hp6 : Put w5 ((w5.setCell ⟨Bv, 0, none⟩ (.int .u64 (fv u.a))).setCell ⟨Bv, 1, none⟩ (.int .u64 (fv u.b))) Bv := (Put.set _ Bv _ _).trans (Put.set _ Bv _ _)
          have hJ6 := HJ2.out pre _ _ (HJ1.out pre _ _ hJz hb5) hp6
          have bv6 : Blk ((w5.setCell ⟨Bv, 0, none⟩ (.int .u64 (fv u.a))).setCell ⟨Bv, 1, none⟩ (.int .u64 (fv u.b))) Bv 39 #[.int .u64 (fv u.a), .int .u64 (fv u.b)] := blk_set2 bz5
          have hn6 : Keeps (StD6 n0 Bv) W ((w5.setCell ⟨Bv, 0, none⟩ (.int .u64 (fv u.a))).setCell ⟨Bv, 1, none⟩ (.int .u64 (fv u.b))) := (hnz.trans (Keeps.of_below hb5)).trans ⟨by rw [hp6.size]; exact Nat.le_refl _, fun i hi _ => hp6.other i (by unfold StD6 at hi; omega)⟩
          obtain ⟨fn, tmps, assign, body, hy, hR⟩ := HY.out pre (u, 0) _ hJ6 (by rw [HCS5.out]; simp)
          simp only [stv, stc] at hy
          have HN6 := Lib.hid hn6
          have HB6 := Lib.hid bv6
          clear hJ6 hp6 hn6 bv6 hnz hJz o3z k1z k2z
          gi_wp2
          refine hR.mono ?_
          rintro e W3 ⟨rfl, hJ3, hk3⟩
          have bv7 := Lib.hid (show Blk W3 Bv 39 #[.int .u64 (fv u.a), .int .u64 (fv u.b)] from (hk3.same Bv (.inr (.inl rfl)) HB6.out.lt).trans HB6.out)
          have hn7 := Lib.hid (HN6.out.trans (StD6.keeps hk3))
          clear e1 e2
          gi_wp2
          go_roundw
          case rel => exact ⟨k + 1, by omega, by go_num, _, u, HCS5.out, hJ3, bv7.out, hn7.out⟩
          case measure => simp [intOf]; omega
        · have hxs : stepsL d v gs cs = pre ++ [(0, 60)] := by rw [HP.out, stepsL_sum d vk gs cs k g c HGK.out HCK.out HBad.out (by rw [HSm.out]; exact hs)]
          have HXS := Lib.hid hxs
          have hne : fv (x + y).a = fv vk.a → ¬ fv (x + y).b = fv vk.b := fun h1 h2 => hs (E.ext_ (fv_inj h1) (fv_inj h2))
          clear hxs hs
          by_cases ha : fv (x + y).a = fv vk.a
          · have hb := hne ha
            clear hne
            gi_wp2_with fail
            refine wpIn_region_rg hop 9 [(6, Spec.val (.agg #[.int .u64 (fv (x + y).a), .int .u64 (fv (x + y).b)]))] (by kernel_rfl) (by kernel_rfl) (by kernel_rfl) trivial ?_
            iterate 6 (refine rg_det rfl rfl rfl (fun K hK => ?_); go_big_quiet_op; refine hK _ ?_; clear hK K)
            refine rg_val rfl rfl (fun W1 hW1 hF => step_callv en_attestor_ext_Add (eAdd x y W1) rfl rfl) ?_
            intro a' ha
            simp only [Act.put, List.setIfInBounds_toArray, List.set_cons_succ, List.set_cons_zero] at ha
            subst ha
            iterate 2 (refine rg_det rfl rfl rfl (fun K hK => ?_); go_big_quiet_op; refine hK _ ?_; clear hK K)
            refine rg_nil (fun w' hw' hF => ?_)
            obtain ⟨z, rfl⟩ := hw'
            simp only [List.drop_succ_cons, List.drop_zero]
            have hJz := HJ1.out pre wr z.w hJs z.h
            obtain ⟨fn, tmps, assign, body, hy, hR⟩ := HY.out pre (0, 60) z.w hJz (by rw [HXS.out]; simp)
            simp only [stv, stc, zero_a, zero_b, fv_zero] at hy
            clear hF f1 f2 f3 f4 f5
            gi_wp2
            refine hR.mono ?_
            rintro e W3 ⟨rfl, hJ3, -⟩
            gi_wp2
            refine bodyPost_ret (results_none rfl _ _ _) rfl ?_
            exact ⟨⟨_, rfl⟩, by rw [HXS.out]; exact hJ3⟩
          · clear hne
            gi_wp2_with fail
            refine wpIn_region_rg hop 9 [(6, Spec.val (.agg #[.int .u64 (fv (x + y).a), .int .u64 (fv (x + y).b)]))] (by kernel_rfl) (by kernel_rfl) (by kernel_rfl) trivial ?_
            iterate 6 (refine rg_det rfl rfl rfl (fun K hK => ?_); go_big_quiet_op; refine hK _ ?_; clear hK K)
            refine rg_val rfl rfl (fun W1 hW1 hF => step_callv en_attestor_ext_Add (eAdd x y W1) rfl rfl) ?_
            intro a' ha
            simp only [Act.put, List.setIfInBounds_toArray, List.set_cons_succ, List.set_cons_zero] at ha
            subst ha
            iterate 2 (refine rg_det rfl rfl rfl (fun K hK => ?_); go_big_quiet_op; refine hK _ ?_; clear hK K)
            refine rg_nil (fun w' hw' hF => ?_)
            obtain ⟨z, rfl⟩ := hw'
            simp only [List.drop_succ_cons, List.drop_zero]
            have hJz := HJ1.out pre wr z.w hJs z.h
            obtain ⟨fn, tmps, assign, body, hy, hR⟩ := HY.out pre (0, 60) z.w hJz (by rw [HXS.out]; simp)
            simp only [stv, stc, zero_a, zero_b, fv_zero] at hy
            clear hF f1 f2 f3 f4 f5
            gi_wp2
            refine hR.mono ?_
            rintro e W3 ⟨rfl, hJ3, -⟩
            gi_wp2
            refine bodyPost_ret (results_none rfl _ _ _) rfl ?_
            exact ⟨⟨_, rfl⟩, by rw [HXS.out]; exact hJ3⟩
      · have hb1 : ((g.length : Int) != (d : Int) + 1) = true := by simp; omega
        have hxs : stepsL d v gs cs = pre ++ [(0, 61)] := by rw [HP.out, stepsL_bad d vk gs cs k g c HGK.out HCK.out hbad]
        obtain ⟨fn, tmps, assign, body, hy, hR⟩ := HY.out pre (0, 61) wr hJs (by rw [hxs]; simp)
        simp only [stv, stc, zero_a, zero_b, fv_zero] at hy
        have HXS := Lib.hid hxs
        clear hxs hE
        gi_wp2
        refine hR.mono ?_
        rintro e W3 ⟨rfl, hJ3, -⟩
        gi_wp2
        refine bodyPost_ret (results_none rfl _ _ _) rfl ?_
        exact ⟨⟨_, rfl⟩, by rw [HXS.out]; exact hJ3⟩
    · obtain rfl : k = gs.length := by omega
      rw [stepsL_end d vk gs cs _ (Nat.le_refl _), List.append_nil] at hpre
      have HP := Lib.hid hpre
      clear hpre
      gi_wp2
      go_end0
      exact ⟨⟨_, rfl⟩, by rw [HP.out]; exact hJs⟩
end Go.Proofs.YtficeebbbkmhcaaGreatDoor
namespace Go.Proofs.YtficeebbbkmhcaaGreatDoor
open Go.RowKit
attribute [local go_sem] Oper.semAt_some

def lastS (v : E) (xs : List (E × Int)) : E × Int := xs.foldl (fun _ x => x) (v, 0)
theorem lastS_snoc (v : E) (xs : List (E × Int)) (x : E × Int) : lastS v (xs ++ [x]) = x := by unfold lastS; rw [List.foldl_append]; rfl
theorem below_putObj {N : Nat} {w W : World} (h : Below N w W) (l : Nat) (o : Obj) (hl : N ≤ l) : Below N w (W.putObj l o) :=
  ⟨h.os, h.tape, h.output, by simpa using h.size, fun k hk => (World.putObj_heap_other (by omega)).trans (h.block k hk)⟩
def vrfE (d : Int) (v : E) (gs : List (List E)) (cs : List E) : E × Int := if d < 1 ∨ 3 < d ∨ gs.length ≠ cs.length then (0, 1) else lastS v (stepsL d.toNat v gs cs)
set_option maxRecDepth 100000 in
set_option maxHeartbeats 400000 in
theorem gSteps (v : E) (A : Option Addr) (m cap : Nat) (A2 : Option Addr) (m2 cap2 : Nat) (d : Int) (w : World) : Calls Tryz.prog 41 #[ev v, .slice A m cap, .agg #[.slice A2 m2 cap2, .int .i64 d]] w fun e w' =>
    e = .returned (.func (.func 77) #[] #[.pointer (some ⟨w.heap.size + 1, 0, none⟩), .pointer (some ⟨w.heap.size + 2, 0, none⟩), .pointer (some ⟨w.heap.size, 0, none⟩)]) ∧
    w' = ((w.alloc (.cells #[.int .u64 (fv v.a), .int .u64 (fv v.b)] 39)).alloc (.cells #[.slice A m cap] 56)).alloc (.cells #[.slice A2 m2 cap2, .int .i64 d] 62) := by
  unfold ev
  go_enter Tryz.func41, Tryz.ntmps41
  go_wp2
  go_ret
  exact ⟨rfl, rfl⟩
set_option maxRecDepth 100000 in
set_option maxHeartbeats 2000000 in
theorem gVerifyArg (v : E) (gs : List (List E)) (cs : List E) (d : Int) (hd : -9223372036854775808 ≤ d ∧ d < 9223372036854775808) (hbad : d < 1 ∨ 3 < d ∨ gs.length ≠ cs.length) (vr vc : Value) (lo hi lo2 hi2 : Nat) (w : World) (hg : TabS lo hi w vr gs) (hc : ExtS lo2 hi2 w vc cs) :
    Calls Tryz.prog 14 #[ev v, vr, .agg #[vc, .int .i64 d]] w (Ret (.tuple #[ev 0, .int .i64 1]) w) := by
  obtain ⟨A, cap, rfl⟩ := hg.len
  obtain ⟨AC, capC, rfl⟩ := Rd.len hc
  have hs1 := hg.small
  have hs2 := hc.2.1
  obtain ⟨hd1, hd2⟩ := hd
  have hv0 : (.tuple #[ev 0, .int .i64 1] : Value) = .tuple #[.agg #[.int .u64 0, .int .u64 0], .int .i64 1] := rfl
  rw [hv0]
  unfold ev
  clear hg hc hv0
  by_cases h1 : d < 1
  · skip
    go_enter Tryz.func14, Tryz.ntmps14
    go_wp2_with fail
    refine bodyPost_ret (v := .tuple #[.agg #[.int .u64 0, .int .u64 0], .int .i64 1]) (by simp [results, Tryz.results14, go_sem]) rfl ⟨rfl, (((Below.refl _ _).alloc (Nat.le_refl _) _).alloc (by simp) _).alloc (by simp; omega) _⟩
  · by_cases h2 : 3 < d
    · skip
      go_enter Tryz.func14, Tryz.ntmps14
      go_wp2_with fail
      refine bodyPost_ret (v := .tuple #[.agg #[.int .u64 0, .int .u64 0], .int .i64 1]) (by simp [results, Tryz.results14, go_sem]) rfl ⟨rfl, (((Below.refl _ _).alloc (Nat.le_refl _) _).alloc (by simp) _).alloc (by simp; omega) _⟩
    · have h3 : ((gs.length : Int) != (cs.length : Int)) = true := by simp; omega
      clear hbad
      go_enter Tryz.func14, Tryz.ntmps14
      go_wp2_with fail
      refine bodyPost_ret (v := .tuple #[.agg #[.int .u64 0, .int .u64 0], .int .i64 1]) (by simp [results, Tryz.results14, go_sem]) rfl ⟨rfl, (((Below.refl _ _).alloc (Nat.le_refl _) _).alloc (by simp) _).alloc (by simp; omega) _⟩
set_option maxRecDepth 100000 in
set_option maxHeartbeats 4000000 in
theorem gVerifyOk (v : E) (gs : List (List E)) (cs : List E) (d : Nat) (hd : d ≤ 3) (hd1 : 1 ≤ d) (hl : gs.length = cs.length) (hgl : gs.length ≤ 1000) (vr vc : Value) (lo hi lo2 hi2 : Nat) (w : World) (hg : TabS lo hi w vr gs) (hc : ExtS lo2 hi2 w vc cs) :
    Calls Tryz.prog 14 #[ev v, vr, .agg #[vc, .int .i64 (d : Int)]] w (Ret (.tuple #[ev (lastS v (stepsL d v gs cs)).1, .int .i64 (lastS v (stepsL d v gs cs)).2]) w) := by
  obtain ⟨A, cap, rfl⟩ := hg.len
  obtain ⟨AC, capC, rfl⟩ := Rd.len hc
  have HG := Lib.hid hg.base
  have HC := Lib.hid (ext_base hc)
  have HL := Lib.hid hl
  rw [← hl]
  have h3 : ((gs.length : Int) != (gs.length : Int)) = false := by simp
  have HS := Lib.hid (show stepsL d v gs cs = stepsL d v gs cs from rfl)
  clear hg hc hl
  obtain ⟨xs, hxs⟩ : ∃ xs, xs = stepsL d v gs cs := ⟨_, rfl⟩
  rw [← hxs]
  have HXS := Lib.hid hxs
  clear hxs HS
  refine (callsIn_wide (n := 3)).1 ?_
  refine callsIn_of_wp_marks Tryz.func14 rfl trivial ?_ rfl
  unfold ev
  simp only [Tryz.ntmps14, List.size_toArray, List.length_cons, List.length_nil, Nat.reduceAdd, Nat.reduceSub, Array.replicate_succ, Array.replicate_zero, List.push_toArray, List.append_toArray, List.nil_append, List.cons_append]
  gi_wp2_with fail
  refine ⟨trivial, ?_⟩
  refine stk4 (M := fun W => CallsIn _ _ _ _ _ W _) fun W hB hz b1 b2 b3 b4 => ?_
  have hW : W.heap.size = w.heap.size + 1 + 1 + 1 + 1 := hz.out
  clear hz
  refine (callsIn_wide.2 (gSteps v A gs.length cap AC gs.length capC d W)).mono ?_
  rintro e w2 ⟨rfl, rfl⟩
  gi_wp2_with fail
  refine stk3 (M := fun W => Code.wpIn _ _ _ _ _ _ W) fun X hBX hzX c1 c2 c3 => ?_
  have hX : X.heap.size = W.heap.size + 1 + 1 + 1 := hzX.out
  have b3X := b3.keep hBX
  have b4X := b4.keep hBX
  have hBw := hB.trans (hBX.mono hB.size)
  have HG2 := HG.out.keep hBw
  have HC2 := Rd.keep HC.out hBw
  rw [hW] at *
  clear b1 b2 b3 b4 hBX hB hzX
  refine wpIn_seqW (wSteps v gs cs d w.heap.size (w.heap.size + 4) 0 (.slice A gs.length cap) (.slice AC gs.length capC) 2 (by decide) X HG2 (by rw [HL.out]; exact HC2) HL.out hgl hd hd1 c1 c2 c3 (by omega)) (Below.refl _ _) (by decide) rfl (enters_of Tryz.func77 (by kernel_rfl) rfl) (by omega) (fun g hg => by unfold StS6 at hg; omega)
    (fun pre V => Blk V (w.heap.size + 3) 102 (stc (lastS v pre)) ∧ Blk V (w.heap.size + 2) 39 #[.int .u64 0, .int .u64 0] ∧ Below w.heap.size w V ∧ X.heap.size ≤ V.heap.size)
    ?hI1 ?hI2 ?hI3 ?h0 9 102 stc ?assign ?body ?done
  case hI1 => exact fun s A B h hb => ⟨h.1.keep hb, h.2.1.keep hb, h.2.2.1.trans (hb.mono h.2.2.1.size), Nat.le_trans h.2.2.2 hb.size⟩
  case hI2 => exact fun s A B h hp => ⟨hp.blk h.1 (by omega), hp.blk h.2.1 (by omega), below_put h.2.2.1 hp (by omega), by rw [hp.size]; exact h.2.2.2⟩
  case hI3 => exact fun s V l o hl h => ⟨(World.putObj_heap_other (by omega)).trans h.1, (World.putObj_heap_other (by omega)).trans h.2.1, below_putObj h.2.2.1 l o (by omega), by simpa using h.2.2.2⟩
  case h0 => exact ⟨b4X, b3X, hBw, Nat.le_refl _⟩
  case assign =>
    intro l x V K hK
    simp only [stv, stc, List.setIfInBounds_toArray, List.set_cons_succ, List.set_cons_zero] at hK ⊢
    gi_wp2_with fail
    exact hK _ _ rfl rfl
  case body =>
    rintro l pre x Bx V a' rfl ⟨q1, q2, q3, q4⟩ hBx bX hlt
    simp only [stv, stc, List.setIfInBounds_toArray, List.set_cons_succ, List.set_cons_zero] at q1 bX ⊢
    have e1 := bX.cell
    have e2 := q1.frozen
    have e3 := q1.cell
    gi_wp2_with fail
    have hp : Put V (((V.setCell ⟨w.heap.size + 1 + 1 + 1, 0, none⟩ (.int .u64 (fv x.1.a))).setCell ⟨w.heap.size + 1 + 1 + 1, 1, none⟩ (.int .u64 (fv x.1.b))).setCell ⟨w.heap.size + 1 + 1 + 1, 2, none⟩ (.int .i64 x.2)) (w.heap.size + 1 + 1 + 1) := ((Put.set _ _ _ _).trans (Put.set _ _ _ _)).trans (Put.set _ _ _ _)
    refine ⟨((KeepsOthers.setCell _ _ _).trans (KeepsOthers.setCell _ _ _)).trans (KeepsOthers.setCell _ _ _), ⟨by rw [hp.size]; exact Nat.le_refl _, fun g hg _ => hp.other g (by unfold StS6 at hg; omega)⟩, ?_, hp.blk q2 (by omega), below_put q3 hp (by omega), by have := hp.size; omega⟩
    · rw [lastS_snoc]
      exact ((q1.set_ 0 _).set_ 1 _).set_ 2 _
  case done =>
    intro D V hD ⟨q1, q2, q3, q4⟩ hK
    rw [← HXS.out] at q1
    simp only [stc] at q1
    generalize lastS v xs = y at *
    have hop := open_wide Tryz.prog
    have f1 := gw_blk q1
    have hm : Tryz.prog.follows .mixedOrders = true := by kernel_rfl
    have e1 := q1.cell
    have e2 := q2.frozen
    have e3 := q2.cell
    clear f1
    gi_wp2_with fail
    gi_region
    obtain ⟨Z, hZ⟩ : ∃ Z, ((V.setCell ⟨w.heap.size + 1 + 1, 0, none⟩ (.int .u64 (fv y.1.a))).setCell ⟨w.heap.size + 1 + 1, 1, none⟩ (.int .u64 (fv y.1.b))).drew = Z := ⟨_, rfl⟩
    rw [hZ]
    have hpz : Put V ((V.setCell ⟨w.heap.size + 1 + 1, 0, none⟩ (.int .u64 (fv y.1.a))).setCell ⟨w.heap.size + 1 + 1, 1, none⟩ (.int .u64 (fv y.1.b))) (w.heap.size + 1 + 1) := (Put.set _ _ _ _).trans (Put.set _ _ _ _)
    have bZ : Blk Z (w.heap.size + 1 + 1) 39 #[.int .u64 (fv y.1.a), .int .u64 (fv y.1.b)] := by rw [← hZ]; exact blk_set2 q2
    have hBZ : Below w.heap.size w Z := by rw [← hZ]; exact (below_put q3 hpz (by omega)).drew
    have hKZ : Z.heap[D]? = some (.deferred (some [])) := by rw [← hZ]; exact (hpz.other D (by omega)).trans hK
    clear e1 e2 e3 hpz hZ q1 q2
    gi_wp2_with fail
    have hne : D ≠ w.heap.size + 1 + 1 := by omega
    refine ⟨by simp, .inl ⟨_, _, rfl, run_takeDeferred hKZ, ?_⟩⟩
    have bZ' : Blk (Z.putObj D (.deferred none)) (w.heap.size + 1 + 1) 39 #[.int .u64 (fv y.1.a), .int .u64 (fv y.1.b)] := (World.putObj_heap_other (Ne.symm hne)).trans bZ
    have e4 := bZ'.cell
    refine ⟨.tuple #[.agg #[.int .u64 (fv y.1.a), .int .u64 (fv y.1.b)], .int .i64 y.2], ?_, ?_⟩
    · simp [results, Tryz.results14, go_sem, e4]
    · exact ⟨rfl, below_putObj hBZ D _ (by omega)⟩
theorem gVerify (v : E) (gs : List (List E)) (cs : List E) (d : Int) (hd : -9223372036854775808 ≤ d ∧ d < 9223372036854775808) (hgl : gs.length ≤ 1000) (vr vc : Value) (lo hi lo2 hi2 : Nat) (w : World) (hg : TabS lo hi w vr gs) (hc : ExtS lo2 hi2 w vc cs) :
    Calls Tryz.prog 14 #[ev v, vr, .agg #[vc, .int .i64 d]] w (Ret (.tuple #[ev (vrfE d v gs cs).1, .int .i64 (vrfE d v gs cs).2]) w) := by
  by_cases hbad : d < 1 ∨ 3 < d ∨ gs.length ≠ cs.length
  · rw [show vrfE d v gs cs = (0, 1) from if_pos hbad]
    exact gVerifyArg v gs cs d hd hbad vr vc lo hi lo2 hi2 w hg hc
  · rw [show vrfE d v gs cs = lastS v (stepsL d.toNat v gs cs) from if_neg hbad]
    obtain ⟨n, rfl⟩ : ∃ n : Nat, d = (n : Int) := ⟨d.toNat, by omega⟩
    exact gVerifyOk v gs cs n (by omega) (by omega) (by omega) hgl vr vc lo hi lo2 hi2 w hg hc
end Go.Proofs.YtficeebbbkmhcaaGreatDoor
