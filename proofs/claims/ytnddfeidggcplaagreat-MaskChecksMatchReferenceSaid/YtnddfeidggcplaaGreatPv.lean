/-
  Round of package sumcheck, by contract.
  Prove of package sumcheck, by contract.
-/
import Derived.Test.YtnddfeidggcplaaGreatRow
import Derived.Test.YtnddfeidggcplaaGreatRgU
namespace Go.Proofs.YtnddfeidggcplaaGreat
open Go.RowKit

theorem nodeE_succ (x : Nat) : nodeE (x + 1) = nodeE x + 1 := by
  unfold nodeE
  have : fz ((x + 1 : Nat) : Int) = fz (x : Int) + 1 := fv_inj (by rw [fv_fz, fv_add, fv_fz, fv_one]; omega)
  rw [this, eb_add]
  rfl
section
variable (tabs : List (List E)) (ps : List Trm)
def outF (m x : Nat) : E := totK (bndE tabs (nodeE x)) ps m
def stpF (m k : Nat) : E := valT tabs (2 * m + 1) k - valT tabs (2 * m) k
def curF (m x k : Nat) : E := valT tabs (2 * m) k + nodeE x * stpF tabs m k
theorem curF_zero (m k : Nat) : curF tabs m 0 k = valT tabs (2 * m) k := by unfold curF; rw [nodeE_zero, E.zero_mul, E.add_zero]
theorem curF_succ (m x k : Nat) : curF tabs m (x + 1) k = curF tabs m x k + stpF tabs m k := by
  unfold curF
  rw [nodeE_succ, E.add_mul, E.one_mul, E.add_assoc]
theorem outF_succ (m x n : Nat) (hall : AllLen tabs (2 * n)) (hm : m < n) (hix : ∀ p ∈ ps, ∀ k ∈ p.t, k < tabs.length) :
    outF tabs ps (m + 1) x = outF tabs ps m x + finE (valL (rngL tabs.length (curF tabs m x))) ps := by
  unfold outF
  rw [totK_succ]
  congr 1
  refine finE_congr _ _ ps tabs.length hix fun k hk => ?_
  rw [valT_bnd tabs _ n m k hall hm]
  unfold valL
  rw [List.getD_eq_getElem?_getD, rngL_get _ _ k hk]
  rfl
theorem rnd_all (n : Nat) (hall : AllLen tabs (2 * n)) (h0 : 0 < tabs.length) : rngL (degE ps + 1) (outF tabs ps n) = rndE tabs ps := by
  unfold rndE rngL
  apply List.map_congr_left
  intro x _
  unfold outF totE
  rw [(hall.bnd _).lenT (by rw [bndE_length]; exact h0)]
end
structure RnS (w : World) (D N go gc gs : Nat) (vt vp : Value) (wr : World) (fo fc fs : Nat → E) : Prop where
  bo : Blk wr go 30 ((rngL D fo).flatMap ec).toArray
  bc : Blk wr gc 30 ((rngL N fc).flatMap ec).toArray
  bs : Blk wr gs 30 ((rngL N fs).flatMap ec).toArray
  bx : Blk wr w.heap.size 36 #[vt, vp]
  hB : Below w.heap.size w wr
structure RnC (w : World) (go gc gs : Nat) : Prop where
  h1 : w.heap.size < go
  h2 : w.heap.size < gc
  h3 : w.heap.size < gs
  h4 : go ≠ gc
  h5 : go ≠ gs
  h6 : gc ≠ gs
section
variable {w wr X : World} {D N go gc gs : Nat} {vt vp : Value} {fo fc fs f' : Nat → E}
theorem RnS.keep (h : RnS w D N go gc gs vt vp wr fo fc fs) (hb : Below wr.heap.size wr X) : RnS w D N go gc gs vt vp X fo fc fs := ⟨h.bo.keep hb, h.bc.keep hb, h.bs.keep hb, h.bx.keep hb, h.hB.trans (hb.mono h.hB.size)⟩
theorem RnS.setO (h : RnS w D N go gc gs vt vp wr fo fc fs) (c : RnC w go gc gs) (k : Nat) (v : E) (hk : k < D) (e : (rngL D fo).set k v = rngL D f') : RnS w D N go gc gs vt vp ((wr.setCell ⟨go, k * 2, none⟩ (.int .u64 (fv v.a))).setCell ⟨go, k * 2 + 1, none⟩ (.int .u64 (fv v.b))) f' fc fs :=
  ⟨by rw [← e]; exact blk_setE h.bo k v (by rw [rngL_length]; exact hk), blk_farE h.bc (by have := c.h4; omega), blk_farE h.bs (by have := c.h5; omega), blk_farE h.bx (by have := c.h1; omega), below_setE h.hB (by have := c.h1; omega)⟩
theorem RnS.setC (h : RnS w D N go gc gs vt vp wr fo fc fs) (c : RnC w go gc gs) (k : Nat) (v : E) (hk : k < N) (e : (rngL N fc).set k v = rngL N f') : RnS w D N go gc gs vt vp ((wr.setCell ⟨gc, k * 2, none⟩ (.int .u64 (fv v.a))).setCell ⟨gc, k * 2 + 1, none⟩ (.int .u64 (fv v.b))) fo f' fs :=
  ⟨blk_farE h.bo (by have := c.h4; omega), by rw [← e]; exact blk_setE h.bc k v (by rw [rngL_length]; exact hk), blk_farE h.bs (by have := c.h6; omega), blk_farE h.bx (by have := c.h2; omega), below_setE h.hB (by have := c.h2; omega)⟩
theorem RnS.setS (h : RnS w D N go gc gs vt vp wr fo fc fs) (c : RnC w go gc gs) (k : Nat) (v : E) (hk : k < N) (e : (rngL N fs).set k v = rngL N f') : RnS w D N go gc gs vt vp ((wr.setCell ⟨gs, k * 2, none⟩ (.int .u64 (fv v.a))).setCell ⟨gs, k * 2 + 1, none⟩ (.int .u64 (fv v.b))) fo fc f' :=
  ⟨blk_farE h.bo (by have := c.h5; omega), blk_farE h.bc (by have := c.h6; omega), by rw [← e]; exact blk_setE h.bs k v (by rw [rngL_length]; exact hk), blk_farE h.bx (by have := c.h3; omega), below_setE h.hB (by have := c.h3; omega)⟩
theorem RnS.cellO (h : RnS w D N go gc gs vt vp wr fo fc fs) (k : Nat) (hk : k < D) : wr.cell? ⟨go, k * 2, none⟩ = some (.int .u64 (fv (fo k).a)) ∧ wr.cell? ⟨go, k * 2 + 1, none⟩ = some (.int .u64 (fv (fo k).b)) := blk_cellE h.bo (rngL_get D fo k hk)
theorem RnS.cellC (h : RnS w D N go gc gs vt vp wr fo fc fs) (k : Nat) (hk : k < N) : wr.cell? ⟨gc, k * 2, none⟩ = some (.int .u64 (fv (fc k).a)) ∧ wr.cell? ⟨gc, k * 2 + 1, none⟩ = some (.int .u64 (fv (fc k).b)) := blk_cellE h.bc (rngL_get N fc k hk)
theorem RnS.cellS (h : RnS w D N go gc gs vt vp wr fo fc fs) (k : Nat) (hk : k < N) : wr.cell? ⟨gs, k * 2, none⟩ = some (.int .u64 (fv (fs k).a)) ∧ wr.cell? ⟨gs, k * 2 + 1, none⟩ = some (.int .u64 (fv (fs k).b)) := blk_cellE h.bs (rngL_get N fs k hk)
theorem RnS.congr {fo' fc' fs' : Nat → E} (h : RnS w D N go gc gs vt vp wr fo fc fs) (e1 : ∀ j, j < D → fo j = fo' j) (e2 : ∀ j, j < N → fc j = fc' j) (e3 : ∀ j, j < N → fs j = fs' j) : RnS w D N go gc gs vt vp wr fo' fc' fs' :=
  ⟨by rw [← rngL_congr D fo fo' e1]; exact h.bo, by rw [← rngL_congr N fc fc' e2]; exact h.bc, by rw [← rngL_congr N fs fs' e3]; exact h.bs, h.bx, h.hB⟩
end
/-- The first k of the one, the others of the other. -/
def mixF (k : Nat) (f g : Nat → E) : Nat → E := fun j => if j < k then f j else g j
theorem mixF_zero (f g : Nat → E) (j : Nat) : mixF 0 f g j = g j := by unfold mixF; rw [if_neg (by omega)]
theorem mixF_all (f g : Nat → E) (k j : Nat) (h : j < k) : mixF k f g j = f j := by unfold mixF; rw [if_pos h]
theorem mixF_at (f g : Nat → E) (k : Nat) : mixF k f g k = g k := by unfold mixF; rw [if_neg (by omega)]
theorem mixF_set (n : Nat) (f g : Nat → E) (k : Nat) : (rngL n (mixF k f g)).set k (f k) = rngL n (mixF (k + 1) f g) := by
  rw [rngL_set]
  refine rngL_congr _ _ _ fun j _ => ?_
  unfold mixF
  by_cases h : j = k
  · subst h; rw [if_pos rfl, if_pos (by omega)]
  · rw [if_neg h]
    by_cases h2 : j < k
    · rw [if_pos h2, if_pos (by omega)]
    · rw [if_neg h2, if_neg (by omega)]
set_option maxRecDepth 100000 in
set_option maxHeartbeats 8000000 in
theorem gRound (tabs : List (List E)) (ps : List Trm) (n : Nat) (hall : AllLen tabs (2 * n)) (h0 : 0 < tabs.length) (hl : tabs.length ≤ 1000) (hn : n ≤ 100000) (vt vp : Value) (lo hi : Nat) (w : World) (h : SumS lo hi w vt vp tabs ps) :
    Calls Tryz.prog 78 #[sv vt vp] w (RetR (ExtA (rndE tabs ps)) w) := by
  obtain ⟨A, capt, rfl⟩ := h.ht.len
  obtain ⟨D, hD⟩ : ∃ D, D = degE ps + 1 := ⟨_, rfl⟩
  have hD1 : D ≤ 1001 := by
    have : degE ps ≤ 1000 := degE_le ps 1000 (by decide) h.short
    omega
  have hdeg : ((degE ps : Nat) : Int) + 1 = (D : Int) := by omega
  obtain ⟨N, hN⟩ : ∃ N, N = tabs.length := ⟨_, rfl⟩
  have HR := Lib.hid (show rngL D (outF tabs ps n) = rndE tabs ps by rw [hD]; exact rnd_all tabs ps n hall h0)
  have HO := Lib.hid (fun m x (hm : m < n) => outF_succ tabs ps m x n hall hm h.ix)
  have HA := Lib.hid hall
  have HH := Lib.hid h
  rw [← hN] at h0 hl HH HO ⊢
  have HN := Lib.hid hN
  have HD := Lib.hid hD
  obtain ⟨g, off, cap', hv, q1, q2, q3, q4, q5⟩ := tabs_cells h.ht (by rw [← hN]; exact h0)
  rw [← hN] at hv q1
  cases hv
  obtain ⟨t0, ht0⟩ : ∃ t, tabs[0]? = some t := ⟨_, List.getElem?_eq_getElem (by rw [← hN]; exact h0)⟩
  obtain ⟨A0, c0, k0, hE0⟩ := q5 0 t0 ht0
  rw [hall t0 (List.mem_of_getElem? ht0), Nat.add_zero] at k0
  have HQ := Lib.hid q5
  have HK0 := Lib.hid k0
  clear hall h hN hD q5 ht0 hE0 k0
  unfold sv
  go_enter Tryz.func78, Tryz.ntmps78
  go_wp2_with fail
  refine calls_stk1 fun W hB hz b1 => ?_
  have hW := hz.out
  clear hz
  have hS1 := HH.out.keep hB
  refine (gDegree (.slice (some ⟨g, off, none⟩) N capt) vp ps lo hi W hS1.hp HH.out.short).mono ?_
  rintro e w2 ⟨rfl, hb2⟩
  have HMK := Lib.hid (mk_ext D (by omega))
  have b2 := b1.keep hb2
  have hB2 := hB.trans (hb2.mono hB.size)
  clear hS1 b1 hB
  go_upto_region 2 with (simp only [HMK.out])
  refine wp_stk1 fun X hBX hzX bo => ?_
  have hX := hzX.out
  have b3 := b2.keep hBX
  have hB3 := hB2.trans (hBX.mono hB2.size)
  have hw2 := b2.lt
  clear hzX hBX b2 hB2 hb2
  have c1 := gw_blk b3
  refine wp_region_rg 10 [(3, Spec.rel (Lit 30 N ((List.replicate N (0 : E)).flatMap ec).toArray) (LitF N)), (7, Spec.rel (Lit 30 N ((List.replicate N (0 : E)).flatMap ec).toArray) (LitF N))] (by kernel_rfl) (by kernel_rfl) (by kernel_rfl) ⟨fit_lit, fit_lit, trivial⟩ ?_
  refine rg_det rfl rfl rfl (fun K hK => ?_)
  go_big_quiet_op
  refine hK _ ?_; clear hK K
  refine rg_det rfl rfl rfl (fun K hK => ?_)
  go_big_quiet_op
  refine hK _ ?_; clear hK K
  refine rg_det rfl rfl rfl (fun K hK => ?_)
  go_big_quiet_op
  refine hK _ ?_; clear hK K
  refine rg_rel rfl rfl (fun W1 hW1 hF => step_mkE N (by omega) rfl rfl rfl) ?_
  intro n3 m3 v3 hn3 hm3 hd3 hf3 a' ha
  simp only [Act.put, List.setIfInBounds_toArray, List.set_cons_succ, List.set_cons_zero] at ha
  subst ha
  obtain rfl := hf3
  refine rg_det rfl rfl rfl (fun K hK => ?_)
  go_big_quiet_op
  refine hK _ ?_; clear hK K
  refine rg_det rfl rfl rfl (fun K hK => ?_)
  go_big_quiet_op
  refine hK _ ?_; clear hK K
  refine rg_det rfl rfl rfl (fun K hK => ?_)
  go_big_quiet_op
  refine hK _ ?_; clear hK K
  refine rg_rel rfl rfl (fun W1 hW1 hF => step_mkE N (by omega) rfl rfl rfl) ?_
  intro n7 m7 v7 hn7 hm7 hd7 hf7 a' ha
  simp only [Act.put, List.setIfInBounds_toArray, List.set_cons_succ, List.set_cons_zero] at ha
  subst ha
  obtain rfl := hf7
  refine rg_det rfl rfl rfl (fun K hK => ?_)
  go_big_quiet_op
  refine hK _ ?_; clear hK K
  refine rg_det rfl rfl rfl (fun K hK => ?_)
  go_big_quiet_op
  refine hK _ ?_; clear hK K
  refine rg_nil (fun w' hw' hF => ?_)
  obtain ⟨z, rfl⟩ := hw'
  simp only [List.drop_succ_cons, List.drop_zero]
  obtain ⟨hm3b, -, hl3, bc⟩ := end_last (end_init hF)
  obtain ⟨hm7b, -, hl7, bs⟩ := end_last hF
  have hdd := hd7 (n3, m3) (by simp)
  simp only at hdd
  obtain ⟨go, hgo⟩ : ∃ go, go = w2.heap.size := ⟨_, rfl⟩
  rw [← hgo] at bo hw2 hX ⊢
  have HC : Hid (RnC w go n3 n7) := Lib.hid ⟨by omega, by omega, by omega, by omega, by omega, by omega⟩
  rw [rngL_zero] at bo bc bs
  have hS0 : RnS w D N go n3 n7 (.slice (some ⟨g, off, none⟩) N capt) vp z.w (fun _ => 0) (fun _ => 0) (fun _ => 0) := ⟨bo.gw z, bc, bs, b3.gw z, hB3.trans (z.h.mono hB3.size)⟩
  have hS1 : RnS w D N go n3 n7 (.slice (some ⟨g, off, none⟩) N capt) vp z.w (outF tabs ps 0) (fun _ => 0) (fun _ => 0) := hS0.congr (fun _ _ => rfl) (fun _ _ => rfl) (fun _ _ => rfl)
  clear hS0 hF c1 b3 bo bc bs hd3 hd7 hdd hB3 hgo
  obtain ⟨Z, hZ⟩ : ∃ Z, Z = z.w := ⟨_, rfl⟩
  rw [← hZ] at hS1 ⊢
  clear hZ hm3b hm7b hl3 hl7 hm3 hm7 hn3 hn7 z
  go_wp2_with fail
  go_loopw [6] (fun i wr => ∃ m : Nat, m ≤ n ∧ i = .int .i64 ((2 * m : Nat) : Int) ∧ ∃ fc fs, RnS w D N go n3 n7 (.slice (some ⟨g, off, none⟩) N capt) vp wr (outF tabs ps m) fc fs) (fun i _ => 2 * n - (intOf i).toNat)
  case atStart => exact ⟨0, Nat.zero_le _, rfl, _, _, hS1⟩
  case round =>
    obtain ⟨m, hm, rfl, fc, fs, hS⟩ := hrel
    clear hS1
    have k0 := (hS.hB.cell (p := ⟨g, off, none⟩) q4).trans HK0.out
    have q6 : g < wr.heap.size := Nat.lt_of_lt_of_le q4 hS.hB.size
    have e0 := hS.bx.cell
    by_cases hlt : m < n
    · have hlt2 : 2 * m < 2 * n := by omega
      go_wp2_with fail
      clear e0 k0
      go_loopw [35] (fun i wr => ∃ k : Nat, k ≤ N ∧ i = .int .i64 k ∧ RnS w D N go n3 n7 (.slice (some ⟨g, off, none⟩) N capt) vp wr (outF tabs ps m) (mixF k (fun j => valT tabs (2 * m) j) fc) (mixF k (stpF tabs m) fs)) (fun i _ => N - (intOf i).toNat)
      case atStart => exact ⟨0, Nat.zero_le _, rfl, hS.congr (fun _ _ => rfl) (fun j _ => (mixF_zero _ _ j).symm) (fun j _ => (mixF_zero _ _ j).symm)⟩
      case round =>
        obtain ⟨k, hk, rfl, hA⟩ := hrel
        clear hS
        by_cases hkl : k < N
        · obtain ⟨t, ht⟩ : ∃ t, tabs[k]? = some t := ⟨_, List.getElem?_eq_getElem (by rw [← HN.out]; exact hkl)⟩
          obtain ⟨A2, c2, d0, hE⟩ := HQ.out k t ht
          have htl := HA.out t (List.mem_of_getElem? ht)
          obtain ⟨g2, off2, cap2, hv, r1, r2, r3, r4, r5⟩ := exts_cells hE (by omega)
          rw [htl] at hv d0 r1
          cases hv
          obtain ⟨x, hx, hxd⟩ := get_of (l := t) (k := 2 * m) (by omega)
          obtain ⟨y, hy, hyd⟩ := get_of (l := t) (k := 2 * m + 1) (by omega)
          obtain ⟨d1, d2⟩ := r5 (2 * m) x hx
          obtain ⟨d3, d4⟩ := r5 (2 * m + 1) y hy
          have hgd : tabs.getD k [] = t := by simp [List.getD, ht]
          have HX : valT tabs (2 * m) k = x := by unfold valT; rw [hgd]; exact hxd
          have HY : stpF tabs m k = y - x := by unfold stpF valT; rw [hgd, hxd, hyd]
          have HS1 := Lib.hid (mixF_set N (fun j => valT tabs (2 * m) j) fc k)
          have HS2 := Lib.hid (mixF_set N (stpF tabs m) fs k)
          rw [HX] at HS1
          rw [HY] at HS2
          have d0' := (hA.hB.cell (p := ⟨g, off + k, none⟩) q4).trans d0
          have q7 : g < wr.heap.size := Nat.lt_of_lt_of_le q4 hA.hB.size
          have q8 : g2 < wr.heap.size := Nat.lt_of_lt_of_le r4 hA.hB.size
          have f1 := gw_cell q8 ((hA.hB.cell (p := ⟨g2, off2 + 2 * m * 2, none⟩) r4).trans d1)
          have f2 := gw_cell q8 ((hA.hB.cell (p := ⟨g2, off2 + 2 * m * 2 + 1, none⟩) r4).trans d2)
          have f3 := gw_cell q8 ((hA.hB.cell (p := ⟨g2, off2 + (2 * m + 1) * 2, none⟩) r4).trans d3)
          have f4 := gw_cell q8 ((hA.hB.cell (p := ⟨g2, off2 + (2 * m + 1) * 2 + 1, none⟩) r4).trans d4)
          have hm1 : 2 * m + 1 < 2 * n := by omega
          clear r5 d1 d2 d3 d4 hx hy hxd hyd hgd HX HY ht hE htl d0
          go_wp2_with fail
          clear d0'
          refine wp_region_lateM 18 [2,3] [(17, Spec.val (.agg #[.int .u64 (fv (y - x).a), .int .u64 (fv (y - x).b)]))] (by kernel_rfl) (by kernel_rfl) (by kernel_rfl) (by kernel_rfl) (by intro _ _ d _ _ h; cases d <;> exact h) trivial ?_
          refine rg_det rfl rfl rfl (fun K hK => ?_)
          go_big_quiet_op
          refine hK _ ?_; clear hK K
          refine rg_det rfl rfl rfl (fun K hK => ?_)
          go_big_quiet_op
          refine hK _ ?_; clear hK K
          refine rg_det rfl rfl rfl (fun K hK => ?_)
          go_big_quiet_op
          refine hK _ ?_; clear hK K
          refine rg_det rfl rfl rfl (fun K hK => ?_)
          go_big_quiet_op
          refine hK _ ?_; clear hK K
          refine rg_det rfl rfl rfl (fun K hK => ?_)
          go_big_quiet_op
          refine hK _ ?_; clear hK K
          refine rg_det rfl rfl rfl (fun K hK => ?_)
          go_big_quiet_op
          refine hK _ ?_; clear hK K
          refine rg_det rfl rfl rfl (fun K hK => ?_)
          go_big_quiet_op
          refine hK _ ?_; clear hK K
          refine rg_det rfl rfl rfl (fun K hK => ?_)
          go_big_quiet_op
          refine hK _ ?_; clear hK K
          refine rg_det rfl rfl rfl (fun K hK => ?_)
          go_big_quiet_op
          refine hK _ ?_; clear hK K
          refine rg_det rfl rfl rfl (fun K hK => ?_)
          go_big_quiet_op
          refine hK _ ?_; clear hK K
          refine rg_det rfl rfl rfl (fun K hK => ?_)
          go_big_quiet_op
          refine hK _ ?_; clear hK K
          refine rg_det rfl rfl rfl (fun K hK => ?_)
          go_big_quiet_op
          refine hK _ ?_; clear hK K
          refine rg_det rfl rfl rfl (fun K hK => ?_)
          go_big_quiet_op
          refine hK _ ?_; clear hK K
          refine rg_det rfl rfl rfl (fun K hK => ?_)
          go_big_quiet_op
          refine hK _ ?_; clear hK K
          refine rg_det rfl rfl rfl (fun K hK => ?_)
          go_big_quiet_op
          refine hK _ ?_; clear hK K
          refine rg_det rfl rfl rfl (fun K hK => ?_)
          go_big_quiet_op
          refine hK _ ?_; clear hK K
          refine rg_det rfl rfl rfl (fun K hK => ?_)
          go_big_quiet_op
          refine hK _ ?_; clear hK K
          refine rg_val rfl rfl (fun W1 hW1 hF => step_callv en_attestor_ext_Sub (eSub y x W1) rfl rfl) ?_
          intro a' ha
          simp only [Act.put, List.setIfInBounds_toArray, List.set_cons_succ, List.set_cons_zero] at ha
          subst ha
          refine rg_nil (fun w' hw' hF => ?_)
          obtain ⟨z9, rfl⟩ := hw'
          simp only [List.drop_succ_cons, List.drop_zero]
          have S9 := hA.keep z9.h
          obtain ⟨s1, s2⟩ := S9.cellC k hkl
          obtain ⟨s3, s4⟩ := S9.cellS k hkl
          have e1 := S9.bc.frozen
          have e2 := S9.bs.frozen
          have hne := HC.out.h6
          have S10 := Lib.hid ((S9.setC HC.out k x hkl HS1.out).setS HC.out k (y - x) hkl HS2.out)
          clear hF f1 f2 f3 f4 hA S9 HS1 HS2
          go_wp2_with fail
          exact ⟨⟨k + 1, by omega, by go_num, S10.out⟩, by simp [intOf]; omega⟩
        · obtain rfl : k = N := by omega
          have S1 : RnS w D k go n3 n7 (.slice (some ⟨g, off, none⟩) k capt) vp wr (mixF 0 (outF tabs ps (m + 1)) (outF tabs ps m)) (curF tabs m 0) (stpF tabs m) := hA.congr (fun j _ => (mixF_zero _ _ j).symm) (fun j hj => by rw [mixF_all _ _ _ _ hj, curF_zero]) (fun j hj => mixF_all _ _ _ _ hj)
          clear hA
          go_wp2_with fail
          go_loopw [63] (fun i wr => ∃ x : Nat, x ≤ D ∧ i = .int .i64 x ∧ RnS w D k go n3 n7 (.slice (some ⟨g, off, none⟩) k capt) vp wr (mixF x (outF tabs ps (m + 1)) (outF tabs ps m)) (curF tabs m x) (stpF tabs m)) (fun i _ => D - (intOf i).toNat)
          case atStart => exact ⟨0, Nat.zero_le _, rfl, S1⟩
          case round =>
            obtain ⟨x, hx, rfl, hS⟩ := hrel
            clear S1
            by_cases hxl : x < D
            · have hO := HO.out m x hlt
              have HS1 := Lib.hid (mixF_set D (outF tabs ps (m + 1)) (outF tabs ps m) x)
              rw [hO] at HS1
              obtain ⟨s1, s2⟩ := hS.cellO x hxl
              rw [mixF_at] at s1 s2
              have f1 := gw_cell hS.bo.lt s1
              have f2 := gw_cell hS.bo.lt s2
              have f3 := gw_blk hS.bx
              have hFin : ∀ W1, Grw wr W1 → Calls Tryz.prog 47 #[sv (.slice (some ⟨g, off, none⟩) k capt) vp, .slice (some ⟨n3, 0, none⟩) k k] W1 (Ret (ev (finE (valL (rngL k (curF tabs m x))) ps)) W1) := fun W1 hW1 => by
                have hb := grw_below hW1
                have hS2 := hS.keep hb
                have hSm := HH.out.keep hS2.hB
                exact gFinal (rngL k (curF tabs m x)) _ vp _ ps lo hi 0 W1.heap.size W1 hSm.hp (exts_of_blk hS2.bc (rngL_length _ _) (by omega) (Nat.zero_le _) hS2.bc.lt) (by rw [rngL_length, HN.out]; exact hSm.ix) hSm.few hSm.short
              have HFin := Lib.hid hFin
              clear hO s1 s2 hFin
              generalize finE (valL (rngL k (curF tabs m x))) ps = y at *
              generalize outF tabs ps m x = q at *
              go_wp2_with fail
              refine wp_region_rg 11 [(8, Spec.val (.agg #[.int .u64 (fv (y).a), .int .u64 (fv (y).b)])), (9, Spec.val (.agg #[.int .u64 (fv (q + y).a), .int .u64 (fv (q + y).b)]))] (by kernel_rfl) (by kernel_rfl) (by kernel_rfl) trivial ?_
              refine rg_det rfl rfl rfl (fun K hK => ?_)
              go_big_quiet_op
              refine hK _ ?_; clear hK K
              refine rg_det rfl rfl rfl (fun K hK => ?_)
              go_big_quiet_op
              refine hK _ ?_; clear hK K
              refine rg_det rfl rfl rfl (fun K hK => ?_)
              go_big_quiet_op
              refine hK _ ?_; clear hK K
              refine rg_det rfl rfl rfl (fun K hK => ?_)
              go_big_quiet_op
              refine hK _ ?_; clear hK K
              refine rg_det rfl rfl rfl (fun K hK => ?_)
              go_big_quiet_op
              refine hK _ ?_; clear hK K
              refine rg_det rfl rfl rfl (fun K hK => ?_)
              go_big_quiet_op
              refine hK _ ?_; clear hK K
              refine rg_det rfl rfl rfl (fun K hK => ?_)
              go_big_quiet_op
              refine hK _ ?_; clear hK K
              refine rg_det rfl rfl rfl (fun K hK => ?_)
              go_big_quiet_op
              refine hK _ ?_; clear hK K
              refine rg_val rfl rfl (fun W1 hW1 hF => step_callv en_attestor_sumcheck_Final (HFin.out W1 hW1) rfl rfl) ?_
              intro a' ha
              simp only [Act.put, List.setIfInBounds_toArray, List.set_cons_succ, List.set_cons_zero] at ha
              subst ha
              refine rg_val rfl rfl (fun W1 hW1 hF => step_callv en_attestor_ext_Add (eAdd q y W1) rfl rfl) ?_
              intro a' ha
              simp only [Act.put, List.setIfInBounds_toArray, List.set_cons_succ, List.set_cons_zero] at ha
              subst ha
              refine rg_det rfl rfl rfl (fun K hK => ?_)
              go_big_quiet_op
              refine hK _ ?_; clear hK K
              refine rg_nil (fun w' hw' hF => ?_)
              obtain ⟨z14, rfl⟩ := hw'
              simp only [List.drop_succ_cons, List.drop_zero]
              have S9 := hS.keep z14.h
              obtain ⟨s1, s2⟩ := S9.cellO x hxl
              have e1 := S9.bo.frozen
              have S10 := Lib.hid (S9.setO HC.out x (q + y) hxl HS1.out)
              clear hF f1 f2 f3 hS S9 HS1 HFin
              go_wp2_with fail
              have S11 := S10.out.congr (fun _ _ => rfl) (fun j _ => (mixF_zero (curF tabs m (x + 1)) _ j).symm) (fun _ _ => rfl)
              clear S10 s1 s2 e1
              go_loopw [79] (fun i wr => ∃ j : Nat, j ≤ k ∧ i = .int .i64 j ∧ RnS w D k go n3 n7 (.slice (some ⟨g, off, none⟩) k capt) vp wr (mixF (x + 1) (outF tabs ps (m + 1)) (outF tabs ps m)) (mixF j (curF tabs m (x + 1)) (curF tabs m x)) (stpF tabs m)) (fun i _ => k - (intOf i).toNat)
              case atStart => exact ⟨0, Nat.zero_le _, rfl, S11⟩
              case round =>
                obtain ⟨j, hj, rfl, hS⟩ := hrel
                clear S11
                by_cases hjl : j < k
                · have HS1 := Lib.hid (mixF_set k (curF tabs m (x + 1)) (curF tabs m x) j)
                  rw [curF_succ] at HS1
                  obtain ⟨s1, s2⟩ := hS.cellC j hjl
                  obtain ⟨s3, s4⟩ := hS.cellS j hjl
                  rw [mixF_at] at s1 s2
                  have f1 := gw_cell hS.bc.lt s1
                  have f2 := gw_cell hS.bc.lt s2
                  have f3 := gw_cell hS.bs.lt s3
                  have f4 := gw_cell hS.bs.lt s4
                  clear s1 s2 s3 s4
                  generalize curF tabs m x j = a at *
                  generalize stpF tabs m j = b at *
                  go_wp2_with fail
                  refine wp_region_rg 12 [(10, Spec.val (.agg #[.int .u64 (fv (a + b).a), .int .u64 (fv (a + b).b)]))] (by kernel_rfl) (by kernel_rfl) (by kernel_rfl) trivial ?_
                  refine rg_det rfl rfl rfl (fun K hK => ?_)
                  go_big_quiet_op
                  refine hK _ ?_; clear hK K
                  refine rg_det rfl rfl rfl (fun K hK => ?_)
                  go_big_quiet_op
                  refine hK _ ?_; clear hK K
                  refine rg_det rfl rfl rfl (fun K hK => ?_)
                  go_big_quiet_op
                  refine hK _ ?_; clear hK K
                  refine rg_det rfl rfl rfl (fun K hK => ?_)
                  go_big_quiet_op
                  refine hK _ ?_; clear hK K
                  refine rg_det rfl rfl rfl (fun K hK => ?_)
                  go_big_quiet_op
                  refine hK _ ?_; clear hK K
                  refine rg_det rfl rfl rfl (fun K hK => ?_)
                  go_big_quiet_op
                  refine hK _ ?_; clear hK K
                  refine rg_det rfl rfl rfl (fun K hK => ?_)
                  go_big_quiet_op
                  refine hK _ ?_; clear hK K
                  refine rg_det rfl rfl rfl (fun K hK => ?_)
                  go_big_quiet_op
                  refine hK _ ?_; clear hK K
                  refine rg_det rfl rfl rfl (fun K hK => ?_)
                  go_big_quiet_op
                  refine hK _ ?_; clear hK K
                  refine rg_det rfl rfl rfl (fun K hK => ?_)
                  go_big_quiet_op
                  refine hK _ ?_; clear hK K
                  refine rg_val rfl rfl (fun W1 hW1 hF => step_callv en_attestor_ext_Add (eAdd a b W1) rfl rfl) ?_
                  intro a' ha
                  simp only [Act.put, List.setIfInBounds_toArray, List.set_cons_succ, List.set_cons_zero] at ha
                  subst ha
                  refine rg_det rfl rfl rfl (fun K hK => ?_)
                  go_big_quiet_op
                  refine hK _ ?_; clear hK K
                  refine rg_nil (fun w' hw' hF => ?_)
                  obtain ⟨z18, rfl⟩ := hw'
                  simp only [List.drop_succ_cons, List.drop_zero]
                  have S9 := hS.keep z18.h
                  obtain ⟨s1, s2⟩ := S9.cellC j hjl
                  have e1 := S9.bc.frozen
                  have S10 := Lib.hid (S9.setC HC.out j (a + b) hjl HS1.out)
                  clear hF f1 f2 f3 f4 hS S9 HS1
                  go_wp2_with fail
                  exact ⟨⟨j + 1, by omega, by go_num, S10.out⟩, by simp [intOf]; omega⟩
                · obtain rfl : j = k := by omega
                  have S12 := hS.congr (fun _ _ => rfl) (fun i hi => mixF_all _ _ _ _ hi) (fun _ _ => rfl)
                  clear hS
                  go_wp2_with fail
                  exact ⟨⟨x + 1, by omega, by go_num, S12⟩, by simp [intOf]; omega⟩
            · obtain rfl : x = D := by omega
              have S12 := hS.congr (fun i hi => mixF_all _ _ _ _ hi) (fun _ _ => rfl) (fun _ _ => rfl)
              clear hS
              go_wp2_with fail
              exact ⟨⟨m + 1, by omega, by go_num, _, _, S12⟩, by simp [intOf]; omega⟩
    · obtain rfl : m = n := by omega
      go_wp2_with fail
      go_ret
      refine ⟨_, rfl, ?_, hS.hB⟩
      have := exts_of_blk hS.bo (rngL_length _ _) (by omega) (Nat.le_of_lt HC.out.h1) hS.bo.lt
      rw [HR.out] at this
      exact this
end Go.Proofs.YtnddfeidggcplaaGreat
namespace Go.Proofs.YtnddfeidggcplaaGreat
open Go.RowKit

theorem TrmS.base {lo hi : Nat} {w : World} {v : Value} {ps : List Trm} (h : TrmS lo hi w v ps) : TrmS 0 w.heap.size w v ps := by
  obtain ⟨us, h1, h2, h3⟩ := h
  have key : ∀ {n size : Nat} {v : Value} {cs : List Value}, Rd lo hi size w v n cs → Rd 0 w.heap.size size w v n cs := fun ⟨q1, q2, A, cap, q3, q4, q5⟩ => ⟨q1, q2, A, cap, q3, q4, fun h0 => by
    obtain ⟨g, off, r1, r2, r3, r4, r5⟩ := q5 h0
    exact ⟨g, off, r1, Nat.zero_le _, r4, r4, r5⟩⟩
  exact ⟨us, h1, key h2, fun k u t hu ht => key (h3 k u t hu ht)⟩
theorem bndAll_length (tabs : List (List E)) : ∀ cs : List E, (bndAll tabs cs).length = tabs.length := by
  intro cs
  unfold bndAll
  induction cs generalizing tabs with
  | nil => rfl
  | cons c cs ih => rw [List.foldl_cons, ih, bndE_length]
theorem bndAll_len (n : Nat) : ∀ (cs : List E) (tabs : List (List E)), cs.length ≤ n → AllLen tabs (2 ^ n) → AllLen (bndAll tabs cs) (2 ^ (n - cs.length))
  | [], tabs, _, h => h
  | c :: cs, tabs, hl, h => by
    obtain ⟨m, rfl⟩ : ∃ m, n = m + 1 := ⟨n - 1, by simp only [List.length_cons] at hl; omega⟩
    have h' : AllLen tabs (2 * 2 ^ m) := by rw [← Nat.pow_succ']; exact h
    have h2 := bndAll_len m cs (bndE tabs c) (by simp only [List.length_cons] at hl; omega) (h'.bnd c)
    rw [List.length_cons, show m + 1 - (cs.length + 1) = m - cs.length by omega]
    exact h2
theorem bndAll_at (tabs : List (List E)) (coins : List E) (n j : Nat) (h : AllLen tabs (2 ^ n)) (hc : coins.length = n) (hj : j < n) : AllLen (bndAll tabs (coins.take j)) (2 * 2 ^ (n - 1 - j)) := by
  have h1 := bndAll_len n (coins.take j) tabs (by rw [List.length_take]; omega) h
  rw [List.length_take, Nat.min_eq_left (by omega)] at h1
  have e : 2 * 2 ^ (n - 1 - j) = 2 ^ (n - j) := by rw [← Nat.pow_succ']; congr 1; omega
  rw [e]
  exact h1
theorem pow_le_of (n j : Nat) (h : n ≤ 16) : 2 ^ (n - 1 - j) ≤ 65536 := Nat.le_trans (Nat.pow_le_pow_right (by decide) (show n - 1 - j ≤ 16 by omega)) (by decide)
/-- What Prove hands back. -/
def PrvR (w : World) (rs : List (List E)) (vs : List E) (e : Ending) (w' : World) : Prop := ∃ v1 v2, e = .returned (.tuple #[v1, v2]) ∧ TabS w.heap.size w'.heap.size w' v1 rs ∧ ExtS w.heap.size w'.heap.size w' v2 vs ∧ Below w.heap.size w w'
set_option maxRecDepth 100000 in
set_option maxHeartbeats 8000000 in
theorem gProve (tabs : List (List E)) (ps : List Trm) (coins : List E) (n : Nat) (hc : coins.length = n) (hn : n ≤ 16) (hall : AllLen tabs (2 ^ n)) (h0 : 0 < tabs.length) (hl : tabs.length ≤ 1000) (vt vp vc : Value) (lo hi lo2 hi2 : Nat) (w : World) (h : SumS lo hi w vt vp tabs ps) (hcs : ExtS lo2 hi2 w vc coins) :
    Calls Tryz.prog 36 #[sv vt vp, vc] w (PrvR w (prvR tabs ps coins) (prvV tabs coins) · ·) := by
  obtain ⟨AC, capC, rfl⟩ := Rd.len hcs
  obtain ⟨AP, capP, rfl⟩ := h.hp.len
  have HAl := Lib.hid (fun j (hj : j < n) => bndAll_at tabs coins n j hall hc hj)
  have HAe := Lib.hid (show AllLen (bndAll tabs coins) 1 by have := bndAll_len n coins tabs (by omega) hall; rwa [hc, Nat.sub_self] at this)
  have HH := Lib.hid h
  have HCS := Lib.hid hcs
  have HPL := Lib.hid (prvR_length ps coins tabs)
  have HBl := Lib.hid (bndAll_length tabs)
  have HC := Lib.hid hc
  rw [hc]
  clear hall h hcs hc
  obtain ⟨np, hnp⟩ : ∃ np, np = ps.length := ⟨_, rfl⟩
  rw [← hnp]
  have HNP := Lib.hid hnp
  clear hnp
  unfold sv
  go_enter Tryz.func36, Tryz.ntmps36
  go_wp2_with fail
  refine wp_stk1 fun W hB hz b1 => ?_
  have hW := hz.out
  clear hz
  go_loopw [6, 14] (fun u i wr => ∃ j : Nat, j ≤ n ∧ i = .int .i64 j ∧ RowT (w.heap.size + 1) wr u (prvR tabs ps (coins.take j)) ∧ ∃ vt L H, Blk wr w.heap.size 36 #[vt, .slice AP np capP] ∧ TabS L H wr vt (bndAll tabs (coins.take j)) ∧ Outside L H u ∧ H ≤ wr.heap.size ∧ Below w.heap.size w wr ∧ w.heap.size + 1 ≤ wr.heap.size) (fun _ i _ => n - (intOf i).toNat)
  case atStart => exact ⟨0, Nat.zero_le _, rfl, RowT.first _ _, vt, 0, W.heap.size, b1, ((HH.out.ht.keep hB).base), fun b hb => by simp [Value.ownBlock] at hb, Nat.le_refl _, hB, by omega⟩
  case round =>
    obtain ⟨j, hj, rfl, hrow, vt', L, H, bb, hT, hout, hH, hBr, hsz⟩ := hrel
    clear b1 hB
    by_cases hlt : j < n
    · have hEc := Rd.keep HCS.out hBr
      obtain ⟨g, off, cap', hv, q1, q2, q3, q4, q5⟩ := exts_cells hEc (by rw [HC.out]; omega)
      rw [HC.out] at hv
      cases hv
      obtain ⟨r, hr, hrd⟩ := get_of (l := coins) (k := j) (by rw [HC.out]; exact hlt)
      obtain ⟨d1, d2⟩ := q5 j r hr
      have HPS := Lib.hid (prvR_succ ps r coins j tabs hr)
      have HBS := Lib.hid (bndAll_succ tabs coins j r hr)
      have hal := HAl.out j hlt
      have hlt2 := HBl.out (coins.take j)
      have hlr : (prvR tabs ps (coins.take j)).length = j := by rw [prvR_length, List.length_take, HC.out, Nat.min_eq_left (by omega)]
      obtain ⟨m, hm⟩ : ∃ m, m = 2 ^ (n - 1 - j) := ⟨_, rfl⟩
      have hm1 : m ≤ 65536 := by rw [hm]; exact pow_le_of n j hn
      have hm0 : 0 < m := by rw [hm]; exact Nat.two_pow_pos _
      rw [← hm] at hal
      have HAL := Lib.hid hal
      have HL2 := Lib.hid hlt2
      have HLR := Lib.hid hlr
      clear q5 hr hrd hal hlt2 hEc hm hlr
      generalize bndAll tabs (coins.take j) = T at *
      generalize prvR tabs ps (coins.take j) = R at *
      obtain ⟨wo, hwo⟩ : ∃ wo, wo = wr := ⟨_, rfl⟩
      subst hwo
      obtain ⟨AT, capT, rfl⟩ := hT.len
      go_upto_region 5 with (fail)
      refine wp_stk1 fun X hBX hzX b8 => ?_
      have hX := hzX.out
      have bbX := bb.keep hBX
      have hTX := hT.keep hBX
      have hrX := hrow.keep hBX
      have hBX2 := hBr.trans (hBX.mono hBr.size)
      have e0 := bbX.cell
      have hblk : ∀ b, u6.ownBlock = some b → b < wo.heap.size := fun b hb => (hrow.block hb).2
      clear hzX d1 d2 bb hT hrow
      go_wp2_with fail
      have hSX := HH.out.keep hBX2
      refine (gRound T ps m HAL.out (by rw [HL2.out]; exact h0) (by rw [HL2.out]; exact hl) (by omega) _ _ 0 X.heap.size X ⟨hTX.base, by have := hSX.hp.base; rwa [← HNP.out] at this, by rw [HL2.out]; exact hSX.ix, hSX.few, hSX.short⟩).mono ?_
      rintro e w2 ⟨v2, rfl, t2, hb2⟩
      replace t2 : ExtS X.heap.size w2.heap.size w2 v2 (rndE T ps) := t2
      obtain ⟨A2, c2, rfl⟩ := Rd.len t2
      generalize rndE T ps = y at *
      have hs2 := hb2.size
      clear e0
      go_wp2_with (at_builtin; refine wpList_appT (x := .slice A2 y.length c2) (y := y) (lo := X.heap.size) (hi := w2.heap.size) (base := w.heap.size + 1) (ts := R) rfl _ _ rfl Tryz.underlying37 rfl rfl ?hrow ?hsrc rfl ?hE ?hlo ?hhi ?hout ?hk ?hbase ?_)
      case hrow => exact (hrX.keep hb2).keep ((Below.refl _ _).alloc (Nat.le_refl _) _)
      case hsrc => exact Blk.new_at _ _ _ rfl
      case hE => exact Rd.keep t2 ((Below.refl _ _).alloc (Nat.le_refl _) _)
      case hlo => omega
      case hhi => simp
      case hout => exact hrX.out (Nat.le_refl _)
      case hk => rw [HLR.out]; omega
      case hbase => simp; omega
      intro u' w3 hrow3 hB3 hg3 hob3
      have hal2 : Below w2.heap.size w2 (w2.alloc (.cells #[.slice A2 y.length c2] 22)) := (Below.refl _ _).alloc (Nat.le_refl _) _
      have hXa := hb2.trans (hal2.mono hs2)
      have bb3 := (bbX.keep hXa).below hB3 (by omega)
      have hT3 := tabs_kept (hTX.keep hXa) (Kept.of_grown hg3 hout (by simp; omega)) hg3.size
      have b83 : Blk w3 wo.heap.size 30 #[.int .u64 (fv r.a), .int .u64 (fv r.b)] := grown_blk hg3 (b8.keep hXa) (fun e => absurd (hblk _ e.symm) (Nat.lt_irrefl _))
      have hBw3 : Below w.heap.size w w3 := (hBX2.trans (hXa.mono hBX2.size)).trans (hB3.mono (by omega))
      have hs3 := hB3.size
      have e0 := bb3.cell
      have e1 := b83.cell
      rw [← HPS.out] at hrow3
      clear hrX hTX bbX b8 hg3 hout hob3 t2 hb2
      go_wp2_with fail
      refine (gBndSum T r m HAL.out hm0 (by omega) (by rw [HL2.out]; exact hl) _ (.slice AP np capP) L H w3 hT3 ⟨_, _, _, rfl⟩).mono ?_
      rintro e w4 ⟨v4, rfl, ⟨vt4, rfl, hT4⟩, hb4⟩
      rw [← HBS.out] at hT4
      obtain ⟨A4, cap4, rfl⟩ := hT4.len
      have bb4 := bb3.keep hb4
      have hrow4 := hrow3.keep hb4
      have hB4 := hBw3.trans (hb4.mono hBw3.size)
      have e2 := bb4.frozen
      have e3 := bb4.cell
      unfold sv
      clear e0 e1
      go_wp2_with fail
      have hp : ∀ x y, Put w4 ((w4.setCell ⟨w.heap.size, 0, none⟩ x).setCell ⟨w.heap.size, 1, none⟩ y) w.heap.size := fun x y => (Put.set _ _ _ _).trans (Put.set _ _ _ _)
      refine ⟨⟨j + 1, by omega, by go_num, hrow4.put (hp _ _) (by omega), _, w3.heap.size, w4.heap.size, blk_set2 bb4, hT4.put (hp _ _) (.inl bb3.lt), hrow3.out (Nat.le_refl _), by rw [(hp _ _).size]; exact Nat.le_refl _, below_put hB4 (hp _ _) (Nat.le_refl _), by rw [(hp _ _).size]; exact bb4.lt⟩, by simp [intOf]; omega⟩
    · obtain rfl : j = n := by omega
      have htk : coins.take j = coins := by rw [← HC.out, List.take_length]
      rw [htk] at hrow hT
      have hlT : (bndAll tabs coins).length = tabs.length := HBl.out coins
      have HV := Lib.hid (show rngL tabs.length (fun k => valT (bndAll tabs coins) 0 k) = prvV tabs coins by
        unfold prvV
        rw [← hlT]
        apply List.ext_getElem?
        intro k
        by_cases hk : k < (bndAll tabs coins).length
        · rw [rngL_get _ _ k hk, List.getElem?_map, List.getElem?_eq_getElem hk]
          simp [valT, List.getD, hk]
        · rw [List.getElem?_eq_none (by rw [rngL_length]; omega), List.getElem?_eq_none (by rw [List.length_map]; omega)])
      have HT := Lib.hid hT
      obtain ⟨AT, capT, rfl⟩ := hT.len
      rw [hlT] at bb HT
      have HLT := Lib.hid hlT
      have HRW := Lib.hid hrow
      have HMK := Lib.hid (mk_ext tabs.length (by omega))
      have e0 := bb.cell
      have HT0 := Lib.hid (fun k (hk : k < tabs.length) => show ∃ t, (bndAll tabs coins)[k]? = some t ∧ t.length = 1 from ⟨_, List.getElem?_eq_getElem (by rw [hlT]; exact hk), HAe.out _ (List.getElem_mem ..)⟩)
      clear hT hlT htk hrow
      generalize bndAll tabs coins = T at *
      obtain ⟨wo, hwo⟩ : ∃ wo, wo = wr := ⟨_, rfl⟩
      subst hwo
      go_upto_region 9 with (simp only [HMK.out])
      refine wp_stk1 fun X hBX hzX bv => ?_
      have bbX := bb.keep hBX
      have HTX := Lib.hid (HT.out.keep hBX)
      have hRX := Lib.hid ((HRW.out.tabs (by rw [HPL.out, HC.out]; omega)).keep hBX)
      have hBXw := hBr.trans (hBX.mono hBr.size)
      have hbl := bb.lt
      clear e0 bb HT HRW hzX
      have e0 := bbX.cell
      go_wp2_with fail
      clear e0
      rw [rngL_zero] at bv
      have bv0 : Blk X wo.heap.size 30 ((rngL tabs.length (mixF 0 (fun k => valT T 0 k) (fun _ => 0))).flatMap ec).toArray := by
        rw [rngL_congr _ (mixF 0 (fun k => valT T 0 k) (fun _ => 0)) (fun _ => 0) (fun j _ => mixF_zero _ _ j)]; exact bv
      clear bv
      go_loopw [34] (fun i wr => ∃ k : Nat, k ≤ tabs.length ∧ i = .int .i64 k ∧ Blk wr wo.heap.size 30 ((rngL tabs.length (mixF k (fun k => valT T 0 k) (fun _ => 0))).flatMap ec).toArray ∧ Put X wr wo.heap.size) (fun i _ => tabs.length - (intOf i).toNat)
      case atStart => exact ⟨0, Nat.zero_le _, rfl, bv0, Put.refl _ _⟩
      case round =>
        obtain ⟨k, hk, rfl, bv, hp⟩ := hrel
        clear bv0
        by_cases hkl : k < tabs.length
        · obtain ⟨t, ht, ht1⟩ := HT0.out k hkl
          obtain ⟨g, off, cap', hv, q1, q2, q3, q4, q5⟩ := tabs_cells (HTX.out.put hp (.inr hH)) (by rw [HLT.out]; omega)
          rw [HLT.out] at hv
          cases hv
          obtain ⟨A2, c2, d0, hE⟩ := q5 k t ht
          obtain ⟨g2, off2, cap2, hv, r1, r2, r3, r4, r5⟩ := exts_cells hE (by omega)
          rw [ht1] at hv d0 r1
          cases hv
          obtain ⟨x, hx, hxd⟩ := get_of (l := t) (k := 0) (by omega)
          obtain ⟨d1, d2⟩ := r5 0 x hx
          simp only [Nat.zero_mul, Nat.add_zero] at d1 d2
          have HX : valT T 0 k = x := by unfold valT; rw [show T.getD k [] = t by simp [List.getD, ht]]; exact hxd
          have HS1 := Lib.hid (mixF_set tabs.length (fun k => valT T 0 k) (fun _ => 0) k)
          rw [HX] at HS1
          obtain ⟨s1, s2⟩ := blk_cellE bv (rngL_get tabs.length (mixF k (fun k => valT T 0 k) (fun _ => 0)) k hkl)
          have e1 := bv.frozen
          have b2 := Lib.hid (blk_setE bv k x (by rw [rngL_length]; exact hkl))
          rw [HS1.out] at b2
          clear q5 r5 ht hE hx hxd HX
          go_wp2_with fail
          exact ⟨⟨k + 1, by omega, by go_num, b2.out, (hp.trans (Put.set _ wo.heap.size _ _)).trans (Put.set _ wo.heap.size _ _)⟩, by simp [intOf]; omega⟩
        · obtain rfl : k = tabs.length := by omega
          rw [rngL_congr _ _ _ (fun j hj => mixF_all _ _ _ _ hj), HV.out] at bv
          have hlV : (prvV tabs coins).length = tabs.length := by rw [← HV.out, rngL_length]
          go_wp2_with fail
          go_ret2
          have hXs := hp.size
          have hXo := hBX.size
          refine ⟨_, _, rfl, (hRX.out.put hp (.inr (Nat.le_refl _))).wide (by omega) (by omega), ?_, below_put hBXw hp (by omega)⟩
          have := exts_of_blk bv hlV (by omega) (show w.heap.size ≤ wo.heap.size by omega) bv.lt
          exact this
end Go.Proofs.YtnddfeidggcplaaGreat
