/-
  Sums of products of tables, as they lie in memory: slices of tables, slices of terms.
  The sum over all terms, for a function that gives the tables' values; Final, Total and Degree of package sumcheck, by contract.
  Final, Total and Degree of package sumcheck, by contract.
-/
import Derived.Test.YtnddfeidggcplaaGreatInv
import Derived.Test.YtnddfeidggcplaaGreatGrow
import Derived.Deep.Cut
namespace Go.Proofs.YtnddfeidggcplaaGreat
open Go.RowKit

/-- A slice of indices. -/
def ic (k : Nat) : List Value := [.int .i64 (k : Int)]
theorem ic_len (k : Nat) : (ic k).length = 1 := rfl
def IdxS (lo hi : Nat) (w : World) (v : Value) (l : List Nat) : Prop := Rd lo hi 1 w v l.length (l.flatMap ic)
theorem idxs_cells {lo hi : Nat} {w : World} {v : Value} {l : List Nat} (h : IdxS lo hi w v l) (h0 : 0 < l.length) : ∃ g off cap, v = .slice (some ⟨g, off, none⟩) l.length cap ∧ l.length ≤ cap ∧ lo ≤ g ∧ g < hi ∧ g < w.heap.size ∧
    ∀ (k x : Nat), l[k]? = some x → w.cell? ⟨g, off + k, none⟩ = some (.int .i64 (x : Int)) := by
  obtain ⟨g, off, cap, q1, q2, q3, q4, q5, q6⟩ := Rd.form h h0
  refine ⟨g, off, cap, q1, q2, q3, q4, q5, fun k x hx => ?_⟩
  have := q6 (k * 1) _ (by simpa using flat_get ic_len l k 0 x _ hx rfl)
  rwa [Nat.mul_one] at this
/-- A slice of tables. -/
def TabS (lo hi : Nat) (w : World) (v : Value) (tabs : List (List E)) : Prop := ∃ us : List Value, us.length = tabs.length ∧ Rd lo hi 1 w v tabs.length us ∧ ∀ (k : Nat) u t, us[k]? = some u → tabs[k]? = some t → ExtS lo hi w u t
theorem TabS.keep {lo hi : Nat} {w w' : World} {v : Value} {tabs : List (List E)} (h : TabS lo hi w v tabs) (hb : Below w.heap.size w w') : TabS lo hi w' v tabs := by
  obtain ⟨us, h1, h2, h3⟩ := h
  exact ⟨us, h1, h2.keep hb, fun k u t hu ht => Rd.keep (h3 k u t hu ht) hb⟩
theorem TabS.wide {lo hi lo' hi' : Nat} {w : World} {v : Value} {tabs : List (List E)} (h : TabS lo hi w v tabs) (h1 : lo' ≤ lo) (h2 : hi ≤ hi') : TabS lo' hi' w v tabs := by
  obtain ⟨us, q1, q2, q3⟩ := h
  exact ⟨us, q1, q2.wide h1 h2, fun k u t hu ht => Rd.wide (q3 k u t hu ht) h1 h2⟩
theorem TabS.other {lo hi : Nat} {w w' : World} {v : Value} {tabs : List (List E)} (h : TabS lo hi w v tabs) (hs : w.heap.size ≤ w'.heap.size) (hb : ∀ g, lo ≤ g → g < hi → g < w.heap.size → w'.heap[g]? = w.heap[g]?) : TabS lo hi w' v tabs := by
  obtain ⟨us, q1, q2, q3⟩ := h
  exact ⟨us, q1, q2.other hs hb, fun k u t hu ht => Rd.other (q3 k u t hu ht) hs hb⟩
theorem TabS.len {lo hi : Nat} {w : World} {v : Value} {tabs : List (List E)} (h : TabS lo hi w v tabs) : ∃ A cap, v = .slice A tabs.length cap := by
  obtain ⟨us, _, h2, _⟩ := h
  exact h2.len
theorem TabS.small {lo hi : Nat} {w : World} {v : Value} {tabs : List (List E)} (h : TabS lo hi w v tabs) : tabs.length ≤ 140737488355327 := by
  obtain ⟨us, _, h2, _⟩ := h
  exact h2.2.1
theorem tabs_cells {lo hi : Nat} {w : World} {v : Value} {tabs : List (List E)} (h : TabS lo hi w v tabs) (h0 : 0 < tabs.length) : ∃ g off cap, v = .slice (some ⟨g, off, none⟩) tabs.length cap ∧ tabs.length ≤ cap ∧ lo ≤ g ∧ g < hi ∧ g < w.heap.size ∧
    ∀ k t, tabs[k]? = some t → ∃ A c, w.cell? ⟨g, off + k, none⟩ = some (.slice A t.length c) ∧ ExtS lo hi w (.slice A t.length c) t := by
  obtain ⟨us, h1, h2, h3⟩ := h
  obtain ⟨g, off, cap, q1, q2, q3, q4, q5, q6⟩ := Rd.form h2 h0
  refine ⟨g, off, cap, q1, q2, q3, q4, q5, fun k t ht => ?_⟩
  have hk : k < tabs.length := (List.getElem?_eq_some_iff.1 ht).1
  have hu : us[k]? = some (us[k]'(by omega)) := List.getElem?_eq_getElem _
  have h4 := h3 k _ t hu ht
  obtain ⟨A, c, hA⟩ := Rd.len h4
  have h5 := q6 k _ hu
  rw [hA] at h4 h5
  exact ⟨A, c, h5, h4⟩
/-- A slice of terms. -/
def trc (x : Trm × Value) : List Value := [.int .u64 (fv x.1.c.a), .int .u64 (fv x.1.c.b), x.2]
theorem trc_len (x : Trm × Value) : (trc x).length = 3 := rfl
def TrmS (lo hi : Nat) (w : World) (v : Value) (ps : List Trm) : Prop := ∃ us : List Value, us.length = ps.length ∧ Rd lo hi 3 w v ps.length ((ps.zip us).flatMap trc) ∧ ∀ (k : Nat) u p, us[k]? = some u → ps[k]? = some p → IdxS lo hi w u p.t
theorem TrmS.keep {lo hi : Nat} {w w' : World} {v : Value} {ps : List Trm} (h : TrmS lo hi w v ps) (hb : Below w.heap.size w w') : TrmS lo hi w' v ps := by
  obtain ⟨us, h1, h2, h3⟩ := h
  exact ⟨us, h1, h2.keep hb, fun k u t hu ht => Rd.keep (h3 k u t hu ht) hb⟩
theorem TrmS.wide {lo hi lo' hi' : Nat} {w : World} {v : Value} {ps : List Trm} (h : TrmS lo hi w v ps) (h1 : lo' ≤ lo) (h2 : hi ≤ hi') : TrmS lo' hi' w v ps := by
  obtain ⟨us, q1, q2, q3⟩ := h
  exact ⟨us, q1, q2.wide h1 h2, fun k u t hu ht => Rd.wide (q3 k u t hu ht) h1 h2⟩
theorem TrmS.other {lo hi : Nat} {w w' : World} {v : Value} {ps : List Trm} (h : TrmS lo hi w v ps) (hs : w.heap.size ≤ w'.heap.size) (hb : ∀ g, lo ≤ g → g < hi → g < w.heap.size → w'.heap[g]? = w.heap[g]?) : TrmS lo hi w' v ps := by
  obtain ⟨us, q1, q2, q3⟩ := h
  exact ⟨us, q1, q2.other hs hb, fun k u t hu ht => Rd.other (q3 k u t hu ht) hs hb⟩
theorem TrmS.len {lo hi : Nat} {w : World} {v : Value} {ps : List Trm} (h : TrmS lo hi w v ps) : ∃ A cap, v = .slice A ps.length cap := by
  obtain ⟨us, _, h2, _⟩ := h
  exact h2.len
theorem TrmS.small {lo hi : Nat} {w : World} {v : Value} {ps : List Trm} (h : TrmS lo hi w v ps) : ps.length ≤ 140737488355327 := by
  obtain ⟨us, _, h2, _⟩ := h
  exact h2.2.1
theorem trms_cells {lo hi : Nat} {w : World} {v : Value} {ps : List Trm} (h : TrmS lo hi w v ps) (h0 : 0 < ps.length) : ∃ g off cap, v = .slice (some ⟨g, off, none⟩) ps.length cap ∧ ps.length ≤ cap ∧ lo ≤ g ∧ g < hi ∧ g < w.heap.size ∧
    ∀ k p, ps[k]? = some p → ∃ A c, w.cell? ⟨g, off + k * 3, none⟩ = some (.int .u64 (fv p.c.a)) ∧ w.cell? ⟨g, off + k * 3 + 1, none⟩ = some (.int .u64 (fv p.c.b)) ∧ w.cell? ⟨g, off + k * 3 + 2, none⟩ = some (.slice A p.t.length c) ∧ IdxS lo hi w (.slice A p.t.length c) p.t := by
  obtain ⟨us, h1, h2, h3⟩ := h
  obtain ⟨g, off, cap, q1, q2, q3, q4, q5, q6⟩ := Rd.form h2 h0
  refine ⟨g, off, cap, q1, q2, q3, q4, q5, fun k p hp => ?_⟩
  have hk : k < ps.length := (List.getElem?_eq_some_iff.1 hp).1
  have hu : us[k]? = some (us[k]'(by omega)) := List.getElem?_eq_getElem _
  have h4 := h3 k _ p hu hp
  obtain ⟨A, c, hA⟩ := Rd.len h4
  have hz : (ps.zip us)[k]? = some (p, us[k]'(by omega)) := by rw [List.getElem?_zip_eq_some]; exact ⟨hp, hu⟩
  have e : ∀ j u, (trc (p, us[k]'(by omega)))[j]? = some u → w.cell? ⟨g, off + k * 3 + j, none⟩ = some u := fun j u hu => by
    have := q6 (k * 3 + j) _ (flat_get trc_len _ k j _ _ hz hu)
    rwa [← Nat.add_assoc] at this
  rw [hA] at h4 e
  exact ⟨A, c, e 0 _ rfl, e 1 _ rfl, e 2 _ rfl, h4⟩
/-- A sum: its two slices, and what holds of the terms. -/
structure SumS (lo hi : Nat) (w : World) (vt vp : Value) (tabs : List (List E)) (ps : List Trm) : Prop where
  ht : TabS lo hi w vt tabs
  hp : TrmS lo hi w vp ps
  ix : ∀ p ∈ ps, ∀ k ∈ p.t, k < tabs.length
  few : ps.length ≤ 1000
  short : ∀ p ∈ ps, p.t.length ≤ 1000
theorem SumS.keep {lo hi : Nat} {w w' : World} {vt vp : Value} {tabs : List (List E)} {ps : List Trm} (h : SumS lo hi w vt vp tabs ps) (hb : Below w.heap.size w w') : SumS lo hi w' vt vp tabs ps :=
  ⟨h.ht.keep hb, h.hp.keep hb, h.ix, h.few, h.short⟩
def sv (vt vp : Value) : Value := .agg #[vt, vp]
end Go.Proofs.YtnddfeidggcplaaGreat
namespace Go.Proofs.YtnddfeidggcplaaGreat
open Go.RowKit

set_option maxRecDepth 100000 in
set_option maxHeartbeats 2000000 in
theorem gEvaluate (n : Nat) (val : Nat → E) (F : FuncId) (cap : List Value) (hen : ∀ args w, (callFunc F args).run Tryz.prog w = .ok (.enter F args) w) (vt vp : Value) (ps : List Trm) (lo hi : Nat) (w : World)
    (hval : ∀ (k : Nat) (W : World), k < n → Below w.heap.size w W → Calls Tryz.prog F (([.int .i64 (k : Int)] : List Value) ++ cap).toArray W (Ret (ev (val k)) W))
    (hp : TrmS lo hi w vp ps) (hix : ∀ p ∈ ps, ∀ k ∈ p.t, k < n) (hfew : ps.length ≤ 1000) (hsh : ∀ p ∈ ps, p.t.length ≤ 1000) :
    Calls Tryz.prog 85 #[sv vt vp, .func (.func F) #[] cap.toArray] w (Ret (ev (finE val ps)) w) := by
  obtain ⟨A, capP, rfl⟩ := hp.len
  have HIX := Lib.hid hix
  have HSH := Lib.hid hsh
  have HV := Lib.hid hval
  have HEN := Lib.hid hen
  clear hix hsh hval hen
  unfold ev sv
  go_enter Tryz.func85, Tryz.ntmps85
  go_wp2_with fail
  refine wp_stk3 fun W hB hz b1 b2 b3 => ?_
  have hW := hz.out
  clear hz
  clear b1
  go_loopw [14] (fun i wr => ∃ j : Nat, j ≤ ps.length ∧ i = .int .i64 j ∧ Blk wr (w.heap.size + 2) 30 #[.int .u64 (fv (finK val ps j).a), .int .u64 (fv (finK val ps j).b)] ∧ Blk wr (w.heap.size + 1) 30 #[.int .u64 0, .int .u64 0] ∧ Below w.heap.size w wr) (fun i _ => ps.length - (intOf i).toNat)
  case atStart => exact ⟨0, Nat.zero_le _, rfl, b3, b2, hB⟩
  case round =>
    obtain ⟨j, hj, rfl, bs, br, hBr⟩ := hrel
    clear hB b2 b3
    have hs2 := bs.lt
    by_cases hlt : j < ps.length
    · obtain ⟨g, off, cap', hv, q1, q2, q3, q4, q5⟩ := trms_cells (hp.keep hBr) (by omega)
      cases hv
      obtain ⟨p, hpj⟩ : ∃ p, ps[j]? = some p := ⟨_, List.getElem?_eq_getElem hlt⟩
      obtain ⟨A2, c2, d1, d2, d3, hI⟩ := q5 j p hpj
      have hF := Lib.hid (finK_succ val ps j p hpj)
      have hmem := List.mem_of_getElem? hpj
      have HX := Lib.hid (HIX.out p hmem)
      have hl1 := HSH.out p hmem
      clear q5 hpj hmem
      obtain ⟨wo, hwo⟩ : ∃ wo, wo = wr := ⟨_, rfl⟩
      subst hwo
      go_wp2_with fail
      refine wp_stk2 fun X hBX hzX b7 b8 => ?_
      have hX := hzX.out
      clear hzX d1 d2 d3
      have hBw := hBr.trans (hBX.mono hBr.size)
      have bsX := bs.keep hBX
      have brX := br.keep hBX
      clear b7
      go_loopw [23] (fun i wr => ∃ k : Nat, k ≤ p.t.length ∧ i = .int .i64 k ∧ Blk wr (wo.heap.size + 1) 30 #[.int .u64 (fv (trmK val p k).a), .int .u64 (fv (trmK val p k).b)] ∧ Below (wo.heap.size + 1) X wr) (fun i _ => p.t.length - (intOf i).toNat)
      case atStart => exact ⟨0, Nat.zero_le _, rfl, by rw [trmK_zero]; exact b8, Below.refl _ _⟩
      case round =>
        obtain ⟨k, hk, rfl, bv, hBv⟩ := hrel
        clear b8
        have hsv := bv.lt
        by_cases hkl : k < p.t.length
        · obtain ⟨g2, off2, cap2, hv, r1, r2, r3, r4, r5⟩ := idxs_cells hI (by omega)
          cases hv
          obtain ⟨x, hx⟩ : ∃ x, p.t[k]? = some x := ⟨_, List.getElem?_eq_getElem hkl⟩
          have e0 := (hBv.cell (p := ⟨g2, off2 + k, none⟩) (by show g2 < _; omega)).trans ((hBX.cell (p := ⟨g2, off2 + k, none⟩) r4).trans (r5 k x hx))
          have hxn := HX.out x (List.mem_of_getElem? hx)
          have hT := Lib.hid (trmK_succ val p k x hx)
          have hBn := hBw.trans (hBv.mono (by omega))
          have f1 := gw_blk bv
          clear r5 hx
          generalize trmK val p k = m at *
          go_wp2_with fail
          refine wp_region_rg 5 [(3, Spec.val (.agg #[.int .u64 (fv (val x).a), .int .u64 (fv (val x).b)])), (4, Spec.val (.agg #[.int .u64 (fv (m * val x).a), .int .u64 (fv (m * val x).b)]))] (by kernel_rfl) (by kernel_rfl) (by kernel_rfl) trivial ?_
          refine rg_det rfl rfl rfl (fun K hK => ?_)
          go_big_quiet_op
          refine hK _ ?_; clear hK K
          refine rg_det rfl rfl rfl (fun K hK => ?_)
          go_big_quiet_op
          refine hK _ ?_; clear hK K
          refine rg_det rfl rfl rfl (fun K hK => ?_)
          go_big_quiet_op
          refine hK _ ?_; clear hK K
          refine rg_val rfl rfl (fun W1 hW1 hF => step_callvs (first := []) (cap := cap) HEN.out (HV.out x W1 hxn (hBn.trans ((grw_below hW1).mono hBn.size))) rfl rfl rfl rfl) ?_
          intro a' ha
          simp only [Act.put, List.setIfInBounds_toArray, List.set_cons_succ, List.set_cons_zero] at ha
          subst ha
          refine rg_val rfl rfl (fun W1 hW1 hF => step_callv en_attestor_ext_Mul (eMul m (val x) W1) rfl rfl) ?_
          intro a' ha
          simp only [Act.put, List.setIfInBounds_toArray, List.set_cons_succ, List.set_cons_zero] at ha
          subst ha
          refine rg_nil (fun w' hw' hF => ?_)
          obtain ⟨z, rfl⟩ := hw'
          simp only [List.drop_succ_cons, List.drop_zero]
          have bz := bv.gw z
          have e1 := bz.frozen
          have e2 := bz.cell
          clear hF f1
          go_wp2_with fail
          refine ⟨⟨k + 1, by omega, by go_num, ?_, below_set2 (hBv.trans (z.h.mono (by omega))) (Nat.le_refl _)⟩, by simp [intOf]; omega⟩
          rw [hT.out]
          exact blk_set2 bz
        · obtain rfl : k = p.t.length := by omega
          rw [trmK_all] at bv
          have e0 := bv.cell
          have bs2 := bsX.below hBv (by omega)
          have br2 := brX.below hBv (by omega)
          have e1 := bs2.cell
          go_wp2_with fail
          generalize finK val ps j = m at *
          refine (eAdd m (trmE val p) _).mono ?_
          rintro e w2 ⟨he, hb⟩
          unfold ev at he
          subst he
          have bs3 := bs2.keep hb
          have br3 := br2.keep hb
          have e2 := bs3.cell
          have e3 := bs3.frozen
          clear e0 e1
          have hB3 := (hBw.trans (hBv.mono (by omega))).trans (hb.mono (by have := hBv.size; omega))
          go_wp2_with fail
          refine ⟨⟨j + 1, by omega, by go_num, ?_, ?_, below_set2 hB3 (by omega)⟩, by simp [intOf]; omega⟩
          · rw [hF.out]
            exact blk_set2 bs3
          · exact blk_far2 br3 (by omega)
    · obtain rfl : j = ps.length := by omega
      rw [finK_all] at bs
      have e1 := bs.cell
      have e3 := br.cell
      have e4 := br.frozen
      go_wp2_with fail
      refine bodyPost_ret (v := .agg #[.int .u64 (fv (finE val ps).a), .int .u64 (fv (finE val ps).b)]) (by simp [results, Tryz.results85, go_sem, e3]) rfl ⟨rfl, ?_⟩
      exact below_set2 hBr (by omega)
end Go.Proofs.YtnddfeidggcplaaGreat
namespace Go.Proofs.YtnddfeidggcplaaGreat
open Go.RowKit

theorem step_mkfunc {P : Program} {o : Oper} {a : Act} {w : World} {us vs : List Value} (f : Fn) (xs ys : List Operand) (ho : o.op = .makeFunc f xs.toArray ys.toArray) (hx : xs.map a.eval = us) (hy : ys.map a.eval = vs) : stepAt P o a w (fun v' w' => v' = .func f us.toArray vs.toArray ∧ Below w.heap.size w w') := by
  unfold stepAt execOp
  simp only [ho, List.map_toArray, hx, hy]
  exact ⟨rfl, Below.refl _ _⟩
set_option maxRecDepth 100000 in
set_option maxHeartbeats 1000000 in
theorem gFinalC (vals : List E) (k bx lo hi : Nat) (v : Value) (w : World) (h : ExtS lo hi w v vals) (hk : k < vals.length) (hb : bx < w.heap.size) (hc : w.cell? ⟨bx, 0, none⟩ = some v) :
    Calls Tryz.prog 87 #[.int .i64 (k : Int), .pointer (some ⟨bx, 0, none⟩)] w (Ret (ev (valL vals k)) w) := by
  obtain ⟨g, off, cap, rfl, q1, q2, q3, q4, q5⟩ := exts_cells h (by omega)
  obtain ⟨x, hx, hxd⟩ := get_of hk
  obtain ⟨d1, d2⟩ := q5 k x hx
  have hl := h.2.1
  have HX := Lib.hid (show valL vals k = x from hxd)
  rw [HX.out]
  unfold ev
  clear q5 hx hxd h HX
  go_enter Tryz.func87, Tryz.ntmps87
  go_wp2_with fail
  refine bodyPost_ret (v := .agg #[.int .u64 (fv (x).a), .int .u64 (fv (x).b)]) (by simp [results, Tryz.results87, go_sem]) rfl ⟨rfl, ?_⟩
  exact (Below.refl _ _).alloc (Nat.le_refl _) _
set_option maxRecDepth 100000 in
set_option maxHeartbeats 1000000 in
theorem gFinal (vals : List E) (vt vp v : Value) (ps : List Trm) (lo hi lo2 hi2 : Nat) (w : World) (hp : TrmS lo hi w vp ps) (h : ExtS lo2 hi2 w v vals) (hix : ∀ p ∈ ps, ∀ k ∈ p.t, k < vals.length) (hfew : ps.length ≤ 1000) (hsh : ∀ p ∈ ps, p.t.length ≤ 1000) :
    Calls Tryz.prog 47 #[sv vt vp, v] w (Ret (ev (finE (valL vals) ps)) w) := by
  have HIX := Lib.hid hix
  have HSH := Lib.hid hsh
  obtain ⟨A, cap, rfl⟩ := Rd.len h
  clear hix hsh
  unfold ev sv
  go_enter Tryz.func47, Tryz.ntmps47
  go_wp2_with fail
  refine calls_stk3 fun W hB hz b1 b2 b3 => ?_
  have hz2 := b2.lt
  refine (gEvaluate vals.length (valL vals) 87 [.pointer (some ⟨w.heap.size + 1, 0, none⟩)] en_attestor_sumcheck_Final_1 vt vp ps lo hi W (fun k W1 hk hW1 => ?_) (hp.keep hB) HIX.out hfew HSH.out).mono ?_
  · exact gFinalC vals k (w.heap.size + 1) lo2 hi2 _ W1 ((Rd.keep h hB).keep hW1) hk (Nat.lt_of_lt_of_le hz2 hW1.size) ((hW1.cell (p := ⟨w.heap.size + 1, 0, none⟩) hz2).trans (b2.cell 0))
  rintro e w2 ⟨he, hb⟩
  unfold ev at he
  subst he
  have b32 := b3.keep hb
  have e1 := b32.cell
  have e2 := b32.frozen
  clear h hp b1 b2
  go_wp2_with fail
  refine bodyPost_ret (v := .agg #[.int .u64 (fv (finE (valL vals) ps).a), .int .u64 (fv (finE (valL vals) ps).b)]) (by simp [results, Tryz.results47, go_sem, e1]) rfl ⟨rfl, ?_⟩
  exact below_set2 (hB.trans (hb.mono hB.size)) (by omega)
set_option maxRecDepth 100000 in
set_option maxHeartbeats 1000000 in
theorem gTotalC (tabs : List (List E)) (t : List E) (k i b bi lo hi : Nat) (vt : Value) (w : World) (h : TabS lo hi w vt tabs) (hk : tabs[k]? = some t) (hi' : i < t.length) (hb : b < w.heap.size) (hc : w.cell? ⟨b, 0, none⟩ = some vt) (hbi : bi < w.heap.size) (hci : w.cell? ⟨bi, 0, none⟩ = some (.int .i64 (i : Int))) :
    Calls Tryz.prog 86 #[.int .i64 (k : Int), .pointer (some ⟨b, 0, none⟩), .pointer (some ⟨bi, 0, none⟩)] w (Ret (ev (valT tabs i k)) w) := by
  have hkl : k < tabs.length := (List.getElem?_eq_some_iff.1 hk).1
  have hsm := h.small
  obtain ⟨g, off, cap, rfl, q1, q2, q3, q4, q5⟩ := tabs_cells h (by omega)
  obtain ⟨A, c, c0, ht⟩ := q5 k t hk
  obtain ⟨g2, off2, cap2, hv, r1, r2, r3, r4, r5⟩ := exts_cells ht (by omega)
  have htl := ht.2.1
  cases hv
  obtain ⟨x, hx, hxd⟩ := get_of hi'
  obtain ⟨d1, d2⟩ := r5 i x hx
  have HX := Lib.hid (show valT tabs i k = x by unfold valT; rw [show tabs.getD k [] = t by simp [List.getD, hk]]; exact hxd)
  rw [HX.out]
  unfold ev
  clear q5 r5 hx hxd h HX ht hk
  go_enter Tryz.func86, Tryz.ntmps86
  go_wp2_with fail
  refine wp_stk1 fun W hB hz b1 => ?_
  have hs := hB.size
  have f0 := gw_cell (Nat.lt_of_lt_of_le hb hs) ((hB.cell (p := ⟨b, 0, none⟩) hb).trans hc)
  have f1 := gw_cell (Nat.lt_of_lt_of_le hbi hs) ((hB.cell (p := ⟨bi, 0, none⟩) hbi).trans hci)
  have f2 := gw_cell (Nat.lt_of_lt_of_le q4 hs) ((hB.cell (p := ⟨g, off + k, none⟩) q4).trans c0)
  have f3 := gw_cell (Nat.lt_of_lt_of_le r4 hs) ((hB.cell (p := ⟨g2, off2 + i * 2, none⟩) r4).trans d1)
  have f4 := gw_cell (Nat.lt_of_lt_of_le r4 hs) ((hB.cell (p := ⟨g2, off2 + i * 2 + 1, none⟩) r4).trans d2)
  clear d1 d2 hc hci c0
  refine wp_region_rg 8 [] (by kernel_rfl) (by kernel_rfl) (by kernel_rfl) trivial ?_
  refine rg_det rfl rfl rfl (fun K hK => ?_)
  go_big_quiet_op
  refine hK _ ?_; clear hK K
  refine rg_det rfl rfl rfl (fun K hK => ?_)
  go_big_quiet_op
  refine hK _ ?_; clear hK K
  refine rg_det rfl rfl rfl (fun K hK => ?_)
  go_big_quiet_op
  refine hK _ ?_; clear hK K
  refine rg_det rfl rfl rfl (fun K hK => ?_)
  go_big_quiet_op
  refine hK _ ?_; clear hK K
  refine rg_det rfl rfl rfl (fun K hK => ?_)
  go_big_quiet_op
  refine hK _ ?_; clear hK K
  refine rg_det rfl rfl rfl (fun K hK => ?_)
  go_big_quiet_op
  refine hK _ ?_; clear hK K
  refine rg_det rfl rfl rfl (fun K hK => ?_)
  go_big_quiet_op
  refine hK _ ?_; clear hK K
  refine rg_det rfl rfl rfl (fun K hK => ?_)
  go_big_quiet_op
  refine hK _ ?_; clear hK K
  refine rg_nil (fun w' hw' hF => ?_)
  obtain ⟨z, rfl⟩ := hw'
  simp only [List.drop_succ_cons, List.drop_zero]
  have bz := b1.gw z
  have e1 := bz.cell
  have e2 := bz.frozen
  clear hF f0 f1 f2 f3 f4
  go_wp2_with fail
  refine bodyPost_ret (v := .agg #[.int .u64 (fv (x).a), .int .u64 (fv (x).b)]) (by simp [results, Tryz.results86, go_sem, e1]) rfl ⟨rfl, ?_⟩
  exact below_set2 (hB.trans (z.h.mono hB.size)) (Nat.le_refl _)
set_option maxRecDepth 100000 in
set_option maxHeartbeats 2000000 in
theorem gTotal (tabs : List (List E)) (N : Nat) (vt vp : Value) (ps : List Trm) (lo hi : Nat) (w : World) (h : SumS lo hi w vt vp tabs ps) (h0 : 0 < tabs.length) (hall : AllLen tabs N) (hN : N ≤ 1000000) :
    Calls Tryz.prog 46 #[sv vt vp] w (Ret (ev (totE tabs ps)) w) := by
  obtain ⟨A, capt, rfl⟩ := h.ht.len
  have hsm := h.ht.small
  have HT := Lib.hid (show totK tabs ps N = totE tabs ps by unfold totE; rw [hall.lenT h0])
  have HA := Lib.hid hall
  have HH := Lib.hid h
  clear hall h
  unfold ev sv
  go_enter Tryz.func46, Tryz.ntmps46
  obtain ⟨g, off, cap', hv, q1, q2, q3, q4, q5⟩ := tabs_cells HH.out.ht h0
  cases hv
  obtain ⟨t0, ht0⟩ : ∃ t, tabs[0]? = some t := ⟨_, List.getElem?_eq_getElem h0⟩
  obtain ⟨A0, c0, k0, hE0⟩ := q5 0 t0 ht0
  have hl0 : t0.length = N := HA.out t0 (List.mem_of_getElem? ht0)
  rw [hl0] at k0
  rw [Nat.add_zero] at k0
  clear q5 ht0 hE0 hl0
  go_upto_region 2 with (fail)
  refine wp_stk3 fun W hB hz b1 b2 b3 => ?_
  have hW := hz.out
  have e0 := b1.cell
  have e1 := (hB.cell (p := ⟨g, off, none⟩) q4).trans k0
  clear hz k0
  go_wp2_with fail
  clear e0 e1
  go_loopw [10] (fun i wr => ∃ j : Nat, j ≤ N ∧ i = .int .i64 j ∧ Blk wr (w.heap.size + 2) 30 #[.int .u64 (fv (totK tabs ps j).a), .int .u64 (fv (totK tabs ps j).b)] ∧ Below (w.heap.size + 2) W wr) (fun i _ => N - (intOf i).toNat)
  case atStart => exact ⟨0, Nat.zero_le _, rfl, b3, Below.refl _ _⟩
  case round =>
    obtain ⟨j, hj, rfl, bs, hBr⟩ := hrel
    clear b3
    have hs2 := bs.lt
    have b1r := b1.below hBr (by omega)
    have b2r := b2.below hBr (by omega)
    have hBw := hB.trans (hBr.mono (by omega))
    by_cases hlt : j < N
    · have HFT := Lib.hid (totK_succ tabs ps j)
      obtain ⟨wo, hwo⟩ : ∃ wo, wo = wr := ⟨_, rfl⟩
      subst hwo
      go_wp2_with fail
      refine wp_stk1 fun X hBX hzX b4 => ?_
      have hX := hzX.out
      have bsX := bs.keep hBX
      have b1X := b1r.keep hBX
      have f1 := gw_blk b1X
      have f2 := gw_blk bsX
      generalize totK tabs ps j = m at *
      have hBX2 := hBw.trans (hBX.mono (by omega))
      have HEv : ∀ W1, Grw X W1 → Calls Tryz.prog 85 #[sv (.slice (some ⟨g, off, none⟩) tabs.length capt) vp, .func (.func 86) #[] ([.pointer (some ⟨w.heap.size, 0, none⟩), .pointer (some ⟨wo.heap.size, 0, none⟩)] : List Value).toArray] W1 (Ret (ev (finE (valT tabs j) ps)) W1) := fun W1 hW1 => by
        have hb1 := grw_below hW1
        have hS := HH.out.keep (hBX2.trans (hb1.mono hBX2.size))
        refine gEvaluate tabs.length (valT tabs j) 86 _ en_attestor_sumcheck_Total_1 _ vp ps lo hi W1 (fun k W2 hk hW2 => ?_) hS.hp hS.ix hS.few hS.short
        have hb2 := hb1.trans (hW2.mono hb1.size)
        have hb1s := (b1X.keep hb2)
        have hb4s := (b4.keep hb2)
        obtain ⟨t, ht⟩ : ∃ t, tabs[k]? = some t := ⟨_, List.getElem?_eq_getElem hk⟩
        exact gTotalC tabs t k j w.heap.size wo.heap.size lo hi _ W2 (hS.ht.keep hW2) ht (by rw [HA.out t (List.mem_of_getElem? ht)]; exact hlt) hb1s.lt (hb1s.cell 0) hb4s.lt (hb4s.cell 0)
      have HEV := Lib.hid HEv
      clear HEv
      refine wp_region_rg 5 [(2, Spec.val (.func (.func 86) ([] : List Value).toArray ([.pointer (some ⟨w.heap.size, 0, none⟩), .pointer (some ⟨wo.heap.size, 0, none⟩)] : List Value).toArray)), (3, Spec.val (.agg #[.int .u64 (fv (finE (valT tabs j) ps).a), .int .u64 (fv (finE (valT tabs j) ps).b)])), (4, Spec.val (.agg #[.int .u64 (fv (m + finE (valT tabs j) ps).a), .int .u64 (fv (m + finE (valT tabs j) ps).b)]))] (by kernel_rfl) (by kernel_rfl) (by kernel_rfl) trivial ?_
      refine rg_det rfl rfl rfl (fun K hK => ?_)
      go_big_quiet_op
      refine hK _ ?_; clear hK K
      refine rg_det rfl rfl rfl (fun K hK => ?_)
      go_big_quiet_op
      refine hK _ ?_; clear hK K
      refine rg_val rfl rfl (fun W1 hW1 hF => step_mkfunc _ _ _ rfl rfl rfl) ?_
      intro a' ha
      simp only [Act.put, List.setIfInBounds_toArray, List.set_cons_succ, List.set_cons_zero] at ha
      subst ha
      refine rg_val rfl rfl (fun W1 hW1 hF => step_callv en_attestor_sumcheck_evaluate (HEV.out W1 hW1) rfl rfl) ?_
      intro a' ha
      simp only [Act.put, List.setIfInBounds_toArray, List.set_cons_succ, List.set_cons_zero] at ha
      subst ha
      refine rg_val rfl rfl (fun W1 hW1 hF => step_callv en_attestor_ext_Add (eAdd m (finE (valT tabs j) ps) W1) rfl rfl) ?_
      intro a' ha
      simp only [Act.put, List.setIfInBounds_toArray, List.set_cons_succ, List.set_cons_zero] at ha
      subst ha
      refine rg_nil (fun w' hw' hF => ?_)
      obtain ⟨z, rfl⟩ := hw'
      simp only [List.drop_succ_cons, List.drop_zero]
      have bz := bsX.gw z
      have e1 := bz.frozen
      have e2 := bz.cell
      have hBz := (hBr.trans (hBX.mono (by omega))).trans (z.h.mono (by omega))
      clear hF f1 f2
      go_wp2_with fail
      refine ⟨⟨j + 1, by omega, by go_num, ?_, below_set2 hBz (Nat.le_refl _)⟩, by simp [intOf]; omega⟩
      rw [HFT.out]
      exact blk_set2 bz
    · obtain rfl : j = N := by omega
      rw [HT.out] at bs
      have e1 := bs.cell
      have e3 := b2r.cell
      have e4 := b2r.frozen
      go_wp2_with fail
      refine bodyPost_ret (v := .agg #[.int .u64 (fv (totE tabs ps).a), .int .u64 (fv (totE tabs ps).b)]) (by simp [results, Tryz.results46, go_sem, e3]) rfl ⟨rfl, ?_⟩
      exact below_set2 hBw (by omega)
set_option maxRecDepth 100000 in
set_option maxHeartbeats 1000000 in
theorem gDegree (vt vp : Value) (ps : List Trm) (lo hi : Nat) (w : World) (h : TrmS lo hi w vp ps) (hsh : ∀ p ∈ ps, p.t.length ≤ 1000) :
    Calls Tryz.prog 43 #[sv vt vp] w (Ret (.int .i64 (degE ps : Nat)) w) := by
  obtain ⟨A, capP, rfl⟩ := h.len
  have hsm := h.small
  have HSH := Lib.hid hsh
  have HD := Lib.hid (fun j => Nat.le_trans (deg_fold (ps.take j) 1000 (fun p hp => hsh p (List.mem_of_mem_take hp)) 1 (by omega)) (Nat.le_refl _))
  clear hsh
  unfold sv
  go_enter Tryz.func43, Tryz.ntmps43
  go_upto_region 2 with (fail)
  refine wp_stk1 fun W hB hz b1 => ?_
  have hpW := Lib.hid (h.keep hB)
  clear h
  have e0 := b1.cell
  go_wp2_with fail
  clear e0
  go_loopw [3, 9] (fun d i wr => ∃ j : Nat, j ≤ ps.length ∧ i = .int .i64 j ∧ d = .int .i64 (degK ps j : Nat) ∧ Below W.heap.size W wr) (fun _ i _ => ps.length - (intOf i).toNat)
  case atStart => exact ⟨0, Nat.zero_le _, rfl, rfl, Below.refl _ _⟩
  case round =>
    obtain ⟨j, hj, rfl, rfl, hBr⟩ := hrel
    by_cases hlt : j < ps.length
    · obtain ⟨g, off, cap', hv, q1, q2, q3, q4, q5⟩ := trms_cells (hpW.out.keep hBr) (by omega)
      cases hv
      obtain ⟨p, hpj⟩ : ∃ p, ps[j]? = some p := ⟨_, List.getElem?_eq_getElem hlt⟩
      obtain ⟨A2, c2, d1, d2, d3, hI⟩ := q5 j p hpj
      have hF := degK_succ ps j p hpj
      have hl1 := HSH.out p (List.mem_of_getElem? hpj)
      have hd : degK ps j ≤ 1000 := HD.out j
      obtain ⟨m, hm⟩ : ∃ m, m = degK ps j := ⟨_, rfl⟩
      obtain ⟨m2, hm2⟩ : ∃ m2, m2 = degK ps (j + 1) := ⟨_, rfl⟩
      rw [← hm, ← hm2] at hF
      rw [← hm] at hd ⊢
      have HMX := Lib.hid (show (if m < p.t.length then (p.t.length : Int) else (m : Int)) = (m2 : Int) by split <;> omega)
      have HM := Lib.hid hm2
      clear q5 hpj hm hm2 hF
      go_upto_region 5 with (fail)
      refine wp_stk1 fun X hBX hzX b2 => ?_
      have e0 := b2.cell
      clear d1 d2 d3
      go_wp2_with fail
      exact ⟨⟨j + 1, by omega, by go_num, by rw [← HM.out, HMX.out], hBr.trans (hBX.mono hBr.size)⟩, by simp [intOf]; omega⟩
    · obtain rfl : j = ps.length := by omega
      rw [degK_all]
      go_wp2_with fail
      go_ret
      exact ⟨rfl, hB.trans (hBr.mono hB.size)⟩
end Go.Proofs.YtnddfeidggcplaaGreat
