/-
  Sums of products of tables, as they lie in memory: slices of tables, slices of terms.
  The sum over all terms, for a function that gives the tables' values; Final, Total and Degree of package sumcheck, by contract.
  Final, Total and Degree of package sumcheck, by contract.
  Maps with integer keys that a call makes: a literal's entries, a look-up; each element read as itself.
  The parser of queries: its cells, its tokens, the end of a run of bytes.
  The parser of queries: the end of a run of bytes.
  Integers as elements, and the weights of the nodes, in packages field, ext and poly, by contract.
-/
import Derived.Test.YtficeebbbkmhcaaGreatDoorGrow
import Derived.Deep.Cut
import Derived.Maps.OwnSet
import Derived.Laws.StructEq
import Derived.Lib.Bytealg
namespace Go.Proofs.YtficeebbbkmhcaaGreatDoor
open Go.RowKit

def ic (k : Nat) : List Value := [.int .i64 (k : Int)]
theorem ic_len (k : Nat) : (ic k).length = 1 := rfl
def IdxS (lo hi : Nat) (w : World) (v : Value) (l : List Nat) : Prop := Rd lo hi 1 w v l.length (l.flatMap ic)
theorem idxs_cells {lo hi : Nat} {w : World} {v : Value} {l : List Nat} (h : IdxS lo hi w v l) (h0 : 0 < l.length) : ∃ g off cap, v = .slice (some ⟨g, off, none⟩) l.length cap ∧ l.length ≤ cap ∧ lo ≤ g ∧ g < hi ∧ g < w.heap.size ∧
    ∀ (k x : Nat), l[k]? = some x → w.cell? ⟨g, off + k, none⟩ = some (.int .i64 (x : Int)) := by
  obtain ⟨g, off, cap, q1, q2, q3, q4, q5, q6⟩ := Rd.form h h0
  refine ⟨g, off, cap, q1, q2, q3, q4, q5, fun k x hx => ?_⟩
  have := q6 (k * 1) _ (by simpa using flat_get ic_len l k 0 x _ hx rfl)
  rwa [Nat.mul_one] at this
def TabS (lo hi : Nat) (w : World) (v : Value) (tabs : List (List E)) : Prop := ∃ us : List Value, us.length = tabs.length ∧ Rd lo hi 1 w v tabs.length us ∧ ∀ (k : Nat) u t, us[k]? = some u → tabs[k]? = some t → ExtS lo hi w u t
theorem TabS.keep {lo hi : Nat} {w w' : World} {v : Value} {tabs : List (List E)} (h : TabS lo hi w v tabs) (hb : Below w.heap.size w w') : TabS lo hi w' v tabs := by
  obtain ⟨us, h1, h2, h3⟩ := h
  exact ⟨us, h1, h2.keep hb, fun k u t hu ht => Rd.keep (h3 k u t hu ht) hb⟩
theorem TabS.wide {lo hi lo' hi' : Nat} {w : World} {v : Value} {tabs : List (List E)} (h : TabS lo hi w v tabs) (h1 : lo' ≤ lo) (h2 : hi ≤ hi') : TabS lo' hi' w v tabs := by
  obtain ⟨us, q1, q2, q3⟩ := h
  exact ⟨us, q1, q2.wide h1 h2, fun k u t hu ht => Rd.wide (q3 k u t hu ht) h1 h2⟩
theorem TabS.other {lo hi : Nat} {w w' : World} {v : Value} {tabs : List (List E)} (h : TabS lo hi w v tabs) (hs : w.heap.size ≤ w'.heap.size) (hb : ∀ g, lo ≤ g → g < hi → g < w.heap.size → w'.heap[g]? = w.heap[g]?) : TabS lo hi w' v tabs := by
  obtain ⟨us, q1, q2, q3⟩ := h
  exact ⟨us, q1, q2.other hs hb, fun k u t hu ht => Rd.other (q3 k u t hu ht) hs hb⟩
theorem TabS.len {lo hi : Nat} {w : World} {v : Value} {tabs : List (List E)} (h : TabS lo hi w v tabs) : ∃ A cap, v = .slice A tabs.length cap := by
  obtain ⟨us, _, h2, _⟩ := h
  exact h2.len
theorem TabS.small {lo hi : Nat} {w : World} {v : Value} {tabs : List (List E)} (h : TabS lo hi w v tabs) : tabs.length ≤ 140737488355327 := by
  obtain ⟨us, _, h2, _⟩ := h
  exact h2.2.1
theorem tabs_cells {lo hi : Nat} {w : World} {v : Value} {tabs : List (List E)} (h : TabS lo hi w v tabs) (h0 : 0 < tabs.length) : ∃ g off cap, v = .slice (some ⟨g, off, none⟩) tabs.length cap ∧ tabs.length ≤ cap ∧ lo ≤ g ∧ g < hi ∧ g < w.heap.size ∧
    ∀ k t, tabs[k]? = some t → ∃ A c, w.cell? ⟨g, off + k, none⟩ = some (.slice A t.length c) ∧ ExtS lo hi w (.slice A t.length c) t := by
  obtain ⟨us, h1, h2, h3⟩ := h
  obtain ⟨g, off, cap, q1, q2, q3, q4, q5, q6⟩ := Rd.form h2 h0
  refine ⟨g, off, cap, q1, q2, q3, q4, q5, fun k t ht => ?_⟩
  have hk : k < tabs.length := (List.getElem?_eq_some_iff.1 ht).1
  have hu : us[k]? = some (us[k]'(by omega)) := List.getElem?_eq_getElem _
  have h4 := h3 k _ t hu ht
  obtain ⟨A, c, hA⟩ := Rd.len h4
  have h5 := q6 k _ hu
  rw [hA] at h4 h5
  exact ⟨A, c, h5, h4⟩
def trc (x : Trm × Value) : List Value := [.int .u64 (fv x.1.c.a), .int .u64 (fv x.1.c.b), x.2]
theorem trc_len (x : Trm × Value) : (trc x).length = 3 := rfl
def TrmS (lo hi : Nat) (w : World) (v : Value) (ps : List Trm) : Prop := ∃ us : List Value, us.length = ps.length ∧ Rd lo hi 3 w v ps.length ((ps.zip us).flatMap trc) ∧ ∀ (k : Nat) u p, us[k]? = some u → ps[k]? = some p → IdxS lo hi w u p.t
theorem TrmS.keep {lo hi : Nat} {w w' : World} {v : Value} {ps : List Trm} (h : TrmS lo hi w v ps) (hb : Below w.heap.size w w') : TrmS lo hi w' v ps := by
  obtain ⟨us, h1, h2, h3⟩ := h
  exact ⟨us, h1, h2.keep hb, fun k u t hu ht => Rd.keep (h3 k u t hu ht) hb⟩
theorem TrmS.wide {lo hi lo' hi' : Nat} {w : World} {v : Value} {ps : List Trm} (h : TrmS lo hi w v ps) (h1 : lo' ≤ lo) (h2 : hi ≤ hi') : TrmS lo' hi' w v ps := by
  obtain ⟨us, q1, q2, q3⟩ := h
  exact ⟨us, q1, q2.wide h1 h2, fun k u t hu ht => Rd.wide (q3 k u t hu ht) h1 h2⟩
theorem TrmS.other {lo hi : Nat} {w w' : World} {v : Value} {ps : List Trm} (h : TrmS lo hi w v ps) (hs : w.heap.size ≤ w'.heap.size) (hb : ∀ g, lo ≤ g → g < hi → g < w.heap.size → w'.heap[g]? = w.heap[g]?) : TrmS lo hi w' v ps := by
  obtain ⟨us, q1, q2, q3⟩ := h
  exact ⟨us, q1, q2.other hs hb, fun k u t hu ht => Rd.other (q3 k u t hu ht) hs hb⟩
theorem TrmS.len {lo hi : Nat} {w : World} {v : Value} {ps : List Trm} (h : TrmS lo hi w v ps) : ∃ A cap, v = .slice A ps.length cap := by
  obtain ⟨us, _, h2, _⟩ := h
  exact h2.len
theorem TrmS.small {lo hi : Nat} {w : World} {v : Value} {ps : List Trm} (h : TrmS lo hi w v ps) : ps.length ≤ 140737488355327 := by
  obtain ⟨us, _, h2, _⟩ := h
  exact h2.2.1
theorem trms_cells {lo hi : Nat} {w : World} {v : Value} {ps : List Trm} (h : TrmS lo hi w v ps) (h0 : 0 < ps.length) : ∃ g off cap, v = .slice (some ⟨g, off, none⟩) ps.length cap ∧ ps.length ≤ cap ∧ lo ≤ g ∧ g < hi ∧ g < w.heap.size ∧
    ∀ k p, ps[k]? = some p → ∃ A c, w.cell? ⟨g, off + k * 3, none⟩ = some (.int .u64 (fv p.c.a)) ∧ w.cell? ⟨g, off + k * 3 + 1, none⟩ = some (.int .u64 (fv p.c.b)) ∧ w.cell? ⟨g, off + k * 3 + 2, none⟩ = some (.slice A p.t.length c) ∧ IdxS lo hi w (.slice A p.t.length c) p.t := by
  obtain ⟨us, h1, h2, h3⟩ := h
  obtain ⟨g, off, cap, q1, q2, q3, q4, q5, q6⟩ := Rd.form h2 h0
  refine ⟨g, off, cap, q1, q2, q3, q4, q5, fun k p hp => ?_⟩
  have hk : k < ps.length := (List.getElem?_eq_some_iff.1 hp).1
  have hu : us[k]? = some (us[k]'(by omega)) := List.getElem?_eq_getElem _
  have h4 := h3 k _ p hu hp
  obtain ⟨A, c, hA⟩ := Rd.len h4
  have hz : (ps.zip us)[k]? = some (p, us[k]'(by omega)) := by rw [List.getElem?_zip_eq_some]; exact ⟨hp, hu⟩
  have e : ∀ j u, (trc (p, us[k]'(by omega)))[j]? = some u → w.cell? ⟨g, off + k * 3 + j, none⟩ = some u := fun j u hu => by
    have := q6 (k * 3 + j) _ (flat_get trc_len _ k j _ _ hz hu)
    rwa [← Nat.add_assoc] at this
  rw [hA] at h4 e
  exact ⟨A, c, e 0 _ rfl, e 1 _ rfl, e 2 _ rfl, h4⟩
structure SumS (lo hi : Nat) (w : World) (vt vp : Value) (tabs : List (List E)) (ps : List Trm) : Prop where
  ht : TabS lo hi w vt tabs
  hp : TrmS lo hi w vp ps
  ix : ∀ p ∈ ps, ∀ k ∈ p.t, k < tabs.length
  few : ps.length ≤ 1000
  short : ∀ p ∈ ps, p.t.length ≤ 1000
theorem SumS.keep {lo hi : Nat} {w w' : World} {vt vp : Value} {tabs : List (List E)} {ps : List Trm} (h : SumS lo hi w vt vp tabs ps) (hb : Below w.heap.size w w') : SumS lo hi w' vt vp tabs ps :=
  ⟨h.ht.keep hb, h.hp.keep hb, h.ix, h.few, h.short⟩
def sv (vt vp : Value) : Value := .agg #[vt, vp]
end Go.Proofs.YtficeebbbkmhcaaGreatDoor
namespace Go.Proofs.YtficeebbbkmhcaaGreatDoor
open Go.RowKit

set_option maxRecDepth 100000 in
set_option maxHeartbeats 2000000 in
theorem gEvaluate (n : Nat) (val : Nat → E) (F : FuncId) (cap : List Value) (hen : ∀ args w, (callFunc F args).run Tryz.prog w = .ok (.enter F args) w) (vt vp : Value) (ps : List Trm) (lo hi : Nat) (w : World)
    (hval : ∀ (k : Nat) (W : World), k < n → Below w.heap.size w W → Calls Tryz.prog F (([.int .i64 (k : Int)] : List Value) ++ cap).toArray W (Ret (ev (val k)) W))
    (hp : TrmS lo hi w vp ps) (hix : ∀ p ∈ ps, ∀ k ∈ p.t, k < n) (hfew : ps.length ≤ 1000) (hsh : ∀ p ∈ ps, p.t.length ≤ 1000) :
    Calls Tryz.prog 35 #[sv vt vp, .func (.func F) #[] cap.toArray] w (Ret (ev (finE val ps)) w) := by
  obtain ⟨A, capP, rfl⟩ := hp.len
  have HIX := Lib.hid hix
  have HSH := Lib.hid hsh
  have HV := Lib.hid hval
  have HEN := Lib.hid hen
  clear hix hsh hval hen
  unfold ev sv
  go_enter Tryz.func35, Tryz.ntmps35
  go_wp2_with fail
  refine wp_stk3 fun W hB hz b1 b2 b3 => ?_
  have hW := hz.out
  clear hz
  clear b1
  go_loopw [14] (fun i wr => ∃ j : Nat, j ≤ ps.length ∧ i = .int .i64 j ∧ Blk wr (w.heap.size + 2) 39 #[.int .u64 (fv (finK val ps j).a), .int .u64 (fv (finK val ps j).b)] ∧ Blk wr (w.heap.size + 1) 39 #[.int .u64 0, .int .u64 0] ∧ Below w.heap.size w wr) (fun i _ => ps.length - (intOf i).toNat)
  case atStart => exact ⟨0, Nat.zero_le _, rfl, b3, b2, hB⟩
  case round =>
    obtain ⟨j, hj, rfl, bs, br, hBr⟩ := hrel
    clear hB b2 b3
    have hs2 := bs.lt
    by_cases hlt : j < ps.length
    · obtain ⟨g, off, cap', hv, q1, q2, q3, q4, q5⟩ := trms_cells (hp.keep hBr) (by omega)
      cases hv
      obtain ⟨p, hpj⟩ : ∃ p, ps[j]? = some p := ⟨_, List.getElem?_eq_getElem hlt⟩
      obtain ⟨A2, c2, d1, d2, d3, hI⟩ := q5 j p hpj
      have hF := Lib.hid (finK_succ val ps j p hpj)
      have hmem := List.mem_of_getElem? hpj
      have HX := Lib.hid (HIX.out p hmem)
      have hl1 := HSH.out p hmem
      clear q5 hpj hmem
      obtain ⟨wo, hwo⟩ : ∃ wo, wo = wr := ⟨_, rfl⟩
      subst hwo
      go_wp2_with fail
      refine wp_stk2 fun X hBX hzX b7 b8 => ?_
      have hX := hzX.out
      clear hzX d1 d2 d3
      have hBw := hBr.trans (hBX.mono hBr.size)
      have bsX := bs.keep hBX
      have brX := br.keep hBX
      clear b7
      go_loopw [23] (fun i wr => ∃ k : Nat, k ≤ p.t.length ∧ i = .int .i64 k ∧ Blk wr (wo.heap.size + 1) 39 #[.int .u64 (fv (trmK val p k).a), .int .u64 (fv (trmK val p k).b)] ∧ Below (wo.heap.size + 1) X wr) (fun i _ => p.t.length - (intOf i).toNat)
      case atStart => exact ⟨0, Nat.zero_le _, rfl, by rw [trmK_zero]; exact b8, Below.refl _ _⟩
      case round =>
        obtain ⟨k, hk, rfl, bv, hBv⟩ := hrel
        clear b8
        have hsv := bv.lt
        by_cases hkl : k < p.t.length
        · obtain ⟨g2, off2, cap2, hv, r1, r2, r3, r4, r5⟩ := idxs_cells hI (by omega)
          cases hv
          obtain ⟨x, hx⟩ : ∃ x, p.t[k]? = some x := ⟨_, List.getElem?_eq_getElem hkl⟩
          have e0 := (hBv.cell (p := ⟨g2, off2 + k, none⟩) (by show g2 < _; omega)).trans ((hBX.cell (p := ⟨g2, off2 + k, none⟩) r4).trans (r5 k x hx))
          have hxn := HX.out x (List.mem_of_getElem? hx)
          have hT := Lib.hid (trmK_succ val p k x hx)
          have hBn := hBw.trans (hBv.mono (by omega))
          have f1 := gw_blk bv
          clear r5 hx
          generalize trmK val p k = m at *
          go_wp2_with fail
          refine wp_region_rg 5 [(3, Spec.val (.agg #[.int .u64 (fv (val x).a), .int .u64 (fv (val x).b)])), (4, Spec.val (.agg #[.int .u64 (fv (m * val x).a), .int .u64 (fv (m * val x).b)]))] (by kernel_rfl) (by kernel_rfl) (by kernel_rfl) trivial ?_
          iterate 3 (refine rg_det rfl rfl rfl (fun K hK => ?_); go_big_quiet_op; refine hK _ ?_; clear hK K)
          refine rg_val rfl rfl (fun W1 hW1 hF => step_callvs (first := []) (cap := cap) HEN.out (HV.out x W1 hxn (hBn.trans ((grw_below hW1).mono hBn.size))) rfl rfl rfl rfl) ?_
          intro a' ha
          simp only [Act.put, List.setIfInBounds_toArray, List.set_cons_succ, List.set_cons_zero] at ha
          subst ha
          refine rg_val rfl rfl (fun W1 hW1 hF => step_callv en_attestor_ext_Mul (eMul m (val x) W1) rfl rfl) ?_
          intro a' ha
          simp only [Act.put, List.setIfInBounds_toArray, List.set_cons_succ, List.set_cons_zero] at ha
          subst ha
          refine rg_nil (fun w' hw' hF => ?_)
          obtain ⟨z, rfl⟩ := hw'
          simp only [List.drop_succ_cons, List.drop_zero]
          have bz := bv.gw z
          have e1 := bz.frozen
          have e2 := bz.cell
          clear hF f1
          go_wp2_with fail
          refine ⟨⟨k + 1, by omega, by go_num, ?_, below_set2 (hBv.trans (z.h.mono (by omega))) (Nat.le_refl _)⟩, by simp [intOf]; omega⟩
          rw [hT.out]
          exact blk_set2 bz
        · obtain rfl : k = p.t.length := by omega
          rw [trmK_all] at bv
          have e0 := bv.cell
          have bs2 := bsX.below hBv (by omega)
          have br2 := brX.below hBv (by omega)
          have e1 := bs2.cell
          go_wp2_with fail
          generalize finK val ps j = m at *
          refine (eAdd m (trmE val p) _).mono ?_
          rintro e w2 ⟨he, hb⟩
          unfold ev at he
          subst he
          have bs3 := bs2.keep hb
          have br3 := br2.keep hb
          have e2 := bs3.cell
          have e3 := bs3.frozen
          clear e0 e1
          have hB3 := (hBw.trans (hBv.mono (by omega))).trans (hb.mono (by have := hBv.size; omega))
          go_wp2_with fail
          refine ⟨⟨j + 1, by omega, by go_num, ?_, ?_, below_set2 hB3 (by omega)⟩, by simp [intOf]; omega⟩
          · rw [hF.out]
            exact blk_set2 bs3
          · exact blk_far2 br3 (by omega)
    · obtain rfl : j = ps.length := by omega
      rw [finK_all] at bs
      have e1 := bs.cell
      have e3 := br.cell
      have e4 := br.frozen
      go_wp2_with fail
      refine bodyPost_ret (v := .agg #[.int .u64 (fv (finE val ps).a), .int .u64 (fv (finE val ps).b)]) (by simp [results, Tryz.results35, go_sem, e3]) rfl ⟨rfl, ?_⟩
      exact below_set2 hBr (by omega)
end Go.Proofs.YtficeebbbkmhcaaGreatDoor
namespace Go.Proofs.YtficeebbbkmhcaaGreatDoor
open Go.RowKit

theorem step_mkfunc {P : Program} {o : Oper} {a : Act} {w : World} {us vs : List Value} (f : Fn) (xs ys : List Operand) (ho : o.op = .makeFunc f xs.toArray ys.toArray) (hx : xs.map a.eval = us) (hy : ys.map a.eval = vs) : stepAt P o a w (fun v' w' => v' = .func f us.toArray vs.toArray ∧ Below w.heap.size w w') := by
  unfold stepAt execOp
  simp only [ho, List.map_toArray, hx, hy]
  exact ⟨rfl, Below.refl _ _⟩
set_option maxRecDepth 100000 in
set_option maxHeartbeats 1000000 in
theorem gFinalC (vals : List E) (k bx lo hi : Nat) (v : Value) (w : World) (h : ExtS lo hi w v vals) (hk : k < vals.length) (hb : bx < w.heap.size) (hc : w.cell? ⟨bx, 0, none⟩ = some v) :
    Calls Tryz.prog 112 #[.int .i64 (k : Int), .pointer (some ⟨bx, 0, none⟩)] w (Ret (ev (valL vals k)) w) := by
  obtain ⟨g, off, cap, rfl, q1, q2, q3, q4, q5⟩ := exts_cells h (by omega)
  obtain ⟨x, hx, hxd⟩ := get_of hk
  obtain ⟨d1, d2⟩ := q5 k x hx
  have hl := h.2.1
  have HX := Lib.hid (show valL vals k = x from hxd)
  rw [HX.out]
  unfold ev
  clear q5 hx hxd h HX
  go_enter Tryz.func112, Tryz.ntmps112
  go_wp2_with fail
  refine bodyPost_ret (v := .agg #[.int .u64 (fv (x).a), .int .u64 (fv (x).b)]) (by simp [results, Tryz.results112, go_sem]) rfl ⟨rfl, ?_⟩
  exact (Below.refl _ _).alloc (Nat.le_refl _) _
set_option maxRecDepth 100000 in
set_option maxHeartbeats 1000000 in
theorem gFinal (vals : List E) (vt vp v : Value) (ps : List Trm) (lo hi lo2 hi2 : Nat) (w : World) (hp : TrmS lo hi w vp ps) (h : ExtS lo2 hi2 w v vals) (hix : ∀ p ∈ ps, ∀ k ∈ p.t, k < vals.length) (hfew : ps.length ≤ 1000) (hsh : ∀ p ∈ ps, p.t.length ≤ 1000) :
    Calls Tryz.prog 75 #[sv vt vp, v] w (Ret (ev (finE (valL vals) ps)) w) := by
  have HIX := Lib.hid hix
  have HSH := Lib.hid hsh
  obtain ⟨A, cap, rfl⟩ := Rd.len h
  clear hix hsh
  unfold ev sv
  go_enter Tryz.func75, Tryz.ntmps75
  go_wp2_with fail
  refine calls_stk3 fun W hB hz b1 b2 b3 => ?_
  have hz2 := b2.lt
  refine (gEvaluate vals.length (valL vals) 112 [.pointer (some ⟨w.heap.size + 1, 0, none⟩)] en_attestor_sumcheck_Final_1 vt vp ps lo hi W (fun k W1 hk hW1 => ?_) (hp.keep hB) HIX.out hfew HSH.out).mono ?_
  · exact gFinalC vals k (w.heap.size + 1) lo2 hi2 _ W1 ((Rd.keep h hB).keep hW1) hk (Nat.lt_of_lt_of_le hz2 hW1.size) ((hW1.cell (p := ⟨w.heap.size + 1, 0, none⟩) hz2).trans (b2.cell 0))
  rintro e w2 ⟨he, hb⟩
  unfold ev at he
  subst he
  have b32 := b3.keep hb
  have e1 := b32.cell
  have e2 := b32.frozen
  clear h hp b1 b2
  go_wp2_with fail
  refine bodyPost_ret (v := .agg #[.int .u64 (fv (finE (valL vals) ps).a), .int .u64 (fv (finE (valL vals) ps).b)]) (by simp [results, Tryz.results75, go_sem, e1]) rfl ⟨rfl, ?_⟩
  exact below_set2 (hB.trans (hb.mono hB.size)) (by omega)
set_option maxRecDepth 100000 in
set_option maxHeartbeats 1000000 in
theorem gTotalC (tabs : List (List E)) (t : List E) (k i b bi lo hi : Nat) (vt : Value) (w : World) (h : TabS lo hi w vt tabs) (hk : tabs[k]? = some t) (hi' : i < t.length) (hb : b < w.heap.size) (hc : w.cell? ⟨b, 0, none⟩ = some vt) (hbi : bi < w.heap.size) (hci : w.cell? ⟨bi, 0, none⟩ = some (.int .i64 (i : Int))) :
    Calls Tryz.prog 36 #[.int .i64 (k : Int), .pointer (some ⟨b, 0, none⟩), .pointer (some ⟨bi, 0, none⟩)] w (Ret (ev (valT tabs i k)) w) := by
  have hkl : k < tabs.length := (List.getElem?_eq_some_iff.1 hk).1
  have hsm := h.small
  obtain ⟨g, off, cap, rfl, q1, q2, q3, q4, q5⟩ := tabs_cells h (by omega)
  obtain ⟨A, c, c0, ht⟩ := q5 k t hk
  obtain ⟨g2, off2, cap2, hv, r1, r2, r3, r4, r5⟩ := exts_cells ht (by omega)
  have htl := ht.2.1
  cases hv
  obtain ⟨x, hx, hxd⟩ := get_of hi'
  obtain ⟨d1, d2⟩ := r5 i x hx
  have HX := Lib.hid (show valT tabs i k = x by unfold valT; rw [show tabs.getD k [] = t by simp [List.getD, hk]]; exact hxd)
  rw [HX.out]
  unfold ev
  clear q5 r5 hx hxd h HX ht hk
  go_enter Tryz.func36, Tryz.ntmps36
  go_wp2_with fail
  refine wp_stk1 fun W hB hz b1 => ?_
  have hs := hB.size
  have f0 := gw_cell (Nat.lt_of_lt_of_le hb hs) ((hB.cell (p := ⟨b, 0, none⟩) hb).trans hc)
  have f1 := gw_cell (Nat.lt_of_lt_of_le hbi hs) ((hB.cell (p := ⟨bi, 0, none⟩) hbi).trans hci)
  have f2 := gw_cell (Nat.lt_of_lt_of_le q4 hs) ((hB.cell (p := ⟨g, off + k, none⟩) q4).trans c0)
  have f3 := gw_cell (Nat.lt_of_lt_of_le r4 hs) ((hB.cell (p := ⟨g2, off2 + i * 2, none⟩) r4).trans d1)
  have f4 := gw_cell (Nat.lt_of_lt_of_le r4 hs) ((hB.cell (p := ⟨g2, off2 + i * 2 + 1, none⟩) r4).trans d2)
  clear d1 d2 hc hci c0
  refine wp_region_rg 8 [] (by kernel_rfl) (by kernel_rfl) (by kernel_rfl) trivial ?_
  iterate 8 (refine rg_det rfl rfl rfl (fun K hK => ?_); go_big_quiet_op; refine hK _ ?_; clear hK K)
  refine rg_nil (fun w' hw' hF => ?_)
  obtain ⟨z, rfl⟩ := hw'
  simp only [List.drop_succ_cons, List.drop_zero]
  have bz := b1.gw z
  have e1 := bz.cell
  have e2 := bz.frozen
  clear hF f0 f1 f2 f3 f4
  go_wp2_with fail
  refine bodyPost_ret (v := .agg #[.int .u64 (fv (x).a), .int .u64 (fv (x).b)]) (by simp [results, Tryz.results36, go_sem, e1]) rfl ⟨rfl, ?_⟩
  exact below_set2 (hB.trans (z.h.mono hB.size)) (Nat.le_refl _)
set_option maxRecDepth 100000 in
set_option maxHeartbeats 2000000 in
theorem gTotal (tabs : List (List E)) (N : Nat) (vt vp : Value) (ps : List Trm) (lo hi : Nat) (w : World) (h : SumS lo hi w vt vp tabs ps) (h0 : 0 < tabs.length) (hall : AllLen tabs N) (hN : N ≤ 1000000) :
    Calls Tryz.prog 10 #[sv vt vp] w (Ret (ev (totE tabs ps)) w) := by
  obtain ⟨A, capt, rfl⟩ := h.ht.len
  have hsm := h.ht.small
  have HT := Lib.hid (show totK tabs ps N = totE tabs ps by unfold totE; rw [hall.lenT h0])
  have HA := Lib.hid hall
  have HH := Lib.hid h
  clear hall h
  unfold ev sv
  go_enter Tryz.func10, Tryz.ntmps10
  obtain ⟨g, off, cap', hv, q1, q2, q3, q4, q5⟩ := tabs_cells HH.out.ht h0
  cases hv
  obtain ⟨t0, ht0⟩ : ∃ t, tabs[0]? = some t := ⟨_, List.getElem?_eq_getElem h0⟩
  obtain ⟨A0, c0, k0, hE0⟩ := q5 0 t0 ht0
  have hl0 : t0.length = N := HA.out t0 (List.mem_of_getElem? ht0)
  rw [hl0] at k0
  rw [Nat.add_zero] at k0
  clear q5 ht0 hE0 hl0
  go_upto_region 2 with (fail)
  refine wp_stk3 fun W hB hz b1 b2 b3 => ?_
  have hW := hz.out
  have e0 := b1.cell
  have e1 := (hB.cell (p := ⟨g, off, none⟩) q4).trans k0
  clear hz k0
  go_wp2_with fail
  clear e0 e1
  go_loopw [10] (fun i wr => ∃ j : Nat, j ≤ N ∧ i = .int .i64 j ∧ Blk wr (w.heap.size + 2) 39 #[.int .u64 (fv (totK tabs ps j).a), .int .u64 (fv (totK tabs ps j).b)] ∧ Below (w.heap.size + 2) W wr) (fun i _ => N - (intOf i).toNat)
  case atStart => exact ⟨0, Nat.zero_le _, rfl, b3, Below.refl _ _⟩
  case round =>
    obtain ⟨j, hj, rfl, bs, hBr⟩ := hrel
    clear b3
    have hs2 := bs.lt
    have b1r := b1.below hBr (by omega)
    have b2r := b2.below hBr (by omega)
    have hBw := hB.trans (hBr.mono (by omega))
    by_cases hlt : j < N
    · have HFT := Lib.hid (totK_succ tabs ps j)
      obtain ⟨wo, hwo⟩ : ∃ wo, wo = wr := ⟨_, rfl⟩
      subst hwo
      go_wp2_with fail
      refine wp_stk1 fun X hBX hzX b4 => ?_
      have hX := hzX.out
      have bsX := bs.keep hBX
      have b1X := b1r.keep hBX
      have f1 := gw_blk b1X
      have f2 := gw_blk bsX
      generalize totK tabs ps j = m at *
      have hBX2 := hBw.trans (hBX.mono (by omega))
      have HEv : ∀ W1, Grw X W1 → Calls Tryz.prog 35 #[sv (.slice (some ⟨g, off, none⟩) tabs.length capt) vp, .func (.func 36) #[] ([.pointer (some ⟨w.heap.size, 0, none⟩), .pointer (some ⟨wo.heap.size, 0, none⟩)] : List Value).toArray] W1 (Ret (ev (finE (valT tabs j) ps)) W1) := fun W1 hW1 => by
        have hb1 := grw_below hW1
        have hS := HH.out.keep (hBX2.trans (hb1.mono hBX2.size))
        refine gEvaluate tabs.length (valT tabs j) 36 _ en_attestor_sumcheck_Total_1 _ vp ps lo hi W1 (fun k W2 hk hW2 => ?_) hS.hp hS.ix hS.few hS.short
        have hb2 := hb1.trans (hW2.mono hb1.size)
        have hb1s := (b1X.keep hb2)
        have hb4s := (b4.keep hb2)
        obtain ⟨t, ht⟩ : ∃ t, tabs[k]? = some t := ⟨_, List.getElem?_eq_getElem hk⟩
        exact gTotalC tabs t k j w.heap.size wo.heap.size lo hi _ W2 (hS.ht.keep hW2) ht (by rw [HA.out t (List.mem_of_getElem? ht)]; exact hlt) hb1s.lt (hb1s.cell 0) hb4s.lt (hb4s.cell 0)
      have HEV := Lib.hid HEv
      clear HEv
      refine wp_region_rg 5 [(2, Spec.val (.func (.func 36) ([] : List Value).toArray ([.pointer (some ⟨w.heap.size, 0, none⟩), .pointer (some ⟨wo.heap.size, 0, none⟩)] : List Value).toArray)), (3, Spec.val (.agg #[.int .u64 (fv (finE (valT tabs j) ps).a), .int .u64 (fv (finE (valT tabs j) ps).b)])), (4, Spec.val (.agg #[.int .u64 (fv (m + finE (valT tabs j) ps).a), .int .u64 (fv (m + finE (valT tabs j) ps).b)]))] (by kernel_rfl) (by kernel_rfl) (by kernel_rfl) trivial ?_
      iterate 2 (refine rg_det rfl rfl rfl (fun K hK => ?_); go_big_quiet_op; refine hK _ ?_; clear hK K)
      refine rg_val rfl rfl (fun W1 hW1 hF => step_mkfunc _ _ _ rfl rfl rfl) ?_
      intro a' ha
      simp only [Act.put, List.setIfInBounds_toArray, List.set_cons_succ, List.set_cons_zero] at ha
      subst ha
      refine rg_val rfl rfl (fun W1 hW1 hF => step_callv en_attestor_sumcheck_evaluate (HEV.out W1 hW1) rfl rfl) ?_
      intro a' ha
      simp only [Act.put, List.setIfInBounds_toArray, List.set_cons_succ, List.set_cons_zero] at ha
      subst ha
      refine rg_val rfl rfl (fun W1 hW1 hF => step_callv en_attestor_ext_Add (eAdd m (finE (valT tabs j) ps) W1) rfl rfl) ?_
      intro a' ha
      simp only [Act.put, List.setIfInBounds_toArray, List.set_cons_succ, List.set_cons_zero] at ha
      subst ha
      refine rg_nil (fun w' hw' hF => ?_)
      obtain ⟨z, rfl⟩ := hw'
      simp only [List.drop_succ_cons, List.drop_zero]
      have bz := bsX.gw z
      have e1 := bz.frozen
      have e2 := bz.cell
      have hBz := (hBr.trans (hBX.mono (by omega))).trans (z.h.mono (by omega))
      clear hF f1 f2
      go_wp2_with fail
      refine ⟨⟨j + 1, by omega, by go_num, ?_, below_set2 hBz (Nat.le_refl _)⟩, by simp [intOf]; omega⟩
      rw [HFT.out]
      exact blk_set2 bz
    · obtain rfl : j = N := by omega
      rw [HT.out] at bs
      have e1 := bs.cell
      have e3 := b2r.cell
      have e4 := b2r.frozen
      go_wp2_with fail
      refine bodyPost_ret (v := .agg #[.int .u64 (fv (totE tabs ps).a), .int .u64 (fv (totE tabs ps).b)]) (by simp [results, Tryz.results10, go_sem, e3]) rfl ⟨rfl, ?_⟩
      exact below_set2 hBw (by omega)
set_option maxRecDepth 100000 in
set_option maxHeartbeats 1000000 in
theorem gDegree (vt vp : Value) (ps : List Trm) (lo hi : Nat) (w : World) (h : TrmS lo hi w vp ps) (hsh : ∀ p ∈ ps, p.t.length ≤ 1000) :
    Calls Tryz.prog 73 #[sv vt vp] w (Ret (.int .i64 (degE ps : Nat)) w) := by
  obtain ⟨A, capP, rfl⟩ := h.len
  have hsm := h.small
  have HSH := Lib.hid hsh
  have HD := Lib.hid (fun j => Nat.le_trans (deg_fold (ps.take j) 1000 (fun p hp => hsh p (List.mem_of_mem_take hp)) 1 (by omega)) (Nat.le_refl _))
  clear hsh
  unfold sv
  go_enter Tryz.func73, Tryz.ntmps73
  go_upto_region 2 with (fail)
  refine wp_stk1 fun W hB hz b1 => ?_
  have hpW := Lib.hid (h.keep hB)
  clear h
  have e0 := b1.cell
  go_wp2_with fail
  clear e0
  go_loopw [3, 9] (fun d i wr => ∃ j : Nat, j ≤ ps.length ∧ i = .int .i64 j ∧ d = .int .i64 (degK ps j : Nat) ∧ Below W.heap.size W wr) (fun _ i _ => ps.length - (intOf i).toNat)
  case atStart => exact ⟨0, Nat.zero_le _, rfl, rfl, Below.refl _ _⟩
  case round =>
    obtain ⟨j, hj, rfl, rfl, hBr⟩ := hrel
    by_cases hlt : j < ps.length
    · obtain ⟨g, off, cap', hv, q1, q2, q3, q4, q5⟩ := trms_cells (hpW.out.keep hBr) (by omega)
      cases hv
      obtain ⟨p, hpj⟩ : ∃ p, ps[j]? = some p := ⟨_, List.getElem?_eq_getElem hlt⟩
      obtain ⟨A2, c2, d1, d2, d3, hI⟩ := q5 j p hpj
      have hF := degK_succ ps j p hpj
      have hl1 := HSH.out p (List.mem_of_getElem? hpj)
      have hd : degK ps j ≤ 1000 := HD.out j
      obtain ⟨m, hm⟩ : ∃ m, m = degK ps j := ⟨_, rfl⟩
      obtain ⟨m2, hm2⟩ : ∃ m2, m2 = degK ps (j + 1) := ⟨_, rfl⟩
      rw [← hm, ← hm2] at hF
      rw [← hm] at hd ⊢
      have HMX := Lib.hid (show (if m < p.t.length then (p.t.length : Int) else (m : Int)) = (m2 : Int) by split <;> omega)
      have HM := Lib.hid hm2
      clear q5 hpj hm hm2 hF
      go_upto_region 5 with (fail)
      refine wp_stk1 fun X hBX hzX b2 => ?_
      have e0 := b2.cell
      clear d1 d2 d3
      go_wp2_with fail
      exact ⟨⟨j + 1, by omega, by go_num, by rw [← HM.out, HMX.out], hBr.trans (hBX.mono hBr.size)⟩, by simp [intOf]; omega⟩
    · obtain rfl : j = ps.length := by omega
      rw [degK_all]
      go_wp2_with fail
      go_ret
      exact ⟨rfl, hB.trans (hBr.mono hB.size)⟩
end Go.Proofs.YtficeebbbkmhcaaGreatDoor
namespace Go.Proofs.YtficeebbbkmhcaaGreatDoor
open Go.RowKit Go.Maps

def heldR (v : Value) : Option (DataW Value × List MemPlace) := some (.held v, [])
def MpO (k : TypeId) (w : World) (b n : Nat) (D : DataW Value) : Prop := w.ownsMap Tryz.prog k heldR b n D
theorem MpO.lt {k : TypeId} {w : World} {b n : Nat} {D : DataW Value} (h : MpO k w b n D) : b < w.heap.size := World.ownsMap.lt h
theorem MpO.keep {k : TypeId} {w X : World} {b n : Nat} {D : DataW Value} (h : MpO k w b n D) (hb : Below w.heap.size w X) : MpO k X b n D := by
  have hlt := MpO.lt h
  exact World.ownsMap.kept (row := none) h ⟨hb.os, hb.tape, hb.output, hb.size, fun j hj _ => hb.block j hj⟩ (by simp)
theorem step_mnew {o : Oper} {a : Act} {w : World} {t : TypeId} (k : TypeId) (ho : o.op = .makeMap t none) : stepAt Tryz.prog o a w fun v w' => v = .map (some w.heap.size) ∧ MpO k w' w.heap.size 0 (.map []) ∧ Below w.heap.size w w' := by
  unfold stepAt execOp
  simp only [ho, Instr.makeMap, Sem.run_bind, Sem.run_pure, Result.andThen_ok]
  exact ⟨rfl, World.ownsMap_made w _ _ _, (Below.refl _ w).alloc (Nat.le_refl _) _⟩
theorem step_mput {o : Oper} {a : Act} {w : World} {t k e : TypeId} {m x y : Operand} {b n : Nat} {D : DataW Value} {z : Int} {v : Value} (hk : Tryz.prog.underlying k = some (.int .i64)) (ht : Tryz.prog.underlying t = some (.map k e))
    (ho : o.op = .insert t m x y) (hm : a.eval m = .map (some b)) (hx : a.eval x = .int .i64 z) (hz : (Lit.int .i64 z).wf = true) (hy : a.eval y = v) (h : MpO k w b n D) (hn : n < maxLen) :
    stepAt Tryz.prog o a w fun _ w' => MpO k w' b (n + 1) (D.put (.int .i64 z) (.held v)) ∧ Below b w w' ∧ w.grownBy w' (some b) := by
  obtain ⟨w', hrun, h2, hg⟩ := World.ownsMap.update h (int_keyed hk) ht hn (keyOf_int_mk hk hz) (show heldR v = some (.held v, []) from rfl)
  unfold stepAt execOp
  simp only [ho, hm, hx, hy, Sem.run_bind, hrun, Result.andThen_ok]
  exact ⟨h2, (Below.refl b w).grown hg (Nat.le_of_lt (MpO.lt h)) (fun j hj => by cases hj; exact Nat.le_refl _), hg⟩
theorem step_mget {o : Oper} {a : Act} {w : World} {t k e : TypeId} {m x : Operand} {b n : Nat} {D : DataW Value} {z : Int} {v zv : Value} (hk : Tryz.prog.underlying k = some (.int .i64)) (ht : Tryz.prog.underlying t = some (.map k e)) (hzv : (zeroValue e).run Tryz.prog w = .ok zv w)
    (ho : o.op = .lookup t m x false) (hm : a.eval m = .map (some b)) (hx : a.eval x = .int .i64 z) (hz : (Lit.int .i64 z).wf = true) (h : MpO k w b n D) (hv : D.atKey (.int .i64 z) (.held zv) = .held v) :
    stepAt Tryz.prog o a w fun u w' => u = v ∧ w' = w := by
  obtain ⟨u, ps, hrun, hu⟩ := World.ownsMap.lookup h (int_keyed hk) ht hzv (show heldR zv = some (.held zv, []) from rfl) (keyOf_int_mk hk hz)
  rw [hv] at hu
  simp only [heldR, Option.some.injEq, Prod.mk.injEq, DataW.held.injEq] at hu
  unfold stepAt execOp
  simp only [ho, hm, hx, Sem.run_bind, hrun, Result.andThen_ok, Sem.run_pure]
  exact ⟨hu.1, rfl⟩
theorem step_mgetok {o : Oper} {a : Act} {w : World} {t k e : TypeId} {m x : Operand} {b n : Nat} {D : DataW Value} {z : Int} {v zv : Value} (hk : Tryz.prog.underlying k = some (.int .i64)) (ht : Tryz.prog.underlying t = some (.map k e)) (hzv : (zeroValue e).run Tryz.prog w = .ok zv w)
    (ho : o.op = .lookup t m x true) (hm : a.eval m = .map (some b)) (hx : a.eval x = .int .i64 z) (hz : (Lit.int .i64 z).wf = true) (h : MpO k w b n D) (hv : D.atKey (.int .i64 z) (.held zv) = .held v) (hh : Maps.has D (.int .i64 z) = true) :
    stepAt Tryz.prog o a w fun u w' => u = .tuple #[v, .bool true] ∧ w' = w := by
  obtain ⟨u, ps, hrun, hu⟩ := World.ownsMap.look_ok h (int_keyed hk) ht hzv (show heldR zv = some (.held zv, []) from rfl) (keyOf_int_mk hk hz)
  rw [hv] at hu
  rw [hh] at hrun
  simp only [heldR, Option.some.injEq, Prod.mk.injEq, DataW.held.injEq] at hu
  unfold stepAt execOp
  simp only [ho, hm, hx, Sem.run_bind, hrun, Result.andThen_ok, Sem.run_pure]
  exact ⟨by rw [hu.1], rfl⟩
end Go.Proofs.YtficeebbbkmhcaaGreatDoor
namespace Go.Proofs.YtficeebbbkmhcaaGreatDoor
open Go.RowKit

def PrB (w : World) (b : Nat) (s : ByteArray) (p : Nat) : Prop := Blk w b 111 #[.string s, .int .i64 (p : Int), .int .i64 0, .int .i64 0]
def prV (b : Nat) : Value := .pointer (some ⟨b, 0, none⟩)
def tkV (k : Int) (s : ByteArray) : Value := .agg #[.int .i64 k, .string s]
theorem idx_str {s : ByteArray} {p : Nat} {c : UInt8} (h : s.data[p]? = some c) (w : World) : (Instr.index 9 (.string s) (.int .i64 (p : Int))).run Tryz.prog w = .ok (.int .u8 (c.toNat : Int)) w := by
  obtain ⟨hp, he⟩ := Array.getElem?_eq_some_iff.1 h
  have hs : p < s.size := hp
  rw [run_index_string w 9 s .i64 _ Tryz.underlying9, dif_pos ⟨by omega, by omega⟩]
  subst he
  rfl
theorem tk_guard : Tryz.prog.eqGuardType Tryz.prog.depth 114 = false := by kernel_rfl
theorem tk_held : Tryz.prog.stoodInHeld 114 = false := by kernel_rfl
theorem tk_fields : (Tryz.prog.fieldsOf 114).toList.map (fun f => (f.type, f.offset, f.name == "_")) = [(3, 0, false), (9, 1, false)] := by kernel_rfl
theorem tk_struct : Tryz.prog.underlying 114 = some (.struct (Tryz.prog.fieldsOf 114)) := by kernel_rfl
theorem i64_key : Tryz.prog.plainKey 3 = true := by kernel_rfl
theorem str_key : Tryz.prog.plainKey 9 = true := by kernel_rfl
theorem run_eqTk (k1 k2 : Int) (s1 s2 : ByteArray) (w : World) : (Op.equalIn 10000 114 (.agg #[.int .i64 k1, .string s1]) (.agg #[.int .i64 k2, .string s2])).run Tryz.prog w = .ok (k1 == k2 && s1.toList == s2.toList) w := by
  rw [run_equalIn_struct w 9999 _ _ _ tk_struct tk_held]
  have hf := tk_fields
  generalize (Tryz.prog.fieldsOf 114).toList = fs at *
  have hl : fs.length = 2 := by simpa using congrArg List.length hf
  match fs, hl, hf with
  | [f0, f1], _, hf =>
    simp only [List.map_cons, List.map_nil, List.cons.injEq, Prod.mk.injEq, and_true] at hf
    obtain ⟨⟨a0, a1, a2⟩, b0, b1, b2⟩ := hf
    have hp0 : ∀ k s, (part f0.type #[.int .i64 k, .string s] f0.offset).run Tryz.prog w = .ok (.int .i64 k) w := fun k s => by
      rw [a0, a1]
      exact run_part_plain w i64_key rfl
    have hp1 : ∀ k s, (part f1.type #[.int .i64 k, .string s] f1.offset).run Tryz.prog w = .ok (.string s) w := fun k s => by
      rw [b0, b1]
      exact run_part_plain w str_key rfl
    have he0 : (Op.equalIn 9999 f0.type (.int .i64 k1) (.int .i64 k2)).run Tryz.prog w = .ok (k1 == k2) w := by
      rw [a0, run_equalIn_int w 9998 3 .i64 .i64 _ _ (by kernel_rfl)]
    have he1 : (Op.equalIn 9999 f1.type (.string s1) (.string s2)).run Tryz.prog w = .ok (s1.toList == s2.toList) w := by
      rw [b0, run_equalIn_string w 9998 9 _ _ (by kernel_rfl)]
    have n0 : f0.name ≠ "_" := by simpa using a2
    have n1 : f1.name ≠ "_" := by simpa using b2
    cases h1 : (k1 == k2) <;> cases h2 : (s1.toList == s2.toList) <;> rw [h1] at he0 <;> rw [h2] at he1 <;> simp [Op.eqFields, Sem.run_bind, n0, n1, hp0, hp1, he0, he1]
theorem en_strings_IndexByte : ∀ args w, (callFunc 88 args).run Tryz.prog w = .ok (.enter 88 args) w := enters_of Tryz.func88 (by kernel_rfl) rfl
set_option maxRecDepth 100000 in
theorem lIndexByte0 (s : ByteArray) (c : Int) (w : World) : Calls Tryz.prog 118 #[.string s, .int .u8 c] w fun e w' => e = .returned (.int .i64 (Lib.indexByte s.data.toList c.toNat.toUInt8)) ∧ w' = w := by
  go_enter Tryz.func118, Tryz.ntmps118
  go_wp2
  rw [run_callFunc_extern Tryz.func132 (by kernel_rfl) (by kernel_rfl) (by kernel_rfl) (e := Extern.BytealgIndexByte.indexByte) (by kernel_rfl), Lib.run_indexByteString]
  simp only [Result.andThen]
  rw [Oper.upon_value]
  go_wp2
  go_ret
  exact ⟨rfl, rfl⟩
theorem lIndexByte (s : ByteArray) (c : Int) (w : World) : Calls Tryz.prog 88 #[.string s, .int .u8 c] w (Ret (.int .i64 (Lib.indexByte s.data.toList c.toNat.toUInt8)) w) := by
  go_enter Tryz.func88, Tryz.ntmps88
  go_wp2_with fail
  refine (lIndexByte0 s c _).mono ?_
  rintro e w2 ⟨rfl, rfl⟩
  go_wp2
  go_ret
  exact ⟨rfl, Below.refl _ _⟩
end Go.Proofs.YtficeebbbkmhcaaGreatDoor
namespace Go.Proofs.YtficeebbbkmhcaaGreatDoor
open Go.RowKit

def inR (s : ByteArray) (lo hi : Nat) (i : Nat) : Bool := match s.data[i]? with | some c => decide (lo ≤ c.toNat) && decide (c.toNat ≤ hi) | none => false
theorem en___attestor_query_parser__span : ∀ args w, (callFunc 89 args).run Tryz.prog w = .ok (.enter 89 args) w := enters_of Tryz.func89 (by kernel_rfl) rfl
set_option maxRecDepth 100000 in
theorem gSpan (s : ByteArray) (hs : s.size ≤ 400) (b p q lo hi : Nat) (hpq : p ≤ q) (hq : q ≤ s.size) (hin : ∀ i, i < q → p ≤ i → inR s lo hi i = true) (hout : inR s lo hi q = false) (w : World) (hP : PrB w b s p) :
    Calls Tryz.prog 89 #[prV b, .int .u8 (lo : Int), .int .u8 (hi : Int)] w fun e w' => e = .returned (.int .i64 (q : Int)) ∧ w' = w := by
  have HI := Lib.hid hin
  have HO := Lib.hid hout
  have e0 := hP.cell 0
  have e1 := hP.cell 1
  simp only [List.getElem?_toArray, List.getElem?_cons_zero, List.getElem?_cons_succ] at e0 e1
  have l0 := hP.lt
  obtain ⟨n, hn⟩ : ∃ n, n = s.size := ⟨_, rfl⟩
  have HN := Lib.hid hn
  have hs' : n ≤ 400 := by rw [hn]; exact hs
  have hqn : q ≤ n := by rw [hn]; exact hq
  clear hin hout hP hs hq
  unfold prV
  go_enter Tryz.func89, Tryz.ntmps89
  go_wp2
  go_loopw [7] (fun i wr => ∃ k : Nat, p ≤ k ∧ k ≤ q ∧ i = .int .i64 (k : Int) ∧ wr = w) (fun i _ => q - (intOf i).toNat)
  case atStart => exact ⟨p, Nat.le_refl _, hpq, rfl, rfl⟩
  case round =>
    obtain ⟨k, hk1, hk2, rfl, rfl⟩ := hrel
    by_cases hkq : k < q
    · have h1 := HI.out k hkq hk1
      unfold inR at h1
      obtain ⟨c, hc⟩ : ∃ c, s.data[k]? = some c := ⟨_, Array.getElem?_eq_getElem (show k < s.data.size by have := HN.out; have e : s.data.size = s.size := rfl; omega)⟩
      rw [hc] at h1
      simp only [Bool.and_eq_true, decide_eq_true_eq] at h1
      obtain ⟨c1, c2⟩ := h1
      have ix := idx_str hc
      obtain ⟨z, hz⟩ : ∃ z, z = c.toNat := ⟨_, rfl⟩
      rw [← hz] at c1 c2 ix
      clear hc hz
      go_wp2
      exact ⟨⟨k + 1, by omega, by omega, by go_num, trivial⟩, by simp [intOf]; omega⟩
    · obtain rfl : k = q := by omega
      have h1 := HO.out
      unfold inR at h1
      cases hc : s.data[k]? with
      | none =>
        have hk : ¬ k < s.size := fun h => by
          rw [Array.getElem?_eq_getElem (show k < s.data.size from h)] at hc
          cases hc
        clear hc h1
        go_wp2
        go_ret
        exact ⟨rfl, rfl⟩
      | some c =>
        rw [hc] at h1
        have ix := idx_str hc
        have hk : k < s.size := (Array.getElem?_eq_some_iff.1 hc).1
        simp only [Bool.and_eq_false_iff, decide_eq_false_iff_not] at h1
        obtain ⟨z, hz⟩ : ∃ z, z = c.toNat := ⟨_, rfl⟩
        rw [← hz] at h1 ix
        clear hc hz
        rcases h1 with h1 | h1
        · go_wp2
          go_ret
          exact ⟨rfl, rfl⟩
        · by_cases h2 : lo ≤ z
          · go_wp2
            go_ret
            exact ⟨rfl, rfl⟩
          · go_wp2
            go_ret
            exact ⟨rfl, rfl⟩
end Go.Proofs.YtficeebbbkmhcaaGreatDoor
namespace Go.Proofs.YtficeebbbkmhcaaGreatDoor
open Go.RowKit

def rngL (n : Nat) (f : Nat → E) : List E := (List.range n).map f
theorem rngL_length (n : Nat) (f : Nat → E) : (rngL n f).length = n := by simp [rngL]
theorem rngL_get (n : Nat) (f : Nat → E) (k : Nat) (h : k < n) : (rngL n f)[k]? = some (f k) := by simp [rngL, h]
theorem rngL_congr (n : Nat) (f g : Nat → E) (h : ∀ j, j < n → f j = g j) : rngL n f = rngL n g := by
  unfold rngL
  exact List.map_congr_left fun j hj => h j (List.mem_range.1 hj)
theorem rngL_set (n : Nat) (f : Nat → E) (k : Nat) (v : E) : (rngL n f).set k v = rngL n (fun j => if j = k then v else f j) := by
  apply List.ext_getElem?
  intro j
  by_cases hj : j < n
  · rw [List.getElem?_set, rngL_get n (fun j => if j = k then v else f j) j hj]
    by_cases hjk : k = j
    · subst hjk; simp [rngL_length, hj]
    · rw [if_neg hjk, rngL_get n f j hj, if_neg (fun e => hjk e.symm)]
  · rw [List.getElem?_eq_none (by rw [List.length_set, rngL_length]; omega), List.getElem?_eq_none (by rw [rngL_length]; omega)]
theorem rngL_zero (n : Nat) : List.replicate n (0 : E) = rngL n (fun _ => 0) := by
  apply List.ext_getElem?
  intro j
  by_cases hj : j < n
  · rw [rngL_get n _ j hj]; simp [hj]
  · rw [List.getElem?_eq_none (by simpa using hj), List.getElem?_eq_none (by rw [rngL_length]; omega)]
set_option maxRecDepth 100000 in
set_option maxHeartbeats 400000 in
theorem fFromInt (x : Int) (h1 : -9223372036854775808 ≤ x) (h2 : x ≤ 9223372036854775807) (w : World) : Calls Tryz.prog 139 #[.int .i64 x] w (Ret (.int .u64 (fv (fz x))) w) := by
  by_cases h : x < 0
  · have e1 : fv (fz (-x)) = -x := by rw [fv_fz]; omega
    have e2 : 0 - fz (-x) = fz x := by apply fv_inj; rw [fv_sub, fv_fz, fv_fz, fv_zero]; omega
    have c1 := fun w => fRed (-x) (by omega) (by omega) w
    have c2 := fun w => fNeg (fz (-x)) w
    rw [show (-x) % 18446744069414584321 = -x by omega] at c1
    rw [e1, e2] at c2
    have C1 := Lib.hid c1
    have C2 := Lib.hid c2
    have hw1 : IntKind.u64.wrap x = x + 18446744073709551616 := by rw [IntKind.wrap_u64]; omega
    have hw2 : IntKind.u64.wrap (-(x + 18446744073709551616)) = -x := by rw [IntKind.wrap_u64]; omega
    clear c1 c2 e1 e2
    go_enter Tryz.func139, Tryz.ntmps139
    go_wp2_with fail
    refine (C1.out _).mono ?_
    rintro e w' ⟨rfl, rfl⟩
    go_wp2_with fail
    refine (C2.out _).mono ?_
    rintro e w' ⟨rfl, rfl⟩
    go_wp2_with fail
    go_ret
    exact ⟨rfl, Below.refl _ _⟩
  · have e1 : fv (fz x) = x := by rw [fv_fz]; omega
    rw [e1]
    have hw1 : IntKind.u64.wrap x = x := by rw [IntKind.wrap_u64]; omega
    clear e1
    go_enter Tryz.func139, Tryz.ntmps139
    go_wp2_with fail
    go_ret
    exact ⟨rfl, Below.refl _ _⟩
set_option maxRecDepth 100000 in
set_option maxHeartbeats 400000 in
theorem eFromBase (c : Fp) (w : World) : Calls Tryz.prog 29 #[.int .u64 (fv c)] w (Ret (ev (eb c)) w) := by
  unfold ev eb
  go_enter Tryz.func29, Tryz.ntmps29
  go_wp2
  refine bodyPost_ret (v := .agg #[.int .u64 (fv c), .int .u64 (fv 0)]) (by simp [results, Tryz.results29, go_sem, fv0]) rfl ⟨rfl, ?_⟩
  exact (Below.refl _ _).alloc (Nat.le_refl _) _
set_option maxRecDepth 100000 in
set_option maxHeartbeats 400000 in
theorem eFromInt (x : Int) (h1 : -9223372036854775808 ≤ x) (h2 : x ≤ 9223372036854775807) (w : World) : Calls Tryz.prog 128 #[.int .i64 x] w (Ret (ev (intE x)) w) := by
  unfold ev
  go_enter Tryz.func128, Tryz.ntmps128
  go_wp2_with fail
  refine calls_stk1 fun W hB hz b1 => ?_
  refine (fFromInt x h1 h2 W).mono ?_
  rintro e w2 ⟨rfl, hb⟩
  go_wp2_with fail
  refine (eFromBase (fz x) w2).mono ?_
  rintro e w3 ⟨he, hb3⟩
  unfold ev at he
  subst he
  have b3 := (b1.keep hb).keep hb3
  have e1 := b3.cell
  have e2 := b3.frozen
  go_wp2_with fail
  refine bodyPost_ret (v := .agg #[.int .u64 (fv (intE x).a), .int .u64 (fv (intE x).b)]) (by simp [results, Tryz.results128, go_sem, e1]; exact ⟨rfl, rfl⟩) rfl ⟨rfl, ?_⟩
  have hB2 := hB.trans (hb.mono hB.size)
  exact below_set2 (hB2.trans (hb3.mono hB2.size)) (Nat.le_refl _)
set_option maxRecDepth 100000 in
set_option maxHeartbeats 400000 in
theorem gNode (x : Int) (h1 : -9223372036854775808 ≤ x) (h2 : x ≤ 9223372036854775807) (w : World) : Calls Tryz.prog 113 #[.int .i64 x] w (Ret (ev (intE x)) w) := by
  unfold ev
  go_enter Tryz.func113, Tryz.ntmps113
  go_wp2_with fail
  refine calls_stk1 fun W hB hz b1 => ?_
  refine (eFromInt x h1 h2 W).mono ?_
  rintro e w2 ⟨he, hb⟩
  unfold ev at he
  subst he
  have b2 := b1.keep hb
  have e1 := b2.cell
  have e2 := b2.frozen
  generalize intE x = y at *
  go_wp2_with fail
  refine bodyPost_ret (v := .agg #[.int .u64 (fv (y).a), .int .u64 (fv (y).b)]) (by simp [results, Tryz.results113, go_sem, e1]) rfl ⟨rfl, ?_⟩
  exact below_set2 (hB.trans (hb.mono hB.size)) (Nat.le_refl _)
theorem eInvA (x : E) (w : World) : Calls Tryz.prog 129 #[ev x] w (fun e w' => ∃ c : Int, e = .returned (.tuple #[ev (einv x), .int .i64 c]) ∧ Below w.heap.size w w') := by
  by_cases h : x = 0
  · subst h
    refine (eInv0 w).mono ?_
    rintro e w' ⟨rfl, hb⟩
    exact ⟨3, by rw [einv_zero], hb⟩
  · refine (eInv x h w).mono ?_
    rintro e w' ⟨rfl, hb⟩
    exact ⟨0, rfl, hb⟩
theorem difK_same (i k : Nat) (h : k = i) : difK i (k + 1) = difK i k := by rw [difK, if_pos h]
theorem difK_next (i k : Nat) (h : k ≠ i) : difK i (k + 1) = difK i k * intE ((i : Int) - k) := by rw [difK, if_neg h]
theorem intE_one : intE 1 = 1 := rfl
def wgtL (n j : Nat) : Nat → E := fun k => if k < j then wgtE n k else 0
theorem wgtL_zero (n : Nat) : rngL n (wgtL n 0) = List.replicate n 0 := by
  rw [rngL_zero]; exact rngL_congr _ _ _ fun j _ => by unfold wgtL; rw [if_neg (by omega)]
theorem wgtL_set (n j : Nat) : (rngL n (wgtL n j)).set j (wgtE n j) = rngL n (wgtL n (j + 1)) := by
  rw [rngL_set]
  refine rngL_congr _ _ _ fun k _ => ?_
  unfold wgtL
  by_cases h1 : k = j
  · subst h1; rw [if_pos rfl, if_pos (by omega)]
  · rw [if_neg h1]
    by_cases h2 : k < j
    · rw [if_pos h2, if_pos (by omega)]
    · rw [if_neg h2, if_neg (by omega)]
theorem wgtL_all (n : Nat) : rngL n (wgtL n n) = rngL n (wgtE n) := rngL_congr _ _ _ fun j hj => by unfold wgtL; rw [if_pos hj]
set_option maxRecDepth 100000 in
set_option maxHeartbeats 2000000 in
theorem gWeightsP (n : Nat) (hn : n ≤ 1000) (w : World) : Calls Tryz.prog 114 #[.int .i64 (n : Int)] w (RetR (ExtA (rngL n (wgtE n))) w) := by
  have hmk := mk_ext n (by omega)
  have HMK := Lib.hid hmk
  clear hmk
  go_enter Tryz.func114, Tryz.ntmps114
  go_wp2_with (simp only [HMK.out])
  refine wp_stk1 fun W hB hz b1 => ?_
  have hW := hz.out
  clear hz HMK
  rw [← wgtL_zero] at b1
  go_loopw [10] (fun i wr => ∃ j : Nat, j ≤ n ∧ i = .int .i64 j ∧ Blk wr w.heap.size 39 ((rngL n (wgtL n j)).flatMap ec).toArray ∧ Below w.heap.size w wr) (fun i _ => n - (intOf i).toNat)
  case atStart => exact ⟨0, Nat.zero_le _, rfl, b1, hB⟩
  case round =>
    obtain ⟨j, hj, rfl, bw, hBr⟩ := hrel
    clear b1 hB
    have hgl := bw.lt
    by_cases hlt : j < n
    · obtain ⟨wo, hwo⟩ : ∃ wo, wo = wr := ⟨_, rfl⟩
      subst hwo
      go_wp2_with fail
      refine (gNode 1 (by omega) (by omega) wo).mono ?_
      rintro e w2 ⟨he, hb2⟩
      rw [intE_one] at he
      unfold ev at he
      subst he
      go_wp2_with fail
      refine wp_stk1 fun X hBX hzX bp => ?_
      have hX := hzX.out
      have hs2 := hb2.size
      have hb2X := hb2.trans (hBX.mono hs2)
      have bwX := bw.keep hb2X
      clear hzX hBX hb2
      obtain ⟨Bp, hBp⟩ : ∃ B, B = w2.heap.size := ⟨_, rfl⟩
      rw [← hBp] at bp hX hs2 ⊢
      clear hBp
      go_loopw [15] (fun k wr => ∃ i : Nat, i ≤ n ∧ k = .int .i64 i ∧ Blk wr Bp 39 #[.int .u64 (fv (difK j i).a), .int .u64 (fv (difK j i).b)] ∧ Below Bp X wr) (fun k _ => n - (intOf k).toNat)
      case atStart => exact ⟨0, Nat.zero_le _, rfl, bp, Below.refl _ _⟩
      case round =>
        obtain ⟨i, hi, rfl, bv, hBv⟩ := hrel
        clear bp
        have hvl := bv.lt
        by_cases hil : i < n
        · by_cases hij : i = j
          · subst hij
            rw [← difK_same i i rfl] at bv
            go_wp2_with fail
            exact ⟨⟨i + 1, by omega, by go_num, bv, hBv⟩, by simp [intOf]; omega⟩
          · have HD := Lib.hid (difK_next j i hij)
            have hne : ((i : Int) == (j : Int)) = false := by simp; omega
            have f1 := gw_blk bv
            generalize difK j i = m at *
            go_wp2_with fail
            refine wp_region_rg 6 [(4, Spec.val (.agg #[.int .u64 (fv (intE ((j : Int) - i)).a), .int .u64 (fv (intE ((j : Int) - i)).b)])), (5, Spec.val (.agg #[.int .u64 (fv (m * intE ((j : Int) - i)).a), .int .u64 (fv (m * intE ((j : Int) - i)).b)]))] (by kernel_rfl) (by kernel_rfl) (by kernel_rfl) trivial ?_
            iterate 4 (refine rg_det rfl rfl rfl (fun K hK => ?_); go_big_quiet_op; refine hK _ ?_; clear hK K)
            refine rg_val rfl rfl (fun W1 hW1 hF => step_callv en_attestor_poly_node (gNode ((j : Int) - i) (by omega) (by omega) W1) rfl rfl) ?_
            intro a' ha
            simp only [Act.put, List.setIfInBounds_toArray, List.set_cons_succ, List.set_cons_zero] at ha
            subst ha
            refine rg_val rfl rfl (fun W1 hW1 hF => step_callv en_attestor_ext_Mul (eMul m (intE ((j : Int) - i)) W1) rfl rfl) ?_
            intro a' ha
            simp only [Act.put, List.setIfInBounds_toArray, List.set_cons_succ, List.set_cons_zero] at ha
            subst ha
            refine rg_nil (fun w' hw' hF => ?_)
            obtain ⟨z, rfl⟩ := hw'
            simp only [List.drop_succ_cons, List.drop_zero]
            have bz := bv.gw z
            have e1 := bz.frozen
            have e2 := bz.cell
            clear hF f1
            rw [← HD.out]
            generalize hq : difK j (i + 1) = q at *
            have HQ := Lib.hid hq
            clear hq
            go_wp2_with fail
            refine ⟨⟨i + 1, by omega, by go_num, ?_, below_set2 (hBv.trans (z.h.mono (by omega))) (Nat.le_refl _)⟩, by simp [intOf]; omega⟩
            rw [HQ.out]
            exact blk_set2 bz
        · obtain rfl : i = n := by omega
          have e1 := bv.cell
          have bw2 := bwX.below hBv (by omega)
          go_wp2_with fail
          refine (eInvA (difK j i) _).mono ?_
          rintro e w5 ⟨c, he, hb5⟩
          rw [show einv (difK j i) = wgtE i j from rfl] at he
          unfold ev at he
          subst he
          have bw3 := bw2.keep hb5
          have hB5 := (hBr.trans (hb2X.mono hBr.size)).trans ((hBv.mono (by omega)).trans (hb5.mono (by have := hBv.size; omega)))
          have e2 := bw3.frozen
          obtain ⟨s1, s2⟩ := blk_cellE bw3 (rngL_get i (wgtL i j) j hlt)
          have HS := Lib.hid (wgtL_set i j)
          have hll : j < (rngL i (wgtL i j)).length := by rw [rngL_length]; exact hlt
          have HLL := Lib.hid hll
          clear e1 hll bw2 bwX bv
          generalize wgtE i j = y at *
          go_wp2_with fail
          refine ⟨⟨j + 1, by omega, by go_num, ?_, below_setE hB5 (Nat.le_refl _)⟩, by simp [intOf]; omega⟩
          rw [← HS.out]
          exact blk_setE bw3 j y HLL.out
    · obtain rfl : j = n := by omega
      rw [wgtL_all] at bw
      go_wp2_with fail
      go_ret
      exact ⟨_, rfl, exts_of_blk bw (rngL_length _ _) (by omega) (Nat.le_refl _) hgl, hBr⟩
end Go.Proofs.YtficeebbbkmhcaaGreatDoor
