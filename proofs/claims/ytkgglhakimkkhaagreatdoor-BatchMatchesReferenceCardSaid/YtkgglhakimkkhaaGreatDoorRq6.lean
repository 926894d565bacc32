/-
  The reference's sums: Degree, Final, Total, by contract.
  The reference's functions of chapter 05 that make slices, by contract.
  Slices of slices as they may come in.
  Integers made into elements, as the statements of chapter 17 do it.
  Log of the reference's sum-check, by contract.
  Sums as chapter 06 makes them: rows of terms that a call builds of its own; the raw description.
  Made of the reference's sum-check, by contract.
  The reference's sums: Bind, Round, Prove and SameRounds, by contract.
-/
import Derived.Test.YtkgglhakimkkhaaGreatDoorP3
import Derived.Test.YtkgglhakimkkhaaGreatDoorTk
import Derived.Test.YtkgglhakimkkhaaGreatDoorMr3
import Derived.Test.YtkgglhakimkkhaaGreatDoorFi
import Derived.Test.YtkgglhakimkkhaaGreatDoorSeqW
import Derived.Test.YtkgglhakimkkhaaGreatDoorPa
import Derived.Test.YtkgglhakimkkhaaGreatDoorGb2
import Derived.Test.YtkgglhakimkkhaaGreatDoorRgM
import Derived.Deep.Cut
namespace Go.Proofs.YtkgglhakimkkhaaGreatDoor
open Go.RowKit

set_option maxRecDepth 100000 in
set_option maxHeartbeats 1000000 in
theorem rDegree (vt vp : Value) (ps : List Trm) (lo hi : Nat) (w : World) (h : TrmS lo hi w vp ps) (hsh : ∀ p ∈ ps, p.t.length ≤ 1000) :
    Calls Tryz.prog 96 #[sv vt vp] w (Ret (.int .i64 (degE ps : Nat)) w) := by
  obtain ⟨A, capP, rfl⟩ := h.len
  have hsm := h.small
  have HSH := Lib.hid hsh
  have HD := Lib.hid (fun j => Nat.le_trans (deg_fold (ps.take j) 1000 (fun p hp => hsh p (List.mem_of_mem_take hp)) 1 (by omega)) (Nat.le_refl _))
  have HH := Lib.hid h
  clear hsh h
  unfold sv
  go_enter Tryz.func96, Tryz.ntmps96
  go_upto_region 1 with (fail)
  refine wp_stk1 fun W hB hz b1 => ?_
  clear hz
  go_wp2_with fail
  go_loopw [3, 4] (fun d i wr => ∃ j : Nat, j ≤ ps.length ∧ i = .int .i64 j ∧ d = .int .i64 (degK ps j : Nat) ∧ Below W.heap.size W wr) (fun _ i _ => ps.length - (intOf i).toNat)
  case atStart => exact ⟨0, Nat.zero_le _, rfl, rfl, Below.refl _ _⟩
  case round =>
    obtain ⟨j, hj, rfl, rfl, hBr⟩ := hrel
    have e0 := (b1.keep hBr).cell
    by_cases hlt : j < ps.length
    · obtain ⟨g, off, cap', hv, q1, q2, q3, q4, q5⟩ := trms_cells ((HH.out.keep hB).keep hBr) (by omega)
      cases hv
      obtain ⟨p, hpj⟩ : ∃ p, ps[j]? = some p := ⟨_, List.getElem?_eq_getElem hlt⟩
      obtain ⟨A2, c2, d1, d2, d3, hI⟩ := q5 j p hpj
      have hF := degK_succ ps j p hpj
      have hl1 := HSH.out p (List.mem_of_getElem? hpj)
      have hd : degK ps j ≤ 1000 := HD.out j
      obtain ⟨m, hm⟩ : ∃ m, m = degK ps j := ⟨_, rfl⟩
      obtain ⟨m2, hm2⟩ : ∃ m2, m2 = degK ps (j + 1) := ⟨_, rfl⟩
      rw [← hm, ← hm2] at hF
      rw [← hm] at hd ⊢
      have HMX := Lib.hid (show (if m < p.t.length then (p.t.length : Int) else (m : Int)) = (m2 : Int) by split <;> omega)
      have HM := Lib.hid hm2
      clear q5 hpj hm hm2 hF
      go_wp2_with fail
      exact ⟨⟨j + 1, by omega, by go_num, by rw [← HM.out, HMX.out], hBr⟩, by simp [intOf]; omega⟩
    · obtain rfl : j = ps.length := by omega
      rw [degK_all]
      go_wp2_with fail
      go_ret
      exact ⟨rfl, hB.trans (hBr.mono hB.size)⟩
set_option maxRecDepth 100000 in
set_option maxHeartbeats 2000000 in
theorem rFinal (vals : List E) (vt vp v : Value) (ps : List Trm) (lo hi lo2 hi2 : Nat) (w : World) (hp : TrmS lo hi w vp ps) (h : ExtS lo2 hi2 w v vals) (hix : ∀ p ∈ ps, ∀ k ∈ p.t, k < vals.length) :
    Calls Tryz.prog 127 #[sv vt vp, v] w (Ret (ev (finE (valL vals) ps)) w) := by
  obtain ⟨A, capP, rfl⟩ := hp.len
  obtain ⟨AV, capV, rfl⟩ := Rd.len h
  have hsm := hp.small
  have hsv := h.2.1
  have HIX := Lib.hid hix
  have HP := Lib.hid hp
  have HV := Lib.hid h
  clear hix hp h
  unfold sv ev
  go_enter Tryz.func127, Tryz.ntmps127
  go_upto_region 2 with (fail)
  refine wp_stk3 fun W hB hz b2 b4 b5 => ?_
  have hWs : W.heap.size = w.heap.size + 1 + 1 + 1 := hz.out
  clear hz
  go_wp2_with fail
  go_loopw [6] (fun i wr => ∃ j : Nat, j ≤ ps.length ∧ i = .int .i64 j ∧ Blk wr (w.heap.size + 2) 26 #[.int .u64 (fv (finK (valL vals) ps j).a), .int .u64 (fv (finK (valL vals) ps j).b)] ∧ Below (w.heap.size + 2) W wr) (fun i _ => ps.length - (intOf i).toNat)
  case atStart => exact ⟨0, Nat.zero_le _, rfl, b5, Below.refl _ _⟩
  case round =>
    obtain ⟨j, hj, rfl, b5, hBr⟩ := hrel
    have b2r := b2.below hBr (by omega)
    have b4r := b4.below hBr (by omega)
    have hBw := hB.trans (hBr.mono (by omega))
    have e1 := b2r.cell
    by_cases hlt : j < ps.length
    · obtain ⟨g, off, cap', hv, q1, q2, q3, q4, q5⟩ := trms_cells (HP.out.keep hBw) (by omega)
      cases hv
      obtain ⟨p, hpj⟩ : ∃ p, ps[j]? = some p := ⟨_, List.getElem?_eq_getElem hlt⟩
      obtain ⟨A2, c2, d1, d2, d3, hI⟩ := q5 j p hpj
      have HF := Lib.hid (finK_succ (valL vals) ps j p hpj)
      have HPI := Lib.hid (HIX.out p (List.mem_of_getElem? hpj))
      have HI := Lib.hid hI
      have hpl : p.t.length ≤ 140737488355327 := hI.2.1
      obtain ⟨X0, hX0⟩ : ∃ X, X = wr := ⟨_, rfl⟩
      subst hX0
      clear q5 hpj hI
      go_upto_region 6 with (fail)
      refine wp_stk1 fun X hX hzX b7 => ?_
      have hXs : X.heap.size = X0.heap.size + 1 := hzX.out
      have b2X := b2r.keep hX
      have b5X := b5.keep hX
      have k1 := (hX.cell (p := ⟨g, off + j * 3 + 2, none⟩) q4).trans d3
      have B7 : Blk X X0.heap.size 26 #[.int .u64 (fv (trmK (valL vals) p 0).a), .int .u64 (fv (trmK (valL vals) p 0).b)] := b7
      clear hzX e1 d1 d2 d3 b7
      go_wp2_with fail
      go_loopw [8] (fun i wr => ∃ k : Nat, k ≤ p.t.length ∧ i = .int .i64 k ∧ Blk wr X0.heap.size 26 #[.int .u64 (fv (trmK (valL vals) p k).a), .int .u64 (fv (trmK (valL vals) p k).b)] ∧ Below X0.heap.size X wr) (fun i _ => p.t.length - (intOf i).toNat)
      case atStart => exact ⟨0, Nat.zero_le _, rfl, B7, Below.refl _ _⟩
      case round =>
        obtain ⟨k, hk, rfl, b7, hBz⟩ := hrel
        have b2z := b2X.below hBz b2r.lt
        have b5z := b5X.below hBz b5.lt
        have k2 := (hBz.cell (p := ⟨g, off + j * 3 + 2, none⟩) q4).trans k1
        have e1 := b2z.cell
        have hXB := hX.trans hBz
        by_cases hltk : k < p.t.length
        · obtain ⟨gi, oi, ci, hv, -, -, -, li, qi⟩ := idxs_cells HI.out (by omega)
          cases hv
          obtain ⟨x, hx⟩ : ∃ x, p.t[k]? = some x := ⟨_, List.getElem?_eq_getElem hltk⟩
          have hxl := HPI.out x (List.mem_of_getElem? hx)
          obtain ⟨gV, oV, cV, hv, -, -, -, lV, qV⟩ := exts_cells HV.out (by omega)
          cases hv
          obtain ⟨y, hy, hyd⟩ := get_of hxl
          have HT := Lib.hid (show trmK (valL vals) p (k + 1) = trmK (valL vals) p k * y by rw [trmK_succ _ _ _ _ hx]; unfold valL; rw [hyd])
          obtain ⟨d1, d2⟩ := qV x y hy
          have hwz := hBw.trans (hXB.mono hBw.size)
          have f1 := gw_blk b7
          have f2 := gw_blk b2z
          have f3 := gw_cell (W := wr) (Nat.lt_of_lt_of_le q4 hXB.size) k2
          have f4 := gw_cell (W := wr) (Nat.lt_of_lt_of_le li hXB.size) ((hXB.cell (p := ⟨gi, oi + k, none⟩) li).trans (qi k x hx))
          have f5 := gw_cell (W := wr) (Nat.lt_of_lt_of_le lV hwz.size) ((hwz.cell (p := ⟨gV, oV + x * 2, none⟩) lV).trans d1)
          have f6 := gw_cell (W := wr) (Nat.lt_of_lt_of_le lV hwz.size) ((hwz.cell (p := ⟨gV, oV + x * 2 + 1, none⟩) lV).trans d2)
          clear qi qV hx hy hyd d1 d2
          generalize trmK (valL vals) p k = m at *
          go_wp2_with fail
          refine wp_region_rg 14 [(13, Spec.val (.agg #[.int .u64 (fv (m * y).a), .int .u64 (fv (m * y).b)]))] (by kernel_rfl) (by kernel_rfl) (by kernel_rfl) trivial ?_
          iterate 13 (refine rg_det rfl rfl rfl (fun K hK => ?_); go_big_quiet_op; refine hK _ ?_; clear hK K)
          refine rg_val rfl rfl (fun W1 hW1 hF => step_callv en_attestor_attestorref02_Mul (xMul m y W1) rfl rfl) ?_
          intro a' ha
          simp only [Act.put, List.setIfInBounds_toArray, List.set_cons_succ, List.set_cons_zero] at ha
          subst ha
          refine rg_nil (fun w' hw' hF => ?_)
          obtain ⟨z9, rfl⟩ := hw'
          simp only [List.drop_succ_cons, List.drop_zero]
          have b7z := b7.gw z9
          have hBz9 := hBz.trans (z9.h.mono (by have := hX.size; have := hBz.size; omega))
          have e2 := b7z.frozen
          have e3 := b7z.cell
          clear hF f1 f2 f3 f4 f5 f6 b7
          go_upto_region 8 with (fail)
          refine set2 (M := fun W => Code.wp _ _ _ _ W) b7z fun Y hY bY => ?_
          have HN := Lib.hid (show Blk Y X0.heap.size 26 #[.int .u64 (fv (trmK (valL vals) p (k + 1)).a), .int .u64 (fv (trmK (valL vals) p (k + 1)).b)] by rw [HT.out]; exact bY)
          have hBY := below_put hBz9 hY (Nat.le_refl _)
          clear e1 e2 e3 b7z bY hY
          go_wp2_with fail
          exact ⟨⟨k + 1, by omega, by go_num, HN.out, hBY⟩, by simp [intOf]; omega⟩
        · obtain rfl : k = p.t.length := by omega
          rw [trmK_all] at b7
          have e2 := b5z.cell
          have e3 := b7.cell
          generalize finK (valL vals) ps j = s at *
          generalize trmE (valL vals) p = y at *
          go_wp2_with fail
          refine (xAdd s y _).mono ?_
          rintro e w3 ⟨he, hb3⟩
          unfold ev at he
          subst he
          have b53 := b5z.keep hb3
          have e4 := b53.frozen
          have e5 := b53.cell
          have hB3 := (hBr.trans ((hX.trans hBz).mono (by have := hBr.size; omega))).trans (hb3.mono (by have := hBr.size; have := hXB.size; omega))
          clear e1 e2 e3 b7
          go_upto_region 4 with (fail)
          refine set2 (M := fun W => Code.wp _ _ _ _ W) b53 fun Y hY bY => ?_
          have HN := Lib.hid (show Blk Y (w.heap.size + 2) 26 #[.int .u64 (fv (finK (valL vals) ps (j + 1)).a), .int .u64 (fv (finK (valL vals) ps (j + 1)).b)] by rw [HF.out]; exact bY)
          have hBY := below_put hB3 hY (Nat.le_refl _)
          clear e4 e5 b53 bY hY
          go_wp2_with fail
          exact ⟨⟨j + 1, by omega, by go_num, HN.out, hBY⟩, by simp [intOf]; omega⟩
    · obtain rfl : j = ps.length := by omega
      rw [finK_all] at b5
      have e2 := b5.cell
      have e3 := b4r.cell
      have e4 := b4r.frozen
      generalize finE (valL vals) ps = y at *
      go_wp2_with fail
      refine bodyPost_ret (v := .agg #[.int .u64 (fv (y).a), .int .u64 (fv (y).b)]) (by simp [results, Tryz.results127, go_sem, e3]) rfl ⟨rfl, ?_⟩
      exact below_set2 hBw (by omega)
def colE (tabs : List (List E)) (j k : Nat) : List E := (tabs.take k).map fun t => t.getD j 0
theorem colE_succ (tabs : List (List E)) (j k : Nat) (t : List E) (h : tabs[k]? = some t) : colE tabs j (k + 1) = colE tabs j k ++ [t.getD j 0] := by simp [colE, List.take_add_one, h]
theorem colE_len (tabs : List (List E)) (j k : Nat) (h : k ≤ tabs.length) : (colE tabs j k).length = k := by simp [colE]; omega
theorem colE_fin (tabs : List (List E)) (j : Nat) (ps : List Trm) (hix : ∀ p ∈ ps, ∀ k ∈ p.t, k < tabs.length) : finE (valL (colE tabs j tabs.length)) ps = finE (valT tabs j) ps :=
  finE_congr _ _ ps tabs.length hix fun k hk => by
    unfold valL valT colE
    rw [List.take_length]
    simp [List.getD, hk]
set_option maxRecDepth 100000 in
set_option maxHeartbeats 2000000 in
theorem rTotal (tabs : List (List E)) (N : Nat) (vt vp : Value) (ps : List Trm) (lo hi : Nat) (w : World) (h : SumS lo hi w vt vp tabs ps) (h0 : 0 < tabs.length) (hl : tabs.length ≤ 1000) (hall : AllLen tabs N) (hN : N ≤ 1000000) :
    Calls Tryz.prog 97 #[sv vt vp] w (Ret (ev (totE tabs ps)) w) := by
  obtain ⟨i0, hi0, iz0, iz1, iz2⟩ := info_parts ext_info
  obtain ⟨AP, capP, rfl⟩ := h.hp.len
  obtain ⟨A, capt, rfl⟩ := h.ht.len
  have HT := Lib.hid (show totK tabs ps N = totE tabs ps by unfold totE; rw [hall.lenT h0])
  have HA := Lib.hid hall
  have HH := Lib.hid h
  clear hall h
  obtain ⟨g, off, cap', hv, q1, q2, q3, q4, q5⟩ := tabs_cells HH.out.ht h0
  cases hv
  obtain ⟨t0, ht0⟩ : ∃ t, tabs[0]? = some t := ⟨_, List.getElem?_eq_getElem h0⟩
  obtain ⟨A0, c0, k0, hE0⟩ := q5 0 t0 ht0
  have hl0 : t0.length = N := HA.out t0 (List.mem_of_getElem? ht0)
  rw [hl0] at k0
  rw [Nat.add_zero] at k0
  have HQ5 := Lib.hid q5
  clear q5 ht0 hE0 hl0
  obtain ⟨np, hnp⟩ : ∃ np, np = ps.length := ⟨_, rfl⟩
  have HNP := Lib.hid hnp
  rw [← hnp]
  obtain ⟨nt, hnt⟩ : ∃ nt, nt = tabs.length := ⟨_, rfl⟩
  have HNT := Lib.hid hnt
  rw [← hnt] at h0 hl ⊢
  clear hnp hnt
  unfold sv ev
  go_enter Tryz.func97, Tryz.ntmps97
  go_upto_region 2 with (fail)
  refine wp_stk3 fun W hB hz b1 b2 b3 => ?_
  have hWs : W.heap.size = w.heap.size + 1 + 1 + 1 := hz.out
  have k1 := (hB.cell (p := ⟨g, off, none⟩) q4).trans k0
  clear hz k0
  go_wp2_with fail
  go_loopw [4] (fun i wr => ∃ j : Nat, j ≤ N ∧ i = .int .i64 j ∧ Blk wr (w.heap.size + 2) 26 #[.int .u64 (fv (totK tabs ps j).a), .int .u64 (fv (totK tabs ps j).b)] ∧ Below (w.heap.size + 2) W wr) (fun i _ => N - (intOf i).toNat)
  case atStart => exact ⟨0, Nat.zero_le _, rfl, b3, Below.refl _ _⟩
  case round =>
    obtain ⟨j, hj, rfl, b3, hBr⟩ := hrel
    have b1r := b1.below hBr (by omega)
    have b2r := b2.below hBr (by omega)
    have hBw := hB.trans (hBr.mono (by omega))
    have e1 := b1r.cell
    have k2 := (hBr.cell (p := ⟨g, off, none⟩) (by show g < w.heap.size + 2; omega)).trans k1
    by_cases hlt : j < N
    · have HFT := Lib.hid (totK_succ tabs ps j)
      have hNs := hBr.size
      obtain ⟨X0, hX0⟩ : ∃ X, X = wr := ⟨_, rfl⟩
      subst hX0
      go_upto_region 6 with (fail)
      refine wp_stk1 fun X hX hzX b5 => ?_
      have hXs : X.heap.size = X0.heap.size + 1 := hzX.out
      have own0 : X.ownsRow X0.heap.size 26 2 (.slice (some ⟨X0.heap.size, 0, none⟩) 0 0) 0 ((colE tabs j 0).flatMap ec) := ⟨rfl, .inr ⟨X0.heap.size, 0, #[], rfl, Nat.le_refl _, b5, Nat.le_refl _, Nat.zero_le _, rfl, rfl⟩⟩
      clear hzX e1 k2 b5
      go_wp2_with fail
      go_loopw [5, 6] (fun u i wr => ∃ k : Nat, k ≤ nt ∧ i = .int .i64 k ∧ wr.ownsRow X0.heap.size 26 2 u k ((colE tabs j k).flatMap ec) ∧ Below X0.heap.size X wr) (fun _ i _ => nt - (intOf i).toNat)
      case atStart => exact ⟨0, Nat.zero_le _, rfl, own0, Below.refl _ _⟩
      case round =>
        obtain ⟨k, hk, rfl, hown, hBz⟩ := hrel
        obtain ⟨Au, cu, rfl⟩ := own_len hown
        have hXB := hX.trans hBz
        have b1z := b1r.below hXB b1r.lt
        have hwz := hBw.trans (hXB.mono hBw.size)
        have e1 := b1z.cell
        have hXz : X0.heap.size ≤ wr.heap.size := hXB.size
        by_cases hltk : k < nt
        · obtain ⟨t, ht⟩ : ∃ t, tabs[k]? = some t := ⟨_, List.getElem?_eq_getElem (by rw [← HNT.out]; exact hltk)⟩
          obtain ⟨At, ct, d1, hE⟩ := HQ5.out k t ht
          have htl := HA.out t (List.mem_of_getElem? ht)
          obtain ⟨gt, ot, ct', hv, -, -, -, lt', qt⟩ := exts_cells hE (by omega)
          cases hv
          obtain ⟨y, hy, hyd⟩ := get_of (l := t) (k := j) (by omega)
          obtain ⟨d2, d3⟩ := qt j y hy
          have HC := Lib.hid (show (colE tabs j (k + 1)).flatMap ec = (colE tabs j k).flatMap ec ++ ec y by rw [colE_succ tabs j k t ht, List.flatMap_append, hyd]; simp)
          have e2 := (hwz.cell (p := ⟨g, off + k, none⟩) q4).trans d1
          have e3 := (hwz.cell (p := ⟨gt, ot + j * 2, none⟩) lt').trans d2
          have e4 := (hwz.cell (p := ⟨gt, ot + j * 2 + 1, none⟩) lt').trans d3
          rw [htl] at e2
          have HO := Lib.hid hown
          clear qt ht htl hE hy hyd d1 d2 d3 hown
          go_wp2_with (at_builtin; refine wpList_app1 rfl _ _ rfl Tryz.underlying22 hi0 iz0 iz1 iz2 rfl (by decide) (cl := ec y) rfl (ec_one _) rfl rfl (own_below HO.out (Nat.le_refl _) ((Below.refl _ _).alloc (Nat.le_refl _) _)) (Blk.new_at _ _ _ rfl) ?h63 ?hby ?hbase ?_)
          case h63 => unfold maxLen; omega
          case hby => omega
          case hbase => simp; omega
          intro v1 w4 hown4 hgrow hB5
          have hB6 : Below X0.heap.size X w4 := (hBz.trans (((Below.refl _ _).alloc (Nat.le_refl _) _).mono hXz)).trans hB5
          rw [← HC.out] at hown4
          clear e1 e2 e3 e4 hgrow hB5
          go_wp2_with fail
          exact ⟨⟨k + 1, by omega, by go_num, hown4, hB6⟩, by simp [intOf]; omega⟩
        · obtain rfl : k = nt := by omega
          have hcl := colE_len tabs j k (by rw [← HNT.out]; exact Nat.le_refl _)
          have hcf : Hid (finE (valL (colE tabs j k)) ps = finE (valT tabs j) ps) := Lib.hid (by
            have := colE_fin tabs j ps HH.out.ix
            rwa [← HNT.out] at this)
          have HO : Hid (ExtS X0.heap.size wr.heap.size wr (.slice Au k cu) (colE tabs j k)) := Lib.hid (by
            have := exts_of_own hown hcl (by omega) (Nat.le_refl _)
            exact this)
          have b3z := b3.below hXB b3.lt
          have HFn := Lib.hid (show ∀ W1, Below wr.heap.size wr W1 → Calls Tryz.prog 127 #[.agg #[.slice (some ⟨g, off, none⟩) k capt, .slice AP np capP], .slice Au k cu] W1 (Ret (ev (finE (valT tabs j) ps)) W1) from fun W1 hW => by
            rw [← hcf.out]
            have hp := (HH.out.hp.keep hwz).keep hW
            rw [← HNP.out] at hp
            exact rFinal (colE tabs j k) _ _ _ ps _ _ _ _ W1 hp (Rd.keep HO.out hW) (fun p hp i hi => by rw [hcl]; have := HH.out.ix p hp i hi; rwa [← HNT.out] at this))
          have f1 := gw_blk b3z
          have f2 := gw_blk b1z
          generalize totK tabs ps j = m at *
          generalize finE (valT tabs j) ps = y at *
          clear hown hcl
          go_wp2_with fail
          refine wp_region_rg 5 [(3, Spec.val (.agg #[.int .u64 (fv (y).a), .int .u64 (fv (y).b)])), (4, Spec.val (.agg #[.int .u64 (fv (m + y).a), .int .u64 (fv (m + y).b)]))] (by kernel_rfl) (by kernel_rfl) (by kernel_rfl) trivial ?_
          iterate 3 (refine rg_det rfl rfl rfl (fun K hK => ?_); go_big_quiet_op; refine hK _ ?_; clear hK K)
          refine rg_val rfl rfl (fun W1 hW1 hF => step_callv en_attestor_attestorref06_Final (HFn.out W1 (grw_below hW1)) rfl rfl) ?_
          intro a' ha
          simp only [Act.put, List.setIfInBounds_toArray, List.set_cons_succ, List.set_cons_zero] at ha
          subst ha
          refine rg_val rfl rfl (fun W1 hW1 hF => step_callv en_attestor_attestorref02_Add (xAdd m y W1) rfl rfl) ?_
          intro a' ha
          simp only [Act.put, List.setIfInBounds_toArray, List.set_cons_succ, List.set_cons_zero] at ha
          subst ha
          refine rg_nil (fun w' hw' hF => ?_)
          obtain ⟨z9, rfl⟩ := hw'
          simp only [List.drop_succ_cons, List.drop_zero]
          have b39 := b3z.gw z9
          have hB9 := (hBr.trans (hXB.mono (by omega))).trans (z9.h.mono (by omega))
          have e2 := b39.frozen
          have e3 := b39.cell
          clear hF f1 f2 e1
          go_upto_region 4 with (fail)
          refine set2 (M := fun W => Code.wp _ _ _ _ W) b39 fun Y hY bY => ?_
          have HN := Lib.hid (show Blk Y (w.heap.size + 2) 26 #[.int .u64 (fv (totK tabs ps (j + 1)).a), .int .u64 (fv (totK tabs ps (j + 1)).b)] by rw [HFT.out]; exact bY)
          have hBY := below_put hB9 hY (Nat.le_refl _)
          clear e2 e3 b39 bY hY
          go_wp2_with fail
          exact ⟨⟨j + 1, by omega, by go_num, HN.out, hBY⟩, by simp [intOf]; omega⟩
    · obtain rfl : j = N := by omega
      rw [HT.out] at b3
      have e2 := b3.cell
      have e3 := b2r.cell
      have e4 := b2r.frozen
      generalize totE tabs ps = y at *
      go_wp2_with fail
      refine bodyPost_ret (v := .agg #[.int .u64 (fv (y).a), .int .u64 (fv (y).b)]) (by simp [results, Tryz.results97, go_sem, e3]) rfl ⟨rfl, ?_⟩
      exact below_set2 hBw (by omega)
end Go.Proofs.YtkgglhakimkkhaaGreatDoor
namespace Go.Proofs.YtkgglhakimkkhaaGreatDoor
open Go.RowKit

set_option maxRecDepth 100000 in
set_option maxHeartbeats 1000000 in
theorem rBind (t : List E) (r : E) (n : Nat) (ht : t.length = 2 * n) (hn : n ≤ 1000) (v : Value) (lo hi' : Nat) (w : World) (h : ExtS lo hi' w v t) :
    Calls Tryz.prog 100 #[v, ev r] w (RetR (ExtA (bindL t r)) w) := by
  obtain ⟨A1, cap1, rfl⟩ := h.len
  have HT := Lib.hid ht
  obtain ⟨m, hm⟩ : ∃ m, m = t.length := ⟨_, rfl⟩
  have hmn : m = 2 * n := by omega
  clear ht
  unfold ev
  obtain ⟨i0, hi0, iz0, iz1, iz2⟩ := info_parts ext_info
  rw [← hm]
  have HM := Lib.hid hm
  have HMN := Lib.hid hmn
  clear hm hmn
  go_enter Tryz.func100, Tryz.ntmps100
  go_wp2
  refine wp_stk2 fun W hB0 hz b1 b2 => ?_
  have hs0 : W.heap.size = w.heap.size + 1 + 1 := hz.out
  go_loopw [5, 6] (fun v i wr => ∃ j : Nat, j ≤ n ∧ i = .int .i64 j ∧ wr.ownsRow (w.heap.size + 1) 26 2 v j ((bindE t r j).flatMap ec) ∧ Below (w.heap.size + 1) W wr) (fun _ i _ => n - (intOf i).toNat)
  case atStart => exact ⟨0, Nat.zero_le _, rfl, ⟨by simp [bindE], .inr ⟨w.heap.size + 1, 0, #[], rfl, Nat.le_refl _, b2, Nat.le_refl _, Nat.zero_le _, rfl, by simp [bindE]⟩⟩, Below.refl _ _⟩
  case round =>
    obtain ⟨j, hj, rfl, hown, hB⟩ := hrel
    have hBw := hB0.trans (hB.mono (Nat.le_succ _))
    have hmn := HMN.out
    by_cases hlt : j < n
    · have hl1 : 2 * j < t.length := by rw [HT.out]; omega
      have hl2 : 2 * j + 1 < t.length := by rw [HT.out]; omega
      obtain ⟨g, off, cap', hv, q1, q2, q3, q4, q5⟩ := exts_cells (Rd.keep h hBw) (by omega)
      rw [← HM.out] at hv
      cases hv
      obtain ⟨x, hx, hxd⟩ := get_of hl1
      obtain ⟨y, hy, hyd⟩ := get_of hl2
      obtain ⟨d1, d2⟩ := q5 _ x hx
      obtain ⟨d3, d4⟩ := q5 _ y hy
      have hf : (bindE t r (j + 1)).flatMap ec = (bindE t r j).flatMap ec ++ ec (x + r * (y - x)) := by
        rw [bindE_succ, List.flatMap_append, hxd, hyd]; simp
      have HF := Lib.hid hf
      have x1 := gw_cell q4 d1
      have x2 := gw_cell q4 d2
      have x3 := gw_cell q4 d3
      have x4 := gw_cell q4 d4
      have x5 := gw_blk (b1.below hB (Nat.lt_succ_self _))
      have hi1 : 2 * j < m := by omega
      have hi2 : 2 * j + 1 < m := by omega
      have hwr := hB.size
      clear hf q5 d1 d2 d3 d4 hx hy hxd hyd h hmn
      go_wp2_with fail
      refine wp_region_rg 22 [(18, Spec.val (.agg #[.int .u64 (fv (y - x).a), .int .u64 (fv (y - x).b)])), (19, Spec.val (.agg #[.int .u64 (fv (r * (y - x)).a), .int .u64 (fv (r * (y - x)).b)])), (20, Spec.val (.agg #[.int .u64 (fv (x + r * (y - x)).a), .int .u64 (fv (x + r * (y - x)).b)])), (21, Spec.rel (Lit 26 1 #[.int .u64 (fv (x + r * (y - x)).a), .int .u64 (fv (x + r * (y - x)).b)]) AnyV)] (by kernel_rfl) (by kernel_rfl) (by kernel_rfl) ⟨fit_of (stable_lit), trivial⟩ ?_
      iterate 18 (refine rg_det rfl rfl rfl (fun K hK => ?_); go_big_quiet_op; refine hK _ ?_; clear hK K)
      refine rg_val rfl rfl (fun W1 hW1 hF => step_callv en_attestor_attestorref02_Sub (xSub y x W1) rfl rfl) ?_
      intro a' ha
      simp only [Act.put, List.setIfInBounds_toArray, List.set_cons_succ, List.set_cons_zero] at ha
      subst ha
      refine rg_val rfl rfl (fun W1 hW1 hF => step_callv en_attestor_attestorref02_Mul (xMul r (y - x) W1) rfl rfl) ?_
      intro a' ha
      simp only [Act.put, List.setIfInBounds_toArray, List.set_cons_succ, List.set_cons_zero] at ha
      subst ha
      refine rg_val rfl rfl (fun W1 hW1 hF => step_callv en_attestor_attestorref02_Add (xAdd x (r * (y - x)) W1) rfl rfl) ?_
      intro a' ha
      simp only [Act.put, List.setIfInBounds_toArray, List.set_cons_succ, List.set_cons_zero] at ha
      subst ha
      refine rg_rel rfl rfl (fun W1 hW1 hF => step_lit1 Tryz.underlying22 hi0 iz0 iz1 (by decide) (by decide) rfl rfl rfl) ?_
      intro n21 m21 v21 hn21 hm21 hd21 hf21 a' ha
      simp only [Act.put, List.setIfInBounds_toArray, List.set_cons_succ, List.set_cons_zero] at ha
      subst ha
      refine rg_nil (fun w' hw' hF => ?_)
      obtain ⟨z, rfl⟩ := hw'
      simp only [List.drop_succ_cons, List.drop_zero]
      obtain ⟨hm, rfl, hlt', bl⟩ := end_last hF
      clear hF x1 x2 x3 x4 x5
      go_wp2_with (at_builtin; refine wpList_app1 rfl _ _ rfl Tryz.underlying22 hi0 iz0 iz1 iz2 rfl (by decide) (cl := ec (x + r * (y - x))) rfl (ec_one _) rfl rfl (own_below hown (Nat.le_refl _) z.h) ?hsrc ?h63 ?hby ?hbase ?_)
      case hsrc => exact bl
      case h63 => unfold maxLen; omega
      case hby => omega
      case hbase => have := z.h.size; omega
      intro v1 w4 hown4 hgrow hB5
      go_wp2
      exact ⟨⟨j + 1, by omega, by go_num, by rw [HF.out]; exact hown4, (hB.trans (z.h.mono (by omega))).trans hB5⟩, by simp [intOf]; omega⟩
    · obtain rfl : j = n := by omega
      go_wp2
      go_ret
      refine ⟨u5, rfl, ?_, hBw⟩
      have := Rd.of_own hown (by omega) (Nat.le_refl _)
      rw [bindE_all r _ t HT.out] at this
      unfold ExtA ExtS
      rw [bindL_length r _ t HT.out]
      exact this.wide (Nat.le_succ _) (Nat.le_refl _)
end Go.Proofs.YtkgglhakimkkhaaGreatDoor
namespace Go.Proofs.YtkgglhakimkkhaaGreatDoor
open Go.RowKit

def RTabS (lo hi : Nat) (w : World) (v : Value) (tabs : List (List Raw)) : Prop := ∃ us : List Value, us.length = tabs.length ∧ Rd lo hi 1 w v tabs.length us ∧ ∀ (k : Nat) u t, us[k]? = some u → tabs[k]? = some t → RawS lo hi w u t
theorem RTabS.keep {lo hi : Nat} {w w' : World} {v : Value} {tabs : List (List Raw)} (h : RTabS lo hi w v tabs) (hb : Below w.heap.size w w') : RTabS lo hi w' v tabs := by
  obtain ⟨us, h1, h2, h3⟩ := h
  exact ⟨us, h1, h2.keep hb, fun k u t hu ht => ⟨Rd.keep (h3 k u t hu ht).1 hb, (h3 k u t hu ht).2⟩⟩
theorem RTabS.len {lo hi : Nat} {w : World} {v : Value} {tabs : List (List Raw)} (h : RTabS lo hi w v tabs) : ∃ A cap, v = .slice A tabs.length cap := by
  obtain ⟨us, _, h2, _⟩ := h
  exact h2.len
theorem RTabS.small {lo hi : Nat} {w : World} {v : Value} {tabs : List (List Raw)} (h : RTabS lo hi w v tabs) : tabs.length ≤ 140737488355327 := by
  obtain ⟨us, _, h2, _⟩ := h
  exact h2.2.1
theorem rtabs_cells {lo hi : Nat} {w : World} {v : Value} {tabs : List (List Raw)} (h : RTabS lo hi w v tabs) (h0 : 0 < tabs.length) : ∃ g off cap, v = .slice (some ⟨g, off, none⟩) tabs.length cap ∧ g < w.heap.size ∧
    ∀ k t, tabs[k]? = some t → ∃ A c, w.cell? ⟨g, off + k, none⟩ = some (.slice A t.length c) ∧ RawS lo hi w (.slice A t.length c) t := by
  obtain ⟨us, h1, h2, h3⟩ := h
  obtain ⟨g, off, cap, q1, q2, q3, q4, q5, q6⟩ := Rd.form h2 h0
  refine ⟨g, off, cap, q1, q5, fun k t ht => ?_⟩
  have hk : k < tabs.length := (List.getElem?_eq_some_iff.1 ht).1
  have hu : us[k]? = some (us[k]'(by omega)) := List.getElem?_eq_getElem _
  have h4 := h3 k _ t hu ht
  obtain ⟨A, c, hA⟩ := h4.1.len
  have h5 := q6 k _ hu
  rw [hA] at h4 h5
  exact ⟨A, c, h5, h4⟩
end Go.Proofs.YtkgglhakimkkhaaGreatDoor
namespace Go.Proofs.YtkgglhakimkkhaaGreatDoor
open Go.RowKit

end Go.Proofs.YtkgglhakimkkhaaGreatDoor
namespace Go.Proofs.YtkgglhakimkkhaaGreatDoor
open Go.RowKit

end Go.Proofs.YtkgglhakimkkhaaGreatDoor
namespace Go.Proofs.YtkgglhakimkkhaaGreatDoor
open Go.RowKit

def RowP (base : Nat) (w : World) (u : Value) (ps : List Trm) : Prop := ∃ us : List Value, w.ownsRow base 76 3 u ps.length ((ps.zip us).flatMap trc) ∧ us.length = ps.length ∧ ∀ (k : Nat) x p, us[k]? = some x → ps[k]? = some p → ∃ lo hi, base ≤ lo ∧ hi ≤ w.heap.size ∧ Outside lo hi u ∧ IdxS lo hi w x p.t
theorem RowP.first (base : Nat) (w : World) : RowP base w (.slice none 0 0) [] := ⟨[], ⟨rfl, .inl ⟨rfl, rfl⟩⟩, rfl, fun k x t h => by simp at h⟩
theorem RowP.keep {base : Nat} {w X : World} {u : Value} {ps : List Trm} (h : RowP base w u ps) (hb : Below w.heap.size w X) : RowP base X u ps := by
  obtain ⟨us, h1, h2, h3⟩ := h
  refine ⟨us, own_below h1 (Nat.le_refl _) hb, h2, fun k x t hx ht => ?_⟩
  obtain ⟨lo, hi, q1, q2, q3, q4⟩ := h3 k x t hx ht
  exact ⟨lo, hi, q1, Nat.le_trans q2 hb.size, q3, Rd.keep q4 hb⟩
theorem RowP.put {base g : Nat} {w X : World} {u : Value} {ps : List Trm} (h : RowP base w u ps) (hp : Put w X g) (hg : g < base) : RowP base X u ps := by
  obtain ⟨us, h1, h2, h3⟩ := h
  refine ⟨us, own_put h1 hp hg, h2, fun k x t hx ht => ?_⟩
  obtain ⟨lo, hi, q1, q2, q3, q4⟩ := h3 k x t hx ht
  exact ⟨lo, hi, q1, by rw [hp.size]; exact q2, q3, hp.rd q4 (.inl (by omega))⟩
theorem RowP.block {base g : Nat} {w : World} {u : Value} {ps : List Trm} (h : RowP base w u ps) (hg : u.ownBlock = some g) : base ≤ g ∧ g < w.heap.size := by
  obtain ⟨us, h1, _⟩ := h
  exact own_block h1 hg
theorem RowP.trms {base : Nat} {w : World} {u : Value} {ps : List Trm} (h : RowP base w u ps) (hl : ps.length ≤ 1000000) : TrmS base w.heap.size w u ps := by
  obtain ⟨us, h1, h2, h3⟩ := h
  refine ⟨us, h2, Rd.of_own h1 (by omega) (Nat.le_refl _), fun k x t hx ht => ?_⟩
  obtain ⟨lo, hi, q1, q2, q3, q4⟩ := h3 k x t hx ht
  exact Rd.wide q4 q1 q2
theorem RowP.len {base : Nat} {w : World} {u : Value} {ps : List Trm} (h : RowP base w u ps) : ∃ A cap, u = .slice A ps.length cap := by
  obtain ⟨us, h1, _⟩ := h
  exact own_len h1
theorem RowT.len' {base : Nat} {w : World} {u : Value} {ts : List (List E)} (h : RowT base w u ts) : ∃ A cap, u = .slice A ts.length cap := by
  obtain ⟨us, h1, _⟩ := h
  exact own_len h1
/-! ### What comes in -/
structure TRaw where
  c : Raw
  t : Nat → Int
  n : Int
def Byte (z : Int) : Prop := 0 ≤ z ∧ z < 256
structure TRaw.ok (x : TRaw) : Prop where
  c1 : Word x.c.1
  c2 : Word x.c.2
  t : ∀ k, k < 3 → Byte (x.t k)
  n : Byte x.n
def trawc (x : TRaw) : List Value := [.int .u64 x.c.1, .int .u64 x.c.2, .int .u8 (x.t 0), .int .u8 (x.t 1), .int .u8 (x.t 2), .int .u8 x.n]
def TRawS (lo hi : Nat) (w : World) (v : Value) (L : List TRaw) : Prop := Rd lo hi 6 w v L.length (L.flatMap trawc) ∧ ∀ x ∈ L, x.ok
theorem TRawS.keep {lo hi : Nat} {w w' : World} {v : Value} {L : List TRaw} (h : TRawS lo hi w v L) (hb : Below w.heap.size w w') : TRawS lo hi w' v L := ⟨Rd.keep h.1 hb, h.2⟩
def trIx (x : TRaw) (k : Nat) : Nat := (x.t k % 3).toNat
def trLen (x : TRaw) : Nat := (x.n % 3).toNat + 1
def trL (x : TRaw) (k : Nat) : List Nat := (List.range k).map (trIx x)
theorem trL_length (x : TRaw) (k : Nat) : (trL x k).length = k := by simp [trL]
def trM (x : TRaw) : Trm := ⟨em x.c.1 x.c.2, trL x (trLen x)⟩
structure Raw6 where
  T : Nat → List Raw
  L : List TRaw
  N : Int
def Raw6.n (q : Raw6) (most : Nat) : Nat := (q.N % ((most : Int) + 1)).toNat
def Raw6.tk (q : Raw6) (most k : Nat) : List (List E) := (List.range k).map fun i => madeAll (q.T i) (2 ^ q.n most)
def Raw6.tabs (q : Raw6) (most : Nat) : List (List E) := q.tk most 3
def Raw6.pk (q : Raw6) (k : Nat) : List Trm := (q.L.take k).map trM
def Raw6.trms (q : Raw6) : List Trm := q.pk 4
theorem Raw6.all (q : Raw6) (most : Nat) : AllLen (q.tabs most) (2 ^ q.n most) := fun t ht => by
  obtain ⟨i, _, rfl⟩ := List.mem_map.1 ht
  exact madeAll_length _ _
theorem trIx_lt (x : TRaw) (k : Nat) : trIx x k < 3 := by unfold trIx; omega
theorem trLen_le (x : TRaw) : 1 ≤ trLen x ∧ trLen x ≤ 3 := by unfold trLen; omega
theorem Raw6.ix (q : Raw6) : ∀ p ∈ q.trms, ∀ k ∈ p.t, k < 3 := fun p hp k hk => by
  obtain ⟨x, _, rfl⟩ := List.mem_map.1 hp
  obtain ⟨i, _, rfl⟩ := List.mem_map.1 hk
  exact trIx_lt _ _
theorem Raw6.short (q : Raw6) : ∀ p ∈ q.trms, 1 ≤ p.t.length ∧ p.t.length ≤ 3 := fun p hp => by
  obtain ⟨x, _, rfl⟩ := List.mem_map.1 hp
  have := trLen_le x
  show 1 ≤ (trL x (trLen x)).length ∧ (trL x (trLen x)).length ≤ 3
  rw [trL_length]
  exact this
end Go.Proofs.YtkgglhakimkkhaaGreatDoor
namespace Go.Proofs.YtkgglhakimkkhaaGreatDoor
open Go.RowKit

def LitT (b : Nat) (y : List E) (n m : Nat) (v : Value) (w : World) : Prop := v = .slice (some ⟨n, 0, none⟩) 1 1 ∧ n < m ∧ ∃ x lo hi, Blk w n 22 #[x] ∧ x.oneCell' = true ∧ b ≤ lo ∧ hi ≤ m ∧ ExtS lo hi w x y
theorem fit_litT {b : Nat} {y : List E} : Fit (LitT b y) (LitF 1) := ⟨fun _ _ _ _ _ ⟨h1, h2, x, lo, hi, h3, h4, h5, h6, h7⟩ hb => ⟨h1, h2, x, lo, hi, h3.below hb h2, h4, h5, h6, Rd.below h7 hb h6⟩, fun _ => ⟨_, rfl⟩, fun _ _ _ _ h => h.1⟩
theorem TrmS.put {lo hi g : Nat} {w w' : World} {v : Value} {ps : List Trm} (h : TrmS lo hi w v ps) (hp : Put w w' g) (hne : g < lo ∨ hi ≤ g) : TrmS lo hi w' v ps :=
  h.other (by rw [hp.size]; exact Nat.le_refl _) fun k h1 h2 _ => hp.other k (by omega)
end Go.Proofs.YtkgglhakimkkhaaGreatDoor
namespace Go.Proofs.YtkgglhakimkkhaaGreatDoor
open Go.RowKit

theorem bndE_take (tabs : List (List E)) (r : E) (j : Nat) (t : List E) (h : tabs[j]? = some t) : (bndE tabs r).take (j + 1) = (bndE tabs r).take j ++ [bindL t r] := by
  rw [List.take_add_one, bndE_get tabs r j t h]; rfl
theorem bnd_stable (vp : Value) (tabs : List (List E)) : Stable (BndA vp tabs) := fun _ _ _ _ _ ⟨vt, h1, us, h2, h3, h4⟩ hb => ⟨vt, h1, us, h2, Rd.below h3 hb (Nat.le_refl _), fun k u t hu ht => Rd.below (h4 k u t hu ht) hb (Nat.le_refl _)⟩
set_option maxRecDepth 100000 in
set_option maxHeartbeats 4000000 in
theorem rBindS (tabs : List (List E)) (r : E) (n : Nat) (hall : AllLen tabs (2 * n)) (hn : n ≤ 1000) (hl : tabs.length ≤ 1000) (vt vp : Value) (lo hi : Nat) (w : World) (h : TabS lo hi w vt tabs) (hvp : ∃ A n c, vp = .slice A n c) :
    Calls Tryz.prog 63 #[sv vt vp, ev r] w (RetR (BndA vp (bndE tabs r)) w) := by
  obtain ⟨AP, nP, cP, rfl⟩ := hvp
  obtain ⟨A, capt, rfl⟩ := h.len
  obtain ⟨s0, hs0, hsz0, hsz1, hsz2⟩ := info_parts sl_info
  have HA := Lib.hid hall
  have HH := Lib.hid h
  have HBl := Lib.hid (bndE_length tabs r)
  obtain ⟨nt, hnt⟩ : ∃ nt, nt = tabs.length := ⟨_, rfl⟩
  have HNT := Lib.hid hnt
  rw [← hnt] at hl ⊢
  clear hall h hnt
  unfold sv ev
  go_enter Tryz.func63, Tryz.ntmps63
  go_upto_region 1 with (fail)
  refine wp_stk3 fun W hB hz b2 b3 b4 => ?_
  have hWs : W.heap.size = w.heap.size + 1 + 1 + 1 := hz.out
  have e1 := b2.cell
  clear hz
  go_upto_region 2 with (fail)
  refine wp_stk1 fun V hV hzV b5 => ?_
  have hVs : V.heap.size = W.heap.size + 1 := hzV.out
  have b2V := b2.keep hV
  have b3V := b3.keep hV
  have b4V := b4.keep hV
  have hBV := hB.trans (hV.mono hB.size)
  clear hzV e1 b2 b3 b4
  rw [hWs] at b5
  go_wp2_with fail
  go_loopw [6] (fun i wr => ∃ j : Nat, j ≤ nt ∧ i = .int .i64 j ∧ ∃ u, RowT (w.heap.size + 4) wr u ((bndE tabs r).take j) ∧ Blk wr (w.heap.size + 3) 37 #[u, .slice AP nP cP] ∧ Below (w.heap.size + 3) V wr ∧ w.heap.size + 4 ≤ wr.heap.size) (fun i _ => nt - (intOf i).toNat)
  case atStart => exact ⟨0, Nat.zero_le _, rfl, .slice none 0 0, RowT.first _ _, b5, Below.refl _ _, by omega⟩
  case round =>
    obtain ⟨j, hj, rfl, u, hrow, b5, hBr, hrs⟩ := hrel
    have hBw := hBV.trans (hBr.mono (by omega))
    have b2r := b2V.below hBr (by omega)
    have b3r := b3V.below hBr (by omega)
    have b4r := b4V.below hBr (by omega)
    have e1 := b2r.cell
    by_cases hlt : j < nt
    · obtain ⟨g, off, cap', hv, q1, q2, q3, q4, q5⟩ := tabs_cells HH.out (by rw [← HNT.out]; omega)
      rw [← HNT.out] at hv
      cases hv
      obtain ⟨t, ht⟩ : ∃ t, tabs[j]? = some t := ⟨_, List.getElem?_eq_getElem (by rw [← HNT.out]; exact hlt)⟩
      obtain ⟨At, ct, d1, hE⟩ := q5 j t ht
      have htl := HA.out t (List.mem_of_getElem? ht)
      have HTJ := Lib.hid (bndE_take tabs r j t ht)
      have hjl : ((bndE tabs r).take j).length = j := by rw [List.length_take, HBl.out, ← HNT.out]; omega
      have HJL := Lib.hid hjl
      have HE := Lib.hid (show ∀ W1, Below wr.heap.size wr W1 → Calls Tryz.prog 100 #[.slice At t.length ct, ev r] W1 (RetR (ExtA (bindL t r)) W1) from fun W1 hW => rBind t r n htl hn _ _ _ W1 (Rd.keep (Rd.keep hE hBw) hW))
      have f1 := gw_cell (W := wr) (Nat.lt_of_lt_of_le q4 hBw.size) ((hBw.cell (p := ⟨g, off + j, none⟩) q4).trans d1)
      have f2 := gw_blk b2r
      have f3 := gw_blk b3r
      have f4 := gw_blk b5
      obtain ⟨Au, cu, hv⟩ := hrow.len'
      rw [hjl] at hv
      subst hv
      have hbl := Lib.hid (bindL_length r n t htl)
      generalize bindL t r = y at *
      clear q5 ht htl hE d1 hjl
      go_wp2_with fail
      refine wp_region_rg 10 [(8, Spec.rel (ExtA y) (SlF y.length)), (9, Spec.rel (LitT wr.heap.size y) (LitF 1))] (by kernel_rfl) (by kernel_rfl) (by kernel_rfl) ⟨fit_ext, fit_litT, trivial⟩ ?_
      iterate 8 (refine rg_det rfl rfl rfl (fun K hK => ?_); go_big_quiet_op; refine hK _ ?_; clear hK K)
      refine rg_rel rfl rfl (fun W1 hW1 hF => step_callr en_attestor_attestorref05_Bind (HE.out W1 (grw_below hW1)) rfl rfl) ?_
      intro n8 m8 v8 hn8 hm8 hd8 hf8 a' ha
      simp only [Act.put, List.setIfInBounds_toArray, List.set_cons_succ, List.set_cons_zero] at ha
      subst ha
      obtain ⟨A8, cap8, rfl⟩ := hf8
      refine rg_rel rfl rfl (fun W1 hW1 hF => stepAt_mono (fun v w' h => ⟨⟨h.1.1, h.1.2.1, _, _, _, h.1.2.2, rfl, Nat.le_trans (Nat.le_refl _) hn8, Nat.le_trans (pick_last hF (by kernel_rfl)).1 h.2.size, Rd.keep (pick_last hF (by kernel_rfl)).2 h.2⟩, h.2⟩) (step_lit1 Tryz.underlying31 hs0 hsz0 hsz1 (by decide) (by decide) rfl rfl rfl)) ?_
      intro n9 m9 v9 hn9 hm9 hd9 hf9 a' ha
      simp only [Act.put, List.setIfInBounds_toArray, List.set_cons_succ, List.set_cons_zero] at ha
      subst ha
      obtain rfl := hf9
      refine rg_nil (fun w' hw' hF => ?_)
      obtain ⟨z, rfl⟩ := hw'
      simp only [List.drop_succ_cons, List.drop_zero]
      obtain ⟨hm9', -, hl9, x, l1, l2, bx, hx1, hlo, hhi, hE9⟩ := end_last hF
      have hrz := hrow.keep z.h
      have hzs := z.h.size
      have b5z := b5.gw z
      have hBz := hBr.trans (z.h.mono (by omega))
      clear hF hd8 hd9 f1 f2 f3 f4 e1 b5
      go_wp2_with (at_builtin; refine wpList_appT (x := x) (y := y) (lo := l1) (hi := l2) (base := w.heap.size + 4) (ts := (bndE tabs r).take j) rfl _ _ rfl Tryz.underlying31 rfl rfl ?hrow ?hsrc hx1 ?hE ?hlo ?hhi ?hout ?hk ?hbase ?_)
      case hrow => exact hrz
      case hsrc => exact bx
      case hE => exact hE9
      case hlo => omega
      case hhi => omega
      case hout => exact hrow.out hlo
      case hk => rw [HJL.out]; omega
      case hbase => omega
      intro u' w3 hrow3 hB3 hg3 hob3
      rw [← HTJ.out] at hrow3
      obtain ⟨A', c', hv⟩ := hrow3.len'
      rw [show ((bndE tabs r).take (j + 1)).length = j + 1 by rw [List.length_take, HBl.out, ← HNT.out]; omega] at hv
      subst hv
      have b53 := b5z.below hB3 (by omega)
      have hs3 := hB3.size
      have hBw3 : Below (w.heap.size + 3) V w3 := hBz.trans (hB3.mono (by omega))
      have e1 := b53.cell
      have e2 := b53.frozen
      clear hrz b5z hg3 hob3 bx hE9 hrow
      go_wp2_with fail
      have hp : Put w3 _ (w.heap.size + 3) := Put.set w3 (w.heap.size + 3) 0 (.slice A' (j + 1) c')
      exact ⟨⟨j + 1, by omega, by go_num, .slice A' (j + 1) c', hrow3.put hp (by omega), b53.set_ 0 _, below_put hBw3 hp (Nat.le_refl _), by rw [hp.size]; omega⟩, by simp [intOf]; omega⟩
    · obtain rfl : j = nt := by omega
      rw [List.take_of_length_le (by rw [HBl.out, ← HNT.out]; exact Nat.le_refl _)] at hrow
      have e2 := b5.cell
      have e3 := b4r.cell
      have e4 := b4r.frozen
      have HT := Lib.hid (hrow.tabs (by rw [HBl.out, ← HNT.out]; omega))
      obtain ⟨Au, cu, hv⟩ := hrow.len'
      rw [HBl.out, ← HNT.out] at hv
      subst hv
      clear hrow
      go_wp2_with fail
      refine set2 (M := fun W => bodyPost _ _ _ _ _ W) b4r fun X2 hp bo => ?_
      have f1 := bo.cell
      refine bodyPost_ret (v := sv (.slice Au j cu) (.slice AP nP cP)) (by simp [results, Tryz.results63, go_sem, f1, sv]) rfl (show RetR (BndA _ _) w (.returned _) X2 from ⟨_, rfl, ⟨_, rfl, ?_⟩, ?_⟩)
      · rw [hp.size]
        exact (HT.out.put hp (.inl (by omega))).wide (by omega) (Nat.le_refl _)
      · exact below_put hBw hp (by omega)
theorem rnd_takeS (tabs : List (List E)) (ps : List Trm) (j : Nat) (h : j < degE ps + 1) : (rndE tabs ps).take (j + 1) = (rndE tabs ps).take j ++ [totE (bndE tabs (nodeE j)) ps] := by
  have hl := rndE_length tabs ps
  rw [List.take_add_one, List.getElem?_eq_getElem (by omega)]
  have := rndE_get tabs ps j h
  simp only [List.getD, List.getElem?_eq_getElem (show j < (rndE tabs ps).length by omega), Option.getD_some] at this
  rw [← this]
  rfl
set_option maxRecDepth 100000 in
set_option maxHeartbeats 4000000 in
theorem rRound (tabs : List (List E)) (ps : List Trm) (n : Nat) (hall : AllLen tabs (2 * n)) (h0 : 0 < tabs.length) (hl : tabs.length ≤ 1000) (hn : n ≤ 1000) (vt vp : Value) (lo hi : Nat) (w : World) (h : SumS lo hi w vt vp tabs ps) :
    Calls Tryz.prog 61 #[sv vt vp] w (RetR (ExtA (rndE tabs ps)) w) := by
  obtain ⟨i0, hi0, iz0, iz1, iz2⟩ := info_parts ext_info
  obtain ⟨AP, capP, rfl⟩ := h.hp.len
  obtain ⟨A, capt, rfl⟩ := h.ht.len
  have HA := Lib.hid hall
  have HH := Lib.hid h
  have HR := Lib.hid (fun j hj => rnd_takeS tabs ps j hj)
  have HRl := Lib.hid (rndE_length tabs ps)
  have hd1 : degE ps ≤ 1000 := degE_le ps 1000 (by decide) h.short
  obtain ⟨D, hD⟩ : ∃ D, D = degE ps := ⟨_, rfl⟩
  have HD := Lib.hid hD
  rw [← hD] at hd1 HR HRl
  obtain ⟨np, hnp⟩ : ∃ np, np = ps.length := ⟨_, rfl⟩
  have HNP := Lib.hid hnp
  rw [← hnp]
  obtain ⟨nt, hnt⟩ : ∃ nt, nt = tabs.length := ⟨_, rfl⟩
  have HNT := Lib.hid hnt
  rw [← hnt] at h0 hl ⊢
  clear hall h hnp hnt hD
  unfold sv
  go_enter Tryz.func61, Tryz.ntmps61
  go_upto_region 1 with (fail)
  refine wp_stk1 fun W hB hz b1 => ?_
  have hWs : W.heap.size = w.heap.size + 1 := hz.out
  go_upto_region 2 with (fail)
  refine wp_stk1 fun V hV hzV b3 => ?_
  have hVs : V.heap.size = W.heap.size + 1 := hzV.out
  rw [hWs] at b3
  have own0 : V.ownsRow (w.heap.size + 1) 26 2 (.slice (some ⟨(w.heap.size + 1), 0, none⟩) 0 0) 0 (((rndE tabs ps).take 0).flatMap ec) := ⟨rfl, .inr ⟨(w.heap.size + 1), 0, #[], rfl, Nat.le_refl _, b3, Nat.le_refl _, Nat.zero_le _, rfl, rfl⟩⟩
  have hBV := hB.trans (hV.mono hB.size)
  have b1V := b1.keep hV
  clear hz hzV b3
  go_wp2_with fail
  go_loopw [3, 4] (fun u i wr => ∃ j : Nat, j ≤ D + 1 ∧ i = .int .i64 j ∧ wr.ownsRow (w.heap.size + 1) 26 2 u j (((rndE tabs ps).take j).flatMap ec) ∧ Below (w.heap.size + 1) V wr) (fun _ i _ => D + 1 - (intOf i).toNat)
  case atStart => exact ⟨0, Nat.zero_le _, rfl, own0, Below.refl _ _⟩
  case round =>
    obtain ⟨j, hj, rfl, hown, hBr⟩ := hrel
    obtain ⟨Au, cu, rfl⟩ := own_len hown
    have hBw := hBV.trans (hBr.mono (by omega))
    have b1r := b1V.below hBr (by omega)
    have e1 := b1r.cell
    have hWr := hBr.size
    have hSr := HH.out.keep hBw
    have HDg := Lib.hid (show Calls Tryz.prog 96 #[.agg #[.slice A nt capt, .slice AP np capP]] wr (Ret (.int .i64 (D : Nat)) wr) by
      rw [HD.out]
      have := rDegree (.slice A tabs.length capt) (.slice AP ps.length capP) ps _ _ wr hSr.hp hSr.short
      rwa [← HNP.out, ← HNT.out] at this)
    have HSr := Lib.hid hSr
    have HO := Lib.hid hown
    clear hown hSr
    go_wp2_with fail
    refine HDg.out.mono ?_
    rintro e w2 ⟨rfl, hb2⟩
    have e2 := (b1r.keep hb2).cell
    have hB2 := hBr.trans (hb2.mono (by omega))
    have hw2 := hb2.size
    by_cases hlt : j < D + 1
    · have hle : ((j : Int) ≤ (D : Int)) := by omega
      have HTk := Lib.hid (HR.out j hlt)
      have f1 := gw_blk (b1r.keep hb2)
      have HFI := Lib.hid (show ∀ W1, Calls Tryz.prog 25 #[.int .i64 (j : Int)] W1 (Ret (ev (nodeE j)) W1) from fun W1 => by rw [nodeE_int]; exact xFromInt (j : Int) (by omega) (by omega) W1)
      have HBd := Lib.hid (show ∀ W1, Below w2.heap.size w2 W1 → Calls Tryz.prog 63 #[.agg #[.slice A nt capt, .slice AP np capP], ev (nodeE j)] W1 (RetR (BndA (.slice AP np capP) (bndE tabs (nodeE j))) W1) from fun W1 hW => by
        have := rBindS tabs (nodeE j) n HA.out hn (by rw [← HNT.out]; exact hl) _ (.slice AP np capP) _ _ W1 ((HSr.out.ht.keep hb2).keep hW) ⟨_, _, _, rfl⟩
        rwa [← HNT.out] at this)
      have HTb := Lib.hid (show ∀ W1 lo hi vb, Below w2.heap.size w2 W1 → TabS lo hi W1 vb (bndE tabs (nodeE j)) → hi ≤ W1.heap.size → Calls Tryz.prog 97 #[.agg #[vb, .slice AP np capP]] W1 (Ret (ev (totE (bndE tabs (nodeE j)) ps)) W1) from fun W1 lo' hi' vb hW hvb hhi => by
        have hp := ((HSr.out.hp.keep hb2).keep hW).base
        rw [← HNP.out] at hp
        exact rTotal (bndE tabs (nodeE j)) n _ _ ps 0 W1.heap.size W1 ⟨hvb.wide (Nat.zero_le _) hhi, hp, fun p hp k hk => by rw [bndE_length]; exact HSr.out.ix p hp k hk, HSr.out.few, HSr.out.short⟩ (by rw [bndE_length, ← HNT.out]; exact h0) (by rw [bndE_length, ← HNT.out]; exact hl) (AllLen.bnd HA.out _) (by omega))
      generalize totE (bndE tabs (nodeE j)) ps = T at *
      generalize bndE tabs (nodeE j) = tb at *
      generalize nodeE j = x at *
      clear e1 e2
      go_wp2_with fail
      refine wp_region_rg 7 [(3, Spec.val (.agg #[.int .u64 (fv (x).a), .int .u64 (fv (x).b)])), (4, Spec.rel (BndA (.slice AP np capP) tb) AnyV), (5, Spec.val (.agg #[.int .u64 (fv (T).a), .int .u64 (fv (T).b)])), (6, Spec.rel (Lit 26 1 #[.int .u64 (fv T.a), .int .u64 (fv T.b)]) (LitF 1))] (by kernel_rfl) (by kernel_rfl) (by kernel_rfl) ⟨fit_of (bnd_stable _ _), fit_lit, trivial⟩ ?_
      iterate 3 (refine rg_det rfl rfl rfl (fun K hK => ?_); go_big_quiet_op; refine hK _ ?_; clear hK K)
      refine rg_val rfl rfl (fun W1 hW1 hF => step_callv en_attestor_attestorref02_FromInt (HFI.out W1) rfl rfl) ?_
      intro a' ha
      simp only [Act.put, List.setIfInBounds_toArray, List.set_cons_succ, List.set_cons_zero] at ha
      subst ha
      refine rg_rel rfl rfl (fun W1 hW1 hF => step_callr en_attestor_attestorref06_Bind (HBd.out W1 (grw_below hW1)) rfl rfl) ?_
      intro n4 m4 v4 hn4 hm4 hd4 hf4 a' ha
      simp only [Act.put, List.setIfInBounds_toArray, List.set_cons_succ, List.set_cons_zero] at ha
      subst ha
      refine rg_val rfl rfl (fun W1 hW1 hF => (by obtain ⟨hm, vt, rfl, ht⟩ := pick_last hF (by kernel_rfl); exact step_callv en_attestor_attestorref06_Total (HTb.out W1 _ _ vt (grw_below hW1) ht hm) rfl rfl)) ?_
      intro a' ha
      simp only [Act.put, List.setIfInBounds_toArray, List.set_cons_succ, List.set_cons_zero] at ha
      subst ha
      refine rg_rel rfl rfl (fun W1 hW1 hF => step_lit1 Tryz.underlying22 hi0 iz0 iz1 (by decide) (by decide) rfl rfl rfl) ?_
      intro n6 m6 v6 hn6 hm6 hd6 hf6 a' ha
      simp only [Act.put, List.setIfInBounds_toArray, List.set_cons_succ, List.set_cons_zero] at ha
      subst ha
      obtain rfl := hf6
      refine rg_nil (fun w' hw' hF => ?_)
      obtain ⟨z, rfl⟩ := hw'
      simp only [List.drop_succ_cons, List.drop_zero]
      obtain ⟨hm6', -, hl6, b6⟩ := end_last hF
      have hO2 := own_below (own_below HO.out (Nat.le_refl _) hb2) (Nat.le_refl _) z.h
      have hzs := z.h.size
      clear hF f1
      go_wp2_with (at_builtin; refine wpList_app1 rfl _ _ rfl Tryz.underlying22 hi0 iz0 iz1 iz2 rfl (by decide) (cl := ec T) rfl (ec_one _) rfl rfl hO2 b6 ?h63 ?hby ?hbase ?_)
      case h63 => unfold maxLen; omega
      case hby => omega
      case hbase => omega
      intro v1 w4 hown4 hgrow hB5
      have hown5 : w4.ownsRow (w.heap.size + 1) 26 2 v1 (j + 1) (((rndE tabs ps).take (j + 1)).flatMap ec) := by rw [HTk.out, List.flatMap_append]; simpa using hown4
      have hB6 : Below (w.heap.size + 1) V w4 := (hB2.trans (z.h.mono (by omega))).trans hB5
      clear hgrow hown4 hO2 b6
      go_wp2_with fail
      exact ⟨⟨j + 1, by omega, by go_num, hown5, hB6⟩, by simp [intOf]; omega⟩
    · obtain rfl : j = D + 1 := by omega
      have hX : Hid (ExtS (w.heap.size + 1) w2.heap.size w2 (.slice Au (D + 1) cu) (rndE tabs ps)) := Lib.hid (by
        have h1 := own_below HO.out (Nat.le_refl _) hb2
        rw [List.take_of_length_le (by rw [HRl.out]; exact Nat.le_refl _)] at h1
        exact exts_of_own h1 HRl.out (by omega) (Nat.le_refl _))
      go_wp2_with fail
      go_ret
      exact ⟨_, rfl, Rd.wide hX.out (by omega) (Nat.le_refl _), hBV.trans (hB2.mono (by omega))⟩
end Go.Proofs.YtkgglhakimkkhaaGreatDoor
