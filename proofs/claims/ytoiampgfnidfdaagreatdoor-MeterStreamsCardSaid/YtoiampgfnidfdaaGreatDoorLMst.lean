/-
  MeterStreams: the walk.
-/
import Derived.Test.YtoiampgfnidfdaaGreatDoorCol12
namespace Go.Proofs.YtoiampgfnidfdaaGreatDoor
open Go.RowKit

def PCo (zss : List (List Int)) (v : Value) (w : World) : Prop := ∃ u, v = .tuple #[u, .int .i64 0] ∧ CoA w u zss
def TupC (n : Nat) (_ : Nat) (v : Value) : Prop := ∃ A cap, v = .tuple #[.slice A n cap, .int .i64 0]
theorem fit_pco {zss : List (List Int)} : Fit (Was (PCo zss)) (TupC zss.length) := ⟨was_st, fun _ => ⟨_, none, 0, rfl⟩, fun n m v w h => by
  obtain ⟨w0, _, ⟨u, rfl, hE⟩, _⟩ := h
  obtain ⟨A, cap, rfl⟩ := hE.len
  exact ⟨A, cap, rfl⟩⟩
theorem pco_of {zss : List (List Int)} {n m : Nat} {u : Value} {w : World} (h : Was (PCo zss) n m (.tuple #[u, .int .i64 0]) w) : CoA w u zss := by
  obtain ⟨w0, h1, ⟨u2, h2, h3⟩, h4⟩ := h
  obtain rfl : u = u2 := by simpa using h2
  subst h1
  exact h3.keep h4
theorem pco_res {zss : List (List Int)} {w : World} : ∀ r W2, (∃ v, r = .returned (.tuple #[v, .int .i64 0]) ∧ CoA W2 v zss ∧ Below w.heap.size w W2) → RetR (Was (PCo zss)) w r W2 := fun r W2 ⟨v, h1, h2, h3⟩ => ⟨_, h1, ⟨W2, rfl, ⟨v, rfl, h2⟩, Below.refl _ _⟩, h3⟩
theorem fit_pco5 {lg : Nat} {s : Stm} : Fit (Was (PCo (cols5 lg s))) (TupC 5) := by
  have h := fit_pco (zss := cols5 lg s)
  rwa [cols5_len] at h
attribute [local irreducible] wpRg keyD sha leafD pairD
set_option maxRecDepth 100000 in
set_option maxHeartbeats 8000000 in
theorem wkMeterStreams (seed : Dg) (hs : DgOk seed) (l : List Op26) (hl : l.length ≤ 140737488355327) (ho : ∀ o ∈ l, o.ok) (vO : Value) (w : World) (hO : RdA 6 w vO l.length (l.flatMap opc)) (hL : Laid w) (hSh : Lsh w) (hDb : Ldb w) : Calls Tryz.prog 7 #[qv26 seed vO] w (Ret (.bool true) w) := by
  obtain ⟨AO, cO, rfl⟩ := Rd.len hO
  have HO := Lib.hid hO
  have HL := Lib.hid hL
  have HS := Lib.hid hSh
  have HD := Lib.hid hDb
  have HS0 := Lib.hid hs
  have HOO := Lib.hid ho
  have HLL := Lib.hid hl
  have hsl : seed.length = 32 := hs.1
  obtain ⟨nl, hnl⟩ : ∃ n, n = l.length := ⟨_, rfl⟩
  rw [← hnl]
  have HNL := Lib.hid hnl
  obtain ⟨Qv, hQv⟩ : ∃ S, S = qv26 seed (.slice AO nl cO) := ⟨_, rfl⟩
  rw [← hQv]
  clear hnl hO hL hSh hDb hs ho hl
  go_enter Tryz.func7, Tryz.ntmps7
  go_upto_region 1 with (fail)
  refine wp_stk1 fun W hB hz b1 => ?_
  have b1' : Blk W w.heap.size 26 (qc26 seed (.slice AO nl cO)).toArray := by first | exact b1 | (rw [hQv] at b1; exact b1)
  obtain ⟨g1, hg1⟩ : ∃ g, g = w.heap.size := ⟨_, rfl⟩
  rw [← hg1] at b1' ⊢
  have HG1 := Lib.hid hg1
  clear b1 hz hQv hg1
  refine wp_region_lit ?_
  refine wpList_plain rfl fun K1 hK1 => wp_of_step (stepAt_mono (fun v14 w14 hh => ?_) (step_callv en_attestor_attestorlaw26_sanity (lSanity26 W (HL.out.keep hB) (HS.out.keep hB) (HD.out.keep hB)) rfl rfl))
  obtain ⟨rfl, B14⟩ := hh
  refine hK1 _ _ ?_
  clear hK1 K1
  try simp only [Act.put, List.setIfInBounds_toArray, List.set_cons_succ, List.set_cons_zero]
  replace b1' := b1'.keep B14
  replace hB := hB.trans (B14.mono hB.size)
  clear B14
  try simp only [Act.put, List.setIfInBounds_toArray, List.set_cons_succ, List.set_cons_zero]
  go_upto_region 2 with (fail)
  refine wp_region_lit ?_
  refine wpList_plain rfl fun K3 hK3 => wp_of_step (stepAt_mono (fun v15 w15 hh => ?_) (step_loadR0 (cs := qc26 seed (.slice AO nl cO)) q26_under rfl (by rw [q26_size, qc26_len _ _ hsl]) rfl rfl (blk_range b1')))
  obtain ⟨rfl, rfl⟩ := hh
  refine hK3 _ _ ?_
  clear hK3 K3
  try simp only [Act.put, List.setIfInBounds_toArray, List.set_cons_succ, List.set_cons_zero]
  obtain ⟨s, hs⟩ : ∃ s, s = playM seed l := ⟨_, rfl⟩
  have hP := gPlay seed HS0.out l HLL.out HOO.out (.slice AO nl cO) w15 (by rw [HNL.out]; exact RdA.keep HO.out hB) (HL.out.keep hB) (HS.out.keep hB) (HD.out.keep hB)
  rw [← hs] at hP
  refine wpList_plain rfl fun K4 hK4 => wp_of_step (stepAt_mono (fun v16 w16 hh => ?_) (step_call (R := fun v W2 => ∃ vE vL, v = stV s.1 vE vL ∧ EpsB ⟨W2, fun g => w15.heap.size ≤ g⟩ vE s.1.eps ∧ StmsB ⟨W2, fun g => w15.heap.size ≤ g⟩ vL s.2 ∧ Below w15.heap.size w15 W2) en_attestor_attestorlaw26_play (hP.mono fun r W2 ⟨vE, vL, h1, h2, h3, h4⟩ => ⟨_, h1, vE, vL, rfl, h2, h3, h4⟩) rfl rfl))
  obtain ⟨vE, vL, rfl, hE, hT, B16⟩ := hh
  refine hK4 _ _ ?_
  clear hK4 K4
  try simp only [Act.put, List.setIfInBounds_toArray, List.set_cons_succ, List.set_cons_zero]
  have hok : StOk26 25 s := by rw [hs]; exact play_ok26 seed HS0.out l
  replace hB := hB.trans (B16.mono hB.size)
  clear B16 hP b1' hs
  obtain ⟨iS, hiS, iS0, iS1, iS2⟩ := info_parts stt_info26
  obtain ⟨m, ss⟩ := s
  have hms : m.seed.length = 32 := hok.seed.1
  dsimp only at hE hT ⊢
  obtain ⟨A, cap, rfl⟩ := hE.len
  obtain ⟨n, hn⟩ : ∃ n, n = ss.length := ⟨_, rfl⟩
  obtain ⟨AL, cL, rfl⟩ := hT.len
  rw [← hn] at hT ⊢
  have hml : m.eps.length = n := by rw [hn]; exact hok.len.symm
  rw [hml] at hE ⊢
  have HML := Lib.hid hml
  have HN := Lib.hid hn
  clear hn hml
  refine wpList_plain rfl fun K5 hK5 => wp_of_step (stepAt_mono (fun v4 w4 hh => ?_) (step_new0 hiS iS0 rfl))
  obtain ⟨rfl, rfl⟩ := hh
  refine hK5 _ _ ?_
  clear hK5 K5
  try simp only [Act.put, List.setIfInBounds_toArray, List.set_cons_succ, List.set_cons_zero]
  have b4 : Blk (w16.alloc (.cells (Value.agg (stC ⟨0, List.replicate 32 0, []⟩ (.slice none 0 0) (.slice none 0 0)).toArray).cells 38)) w16.heap.size 38 (stC ⟨0, List.replicate 32 0, []⟩ (.slice none 0 0) (.slice none 0 0)).toArray := World.alloc_heap_new w16 _
  have B4 := (Below.refl _ w16).alloc (Nat.le_refl _) (.cells (Value.agg (stC ⟨0, List.replicate 32 0, []⟩ (.slice none 0 0) (.slice none 0 0)).toArray).cells 38)
  generalize w16.alloc (.cells (Value.agg (stC ⟨0, List.replicate 32 0, []⟩ (.slice none 0 0) (.slice none 0 0)).toArray).cells 38) = w4 at *
  refine wpList_put rfl 38 (.tmp 4) (.tmp 13) rfl rfl (cells := stC m (.slice A n cap) (.slice AL n cL)) rfl b4 (by rw [List.size_toArray, stC_len ⟨0, List.replicate 32 0, []⟩ _ _ rfl, stC_len m _ _ hms]; exact Nat.le_refl _) (by rw [stt_size26, stC_len m _ _ hms]) (stC_one _ _ _ rfl rfl) (spl_all _ _ (by rw [List.size_toArray, stC_len ⟨0, List.replicate 32 0, []⟩ _ _ rfl, stC_len m _ _ hms])) fun X hX bX => ?_
  have BX : Below w16.heap.size w16 X := below_put B4 hX (Nat.le_refl _)
  have HEA := Lib.hid (hE.fwd BX).now
  have HTA := Lib.hid (hT.fwd BX).now
  have HBX := Lib.hid (hB.trans (BX.mono hB.size))
  have HOK := Lib.hid hok
  obtain ⟨g4, hg4⟩ : ∃ g, g = w16.heap.size := ⟨_, rfl⟩
  rw [← hg4] at bX ⊢
  have HBL := Lib.hid bX
  have hn25 : n ≤ 25 := by have h1 := hok.len; have h2 := hok.eps; have := HN.out; dsimp only at h1 h2; omega
  have c33 := st_33 bX hms
  have c34 := st_34 bX hms
  have l4 := bX.lt
  clear hok hE hT hB b4 B4 hX BX hg4 bX
  try simp only [Act.put, List.setIfInBounds_toArray, List.set_cons_succ, List.set_cons_zero]
  go_upto_region 6 with (fail)
  go_loopw [5] (fun i wr => ∃ k : Nat, k ≤ n ∧ i = .int .i64 k ∧ Below X.heap.size X wr) (fun i _ => n - (intOf i).toNat)
  case atStart => exact ⟨0, Nat.zero_le _, rfl, Below.refl _ _⟩
  case round =>
    obtain ⟨k, hk, rfl, hBr⟩ := hrel
    have b4 := HBL.out.keep hBr
    clear c33 c34 l4
    have c33 := st_33 b4 hms
    have c34 := st_34 b4 hms
    have l4 := b4.lt
    have hBw := HBX.out.trans (hBr.mono HBX.out.size)
    by_cases hlt : k < n
    rotate_left 1
    · obtain rfl : k = n := by omega
      go_wp2_with fail
      go_ret
      exact ⟨rfl, hBw⟩
    obtain ⟨us, hr, ha⟩ := EpsA.keep HEA.out hBr
    obtain ⟨u, e, hu, he, hin⟩ := ha.get (k := k) (by rw [HML.out]; exact hlt)
    obtain ⟨g, off, cap', hv, hcp, hg, hcs⟩ := RdA.at epc_len hr hu
    rw [ha.1, HML.out] at hv hcp
    cases hv
    have hrg : wr.rangeAt g (off + k * 5) (epc u) := fun j x hj => by rw [Nat.add_assoc]; exact hcs j x hj
    obtain ⟨us2, hu1, hu2⟩ := HTA.out
    obtain ⟨u2, s1, hu', hs1, hin2⟩ := hu2.get (k := k) (by rw [← HN.out]; exact hlt)
    obtain ⟨gv, ov, cv, hvv, hcv, hgv, hcs2⟩ := RdA.at smc_len hu1 hu'
    rw [hu2.1, ← HN.out] at hvv hcv
    cases hvv
    have hrs : wr.rangeAt gv (ov + k * 2) (smc u2) := fun j x hj => by
      rw [Nat.add_assoc]
      exact (hBr.cell (p := ⟨gv, ov + (k * 2 + j), none⟩) hgv).trans (hcs2 j x hj)
    have hgvw : gv < wr.heap.size := Nat.lt_of_lt_of_le hgv hBr.size
    have hEp := HOK.out.ep k e s1 he hs1
    have hone := hin.one
    obtain ⟨lg', cnt', closed', pts, pks⟩ := e
    obtain ⟨lg, cnt, closed, up, uk⟩ := u
    obtain ⟨⟨q1, q2, q3⟩, hpts, hdgs⟩ := hin
    dsimp only at q1 q2 q3 hpts
    subst q1 q2 q3
    have hcnt := hEp.cnt
    have hl3 := hEp.log
    have hle := hEp.le
    have hp1 := hEp.p1
    have hp4 := hEp.p4
    have hpt := hEp.pt
    have hrd := hEp.rd
    dsimp only at hcnt hl3 hle hp1 hp4 hpt
    subst hcnt
    obtain ⟨Ap, cp, rfl⟩ := hpts.len
    obtain ⟨kk, hkk⟩ : ∃ kk, kk = s1.length := ⟨_, rfl⟩
    obtain ⟨pn, hpn⟩ : ∃ pn, pn = pts.length := ⟨_, rfl⟩
    rw [← hkk] at hrg hle hone
    rw [← hpn] at hrg hp1 hp4 hpts hone
    have HKK := Lib.hid hkk
    have HPN := Lib.hid hpn
    have HLE := Lib.hid hle
    have HPT := Lib.hid hpt
    have HRD := Lib.hid hrd
    have HIN := Lib.hid hin2
    have HPTS := Lib.hid hpts
    obtain ⟨iE, hiE, iE0, iE1, iE2⟩ := info_parts ep_info26
    clear hEp hr ha hu he hcs hu1 hu2 hu' hs1 hcs2 hkk hpn hle hpt hrd hin2 hpts hdgs
    go_upto_region 8 with (fail)
    refine wp_region_lit ?_
    iterate 5 (refine wpList_plain rfl fun K hK => ?_; go_big_op; refine hK _ _ ?_; clear hK K)
    refine wpList_plain rfl fun K8 hK8 => wp_of_step (stepAt_mono (fun v26 w26 hh => ?_) (step_loadR0 (cs := epc ⟨lg, kk, closed, .slice Ap pn cp, uk⟩) ep_under rfl ep_size rfl rfl hrg))
    obtain ⟨rfl, rfl⟩ := hh
    refine hK8 _ _ ?_
    clear hK8 K8
    try simp only [Act.put, List.setIfInBounds_toArray, List.set_cons_succ, List.set_cons_zero]
    refine wpList_plain rfl fun K9 hK9 => wp_of_step (stepAt_mono (fun v7 w7 hh => ?_) (step_new0 hiE iE0 rfl))
    obtain ⟨rfl, rfl⟩ := hh
    refine hK9 _ _ ?_
    clear hK9 K9
    try simp only [Act.put, List.setIfInBounds_toArray, List.set_cons_succ, List.set_cons_zero]
    have b7 : Blk (w26.alloc (.cells (Value.agg #[Value.int .i64 0, .int .i64 0, .bool false, .slice none 0 0, .slice none 0 0]).cells 75)) w26.heap.size 75 #[Value.int .i64 0, .int .i64 0, .bool false, .slice none 0 0, .slice none 0 0] := World.alloc_heap_new w26 _
    have B7 := (Below.refl _ w26).alloc (Nat.le_refl _) (.cells (Value.agg #[Value.int .i64 0, .int .i64 0, .bool false, .slice none 0 0, .slice none 0 0]).cells 75)
    generalize w26.alloc (.cells (Value.agg #[Value.int .i64 0, .int .i64 0, .bool false, .slice none 0 0, .slice none 0 0]).cells 75) = w7 at *
    refine wpList_put rfl 75 (.tmp 6) (.tmp 34) rfl rfl (cells := epc ⟨lg, kk, closed, .slice Ap pn cp, uk⟩) rfl b7 (by rw [epc_len]; exact Nat.le_refl _) ep_size (List.all_eq_true.2 hone) rfl fun Y hY bY => ?_
    have BY : Below w26.heap.size w26 Y := below_put B7 hY (Nat.le_refl _)
    have b6 : Blk Y w26.heap.size 75 (epc ⟨lg, kk, closed, .slice Ap pn cp, uk⟩).toArray := bY
    have hBY := hBr.trans (BY.mono hBr.size)
    have HPY := Lib.hid (HPTS.out.keep BY)
    obtain ⟨g6, hg6⟩ : ∃ g, g = w26.heap.size := ⟨_, rfl⟩
    rw [← hg6] at b6 ⊢
    have hgs : gv < Y.heap.size := Nat.lt_of_lt_of_le hgvw BY.size
    have hrsY : Y.rangeAt gv (ov + k * 2) (smc u2) := range_keep hrs hgvw BY
    have b4Y := b4.keep BY
    have HBY := Lib.hid hBY
    have HB4 := Lib.hid b4Y
    have c34Y := st_34 b4Y hms
    have l4Y := b4Y.lt
    have d0 : Y.cell? ⟨g6, 0, none⟩ = some (.int .i64 (lg : Int)) := (b6.cell 0).trans rfl
    have HB6 := Lib.hid b6
    have l6 := b6.lt
    clear b7 B7 hY bY BY hg6 hone hrg hrs b4 c33 c34 l4 hBw hBr hgvw b4Y b6 hBY hg
    try simp only [Act.put, List.setIfInBounds_toArray, List.set_cons_succ, List.set_cons_zero]
    go_upto_region 9 with (fail)
    have f34 := gw_cell (W := Y) l4Y c34Y
    have f0 := gw_cell (W := Y) l6 d0
    have hin3 : StrIn Y u2 s1 := ⟨HIN.out.1.keep HBY.out, HIN.out.2.keep HBY.out⟩
    have HIN3 := Lib.hid hin3
    clear hin3
    refine wp_region_rg 12 [(4, Spec.val (.agg (smc u2).toArray)), (7, Spec.rel (Was (PCo (cols5 lg s1))) (TupC 5))] (by kernel_rfl) (by kernel_rfl) (by kernel_rfl) ⟨fit_pco5, trivial⟩ ?_
    iterate 4 (refine rg_det rfl rfl rfl (fun K hK => ?_); go_big_quiet_op; refine hK _ ?_; clear hK K)
    refine rg_val rfl rfl (fun W1 hW1 hF => step_loadR (cs := smc u2) strm_under rfl strm_size rfl rfl (range_keep hrsY hgs (grw_below hW1))) ?_
    intro a' ha
    simp only [Act.put, List.setIfInBounds_toArray, List.set_cons_succ, List.set_cons_zero] at ha
    subst ha
    iterate 2 (refine rg_det rfl rfl rfl (fun K hK => ?_); go_big_quiet_op; refine hK _ ?_; clear hK K)
    refine rg_rel rfl rfl (fun W1 hW1 hF => step_callr en_attestor_attestorref12_Columns (((rColumns s1 HRD.out lg hl3 (by rw [← HKK.out]; exact HLE.out) u2 W1 ⟨HIN3.out.1.keep (grw_below hW1), HIN3.out.2.keep (grw_below hW1)⟩).mono pco_res)) rfl rfl) ?_
    intro n7 m7 v7 hn7 hm7 hd7 hf7 a' ha
    simp only [Act.put, List.setIfInBounds_toArray, List.set_cons_succ, List.set_cons_zero] at ha
    subst ha
    obtain ⟨A7, cap7, rfl⟩ := hf7
    iterate 4 (refine rg_det rfl rfl rfl (fun K hK => ?_); go_big_quiet_op; refine hK _ ?_; clear hK K)
    refine rg_nil (fun w' hw' hF => ?_)
    obtain ⟨z, rfl⟩ := hw'
    simp only [List.drop_succ_cons, List.drop_zero]
    have hC := pco_of (end_last hF).2
    have BZ := HBY.out.trans (z.h.mono HBY.out.size)
    have b4z := HB4.out.keep z.h
    have b6z := HB6.out.keep z.h
    have hptz := HPY.out.keep z.h
    have hrsz := range_keep hrsY hgs z.h
    obtain ⟨Z, hZ⟩ : ∃ Z, Z = z.w := ⟨_, rfl⟩
    rw [← hZ] at hC BZ b4z b6z hptz hrsz ⊢
    have HC := Lib.hid hC
    have HBZ := Lib.hid BZ
    have HPZ := Lib.hid hptz
    have hul := (HIN.out.1.len)
    clear hF hZ z f34 f0 HIN3 hrsY c34Y l4Y l6 d0
    try simp only [Act.put, List.setIfInBounds_toArray, List.set_cons_succ, List.set_cons_zero]
    go_upto_region 10 with (fail)
    obtain ⟨Al1, cl, hulz⟩ := hul
    rw [← HKK.out] at hulz
    have c34z := gw_cell (W := Z) b4z.lt (st_34 b4z hms)
    have e0 := gw_cell (W := Z) b6z.lt (show Z.cell? ⟨g6, 0, none⟩ = some (.int .i64 (lg : Int)) from (b6z.cell 0).trans rfl)
    have e1 := gw_cell (W := Z) b6z.lt (show Z.cell? ⟨g6, 1, none⟩ = some (.int .i64 (kk : Int)) from (b6z.cell 1).trans rfl)
    have e3 := gw_cell (W := Z) b6z.lt (show Z.cell? ⟨g6, 3, none⟩ = some (.slice Ap pn cp) from (b6z.cell 3).trans rfl)
    have hgz : gv < Z.heap.size := by
      obtain ⟨_, h1, h2⟩ := HC.out
      have := b4z.lt
      have := HBZ.out.size
      have hh := HBY.out.size
      omega
    have s0 := gw_cell (W := Z) hgz (show Z.cell? ⟨gv, ov + k * 2, none⟩ = some (.slice Al1 kk cl) from by have := hrsz 0 _ rfl; rw [hulz] at this; exact this)
    have HB6Z := Lib.hid b6z
    have h0p : ((pn : Int) == 0) = false := by simp; omega
    clear hrsz b4z b6z hgz hulz
    refine wp_region_rg 25 [] (by kernel_rfl) (by kernel_rfl) (by kernel_rfl) trivial ?_
    iterate 25 (refine rg_det rfl rfl rfl (fun K hK => ?_); go_big_quiet_op; refine hK _ ?_; clear hK K)
    refine rg_nil (fun w' hw' hF => ?_)
    obtain ⟨z, rfl⟩ := hw'
    simp only [List.drop_succ_cons, List.drop_zero]
    have BZ2 := HBZ.out.trans (z.h.mono HBZ.out.size)
    have HB6 := Lib.hid (HB6Z.out.keep z.h)
    have HPZ2 := Lib.hid (HPZ.out.keep z.h)
    have HCZ := Lib.hid (HC.out.keep z.h)
    obtain ⟨Z2, hZ⟩ : ∃ Z, Z = z.w := ⟨_, rfl⟩
    rw [← hZ] at BZ2 HB6 HPZ2 HCZ ⊢
    have HBZ2 := Lib.hid BZ2
    clear hF hZ z c34z e0 e1 e3 s0 BZ2 HB6Z HPZ HC HBZ
    go_upto_region 13 with (fail)
    go_loopw [9] (fun i wr => ∃ j : Nat, j ≤ pn ∧ i = .int .i64 j ∧ Below Z2.heap.size Z2 wr) (fun i _ => pn - (intOf i).toNat)
    case atStart => exact ⟨0, Nat.zero_le _, rfl, Below.refl _ _⟩
    case round =>
      obtain ⟨j, hj, rfl, hBj⟩ := hrel
      have b6 := HB6.out.keep hBj
      have e3 : wr.cell? ⟨g6, 3, none⟩ = some (.slice Ap pn cp) := (b6.cell 3).trans rfl
      have e0 : wr.cell? ⟨g6, 0, none⟩ = some (.int .i64 (lg : Int)) := (b6.cell 0).trans rfl
      have l6 := b6.lt
      by_cases hlj : j < pn
      rotate_left 1
      · obtain rfl : j = pn := by omega
        have hBz := HBZ2.out.trans (hBj.mono HBZ2.out.size)
        clear hBj b6 e0
        go_wp2_with fail
        exact ⟨⟨k + 1, by omega, by go_num, hBz⟩, by simp [intOf]; omega⟩
      obtain ⟨p, hp⟩ : ∃ p, pts[j]? = some p := ⟨_, List.getElem?_eq_getElem (by rw [← HPN.out]; exact hlj)⟩
      obtain ⟨gp, op, cpp, rp, vp, hv, -, hgp, y0, y1, -, hRp, hVp⟩ := (HPZ2.out.keep hBj).at hp
      rw [← HPN.out] at hv
      cases hv
      obtain ⟨hR, hV, -⟩ := HPT.out j p hp
      have hRl : p.R.length = lg := by rw [hR, coordM_length]
      have hVl : p.V.length = 5 := by rw [hV]; simp [valsM]
      obtain ⟨Ar, cr, rfl⟩ := Rd.len hRp
      obtain ⟨Av, cvv, rfl⟩ := Rd.len hVp
      rw [hRl] at y0
      rw [hVl] at y1
      have f3 := gw_cell (W := wr) l6 e3
      have f0 := gw_cell (W := wr) l6 e0
      have r0 := gw_cell (W := wr) hgp y0
      have v0 := gw_cell (W := wr) hgp y1
      have HY0 := Lib.hid y0
      have HY1 := Lib.hid y1
      have HBJ := Lib.hid hBj
      have HRP := Lib.hid hRp
      have HVP := Lib.hid hVp
      have HRL := Lib.hid hRl
      have HVL := Lib.hid hVl
      have HVV := Lib.hid hV
      clear y0 y1 hBj hRp hVp hRl hVl hV hR hp
      go_upto_region 15 with (fail)
      refine wp_region_rg 20 [] (by kernel_rfl) (by kernel_rfl) (by kernel_rfl) trivial ?_
      iterate 20 (refine rg_det rfl rfl rfl (fun K hK => ?_); go_big_quiet_op; refine hK _ ?_; clear hK K)
      refine rg_nil (fun w' hw' hF => ?_)
      obtain ⟨z, rfl⟩ := hw'
      simp only [List.drop_succ_cons, List.drop_zero]
      have BJ2 := HBJ.out.trans (z.h.mono HBJ.out.size)
      have hy0 := (z.h.cell (p := ⟨gp, op + j * 3, none⟩) hgp).trans HY0.out
      have hy1 := (z.h.cell (p := ⟨gp, op + j * 3 + 1, none⟩) hgp).trans HY1.out
      have hRz := HRP.out.keep z.h
      have hVz := HVP.out.keep z.h
      have b6z := b6.keep z.h
      have hgz := Nat.lt_of_lt_of_le hgp z.h.size
      have HCJ := Lib.hid (HCZ.out.keep BJ2)
      obtain ⟨Z3, hZ⟩ : ∃ Z, Z = z.w := ⟨_, rfl⟩
      rw [← hZ] at BJ2 hy0 hy1 hRz hVz b6z hgz HCJ ⊢
      have HBJ2 := Lib.hid BJ2
      have HA0 := Lib.hid hy0
      have HA1 := Lib.hid hy1
      have HRZ := Lib.hid hRz
      have HVZ := Lib.hid hVz
      have HB6Z := Lib.hid b6z
      clear hF hZ z f3 f0 r0 v0 HY0 HY1 HBJ HRP HVP BJ2 hy0 hy1 hRz hVz b6z b6 e3 e0 l6 hgp
      go_upto_region 18 with (fail)
      go_loopw [10] (fun i wr => ∃ c : Nat, c ≤ 5 ∧ i = .int .i64 c ∧ Below Z3.heap.size Z3 wr) (fun i _ => 5 - (intOf i).toNat)
      case atStart => exact ⟨0, Nat.zero_le _, rfl, Below.refl _ _⟩
      case round =>
        obtain ⟨c, hc, rfl, hBc⟩ := hrel
        by_cases hlc : c < 5
        rotate_left 1
        · obtain rfl : c = 5 := by omega
          have hBz := HBJ2.out.trans (hBc.mono HBJ2.out.size)
          clear hBc
          go_wp2_with fail
          exact ⟨⟨j + 1, by omega, by go_num, hBz⟩, by simp [intOf]; omega⟩
        obtain ⟨vs, hv1, hv2⟩ := HCJ.out.keep hBc
        obtain ⟨uz, zs, hu, hz, hinz⟩ := hv2.get (k := c) (by rw [cols5_len]; exact hlc)
        have hv5 : vs.length = 5 := hv2.1.trans (cols5_len _ _)
        obtain ⟨gc, oc, cc, hv, hcc, hgc, hcell⟩ := hv1.form (by omega)
        rw [hv5] at hv
        cases hv
        have hzs : zs = colZ c lg s1 := by
          have : (cols5 lg s1)[c]? = some (colZ c lg s1) := by simp [cols5, hlc]
          exact Option.some.inj (hz.symm.trans this)
        subst hzs
        obtain ⟨Az, cz, rfl⟩ := Rd.len hinz
        obtain ⟨M, hM⟩ : ∃ M, M = 2 ^ lg := ⟨_, rfl⟩
        have hM8 : M ≤ 8 := by rw [hM]; exact pow3 lg hl3
        have hcz : wr.cell? ⟨gc, oc + c, none⟩ = some (.slice Az M cz) := by
          have := hcell c _ hu
          rwa [colZ_len, ← hM] at this
        obtain ⟨xs, hxs⟩ : ∃ xs, xs = colM c lg s1 := ⟨_, rfl⟩
        have hxl : xs.length = M := by rw [hxs, hM]; exact colM_length _ _ _
        obtain ⟨y, hy⟩ : ∃ y, y = mev xs p.R := ⟨_, rfl⟩
        have hyV : p.V[c]? = some y := by rw [HVV.out, hy, hxs]; simp [valsM, hlc]
        have HLI := Lib.hid (show ∀ W1, Below wr.heap.size wr W1 → Calls Tryz.prog 41 #[.slice Az M cz] W1 (RetR (ExtA xs) W1) from fun W1 hW => by
          have := gLift (colZ c lg s1) (by rw [colZ_len, ← hM]; omega) _ _ _ W1 (Rd.keep hinz hW) (colZ_rng c lg s1 HRD.out)
          rwa [lft_col, ← hxs, colZ_len, ← hM] at this)
        have HEV := Lib.hid (show ∀ W1 v lo hi, Below wr.heap.size wr W1 → ExtS lo hi W1 v xs → Calls Tryz.prog 40 #[v, .slice Ar lg cr] W1 (Ret (.agg #[.int .u64 (fv y.a), .int .u64 (fv y.b)]) W1) from fun W1 v lo hi hW h => by
          have := gEval xs p.R (by rw [hxl, hM, HRL.out]) (by rw [HRL.out]; omega) v _ lo hi _ _ W1 h (Rd.keep (HRZ.out.keep hBc) hW) hW.size
          rwa [← hy, HRL.out] at this)
        have HFT := Lib.hid (show Fit (ExtA xs) (SlF M) from by have := fit_ext (xs := xs); rwa [hxl] at this)
        obtain ⟨gx, ox, cx, hv, -, -, -, hgx, q5⟩ := exts_cells (HVZ.out.keep hBc) (by rw [HVL.out]; decide)
        rw [HVL.out] at hv
        cases hv
        obtain ⟨w0, w1⟩ := q5 c y hyV
        have b6 := HB6Z.out.keep hBc
        have e3 := gw_cell (W := wr) b6.lt (show wr.cell? ⟨g6, 3, none⟩ = some (.slice (some ⟨gp, op, none⟩) pn cp) from (b6.cell 3).trans rfl)
        have hgq := Nat.lt_of_lt_of_le hgz hBc.size
        have r0 := gw_cell (W := wr) hgq ((hBc.cell (p := ⟨gp, op + j * 3, none⟩) hgz).trans HA0.out)
        have v0 := gw_cell (W := wr) hgq ((hBc.cell (p := ⟨gp, op + j * 3 + 1, none⟩) hgz).trans HA1.out)
        have cz0 := gw_cell (W := wr) hgc hcz
        have x0 := gw_cell (W := wr) hgx w0
        have x1 := gw_cell (W := wr) hgx w1
        have HBC := Lib.hid hBc
        clear hv1 hv2 hu hz hinz hcell hcz hM hxs hxl hy hyV q5 w0 w1 b6 hBc hv5 hcc
        go_upto_region 20 with (fail)
        refine wp_region_rg 22 [(4, Spec.rel (ExtA xs) (SlF M)), (11, Spec.val (.agg #[.int .u64 (fv (y).a), .int .u64 (fv (y).b)]))] (by kernel_rfl) (by kernel_rfl) (by kernel_rfl) ⟨HFT.out, trivial⟩ ?_
        iterate 4 (refine rg_det rfl rfl rfl (fun K hK => ?_); go_big_quiet_op; refine hK _ ?_; clear hK K)
        refine rg_rel rfl rfl (fun W1 hW1 hF => step_callr en_attestor_mle_Lift (HLI.out W1 (grw_below hW1)) rfl rfl) ?_
        intro n4 m4 v4 hn4 hm4 hd4 hf4 a' ha
        simp only [Act.put, List.setIfInBounds_toArray, List.set_cons_succ, List.set_cons_zero] at ha
        subst ha
        obtain ⟨A4, cap4, rfl⟩ := hf4
        iterate 6 (refine rg_det rfl rfl rfl (fun K hK => ?_); go_big_quiet_op; refine hK _ ?_; clear hK K)
        refine rg_val rfl rfl (fun W1 hW1 hF => step_callv en_attestor_mle_Eval (HEV.out W1 _ _ _ (grw_below hW1) (pick_last hF (by kernel_rfl)).2) rfl rfl) ?_
        intro a' ha
        simp only [Act.put, List.setIfInBounds_toArray, List.set_cons_succ, List.set_cons_zero] at ha
        subst ha
        iterate 10 (refine rg_det rfl rfl rfl (fun K hK => ?_); go_big_quiet_op; refine hK _ ?_; clear hK K)
        refine rg_nil (fun w' hw' hF => ?_)
        obtain ⟨z, rfl⟩ := hw'
        simp only [List.drop_succ_cons, List.drop_zero]
        clear hF
        go_wp2_with fail
        exact ⟨⟨c + 1, by omega, by go_num, HBC.out.trans (z.h.mono HBC.out.size)⟩, by simp [intOf]; omega⟩
end Go.Proofs.YtoiampgfnidfdaaGreatDoor
