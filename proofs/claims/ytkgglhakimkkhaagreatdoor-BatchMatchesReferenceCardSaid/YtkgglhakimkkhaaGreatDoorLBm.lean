/-
  BatchMatchesReference: the walk.
-/
import Derived.Test.YtkgglhakimkkhaaGreatDoorVb9
import Derived.Test.YtkgglhakimkkhaaGreatDoorSm21
import Derived.Test.YtkgglhakimkkhaaGreatDoorMr21
import Derived.Test.YtkgglhakimkkhaaGreatDoorEqT
namespace Go.Proofs.YtkgglhakimkkhaaGreatDoor
open Go.RowKit

theorem vfyB_form (us : List ClW) (r : E) (gs : List (List E)) (co : List E) (V : E) (A0 : Option Addr) (c0 : Nat) : ∃ (p : List E) (y : E) (A : Option Addr) (c : Nat) (e : Int), vfyB us r gs co V A0 c0 = .tuple #[.agg #[.slice A p.length c, .int .u64 (fv y.a), .int .u64 (fv y.b)], .int .i64 e] ∧ ((p = [] ∧ A = none ∧ c = 0) ∨ (p = co ∧ A = A0 ∧ c = c0)) := by
  unfold vfyB
  split
  · exact ⟨[], 0, none, 0, _, rfl, .inl ⟨rfl, rfl, rfl⟩⟩
  · split
    · exact ⟨[], 0, none, 0, _, rfl, .inl ⟨rfl, rfl, rfl⟩⟩
    · exact ⟨co, V, A0, c0, _, rfl, .inr ⟨rfl, rfl, rfl⟩⟩
def MkR (st : List Nat) (T0 : List (List E)) (n : Nat) (w : World) (y : E) (v : Value) (w' : World) : Prop := ∃ v1 A cap, v = .tuple #[v1, clV (⟨(mkIt st T0 n).C, y⟩, (A, cap)), tsV (mkIt st T0 n).st 1] ∧ TabS w.heap.size w'.heap.size w' v1 (mkIt st T0 n).R ∧ ExtS w.heap.size w'.heap.size w' (.slice A n cap) (mkIt st T0 n).C ∧ Below w.heap.size w w'
def DrR (st : List Nat) (gs : List (List E)) (w : World) (v : Value) (w' : World) : Prop := ∃ A cap, v = .tuple #[fdV (rhT st) (drC st gs) A cap, tsV (drS st gs) 1] ∧ ExtS w.heap.size w'.heap.size w' (.slice A (drC st gs).length cap) (drC st gs) ∧ Below w.heap.size w w'
attribute [local irreducible] wpRg
set_option maxRecDepth 100000 in
set_option maxHeartbeats 8000000 in
theorem wkBatchMatches (q : Q21) (vT vL vC : Value) (l : List (List Raw)) (vl : Value) (x : Raw) (hx : Word x.1 ∧ Word x.2) (w : World) (h : Q21S w.heap.size w q vT vL vC) (hl : RTabS 0 w.heap.size w vl l) (hL : Laid w) (hS : Lsh w) :
    Calls Tryz.prog 3 #[qv21 vT vL vC q, vl, .agg #[.int .u64 x.1, .int .u64 x.2]] w (Ret (.bool true) w) := by
  have HQ := Lib.hid (fun W (hW : Below w.heap.size w W) => gProblem q vT vL vC W (h.keep hW))
  have HL := Lib.hid (fun W (hW : Below w.heap.size w W) => hL.keep hW)
  have HLs := Lib.hid (fun W (hW : Below w.heap.size w W) => hS.keep hW)
  have hk4 := q.hk
  have HT := Lib.hid q.ht
  have HC := Lib.hid q.hc
  have HU := Lib.hid (fun us => @Q21.us q us)
  have hp4 : 2 ^ q.k ≤ 2 ^ 4 := Nat.pow_le_pow_right (by decide) hk4
  have hp0 : 0 < 2 ^ q.k := Nat.two_pow_pos _
  have HM := Lib.hid (fun W (hW : Below w.heap.size w W) => rMadeRoundsO l q.k 3 (by omega) (by decide) vl 0 w.heap.size W (hl.keep hW))
  have HMl := Lib.hid (mdR_length l q.k 3)
  have HMr := Lib.hid (show ∀ g ∈ mdR l q.k 3, g.length = 3 from fun g hg => by
    obtain ⟨i, _, rfl⟩ := List.mem_map.1 hg
    exact madeAll_length _ _)
  obtain ⟨Al, cl, rfl⟩ := hl.len
  unfold qv21 at *
  generalize mdR l q.k 3 = gs at *
  clear h hL hl hS
  go_enter Tryz.func3, Tryz.ntmps3
  go_upto_region 1 with (fail)
  refine wp_stk2 fun W1 hB1 hz1 b3 b5 => ?_
  go_wp2_with fail
  refine (lSanity21 W1 (HL.out _ hB1)).mono ?_
  rintro e w1 ⟨rfl, hb1⟩
  have h1 := hB1.trans (hb1.mono hB1.size)
  have f1 := (b3.keep hb1).cell
  have b51 := b5.keep hb1
  have hs1 : w.heap.size + 1 + 1 ≤ w1.heap.size := by have := hz1.out; have := hb1.size; omega
  go_wp2_with fail
  refine (HQ.out w1 h1).mono ?_
  rintro e w2 ⟨v1, v2, AC, cc, us, rfl, T2, U2, hus, C2, hb2⟩
  obtain ⟨hup, hun⟩ := HU.out us hus
  have h2 := h1.trans (hb2.mono h1.size)
  have b52 := b51.keep hb2
  have hs12 := hb2.size
  clear f1 HQ HU hus b3 b5 b51 hz1 hB1 hb1
  generalize q.t = T at *
  generalize q.c = co at *
  generalize q.r = r at *
  generalize q.k = k at *
  obtain ⟨AT, cT, rfl⟩ := Rd.len T2
  obtain ⟨AU, cU, rfl⟩ := U2.len
  go_upto_region 3 with (fail)
  refine wp_stk1 fun W3 hB3 hz3 b10 => ?_
  have hs3 : W3.heap.size = w2.heap.size + 1 := hz3.out
  have h3 := h2.trans (hB3.mono h2.size)
  have f3 := b10.cell
  clear hz3
  go_wp2_with fail
  have hus4 : us.length ≤ 1000 := by omega
  have U3 := U2.keep hB3
  have T3 := Rd.keep T2 hB3
  have C3 := Rd.keep C2 hB3
  have b53 := b52.keep hB3
  have hpu : ∀ x ∈ us, 2 ^ x.1.p.length = T.length := fun x hx => by rw [hup x hx, HT.out]
  refine (gSumB T us r (.slice AT T.length cT) (.slice AU us.length cU) _ _ _ _ W3 hB3.size hB3.size T3 U3 (by rw [HT.out]; omega) (by rw [HT.out]; omega) hpu (HL.out _ h3)).mono ?_
  rintro e w4 ⟨v3, v4, rfl, S1, hb4⟩
  replace S1 : SumS 0 w4.heap.size w4 v3 v4 (tabB T us r) trmB := S1
  have HTB := Lib.hid (show (tabB T us r).length = 2 from rfl)
  have HTA := Lib.hid (show (tabB T us r)[0]? = some T from rfl)
  have HT1 := Lib.hid (show ∃ a, (tabB T us r)[1]? = some a from ⟨_, rfl⟩)
  have hvb : cmbE (fun c => c.v) (pwL r 1 us) = valB us r := rfl
  rw [hvb]
  clear hvb
  obtain ⟨A1, c1, hv⟩ := S1.ht.len
  rw [HTB.out] at hv
  subst hv
  obtain ⟨A2, c2, hv⟩ := S1.hp.len
  rw [show trmB.length = 1 from rfl] at hv
  subst hv
  obtain ⟨yv, hyv⟩ : ∃ yv, yv = valB us r := ⟨_, rfl⟩
  rw [← hyv]
  have HY := Lib.hid hyv
  clear hyv f3 hb2 T2 U2 C2 b52
  have h4 := h3.trans (hb4.mono h3.size)
  have hs4 := hb4.size
  have U4 := U3.keep hb4
  have T4 := Rd.keep T3 hb4
  have C4 := Rd.keep C3 hb4
  have b54 := b53.keep hb4
  have b104 := b10.keep hb4
  clear U3 T3 C3 b53 b10
  unfold sv ev
  go_upto_region 4 with (fail)
  refine wp_stk2 fun W5 hB5 hz5 b11 b12 => ?_
  have b11' : Blk W5 w4.heap.size 37 #[.slice A1 2 c1, .slice A2 1 c2] := b11
  have b12' : Blk W5 (w4.heap.size + 1) 26 (ec yv).toArray := b12
  have hs5 : W5.heap.size = w4.heap.size + 1 + 1 := hz5.out
  have h5 := h4.trans (hB5.mono h4.size)
  have U5 := U4.keep hB5
  have T5 := Rd.keep T4 hB5
  have C5 := Rd.keep C4 hB5
  have b55 := b54.keep hB5
  have b105 := b104.keep hB5
  have f5 := b105.cell
  have S5 := S1.ht.keep hB5
  clear U4 T4 C4 b54 b104 b11 b12 hz5 S1
  go_wp2_with fail
  refine (rSumB T us r k (by omega) (.slice AT T.length cT) (.slice AU us.length cU) _ _ _ _ W5 T5 U5 HT.out hup).mono ?_
  rintro e w6 ⟨v5, v6, rfl, S2, hb6⟩
  replace S2 : SumS 0 w6.heap.size w6 v5 v6 (tabB T us r) trmB := S2
  rw [← HY.out]
  obtain ⟨A3, c3, hv⟩ := S2.ht.len
  rw [HTB.out] at hv
  subst hv
  obtain ⟨A4, c4, hv⟩ := S2.hp.len
  rw [show trmB.length = 1 from rfl] at hv
  subst hv
  have h6 := h5.trans (hb6.mono h5.size)
  have hs6 := hb6.size
  have U6 := U5.keep hb6
  have T6 := Rd.keep T5 hb6
  have C6 := Rd.keep C5 hb6
  have b56 := b55.keep hb6
  have b106 := b105.keep hb6
  have b116 := b11'.keep hb6
  have b126 := b12'.keep hb6
  have S6 := S5.keep hb6
  clear U5 T5 C5 b55 b105 b11' b12' S5 f5
  unfold sv ev
  go_upto_region 5 with (fail)
  refine wp_stk2 fun W7 hB7 hz7 b13 b14 => ?_
  have b137 : Blk W7 w6.heap.size 37 #[.slice A3 2 c3, .slice A4 1 c4] := b13
  have b147 : Blk W7 (w6.heap.size + 1) 26 (ec yv).toArray := b14
  have hs7 : W7.heap.size = w6.heap.size + 1 + 1 := hz7.out
  have h7 := h6.trans (hB7.mono h6.size)
  have U7 := U6.keep hB7
  have T7 := Rd.keep T6 hB7
  have C7 := Rd.keep C6 hB7
  have b57 := b56.keep hB7
  have b107 := b106.keep hB7
  have b117 := b116.keep hB7
  have b127 := b126.keep hB7
  have S7 := S6.keep hB7
  have R7 := S2.ht.keep hB7
  have f7 := b107.cell
  clear U6 T6 C6 b56 b106 b116 b126 S6 S2 b13 b14 hz7
  go_wp2_with fail
  refine (gProveB T us r co k HC.out (by omega) AC cc _ _ _ _ _ _ _ _ W7 (by omega) (by omega) T7 U7 C7 HT.out hpu (HL.out _ h7)).mono ?_
  rintro e w8 ⟨v7, rfl, P1, hb8⟩
  have hP : (prvV (tabB T us r) co).getD 0 0 = mev T co := by rw [prvV_mev]; rfl
  rw [hP]
  clear hP
  have HPl := Lib.hid (show (prvR (tabB T us r) trmB co).length = k by rw [prvR_length, HC.out])
  obtain ⟨A7, c7x, hv⟩ := P1.len
  rw [HPl.out] at hv
  subst hv
  have h8 := h7.trans (hb8.mono h7.size)
  have hs8 := hb8.size
  have U8 := U7.keep hb8
  have T8 := Rd.keep T7 hb8
  have C8 := Rd.keep C7 hb8
  have b58 := b57.keep hb8
  have b108 := b107.keep hb8
  have b118 := b117.keep hb8
  have b128 := b127.keep hb8
  have b138 := b137.keep hb8
  have b148 := b147.keep hb8
  have S8 := S7.keep hb8
  have R8 := R7.keep hb8
  clear U7 T7 C7 b57 b107 b117 b127 b137 b147 S7 R7 f7
  unfold clV clc ptV
  dsimp only
  go_upto_region 6 with (fail)
  refine wp_stk1 fun W9 hB9 hz9 b16 => ?_
  have hs9 : W9.heap.size = w8.heap.size + 1 := hz9.out
  have h9 := h8.trans (hB9.mono h8.size)
  have U9 := U8.keep hB9
  have T9 := Rd.keep T8 hB9
  have C9 := Rd.keep C8 hB9
  have b59 := b58.keep hB9
  have b109 := b108.keep hB9
  have b119 := b118.keep hB9
  have b129 := b128.keep hB9
  have b139 := b138.keep hB9
  have b149 := b148.keep hB9
  have S9 := S8.keep hB9
  have R9 := R8.keep hB9
  have P9 := P1.keep hB9
  have f9 := b109.cell
  clear U8 T8 C8 b58 b108 b118 b128 b138 b148 S8 R8 P1 hz9
  go_wp2_with fail
  refine (rProveB T us r co k HC.out (by omega) AC cc _ _ _ _ _ _ _ _ W9 T9 U9 C9 HT.out hup).mono ?_
  rintro e wA ⟨v8, rfl, P2, hbA⟩
  obtain ⟨A8, c8x, hv⟩ := P2.len
  rw [HPl.out] at hv
  subst hv
  have hA := h9.trans (hbA.mono h9.size)
  have hsA := hbA.size
  have UA := U9.keep hbA
  have TA := Rd.keep T9 hbA
  have CA := Rd.keep C9 hbA
  have b5A := b59.keep hbA
  have b10A := b109.keep hbA
  have b11A := b119.keep hbA
  have b12A := b129.keep hbA
  have b13A := b139.keep hbA
  have b14A := b149.keep hbA
  have b16A := b16.keep hbA
  have SA := S9.keep hbA
  have RA := R9.keep hbA
  have PA := P9.keep hbA
  clear U9 T9 C9 b59 b109 b119 b129 b139 b149 b16 S9 R9 P9 f9
  unfold clV clc ptV
  dsimp only
  go_upto_region 7 with (fail)
  refine wp_stk1 fun WB hBB hzB b18 => ?_
  have hsB : WB.heap.size = wA.heap.size + 1 := hzB.out
  have hB := hA.trans (hBB.mono hA.size)
  have UB := UA.keep hBB
  have TB := Rd.keep TA hBB
  have CB := Rd.keep CA hBB
  have b5B := b5A.keep hBB
  have b10B := b10A.keep hBB
  have b11B := b11A.keep hBB
  have b12B := b12A.keep hBB
  have b13B := b13A.keep hBB
  have b14B := b14A.keep hBB
  have b16B := b16A.keep hBB
  have SB := SA.keep hBB
  have RB := RA.keep hBB
  have PB := PA.keep hBB
  have QB := P2.keep hBB
  clear UA TA CA b5A b10A b11A b12A b13A b14A b16A SA RA PA P2 hzB
  have b12B' : Blk WB (w4.heap.size + 1) 26 #[.int .u64 (fv yv.a), .int .u64 (fv yv.b)] := b12B
  have b14B' : Blk WB (w6.heap.size + 1) 26 #[.int .u64 (fv yv.a), .int .u64 (fv yv.b)] := b14B
  obtain ⟨a1, ha1⟩ := HT1.out
  obtain ⟨g1, o1, k1, hv, -, -, -, l1, q1⟩ := tabs_cells SB (by rw [HTB.out]; decide)
  rw [HTB.out] at hv
  cases hv
  obtain ⟨B0, d0, r0, E0⟩ := q1 0 T HTA.out
  obtain ⟨B1, d1, r1, E1⟩ := q1 1 a1 ha1
  obtain ⟨g3, o3, k3, hv, -, -, -, l3, q3⟩ := tabs_cells RB (by rw [HTB.out]; decide)
  rw [HTB.out] at hv
  cases hv
  obtain ⟨B3, d3, r3, E3⟩ := q3 1 a1 ha1
  simp only [Nat.add_zero] at r0
  have y0 := gw_cell l1 r0
  have y1 := gw_cell l1 r1
  have y3 := gw_cell l3 r3
  have z10 := gw_blk b10B
  have z11 := gw_blk b11B
  have z12 := gw_blk b12B'
  have z13 := gw_blk b13B
  have z14 := gw_blk b14B'
  have z16 := gw_blk b16B
  have z18 := gw_blk b18
  have HE0 := Lib.hid E0
  have HE1 := Lib.hid E1
  have HE3 := Lib.hid E3
  have HTx := Lib.hid TB
  have HPB := Lib.hid PB
  have HQB := Lib.hid QB
  obtain ⟨wg, hwg⟩ : ∃ wg, wg = wgtC us r co := ⟨_, rfl⟩
  have HWg := Lib.hid (fun W1 (hW : Below WB.heap.size WB W1) => show Calls Tryz.prog 13 #[.slice AU us.length cU, ev r, .slice AC co.length cc] W1 (Ret (ev wg) W1) from hwg ▸ gWeightB us r co _ _ _ _ _ _ W1 (by have := hW.size; omega) (UB.keep hW) (Rd.keep CB hW) (fun x hx => by rw [HC.out, hup x hx]) (HL.out _ (hB.trans (hW.mono hB.size))))
  have HWr := Lib.hid (fun W1 (hW : Below WB.heap.size WB W1) => show Calls Tryz.prog 14 #[.slice AU us.length cU, ev r, .slice AC co.length cc] W1 (Ret (ev wg) W1) from hwg ▸ rWeightB us r co _ _ _ _ _ _ W1 (UB.keep hW) (Rd.keep CB hW) (fun x hx => by rw [HC.out, hup x hx]))
  have HS2 := Lib.hid (fun W1 (hW : Below WB.heap.size WB W1) => show Calls Tryz.prog 12 #[.agg #[.slice AC co.length cc, .int .u64 (fv (mev T co).a), .int .u64 (fv (mev T co).b)], .agg #[.slice AC co.length cc, .int .u64 (fv (mev T co).a), .int .u64 (fv (mev T co).b)]] W1 (Ret (.bool true) W1) from rSame21 co (mev T co) AC AC cc cc _ _ _ _ W1 (Rd.keep CB hW) (Rd.keep CB hW))
  have HUB := Lib.hid UB
  have HCB := Lib.hid CB
  clear hwg q1 q3 r0 r1 r3 E0 E1 E3 TB PB QB SB RB ha1 UB CB b12B b14B
  go_upto_region 7 with (fail)
  refine wp_region_rg 63 [(16, Spec.val (.bool true)), (28, Spec.val (.bool true)), (39, Spec.val (.bool true)), (45, Spec.val (.bool true)), (54, Spec.val (.agg #[.int .u64 (fv (wg).a), .int .u64 (fv (wg).b)])), (60, Spec.val (.agg #[.int .u64 (fv (wg).a), .int .u64 (fv (wg).b)]))] (by kernel_rfl) (by kernel_rfl) (by kernel_rfl) trivial ?_
  iterate 16 (refine rg_det rfl rfl rfl (fun K hK => ?_); go_big_quiet_op; refine hK _ ?_; clear hK K)
  refine rg_val rfl rfl (fun W1 hW1 hF => step_callv en_attestor_attestorref03_Same (xSame3 T _ _ _ _ _ _ W1 (Rd.keep HE0.out (grw_below hW1)) (Rd.keep HTx.out (grw_below hW1))) rfl rfl) ?_
  intro a' ha
  simp only [Act.put, List.setIfInBounds_toArray, List.set_cons_succ, List.set_cons_zero] at ha
  subst ha
  iterate 11 (refine rg_det rfl rfl rfl (fun K hK => ?_); go_big_quiet_op; refine hK _ ?_; clear hK K)
  refine rg_val rfl rfl (fun W1 hW1 hF => step_callv en_attestor_attestorref03_Same (xSame3 a1 _ _ _ _ _ _ W1 (Rd.keep HE1.out (grw_below hW1)) (Rd.keep HE3.out (grw_below hW1))) rfl rfl) ?_
  intro a' ha
  simp only [Act.put, List.setIfInBounds_toArray, List.set_cons_succ, List.set_cons_zero] at ha
  subst ha
  iterate 10 (refine rg_det rfl rfl rfl (fun K hK => ?_); go_big_quiet_op; refine hK _ ?_; clear hK K)
  refine rg_val rfl rfl (fun W1 hW1 hF => step_callv en_attestor_attestorref06_SameRounds (rSameR _ _ _ _ _ _ _ W1 (HPB.out.keep (grw_below hW1)) (HQB.out.keep (grw_below hW1))) rfl rfl) ?_
  intro a' ha
  simp only [Act.put, List.setIfInBounds_toArray, List.set_cons_succ, List.set_cons_zero] at ha
  subst ha
  iterate 5 (refine rg_det rfl rfl rfl (fun K hK => ?_); go_big_quiet_op; refine hK _ ?_; clear hK K)
  refine rg_val rfl rfl (fun W1 hW1 hF => step_callv en_attestor_attestorref21_Same (HS2.out W1 (grw_below hW1)) rfl rfl) ?_
  intro a' ha
  simp only [Act.put, List.setIfInBounds_toArray, List.set_cons_succ, List.set_cons_zero] at ha
  subst ha
  iterate 8 (refine rg_det rfl rfl rfl (fun K hK => ?_); go_big_quiet_op; refine hK _ ?_; clear hK K)
  refine rg_val rfl rfl (fun W1 hW1 hF => step_callv en_attestor_batch_Weight (HWg.out W1 (grw_below hW1)) rfl rfl) ?_
  intro a' ha
  simp only [Act.put, List.setIfInBounds_toArray, List.set_cons_succ, List.set_cons_zero] at ha
  subst ha
  iterate 5 (refine rg_det rfl rfl rfl (fun K hK => ?_); go_big_quiet_op; refine hK _ ?_; clear hK K)
  refine rg_val rfl rfl (fun W1 hW1 hF => step_callv en_attestor_attestorref21_Weight (HWr.out W1 (grw_below hW1)) rfl rfl) ?_
  intro a' ha
  simp only [Act.put, List.setIfInBounds_toArray, List.set_cons_succ, List.set_cons_zero] at ha
  subst ha
  iterate 2 (refine rg_det rfl rfl rfl (fun K hK => ?_); go_big_quiet_op; refine hK _ ?_; clear hK K)
  refine rg_nil (fun w' hw' hF => ?_)
  obtain ⟨zr, rfl⟩ := hw'
  simp only [List.append_eq, List.cons_append, List.nil_append, List.drop_succ_cons, List.drop_zero]
  have hC := hB.trans (zr.h.mono hB.size)
  have hsC := zr.h.size
  have UC := HUB.out.keep zr.h
  have TC := Rd.keep HTx.out zr.h
  have CC := Rd.keep HCB.out zr.h
  have b5C := b5B.keep zr.h
  have b10C := b10B.keep zr.h
  have b12C := b12B'.keep zr.h
  generalize zr.w = WC at *
  clear hF y0 y1 y3 z10 z11 z12 z13 z14 z16 z18 HE0 HE1 HE3 HTx HPB HQB HWg HWr HS2 HUB HCB b5B b10B b11B b12B' b13B b14B' b16B b18 zr HTB HTA HT1 HPl
  have f10 := b10C.cell
  have f12 := b12C.cell
  go_wp2_with fail
  have HMc := Lib.hid (HM.out WC hC)
  rw [← HC.out] at HMc
  refine HMc.out.mono ?_
  rintro e wD ⟨v9, rfl, O1, hbD⟩
  replace O1 : RowO WC.heap.size wD v9 gs := O1
  clear HMc HM
  clear f10 f12
  have hgl := HMl.out
  have hgr := HMr.out
  clear HMl HMr
  rcases gs with _ | ⟨h0, rest⟩
  · obtain ⟨A19, c19, hv⟩ := O1.len
    rw [List.length_nil] at hv
    subst hv
    have hz : ¬ (0 : Int) < ((0 : Nat) : Int) := by decide
    go_upto_region 12 with (fail)
    clear hz
    obtain ⟨gs2, hgs2⟩ : ∃ gs2 : List (List E), gs2 = [] := ⟨_, rfl⟩
    have OY : RowO WC.heap.size wD (.slice A19 gs2.length c19) gs2 := by rw [hgs2]; exact O1
    have hgl2 : gs2.length = k := by rw [hgs2]; exact hgl
    have hgr2 : ∀ g ∈ gs2, g.length = 3 := by rw [hgs2]; exact hgr
    rw [show Value.slice A19 0 c19 = Value.slice A19 gs2.length c19 by rw [hgs2]; rfl]
    have hY := hbD
    clear hgs2 hgl hgr O1 hbD
    generalize wD = Y at *
    have TY := OY.tabs (by omega) (fun t ht => by rw [hgr2 t ht]; decide)
    have hYn := hC.trans (hY.mono hC.size)
    have UY := UC.keep hY
    have TTY := Rd.keep TC hY
    have CY := Rd.keep CC hY
    have b5Y := b5C.keep hY
    have b10Y := b10C.keep hY
    have hsY := hY.size
    obtain ⟨p2, y2, A20, c20, e20, hvf, hvc⟩ := vfyB_form us r gs2 co (em x.1 x.2) AC cc
    have HG := Lib.hid (fun W1 (hW : Below Y.heap.size Y W1) => show Calls Tryz.prog 17 #[.slice AU us.length cU, .slice (A19) gs2.length c19, .agg #[.int .u64 (fv r.a), .int .u64 (fv r.b), .slice AC co.length cc, .int .u64 (fv (em x.1 x.2).a), .int .u64 (fv (em x.1 x.2).b)]] W1 (Ret (.tuple #[.agg #[.slice A20 p2.length c20, .int .u64 (fv y2.a), .int .u64 (fv y2.b)], .int .i64 e20]) W1) from by
      have := gVerifyB us r gs2 co (em x.1 x.2) AC cc _ _ _ _ _ _ _ _ W1 (by have := hW.size; omega) (UY.keep hW) (Rd.keep CY hW) (TY.keep hW) (by omega) (fun x hx => by rw [HC.out, hup x hx]) (HL.out _ (hYn.trans (hW.mono hYn.size)))
      rwa [hvf] at this)
    have HR := Lib.hid (fun W1 (hW : Below Y.heap.size Y W1) => show Calls Tryz.prog 19 #[.slice AU us.length cU, .slice (A19) gs2.length c19, .agg #[.int .u64 (fv r.a), .int .u64 (fv r.b), .slice AC co.length cc, .int .u64 (fv (em x.1 x.2).a), .int .u64 (fv (em x.1 x.2).b)]] W1 (Ret (.tuple #[.agg #[.slice A20 p2.length c20, .int .u64 (fv y2.a), .int .u64 (fv y2.b)], .int .i64 e20]) W1) from by
      have := rVerifyB us r gs2 co (em x.1 x.2) AC cc _ _ _ _ _ _ _ _ W1 (UY.keep hW) (Rd.keep CY hW) (TY.keep hW) (fun x hx => by rw [HC.out, hup x hx])
      rwa [hvf] at this)
    clear hvf
    obtain ⟨xe, hxe⟩ : ∃ xe, xe = em x.1 x.2 := ⟨_, rfl⟩
    have HXm := Lib.hid (show ∀ W1, Calls Tryz.prog 18 #[.agg #[.int .u64 x.1, .int .u64 x.2]] W1 (Ret (ev xe) W1) from fun W1 => by rw [hxe]; exact xMade x.1 x.2 hx.1.1 hx.1.2 hx.2.1 hx.2.2 W1)
    rw [← hxe] at HG HR
    clear hxe
    obtain ⟨i0, hi0, iz0, iz1, iz2⟩ := info_parts clm_info
    apply join21 (Q := fun n X => Below Y.heap.size Y X ∧ Blk X n 42 #[.slice A20 p2.length c20, .int .u64 (fv y2.a), .int .u64 (fv y2.b)])
    case h =>
      intro kk
      have KK := Lib.hid kk
      clear kk
      go_upto_region 12 with (fail)
      have zA := gw_blk b5Y
      have zB := gw_blk b10Y
      refine wp_region_swap 11 9 undef [(4, Spec.val (.agg #[.int .u64 (fv (xe).a), .int .u64 (fv (xe).b)])), (6, Spec.val (.tuple #[.agg #[.slice A20 p2.length c20, .int .u64 (fv y2.a), .int .u64 (fv y2.b)], .int .i64 e20])), (10, Spec.rel (New 42 #[.slice none 0 0, .int .u64 0, .int .u64 0]) (NewF))] (by kernel_rfl) (by kernel_rfl) (by kernel_rfl) rfl rfl rfl rfl ⟨fit_new, trivial⟩ ?_ ?_
      iterate 4 (refine rg_det rfl rfl rfl (fun K hK => ?_); go_big_quiet_op; refine hK _ ?_; clear hK K)
      refine rg_val rfl rfl (fun W1 hW1 hF => step_callv en_attestor_attestorref02_Made (HXm.out W1) rfl rfl) ?_
      intro a' ha
      simp only [Act.put, List.setIfInBounds_toArray, List.set_cons_succ, List.set_cons_zero] at ha
      subst ha
      refine rg_det rfl rfl rfl (fun K hK => ?_)
      go_big_quiet_op
      refine hK _ ?_; clear hK K
      refine rg_val rfl rfl (fun W1 hW1 hF => step_callv en_attestor_batch_Verify (HG.out W1 (grw_below hW1)) rfl rfl) ?_
      intro a' ha
      simp only [Act.put, List.setIfInBounds_toArray, List.set_cons_succ, List.set_cons_zero] at ha
      subst ha
      iterate 3 (refine rg_det rfl rfl rfl (fun K hK => ?_); go_big_quiet_op; refine hK _ ?_; clear hK K)
      refine rg_rel rfl rfl (fun W1 hW1 hF => step_new hi0 iz0 rfl) ?_
      intro n10 m10 v10 hn10 hm10 hd10 hf10 a' ha
      simp only [Act.put, List.setIfInBounds_toArray, List.set_cons_succ, List.set_cons_zero] at ha
      subst ha
      obtain rfl := hf10
      refine rg_nil (fun w' hw' hF => ?_)
      obtain ⟨z, rfl⟩ := hw'
      simp only [List.drop_succ_cons, List.drop_zero]
      rotate_left 1
      iterate 4 (refine rg_det rfl rfl rfl (fun K hK => ?_); go_big_quiet_op; refine hK _ ?_; clear hK K)
      refine rg_val rfl rfl (fun W1 hW1 hF => step_callv en_attestor_attestorref02_Made (HXm.out W1) rfl rfl) ?_
      intro a' ha
      simp only [Act.put, List.setIfInBounds_toArray, List.set_cons_succ, List.set_cons_zero] at ha
      subst ha
      refine rg_det rfl rfl rfl (fun K hK => ?_)
      go_big_quiet_op
      refine hK _ ?_; clear hK K
      refine rg_val rfl rfl (fun W1 hW1 hF => step_callv en_attestor_batch_Verify (HG.out W1 (grw_below hW1)) rfl rfl) ?_
      intro a' ha
      simp only [Act.put, List.setIfInBounds_toArray, List.set_cons_succ, List.set_cons_zero] at ha
      subst ha
      iterate 2 (refine rg_det rfl rfl rfl (fun K hK => ?_); go_big_quiet_op; refine hK _ ?_; clear hK K)
      refine rg_pass rfl rfl ?_
      intro a' ha
      simp only [Act.put, List.setIfInBounds_toArray, List.set_cons_succ, List.set_cons_zero] at ha
      subst ha
      refine rg_rel rfl rfl (fun W1 hW1 hF => step_new hi0 iz0 rfl) ?_
      intro n10 m10 v10 hn10 hm10 hd10 hf10 a' ha
      simp only [Act.put, List.setIfInBounds_toArray, List.set_cons_succ, List.set_cons_zero] at ha
      subst ha
      obtain rfl := hf10
      refine rg_nil (fun w' hw' hF => ?_)
      obtain ⟨z, rfl⟩ := hw'
      simp only [List.drop_succ_cons, List.drop_zero]
      refine wpList_putS ?_
      intro a' ha
      simp only [Act.put, List.setIfInBounds_toArray, List.set_cons_succ, List.set_cons_zero] at ha
      subst ha
      rotate_right 1
      all_goals
        obtain ⟨hm10, -, hl10, bq⟩ := end_last hF
        have e1 := bq.cell
        have e2 := bq.frozen
        clear hF zA zB
        go_upto_region 13 with (fail)
        rename_i K hK
        refine set3B (M := fun W => Code.wp _ _ _ _ W) bq fun X1 hX1 bX1 => ?_
        revert K
        exact KK.out n10 X1 ⟨below_put z.h hX1 hn10, bX1⟩
    intro n20 X1 hQ1 K hK
    obtain ⟨BX1, b20⟩ := hQ1
    apply join21 (Q := fun n X => Below X1.heap.size X1 X ∧ Blk X n 42 #[.slice A20 p2.length c20, .int .u64 (fv y2.a), .int .u64 (fv y2.b)])
    case h =>
      intro kk
      have KK := Lib.hid kk
      clear kk
      go_upto_region 13 with (fail)
      have zA := gw_blk (b5Y.keep BX1)
      have zB := gw_blk (b10Y.keep BX1)
      refine wp_region_swap 11 9 undef [(4, Spec.val (.agg #[.int .u64 (fv (xe).a), .int .u64 (fv (xe).b)])), (6, Spec.val (.tuple #[.agg #[.slice A20 p2.length c20, .int .u64 (fv y2.a), .int .u64 (fv y2.b)], .int .i64 e20])), (10, Spec.rel (New 42 #[.slice none 0 0, .int .u64 0, .int .u64 0]) (NewF))] (by kernel_rfl) (by kernel_rfl) (by kernel_rfl) rfl rfl rfl rfl ⟨fit_new, trivial⟩ ?_ ?_
      iterate 4 (refine rg_det rfl rfl rfl (fun K hK => ?_); go_big_quiet_op; refine hK _ ?_; clear hK K)
      refine rg_val rfl rfl (fun W1 hW1 hF => step_callv en_attestor_attestorref02_Made (HXm.out W1) rfl rfl) ?_
      intro a' ha
      simp only [Act.put, List.setIfInBounds_toArray, List.set_cons_succ, List.set_cons_zero] at ha
      subst ha
      refine rg_det rfl rfl rfl (fun K hK => ?_)
      go_big_quiet_op
      refine hK _ ?_; clear hK K
      refine rg_val rfl rfl (fun W1 hW1 hF => step_callv en_attestor_attestorref21_Verify (HR.out W1 (BX1.trans ((grw_below hW1).mono BX1.size))) rfl rfl) ?_
      intro a' ha
      simp only [Act.put, List.setIfInBounds_toArray, List.set_cons_succ, List.set_cons_zero] at ha
      subst ha
      iterate 3 (refine rg_det rfl rfl rfl (fun K hK => ?_); go_big_quiet_op; refine hK _ ?_; clear hK K)
      refine rg_rel rfl rfl (fun W1 hW1 hF => step_new hi0 iz0 rfl) ?_
      intro n10 m10 v10 hn10 hm10 hd10 hf10 a' ha
      simp only [Act.put, List.setIfInBounds_toArray, List.set_cons_succ, List.set_cons_zero] at ha
      subst ha
      obtain rfl := hf10
      refine rg_nil (fun w' hw' hF => ?_)
      obtain ⟨z, rfl⟩ := hw'
      simp only [List.drop_succ_cons, List.drop_zero]
      rotate_left 1
      iterate 4 (refine rg_det rfl rfl rfl (fun K hK => ?_); go_big_quiet_op; refine hK _ ?_; clear hK K)
      refine rg_val rfl rfl (fun W1 hW1 hF => step_callv en_attestor_attestorref02_Made (HXm.out W1) rfl rfl) ?_
      intro a' ha
      simp only [Act.put, List.setIfInBounds_toArray, List.set_cons_succ, List.set_cons_zero] at ha
      subst ha
      refine rg_det rfl rfl rfl (fun K hK => ?_)
      go_big_quiet_op
      refine hK _ ?_; clear hK K
      refine rg_val rfl rfl (fun W1 hW1 hF => step_callv en_attestor_attestorref21_Verify (HR.out W1 (BX1.trans ((grw_below hW1).mono BX1.size))) rfl rfl) ?_
      intro a' ha
      simp only [Act.put, List.setIfInBounds_toArray, List.set_cons_succ, List.set_cons_zero] at ha
      subst ha
      iterate 2 (refine rg_det rfl rfl rfl (fun K hK => ?_); go_big_quiet_op; refine hK _ ?_; clear hK K)
      refine rg_pass rfl rfl ?_
      intro a' ha
      simp only [Act.put, List.setIfInBounds_toArray, List.set_cons_succ, List.set_cons_zero] at ha
      subst ha
      refine rg_rel rfl rfl (fun W1 hW1 hF => step_new hi0 iz0 rfl) ?_
      intro n10 m10 v10 hn10 hm10 hd10 hf10 a' ha
      simp only [Act.put, List.setIfInBounds_toArray, List.set_cons_succ, List.set_cons_zero] at ha
      subst ha
      obtain rfl := hf10
      refine rg_nil (fun w' hw' hF => ?_)
      obtain ⟨z, rfl⟩ := hw'
      simp only [List.drop_succ_cons, List.drop_zero]
      refine wpList_putS ?_
      intro a' ha
      simp only [Act.put, List.setIfInBounds_toArray, List.set_cons_succ, List.set_cons_zero] at ha
      subst ha
      rotate_right 1
      all_goals
        obtain ⟨hm10, -, hl10, bq⟩ := end_last hF
        have e1 := bq.cell
        have e2 := bq.frozen
        clear hF zA zB
        go_upto_region 14 with (fail)
        rename_i K hK
        refine set3B (M := fun W => Code.wp _ _ _ _ W) bq fun X2 hX2 bX2 => ?_
        revert K
        exact KK.out n10 X2 ⟨below_put z.h hX2 hn10, bX2⟩
    intro n22 X2 hQ2 K2 hK2
    obtain ⟨BX2, b22⟩ := hQ2
    clear HG HR HXm
    have BY2 := BX1.trans (BX2.mono BX1.size)
    have b202 := b20.keep BX2
    have hsY2 := BY2.size
    have h2Y := hYn.trans (BY2.mono hYn.size)
    have U2Y := UY.keep BY2
    have T2Y := Rd.keep TTY BY2
    have C2Y := Rd.keep CY BY2
    have R2Y := TY.keep BY2
    clear UY TTY CY TY b5Y b10Y b20 BX1 BX2
    go_upto_region 14 with (fail)
    refine wp_region_lit ?_
    obtain ⟨itr, ztr, ht0, htz0, htz1⟩ := tr_zero
    refine wpList_plain rfl fun K2 hK2 => wp_of_step (stepAt_mono (fun v174 w174 hh => ?_) (step_callv en_attestor_attestorref10_New (rNew bBatch (by decide) _) rfl rfl))
    obtain ⟨rfl, B174⟩ := hh
    refine hK2 _ _ ?_
    clear hK2 K2
    try simp only [Act.put, List.setIfInBounds_toArray, List.set_cons_succ, List.set_cons_zero]
    have hst0 := Lib.hid (newT_ok (stB bBatch))
    generalize newT (stB bBatch) = st0 at *
    refine wpList_plain rfl fun K3 hK3 => wp_of_step (stepAt_mono (fun v24 w24 hh => ?_) (step_new0 ht0 htz0 rfl))
    obtain ⟨rfl, rfl⟩ := hh
    refine hK3 _ _ ?_
    clear hK3 K3
    try simp only [Act.put, List.setIfInBounds_toArray, List.set_cons_succ, List.set_cons_zero]
    have d24 := blk_al1 w174 60 ztr.cells
    have B24 := B174.trans ((below_al1 w174 (.cells ztr.cells 60)).mono B174.size)
    refine wpList_putT rfl (.tmp 24) (.tmp 174) rfl rfl rfl d24 htz1 hst0.out.len fun X3 hX3 b24 => ?_
    have BX3 := below_put B24 hX3 B174.size
    have hs3 : w174.heap.size + 1 = X3.heap.size := by rw [hX3.size]; simp
    obtain ⟨n24, hn24⟩ : ∃ n, n = w174.heap.size := ⟨_, rfl⟩
    rw [← hn24] at b24 hs3 ⊢
    have b203 := b202.keep BX3
    have b223 := b22.keep BX3
    have h3Y := h2Y.trans (BX3.mono h2Y.size)
    have U3Y := U2Y.keep BX3
    have T3Y := Rd.keep T2Y BX3
    have C3Y := Rd.keep C2Y BX3
    have R3Y := R2Y.keep BX3
    have hs23 := BX3.size
    clear U2Y T2Y C2Y R2Y b202 b22 d24 B24 B174 BX3 hX3 hn24
    try simp only [Act.put, List.setIfInBounds_toArray, List.set_cons_succ, List.set_cons_zero]
    have HN24 := b24.lt
    go_upto_region 15 with (fail)
    refine wp_region_lit ?_
    iterate 2 (refine wpList_plain rfl fun K hK => ?_; go_big_op; refine hK _ _ ?_; clear hK K)
    refine wpList_plain rfl fun K7 hK7 => wp_of_step (stepAt_mono (fun vl26 wl26 hh => ?_) (step_loadT rfl rfl hst0.out.len b24))
    obtain ⟨rfl, rfl⟩ := hh
    refine hK7 _ _ ?_
    clear hK7 K7
    try simp only [Act.put, List.setIfInBounds_toArray, List.set_cons_succ, List.set_cons_zero]
    refine wpList_plain rfl fun K8 hK8 => wp_of_step (stepAt_mono (fun vc26 wc26 hh => ?_) (step_call (R := MkR st0 (tabB T us (rhT st0)) k wl26 (mev T (mkIt st0 (tabB T us (rhT st0)) k).C)) en_attestor_batch_Make ((gMakeB T us k (by omega) st0 hst0.out _ _ _ _ _ _ wl26 (by omega) (by omega) T3Y U3Y HT.out hpu (HL.out _ h3Y) (HLs.out _ h3Y)).mono fun e w' ⟨v1, A, cap, he, q1, q2, q3⟩ => ⟨_, he, v1, A, cap, by rw [prvV_mev]; rfl, q1, q2, q3⟩) rfl rfl))
    obtain ⟨v126, A26, c26, rfl, TR26, EC26, BM26⟩ := hh
    refine hK8 _ _ ?_
    clear hK8 K8
    try simp only [Act.put, List.setIfInBounds_toArray, List.set_cons_succ, List.set_cons_zero]
    obtain ⟨ms26, hms26⟩ : ∃ ms26, ms26 = mkIt st0 (tabB T us (rhT st0)) k := ⟨_, rfl⟩
    rw [← hms26] at TR26 EC26 ⊢
    have HMS26 := Lib.hid hms26
    clear hms26
    obtain ⟨AR26, cR26, rfl⟩ := TR26.len
    have hlM := mkIt_lenC st0 (tabB T us (rhT st0)) k
    iterate 1 (refine wpList_plain rfl fun K hK => ?_; go_big_op; refine hK _ _ ?_; clear hK K)
    unfold clV clc ptV
    dsimp only
    refine wpList_plain rfl fun K10 hK10 => wp_of_step (stepAt_mono (fun ve26 we26 hh => ?_) (step_ext (v := .slice AR26 ms26.R.length cR26) rfl rfl rfl))
    obtain ⟨rfl, rfl⟩ := hh
    refine hK10 _ _ ?_
    clear hK10 K10
    try simp only [Act.put, List.setIfInBounds_toArray, List.set_cons_succ, List.set_cons_zero]
    refine wpList_plain rfl fun K11 hK11 => wp_of_step (stepAt_mono (fun ve26 we26 hh => ?_) (step_ext (v := .agg #[.slice A26 ms26.C.length c26, .int .u64 (fv (mev T ms26.C).a), .int .u64 (fv (mev T ms26.C).b)]) rfl rfl rfl))
    obtain ⟨rfl, rfl⟩ := hh
    refine hK11 _ _ ?_
    clear hK11 K11
    try simp only [Act.put, List.setIfInBounds_toArray, List.set_cons_succ, List.set_cons_zero]
    refine wpList_plain rfl fun K12 hK12 => wp_of_step (stepAt_mono (fun ve26 we26 hh => ?_) (step_ext (v := tsV ms26.st 1) rfl rfl rfl))
    obtain ⟨rfl, rfl⟩ := hh
    refine hK12 _ _ ?_
    clear hK12 K12
    try simp only [Act.put, List.setIfInBounds_toArray, List.set_cons_succ, List.set_cons_zero]
    have hokM := mkIt_ok st0 (tabB T us (rhT st0)) hst0.out k
    rw [← HMS26.out] at hlM hokM
    have HOM26 := Lib.hid hokM
    have HLM26 := Lib.hid hlM
    clear hlM hokM
    refine wpList_plain rfl fun K13 hK13 => wp_of_step (stepAt_mono (fun va26 wa26 hh => ?_) (step_new0 hi0 iz0 rfl))
    obtain ⟨rfl, rfl⟩ := hh
    refine hK13 _ _ ?_
    clear hK13 K13
    try simp only [Act.put, List.setIfInBounds_toArray, List.set_cons_succ, List.set_cons_zero]
    have dC26 := blk_al1 we26 42 (Value.agg #[.slice none 0 0, .int .u64 0, .int .u64 0]).cells
    have BC26 := below_al1 we26 (.cells (Value.agg #[.slice none 0 0, .int .u64 0, .int .u64 0]).cells 42)
    obtain ⟨nC26, hnC26⟩ : ∃ n, n = we26.heap.size := ⟨_, rfl⟩
    have hsC26 : (we26.alloc (.cells (Value.agg #[.slice none 0 0, .int .u64 0, .int .u64 0]).cells 42)).heap.size = nC26 + 1 := by rw [hnC26]; simp
    rw [← hnC26] at dC26 ⊢
    have hnCa26 : we26.heap.size ≤ nC26 := by omega
    clear hnC26
    generalize we26.alloc (.cells (Value.agg #[.slice none 0 0, .int .u64 0, .int .u64 0]).cells 42) = wp26 at *
    refine wpList_plain rfl fun K14 hK14 => wp_of_step (stepAt_mono (fun vb26 wb26 hh => ?_) (step_new0 ht0 htz0 rfl))
    obtain ⟨rfl, rfl⟩ := hh
    refine hK14 _ _ ?_
    clear hK14 K14
    try simp only [Act.put, List.setIfInBounds_toArray, List.set_cons_succ, List.set_cons_zero]
    have dT26 := blk_al1 wp26 60 ztr.cells
    have BT26 := below_al1 wp26 (.cells ztr.cells 60)
    rw [hsC26] at dT26 ⊢
    have dC226 := dC26.keep BT26
    have BE26 := BC26.trans (BT26.mono BC26.size)
    clear dC26 BC26 BT26 hsC26
    generalize wp26.alloc (.cells ztr.cells 60) = wq26 at *
    iterate 1 (refine wpList_plain rfl fun K hK => ?_; go_big_op; refine hK _ _ ?_; clear hK K)
    have hwe26 := BM26.size
    refine wpList_put rfl 42 (.tmp 26) (.tmp 181) rfl rfl (cells := [.slice A26 ms26.C.length c26, .int .u64 (fv (mev T ms26.C).a), .int .u64 (fv (mev T ms26.C).b)]) rfl dC226 (by show 0 + 3 ≤ 3; decide) claim_size rfl (spl_all _ _ rfl) fun Xa26 hXa26 bC26 => ?_
    have dT226 := hXa26.blk dT26 (by omega)
    have BEa26 := below_put BE26 hXa26 (by omega)
    refine wpList_putT rfl (.tmp 27) (.tmp 182) rfl rfl rfl dT226 htz1 HOM26.out.len fun Xb26 hXb26 bT26 => ?_
    have bC226 := hXb26.blk bC26 (by omega)
    have BEb26 := below_put BEa26 hXb26 (by omega)
    have BB26 := BM26.trans (BEb26.mono BM26.size)
    replace TR26 := TR26.keep BEb26
    replace EC26 := Rd.keep EC26 BEb26
    replace b203 := b203.keep BB26
    replace b223 := b223.keep BB26
    replace b24 := b24.keep BB26
    replace U3Y := U3Y.keep BB26
    replace T3Y := Rd.keep T3Y BB26
    replace C3Y := Rd.keep C3Y BB26
    replace R3Y := R3Y.keep BB26
    replace h3Y := h3Y.trans (BB26.mono h3Y.size)
    have hsB26 := BB26.size
    clear dC226 dT26 BE26 bC26 dT226 BEa26 BM26 hXa26 hXb26
    try simp only [Act.put, List.setIfInBounds_toArray, List.set_cons_succ, List.set_cons_zero]
    replace TR26 := TR26
    go_upto_region 16 with (fail)
    refine wp_region_lit ?_
    iterate 2 (refine wpList_plain rfl fun K hK => ?_; go_big_op; refine hK _ _ ?_; clear hK K)
    refine wpList_plain rfl fun K19 hK19 => wp_of_step (stepAt_mono (fun vl29 wl29 hh => ?_) (step_loadT rfl rfl hst0.out.len b24))
    obtain ⟨rfl, rfl⟩ := hh
    refine hK19 _ _ ?_
    clear hK19 K19
    try simp only [Act.put, List.setIfInBounds_toArray, List.set_cons_succ, List.set_cons_zero]
    refine wpList_plain rfl fun K20 hK20 => wp_of_step (stepAt_mono (fun vc29 wc29 hh => ?_) (step_call (R := MkR st0 (tabB T us (rhT st0)) k wl29 (mev T (mkIt st0 (tabB T us (rhT st0)) k).C)) en_attestor_attestorref21_Make ((rMakeB T us k (by omega) st0 hst0.out _ _ _ _ _ _ wl29 T3Y U3Y HT.out hup).mono fun e w' ⟨v1, A, cap, he, q1, q2, q3⟩ => ⟨_, he, v1, A, cap, rfl, q1, q2, q3⟩) rfl rfl))
    obtain ⟨v129, A29, c29, rfl, TR29, EC29, BM29⟩ := hh
    refine hK20 _ _ ?_
    clear hK20 K20
    try simp only [Act.put, List.setIfInBounds_toArray, List.set_cons_succ, List.set_cons_zero]
    obtain ⟨ms29, hms29⟩ : ∃ ms29, ms29 = mkIt st0 (tabB T us (rhT st0)) k := ⟨_, rfl⟩
    rw [← hms29] at TR29 EC29 ⊢
    have HMS29 := Lib.hid hms29
    clear hms29
    obtain ⟨AR29, cR29, rfl⟩ := TR29.len
    have hlM := mkIt_lenC st0 (tabB T us (rhT st0)) k
    iterate 1 (refine wpList_plain rfl fun K hK => ?_; go_big_op; refine hK _ _ ?_; clear hK K)
    unfold clV clc ptV
    dsimp only
    refine wpList_plain rfl fun K22 hK22 => wp_of_step (stepAt_mono (fun ve29 we29 hh => ?_) (step_ext (v := .slice AR29 ms29.R.length cR29) rfl rfl rfl))
    obtain ⟨rfl, rfl⟩ := hh
    refine hK22 _ _ ?_
    clear hK22 K22
    try simp only [Act.put, List.setIfInBounds_toArray, List.set_cons_succ, List.set_cons_zero]
    refine wpList_plain rfl fun K23 hK23 => wp_of_step (stepAt_mono (fun ve29 we29 hh => ?_) (step_ext (v := .agg #[.slice A29 ms29.C.length c29, .int .u64 (fv (mev T ms29.C).a), .int .u64 (fv (mev T ms29.C).b)]) rfl rfl rfl))
    obtain ⟨rfl, rfl⟩ := hh
    refine hK23 _ _ ?_
    clear hK23 K23
    try simp only [Act.put, List.setIfInBounds_toArray, List.set_cons_succ, List.set_cons_zero]
    refine wpList_plain rfl fun K24 hK24 => wp_of_step (stepAt_mono (fun ve29 we29 hh => ?_) (step_ext (v := tsV ms29.st 1) rfl rfl rfl))
    obtain ⟨rfl, rfl⟩ := hh
    refine hK24 _ _ ?_
    clear hK24 K24
    try simp only [Act.put, List.setIfInBounds_toArray, List.set_cons_succ, List.set_cons_zero]
    have hokM := mkIt_ok st0 (tabB T us (rhT st0)) hst0.out k
    rw [← HMS29.out] at hlM hokM
    have HOM29 := Lib.hid hokM
    have HLM29 := Lib.hid hlM
    clear hlM hokM
    refine wpList_plain rfl fun K25 hK25 => wp_of_step (stepAt_mono (fun va29 wa29 hh => ?_) (step_new0 hi0 iz0 rfl))
    obtain ⟨rfl, rfl⟩ := hh
    refine hK25 _ _ ?_
    clear hK25 K25
    try simp only [Act.put, List.setIfInBounds_toArray, List.set_cons_succ, List.set_cons_zero]
    have dC29 := blk_al1 we29 42 (Value.agg #[.slice none 0 0, .int .u64 0, .int .u64 0]).cells
    have BC29 := below_al1 we29 (.cells (Value.agg #[.slice none 0 0, .int .u64 0, .int .u64 0]).cells 42)
    obtain ⟨nC29, hnC29⟩ : ∃ n, n = we29.heap.size := ⟨_, rfl⟩
    have hsC29 : (we29.alloc (.cells (Value.agg #[.slice none 0 0, .int .u64 0, .int .u64 0]).cells 42)).heap.size = nC29 + 1 := by rw [hnC29]; simp
    rw [← hnC29] at dC29 ⊢
    have hnCa29 : we29.heap.size ≤ nC29 := by omega
    clear hnC29
    generalize we29.alloc (.cells (Value.agg #[.slice none 0 0, .int .u64 0, .int .u64 0]).cells 42) = wp29 at *
    refine wpList_plain rfl fun K26 hK26 => wp_of_step (stepAt_mono (fun vb29 wb29 hh => ?_) (step_new0 ht0 htz0 rfl))
    obtain ⟨rfl, rfl⟩ := hh
    refine hK26 _ _ ?_
    clear hK26 K26
    try simp only [Act.put, List.setIfInBounds_toArray, List.set_cons_succ, List.set_cons_zero]
    have dT29 := blk_al1 wp29 60 ztr.cells
    have BT29 := below_al1 wp29 (.cells ztr.cells 60)
    rw [hsC29] at dT29 ⊢
    have dC229 := dC29.keep BT29
    have BE29 := BC29.trans (BT29.mono BC29.size)
    clear dC29 BC29 BT29 hsC29
    generalize wp29.alloc (.cells ztr.cells 60) = wq29 at *
    iterate 1 (refine wpList_plain rfl fun K hK => ?_; go_big_op; refine hK _ _ ?_; clear hK K)
    have hwe29 := BM29.size
    refine wpList_put rfl 42 (.tmp 29) (.tmp 189) rfl rfl (cells := [.slice A29 ms29.C.length c29, .int .u64 (fv (mev T ms29.C).a), .int .u64 (fv (mev T ms29.C).b)]) rfl dC229 (by show 0 + 3 ≤ 3; decide) claim_size rfl (spl_all _ _ rfl) fun Xa29 hXa29 bC29 => ?_
    have dT229 := hXa29.blk dT29 (by omega)
    have BEa29 := below_put BE29 hXa29 (by omega)
    refine wpList_putT rfl (.tmp 30) (.tmp 190) rfl rfl rfl dT229 htz1 HOM29.out.len fun Xb29 hXb29 bT29 => ?_
    have bC229 := hXb29.blk bC29 (by omega)
    have BEb29 := below_put BEa29 hXb29 (by omega)
    have BB29 := BM29.trans (BEb29.mono BM29.size)
    replace TR29 := TR29.keep BEb29
    replace EC29 := Rd.keep EC29 BEb29
    replace b203 := b203.keep BB29
    replace b223 := b223.keep BB29
    replace b24 := b24.keep BB29
    replace U3Y := U3Y.keep BB29
    replace T3Y := Rd.keep T3Y BB29
    replace C3Y := Rd.keep C3Y BB29
    replace R3Y := R3Y.keep BB29
    replace h3Y := h3Y.trans (BB29.mono h3Y.size)
    have hsB29 := BB29.size
    clear dC229 dT29 BE29 bC29 dT229 BEa29 BM29 hXa29 hXb29
    try simp only [Act.put, List.setIfInBounds_toArray, List.set_cons_succ, List.set_cons_zero]
    replace TR26 := TR26.keep BB29
    replace EC26 := Rd.keep EC26 BB29
    replace bC226 := bC226.keep BB29
    replace bT26 := bT26.keep BB29
    clear U3Y T3Y
    obtain ⟨ifd, hf0, hfz0, hfz1, hfz2⟩ := info_parts fold_info
    have hg21 : gs2.length ≤ 1000 := by omega
    have hg22 : ∀ g ∈ gs2, g.length ≤ 10000 := fun g hg => by rw [hgr2 g hg]; decide
    go_upto_region 17 with (fail)
    refine wp_region_lit ?_
    iterate 2 (refine wpList_plain rfl fun K hK => ?_; go_big_op; refine hK _ _ ?_; clear hK K)
    refine wpList_plain rfl fun K31 hK31 => wp_of_step (stepAt_mono (fun vl31 wl31 hh => ?_) (step_loadT rfl rfl hst0.out.len b24))
    obtain ⟨rfl, rfl⟩ := hh
    refine hK31 _ _ ?_
    clear hK31 K31
    try simp only [Act.put, List.setIfInBounds_toArray, List.set_cons_succ, List.set_cons_zero]
    refine wpList_plain rfl fun K32 hK32 => wp_of_step (stepAt_mono (fun vc31 wc31 hh => ?_) (step_call (R := DrR st0 gs2 wl31) en_attestor_batch_Draw ((gDrawB gs2 hg21 hg22 st0 hst0.out (.slice AU us.length cU) _ _ _ wl31 (HLs.out _ h3Y) R3Y).mono fun e w' ⟨A, cap, he, q1, q2⟩ => ⟨_, he, A, cap, rfl, q1, q2⟩) rfl (by simp [Act.eval, hgl2])))
    obtain ⟨A31, c31, rfl, EC31, BM31⟩ := hh
    refine hK32 _ _ ?_
    clear hK32 K32
    try simp only [Act.put, List.setIfInBounds_toArray, List.set_cons_succ, List.set_cons_zero]
    obtain ⟨fc31, hfc31⟩ : ∃ fc, fc = drC st0 gs2 := ⟨_, rfl⟩
    obtain ⟨fr31, hfr31⟩ : ∃ fr, fr = rhT st0 := ⟨_, rfl⟩
    obtain ⟨fs31, hfs31⟩ : ∃ fs, fs = drS st0 gs2 := ⟨_, rfl⟩
    rw [← hfc31] at EC31
    rw [← hfc31, ← hfr31, ← hfs31]
    have HFC31 := Lib.hid hfc31
    have HFR31 := Lib.hid hfr31
    have HFS31 := Lib.hid hfs31
    have HOM31 := Lib.hid (show StOk fs31 from hfs31 ▸ drS_ok st0 hst0.out gs2)
    clear hfc31 hfr31 hfs31
    iterate 1 (refine wpList_plain rfl fun K hK => ?_; go_big_op; refine hK _ _ ?_; clear hK K)
    unfold fdV
    refine wpList_plain rfl fun K34 hK34 => wp_of_step (stepAt_mono (fun ve31 we31 hh => ?_) (step_ext (v := .agg #[.int .u64 (fv fr31.a), .int .u64 (fv fr31.b), .slice A31 fc31.length c31]) rfl rfl rfl))
    obtain ⟨rfl, rfl⟩ := hh
    refine hK34 _ _ ?_
    clear hK34 K34
    try simp only [Act.put, List.setIfInBounds_toArray, List.set_cons_succ, List.set_cons_zero]
    refine wpList_plain rfl fun K35 hK35 => wp_of_step (stepAt_mono (fun ve31 we31 hh => ?_) (step_ext (v := tsV fs31 1) rfl rfl rfl))
    obtain ⟨rfl, rfl⟩ := hh
    refine hK35 _ _ ?_
    clear hK35 K35
    try simp only [Act.put, List.setIfInBounds_toArray, List.set_cons_succ, List.set_cons_zero]
    refine wpList_plain rfl fun K36 hK36 => wp_of_step (stepAt_mono (fun va31 wa31 hh => ?_) (step_new0 hf0 hfz0 rfl))
    obtain ⟨rfl, rfl⟩ := hh
    refine hK36 _ _ ?_
    clear hK36 K36
    try simp only [Act.put, List.setIfInBounds_toArray, List.set_cons_succ, List.set_cons_zero]
    have dC31 := blk_al1 we31 28 (Value.agg #[.int .u64 0, .int .u64 0, .slice none 0 0]).cells
    have BC31 := below_al1 we31 (.cells (Value.agg #[.int .u64 0, .int .u64 0, .slice none 0 0]).cells 28)
    obtain ⟨nC31, hnC31⟩ : ∃ n, n = we31.heap.size := ⟨_, rfl⟩
    have hsC31 : (we31.alloc (.cells (Value.agg #[.int .u64 0, .int .u64 0, .slice none 0 0]).cells 28)).heap.size = nC31 + 1 := by rw [hnC31]; simp
    rw [← hnC31] at dC31 ⊢
    have hnCa31 : we31.heap.size ≤ nC31 := by omega
    clear hnC31
    generalize we31.alloc (.cells (Value.agg #[.int .u64 0, .int .u64 0, .slice none 0 0]).cells 28) = wp31 at *
    refine wpList_plain rfl fun K37 hK37 => wp_of_step (stepAt_mono (fun vb31 wb31 hh => ?_) (step_new0 ht0 htz0 rfl))
    obtain ⟨rfl, rfl⟩ := hh
    refine hK37 _ _ ?_
    clear hK37 K37
    try simp only [Act.put, List.setIfInBounds_toArray, List.set_cons_succ, List.set_cons_zero]
    have dT31 := blk_al1 wp31 60 ztr.cells
    have BT31 := below_al1 wp31 (.cells ztr.cells 60)
    rw [hsC31] at dT31 ⊢
    have dC231 := dC31.keep BT31
    have BE31 := BC31.trans (BT31.mono BC31.size)
    clear dC31 BC31 BT31 hsC31
    generalize wp31.alloc (.cells ztr.cells 60) = wq31 at *
    have hwe31 := BM31.size
    refine wpList_put rfl 28 (.tmp 31) (.tmp 196) rfl rfl (cells := [.int .u64 (fv fr31.a), .int .u64 (fv fr31.b), .slice A31 fc31.length c31]) rfl dC231 (by show 0 + 3 ≤ 3; decide) fold_size rfl (spl_all _ _ rfl) fun Xa31 hXa31 bC31 => ?_
    have dT231 := hXa31.blk dT31 (by omega)
    have BEa31 := below_put BE31 hXa31 (by omega)
    refine wpList_putT rfl (.tmp 32) (.tmp 197) rfl rfl rfl dT231 htz1 HOM31.out.len fun Xb31 hXb31 bT31 => ?_
    have bC231 := hXb31.blk bC31 (by omega)
    have BEb31 := below_put BEa31 hXb31 (by omega)
    have BB31 := BM31.trans (BEb31.mono BM31.size)
    replace EC31 := Rd.keep EC31 BEb31
    replace b203 := b203.keep BB31
    replace b223 := b223.keep BB31
    replace b24 := b24.keep BB31
    replace C3Y := Rd.keep C3Y BB31
    replace R3Y := R3Y.keep BB31
    replace h3Y := h3Y.trans (BB31.mono h3Y.size)
    replace TR26 := TR26.keep BB31
    replace EC26 := Rd.keep EC26 BB31
    replace bC226 := bC226.keep BB31
    replace bT26 := bT26.keep BB31
    replace TR29 := TR29.keep BB31
    replace EC29 := Rd.keep EC29 BB31
    replace bC229 := bC229.keep BB31
    replace bT29 := bT29.keep BB31
    have hsB31 := BB31.size
    clear dC231 dT31 BE31 bC31 dT231 BEa31 BM31 hXa31 hXb31
    try simp only [Act.put, List.setIfInBounds_toArray, List.set_cons_succ, List.set_cons_zero]
    go_upto_region 18 with (fail)
    refine wp_region_lit ?_
    iterate 2 (refine wpList_plain rfl fun K hK => ?_; go_big_op; refine hK _ _ ?_; clear hK K)
    refine wpList_plain rfl fun K41 hK41 => wp_of_step (stepAt_mono (fun vl33 wl33 hh => ?_) (step_loadT rfl rfl hst0.out.len b24))
    obtain ⟨rfl, rfl⟩ := hh
    refine hK41 _ _ ?_
    clear hK41 K41
    try simp only [Act.put, List.setIfInBounds_toArray, List.set_cons_succ, List.set_cons_zero]
    refine wpList_plain rfl fun K42 hK42 => wp_of_step (stepAt_mono (fun vc33 wc33 hh => ?_) (step_call (R := DrR st0 gs2 wl33) en_attestor_attestorref21_Draw ((rDrawB gs2 hg21 hg22 st0 hst0.out (.slice AU us.length cU) _ _ _ wl33 R3Y).mono fun e w' ⟨A, cap, he, q1, q2⟩ => ⟨_, he, A, cap, rfl, q1, q2⟩) rfl (by simp [Act.eval, hgl2])))
    obtain ⟨A33, c33, rfl, EC33, BM33⟩ := hh
    refine hK42 _ _ ?_
    clear hK42 K42
    try simp only [Act.put, List.setIfInBounds_toArray, List.set_cons_succ, List.set_cons_zero]
    obtain ⟨fc33, hfc33⟩ : ∃ fc, fc = drC st0 gs2 := ⟨_, rfl⟩
    obtain ⟨fr33, hfr33⟩ : ∃ fr, fr = rhT st0 := ⟨_, rfl⟩
    obtain ⟨fs33, hfs33⟩ : ∃ fs, fs = drS st0 gs2 := ⟨_, rfl⟩
    rw [← hfc33] at EC33
    rw [← hfc33, ← hfr33, ← hfs33]
    have HFC33 := Lib.hid hfc33
    have HFR33 := Lib.hid hfr33
    have HFS33 := Lib.hid hfs33
    have HOM33 := Lib.hid (show StOk fs33 from hfs33 ▸ drS_ok st0 hst0.out gs2)
    clear hfc33 hfr33 hfs33
    iterate 1 (refine wpList_plain rfl fun K hK => ?_; go_big_op; refine hK _ _ ?_; clear hK K)
    unfold fdV
    refine wpList_plain rfl fun K44 hK44 => wp_of_step (stepAt_mono (fun ve33 we33 hh => ?_) (step_ext (v := .agg #[.int .u64 (fv fr33.a), .int .u64 (fv fr33.b), .slice A33 fc33.length c33]) rfl rfl rfl))
    obtain ⟨rfl, rfl⟩ := hh
    refine hK44 _ _ ?_
    clear hK44 K44
    try simp only [Act.put, List.setIfInBounds_toArray, List.set_cons_succ, List.set_cons_zero]
    refine wpList_plain rfl fun K45 hK45 => wp_of_step (stepAt_mono (fun ve33 we33 hh => ?_) (step_ext (v := tsV fs33 1) rfl rfl rfl))
    obtain ⟨rfl, rfl⟩ := hh
    refine hK45 _ _ ?_
    clear hK45 K45
    try simp only [Act.put, List.setIfInBounds_toArray, List.set_cons_succ, List.set_cons_zero]
    refine wpList_plain rfl fun K46 hK46 => wp_of_step (stepAt_mono (fun va33 wa33 hh => ?_) (step_new0 hf0 hfz0 rfl))
    obtain ⟨rfl, rfl⟩ := hh
    refine hK46 _ _ ?_
    clear hK46 K46
    try simp only [Act.put, List.setIfInBounds_toArray, List.set_cons_succ, List.set_cons_zero]
    have dC33 := blk_al1 we33 28 (Value.agg #[.int .u64 0, .int .u64 0, .slice none 0 0]).cells
    have BC33 := below_al1 we33 (.cells (Value.agg #[.int .u64 0, .int .u64 0, .slice none 0 0]).cells 28)
    obtain ⟨nC33, hnC33⟩ : ∃ n, n = we33.heap.size := ⟨_, rfl⟩
    have hsC33 : (we33.alloc (.cells (Value.agg #[.int .u64 0, .int .u64 0, .slice none 0 0]).cells 28)).heap.size = nC33 + 1 := by rw [hnC33]; simp
    rw [← hnC33] at dC33 ⊢
    have hnCa33 : we33.heap.size ≤ nC33 := by omega
    clear hnC33
    generalize we33.alloc (.cells (Value.agg #[.int .u64 0, .int .u64 0, .slice none 0 0]).cells 28) = wp33 at *
    refine wpList_plain rfl fun K47 hK47 => wp_of_step (stepAt_mono (fun vb33 wb33 hh => ?_) (step_new0 ht0 htz0 rfl))
    obtain ⟨rfl, rfl⟩ := hh
    refine hK47 _ _ ?_
    clear hK47 K47
    try simp only [Act.put, List.setIfInBounds_toArray, List.set_cons_succ, List.set_cons_zero]
    have dT33 := blk_al1 wp33 60 ztr.cells
    have BT33 := below_al1 wp33 (.cells ztr.cells 60)
    rw [hsC33] at dT33 ⊢
    have dC233 := dC33.keep BT33
    have BE33 := BC33.trans (BT33.mono BC33.size)
    clear dC33 BC33 BT33 hsC33
    generalize wp33.alloc (.cells ztr.cells 60) = wq33 at *
    have hwe33 := BM33.size
    refine wpList_put rfl 28 (.tmp 33) (.tmp 203) rfl rfl (cells := [.int .u64 (fv fr33.a), .int .u64 (fv fr33.b), .slice A33 fc33.length c33]) rfl dC233 (by show 0 + 3 ≤ 3; decide) fold_size rfl (spl_all _ _ rfl) fun Xa33 hXa33 bC33 => ?_
    have dT233 := hXa33.blk dT33 (by omega)
    have BEa33 := below_put BE33 hXa33 (by omega)
    refine wpList_putT rfl (.tmp 34) (.tmp 204) rfl rfl rfl dT233 htz1 HOM33.out.len fun Xb33 hXb33 bT33 => ?_
    have bC233 := hXb33.blk bC33 (by omega)
    have BEb33 := below_put BEa33 hXb33 (by omega)
    have BB33 := BM33.trans (BEb33.mono BM33.size)
    replace EC33 := Rd.keep EC33 BEb33
    replace b203 := b203.keep BB33
    replace b223 := b223.keep BB33
    replace b24 := b24.keep BB33
    replace C3Y := Rd.keep C3Y BB33
    replace R3Y := R3Y.keep BB33
    replace h3Y := h3Y.trans (BB33.mono h3Y.size)
    replace TR26 := TR26.keep BB33
    replace EC26 := Rd.keep EC26 BB33
    replace bC226 := bC226.keep BB33
    replace bT26 := bT26.keep BB33
    replace TR29 := TR29.keep BB33
    replace EC29 := Rd.keep EC29 BB33
    replace bC229 := bC229.keep BB33
    replace bT29 := bT29.keep BB33
    have hsB33 := BB33.size
    clear dC233 dT33 BE33 bC33 dT233 BEa33 BM33 hXa33 hXb33
    try simp only [Act.put, List.setIfInBounds_toArray, List.set_cons_succ, List.set_cons_zero]
    replace EC31 := Rd.keep EC31 BB33
    replace bC231 := bC231.keep BB33
    replace bT31 := bT31.keep BB33
    obtain rfl : ms29 = ms26 := HMS29.out.trans HMS26.out.symm
    obtain rfl : fc33 = fc31 := HFC33.out.trans HFC31.out.symm
    obtain rfl : fr33 = fr31 := HFR33.out.trans HFR31.out.symm
    obtain rfl : fs33 = fs31 := HFS33.out.trans HFS31.out.symm
    go_upto_region 19 with (fail)
    have e20 := b203.cell
    have e22 := b223.cell
    have HSa := Lib.hid (fun W1 (hW : Below Xb33.heap.size Xb33 W1) => show Calls Tryz.prog 12 #[.agg #[.slice A20 p2.length c20, .int .u64 (fv y2.a), .int .u64 (fv y2.b)], .agg #[.slice A20 p2.length c20, .int .u64 (fv y2.a), .int .u64 (fv y2.b)]] W1 (Ret (.bool true) W1) from by
      have hE : ExtS 0 W1.heap.size W1 (.slice A20 p2.length c20) p2 := by
        rcases hvc with ⟨h1, h2, h3⟩ | ⟨h1, h2, h3⟩
        · rw [h1, h2, h3]; exact rd_nil _ _ _ _ _ _
        · rw [h1, h2, h3]; exact exts_baseV (Rd.keep C3Y hW)
      exact rSame21 p2 y2 A20 A20 c20 c20 _ _ _ _ W1 hE hE)
    go_wp2_with fail
    refine (HSa.out _ (Below.refl _ _)).mono ?_
    rintro e x1 ⟨rfl, B19a⟩
    have e26 := (bC226.keep B19a).cell
    clear e20 e22
    go_wp2_with fail
    refine (rSameR _ _ _ _ _ _ _ x1 (TR26.keep B19a) (TR29.keep B19a)).mono ?_
    rintro e x2 ⟨rfl, B19b⟩
    have B192 := B19a.trans (B19b.mono B19a.size)
    clear e26
    have e26 := (bC226.keep B192).cell
    have e29 := (bC229.keep B192).cell
    have HSb := Lib.hid (show Calls Tryz.prog 12 #[.agg #[.slice A26 ms29.C.length c26, .int .u64 (fv (mev T ms29.C).a), .int .u64 (fv (mev T ms29.C).b)], .agg #[.slice A29 ms29.C.length c29, .int .u64 (fv (mev T ms29.C).a), .int .u64 (fv (mev T ms29.C).b)]] x2 (Ret (.bool true) x2) from rSame21 ms29.C (mev T ms29.C) A26 A29 c26 c29 _ _ _ _ x2 (by have := Rd.keep EC26 B192; rwa [← HLM29.out] at this) (by have := Rd.keep EC29 B192; rwa [← HLM29.out] at this))
    go_wp2_with fail
    refine HSb.out.mono ?_
    rintro e x3 ⟨rfl, B19c⟩
    have B193 := B192.trans (B19c.mono B192.size)
    rename_i K hK
    refine hK _ _ ?_
    clear hK K e26 e29
    try simp only [Act.put, List.setIfInBounds_toArray, List.set_cons_succ, List.set_cons_zero]
    iterate 2 (refine wpList_plain rfl fun K hK => ?_; go_big_op; refine hK _ _ ?_; clear hK K)
    refine wpList_step fun K51 hK51 => ?_
    rw [if_pos (by rfl)]
    refine wp_of_step (stepAt_mono (fun v227 w227 hh => ?_) (step_loadT rfl rfl HOM29.out.len (bT26.keep B193)))
    obtain ⟨rfl, rfl⟩ := hh
    refine hK51 _ _ ?_
    clear hK51 K51
    try simp only [Act.put, List.setIfInBounds_toArray, List.set_cons_succ, List.set_cons_zero]
    refine wpList_step fun K52 hK52 => ?_
    rw [if_pos (by rfl)]
    refine wp_of_step (stepAt_mono (fun v228 w228 hh => ?_) (step_loadT rfl rfl HOM29.out.len (bT29.keep B193)))
    obtain ⟨rfl, rfl⟩ := hh
    refine hK52 _ _ ?_
    clear hK52 K52
    try simp only [Act.put, List.setIfInBounds_toArray, List.set_cons_succ, List.set_cons_zero]
    refine wpList_step fun K53 hK53 => ?_
    rw [if_pos (by rfl)]
    refine wp_of_step (stepAt_mono (fun v229 w229 hh => ?_) (step_eqT rfl rfl rfl HOM29.out.len))
    obtain ⟨rfl, rfl⟩ := hh
    refine hK53 _ _ ?_
    clear hK53 K53
    try simp only [Act.put, List.setIfInBounds_toArray, List.set_cons_succ, List.set_cons_zero]
    iterate 2 (refine wpList_plain rfl fun K hK => ?_; go_big_op; refine hK _ _ ?_; clear hK K)
    have e31 := (bC231.keep B193).cell
    have e33 := (bC233.keep B193).cell
    go_wp2_with fail
    refine (xSame3 fc33 _ _ _ _ _ _ w229 (Rd.keep EC31 B193) (Rd.keep EC33 B193)).mono ?_
    rintro e x4 ⟨rfl, B19d⟩
    have B194 := B193.trans (B19d.mono B193.size)
    rename_i K hK
    refine hK _ _ ?_
    clear hK K e31 e33
    try simp only [Act.put, List.setIfInBounds_toArray, List.set_cons_succ, List.set_cons_zero]
    iterate 2 (refine wpList_plain rfl fun K hK => ?_; go_big_op; refine hK _ _ ?_; clear hK K)
    refine wpList_step fun K57 hK57 => ?_
    rw [if_pos (by rfl)]
    refine wp_of_step (stepAt_mono (fun v246 w246 hh => ?_) (step_loadT rfl rfl HOM33.out.len (bT31.keep B194)))
    obtain ⟨rfl, rfl⟩ := hh
    refine hK57 _ _ ?_
    clear hK57 K57
    try simp only [Act.put, List.setIfInBounds_toArray, List.set_cons_succ, List.set_cons_zero]
    refine wpList_step fun K58 hK58 => ?_
    rw [if_pos (by rfl)]
    refine wp_of_step (stepAt_mono (fun v247 w247 hh => ?_) (step_loadT rfl rfl HOM33.out.len (bT33.keep B194)))
    obtain ⟨rfl, rfl⟩ := hh
    refine hK58 _ _ ?_
    clear hK58 K58
    try simp only [Act.put, List.setIfInBounds_toArray, List.set_cons_succ, List.set_cons_zero]
    refine wpList_step fun K59 hK59 => ?_
    rw [if_pos (by rfl)]
    refine wp_of_step (stepAt_mono (fun v248 w248 hh => ?_) (step_eqT rfl rfl rfl HOM33.out.len))
    obtain ⟨rfl, rfl⟩ := hh
    refine hK59 _ _ ?_
    clear hK59 K59
    try simp only [Act.put, List.setIfInBounds_toArray, List.set_cons_succ, List.set_cons_zero]
    iterate 2 (refine wpList_plain rfl fun K hK => ?_; go_big_op; refine hK _ _ ?_; clear hK K)
    have h5Y := h3Y.trans (B194.mono h3Y.size)
    go_wp2_with fail
    exact bodyPost_ret (v := .bool true) (by simp [results, Tryz.results3, go_sem]) rfl ⟨rfl, h5Y⟩
  · obtain ⟨x0, y0, z0, rfl⟩ : ∃ x0 y0 z0, h0 = [x0, y0, z0] := by
      have := hgr h0 (List.mem_cons_self ..)
      match h0, this with
      | [a, b, c], _ => exact ⟨a, b, c, rfl⟩
    obtain ⟨gu, cu, g0, c0, rfl, lu, l0, hn0, e0, e1, e2, e3, e4, e5, hst⟩ := O1.first
    have k0 := gw_cell lu e0
    have k1 := gw_cell l0 e1
    have k2 := gw_cell l0 e2
    have z12 := gw_blk (b12C.keep hbD)
    clear e0 e1 e2 e3 e4 e5 hst
    go_upto_region 11 with (fail)
    refine wp_region_rg 11 [(9, Spec.val (.agg #[.int .u64 (fv (yv - x0).a), .int .u64 (fv (yv - x0).b)]))] (by kernel_rfl) (by kernel_rfl) (by kernel_rfl) trivial ?_
    iterate 9 (refine rg_det rfl rfl rfl (fun K hK => ?_); go_big_quiet_op; refine hK _ ?_; clear hK K)
    refine rg_val rfl rfl (fun W1 hW1 hF => step_callv en_attestor_attestorref02_Sub (xSub yv x0 W1) rfl rfl) ?_
    intro a' ha
    simp only [Act.put, List.setIfInBounds_toArray, List.set_cons_succ, List.set_cons_zero] at ha
    subst ha
    refine rg_det rfl rfl rfl (fun K hK => ?_)
    go_big_quiet_op
    refine hK _ ?_; clear hK K
    refine rg_nil (fun w' hw' hF => ?_)
    obtain ⟨zs, rfl⟩ := hw'
    simp only [List.drop_succ_cons, List.drop_zero]
    obtain ⟨gu2, cu2, g02, c02, hv2, -, -, -, e0, e1, e2, e3, e4, e5, hst⟩ := (O1.keep zs.h).first
    cases hv2
    have hg0 := (k0 zs).symm.trans e0
    simp only [Option.some.injEq, Value.slice.injEq, Addr.mk.injEq, and_true, true_and] at hg0
    obtain ⟨rfl, rfl⟩ := hg0
    have hZ : Below WC.heap.size WC zs.w := hbD.trans (zs.h.mono hbD.size)
    clear k0 k1 k2 z12 e0 e1 e2 hF
    go_upto_region 12 with (fail)
    obtain ⟨Y, hYe⟩ : ∃ Y, Y = (zs.w.setCell ⟨g0, 2, none⟩ (.int .u64 (fv (yv - x0).a))).setCell ⟨g0, 3, none⟩ (.int .u64 (fv (yv - x0).b)) := ⟨_, rfl⟩
    have hp : Put zs.w Y g0 := by rw [hYe]; exact (Put.set _ _ _ _).trans (Put.set _ _ _ _)
    have OY := hst (yv - x0)
    rw [← hYe] at OY ⊢
    have hY : Below WC.heap.size WC Y := below_put hZ hp hn0
    obtain ⟨gs2, hgs2⟩ : ∃ gs2 : List (List E), gs2 = [x0, yv - x0, z0] :: rest := ⟨_, rfl⟩
    rw [← hgs2] at OY
    have hgl2 : gs2.length = k := by rw [hgs2]; exact hgl
    have hgr2 : ∀ g ∈ gs2, g.length = 3 := by
      rw [hgs2]
      intro g hg
      rcases List.mem_cons.1 hg with rfl | hg
      · rfl
      · exact hgr g (List.mem_cons_of_mem _ hg)
    rw [show rest.length + 1 = gs2.length by rw [hgs2]; rfl] at OY ⊢
    clear hst hYe hp hZ hgs2 hgl hgr O1 hbD e3 e4 e5
    have TY := OY.tabs (by omega) (fun t ht => by rw [hgr2 t ht]; decide)
    have hYn := hC.trans (hY.mono hC.size)
    have UY := UC.keep hY
    have TTY := Rd.keep TC hY
    have CY := Rd.keep CC hY
    have b5Y := b5C.keep hY
    have b10Y := b10C.keep hY
    have hsY := hY.size
    obtain ⟨p2, y2, A20, c20, e20, hvf, hvc⟩ := vfyB_form us r gs2 co (em x.1 x.2) AC cc
    have HG := Lib.hid (fun W1 (hW : Below Y.heap.size Y W1) => show Calls Tryz.prog 17 #[.slice AU us.length cU, .slice (some ⟨gu, 0, none⟩) gs2.length cu, .agg #[.int .u64 (fv r.a), .int .u64 (fv r.b), .slice AC co.length cc, .int .u64 (fv (em x.1 x.2).a), .int .u64 (fv (em x.1 x.2).b)]] W1 (Ret (.tuple #[.agg #[.slice A20 p2.length c20, .int .u64 (fv y2.a), .int .u64 (fv y2.b)], .int .i64 e20]) W1) from by
      have := gVerifyB us r gs2 co (em x.1 x.2) AC cc _ _ _ _ _ _ _ _ W1 (by have := hW.size; omega) (UY.keep hW) (Rd.keep CY hW) (TY.keep hW) (by omega) (fun x hx => by rw [HC.out, hup x hx]) (HL.out _ (hYn.trans (hW.mono hYn.size)))
      rwa [hvf] at this)
    have HR := Lib.hid (fun W1 (hW : Below Y.heap.size Y W1) => show Calls Tryz.prog 19 #[.slice AU us.length cU, .slice (some ⟨gu, 0, none⟩) gs2.length cu, .agg #[.int .u64 (fv r.a), .int .u64 (fv r.b), .slice AC co.length cc, .int .u64 (fv (em x.1 x.2).a), .int .u64 (fv (em x.1 x.2).b)]] W1 (Ret (.tuple #[.agg #[.slice A20 p2.length c20, .int .u64 (fv y2.a), .int .u64 (fv y2.b)], .int .i64 e20]) W1) from by
      have := rVerifyB us r gs2 co (em x.1 x.2) AC cc _ _ _ _ _ _ _ _ W1 (UY.keep hW) (Rd.keep CY hW) (TY.keep hW) (fun x hx => by rw [HC.out, hup x hx])
      rwa [hvf] at this)
    clear hvf
    obtain ⟨xe, hxe⟩ : ∃ xe, xe = em x.1 x.2 := ⟨_, rfl⟩
    have HXm := Lib.hid (show ∀ W1, Calls Tryz.prog 18 #[.agg #[.int .u64 x.1, .int .u64 x.2]] W1 (Ret (ev xe) W1) from fun W1 => by rw [hxe]; exact xMade x.1 x.2 hx.1.1 hx.1.2 hx.2.1 hx.2.2 W1)
    rw [← hxe] at HG HR
    clear hxe
    obtain ⟨i0, hi0, iz0, iz1, iz2⟩ := info_parts clm_info
    apply join21 (Q := fun n X => Below Y.heap.size Y X ∧ Blk X n 42 #[.slice A20 p2.length c20, .int .u64 (fv y2.a), .int .u64 (fv y2.b)])
    case h =>
      intro kk
      have KK := Lib.hid kk
      clear kk
      go_upto_region 12 with (fail)
      have zA := gw_blk b5Y
      have zB := gw_blk b10Y
      refine wp_region_swap 11 9 undef [(4, Spec.val (.agg #[.int .u64 (fv (xe).a), .int .u64 (fv (xe).b)])), (6, Spec.val (.tuple #[.agg #[.slice A20 p2.length c20, .int .u64 (fv y2.a), .int .u64 (fv y2.b)], .int .i64 e20])), (10, Spec.rel (New 42 #[.slice none 0 0, .int .u64 0, .int .u64 0]) (NewF))] (by kernel_rfl) (by kernel_rfl) (by kernel_rfl) rfl rfl rfl rfl ⟨fit_new, trivial⟩ ?_ ?_
      iterate 4 (refine rg_det rfl rfl rfl (fun K hK => ?_); go_big_quiet_op; refine hK _ ?_; clear hK K)
      refine rg_val rfl rfl (fun W1 hW1 hF => step_callv en_attestor_attestorref02_Made (HXm.out W1) rfl rfl) ?_
      intro a' ha
      simp only [Act.put, List.setIfInBounds_toArray, List.set_cons_succ, List.set_cons_zero] at ha
      subst ha
      refine rg_det rfl rfl rfl (fun K hK => ?_)
      go_big_quiet_op
      refine hK _ ?_; clear hK K
      refine rg_val rfl rfl (fun W1 hW1 hF => step_callv en_attestor_batch_Verify (HG.out W1 (grw_below hW1)) rfl rfl) ?_
      intro a' ha
      simp only [Act.put, List.setIfInBounds_toArray, List.set_cons_succ, List.set_cons_zero] at ha
      subst ha
      iterate 3 (refine rg_det rfl rfl rfl (fun K hK => ?_); go_big_quiet_op; refine hK _ ?_; clear hK K)
      refine rg_rel rfl rfl (fun W1 hW1 hF => step_new hi0 iz0 rfl) ?_
      intro n10 m10 v10 hn10 hm10 hd10 hf10 a' ha
      simp only [Act.put, List.setIfInBounds_toArray, List.set_cons_succ, List.set_cons_zero] at ha
      subst ha
      obtain rfl := hf10
      refine rg_nil (fun w' hw' hF => ?_)
      obtain ⟨z, rfl⟩ := hw'
      simp only [List.drop_succ_cons, List.drop_zero]
      rotate_left 1
      iterate 4 (refine rg_det rfl rfl rfl (fun K hK => ?_); go_big_quiet_op; refine hK _ ?_; clear hK K)
      refine rg_val rfl rfl (fun W1 hW1 hF => step_callv en_attestor_attestorref02_Made (HXm.out W1) rfl rfl) ?_
      intro a' ha
      simp only [Act.put, List.setIfInBounds_toArray, List.set_cons_succ, List.set_cons_zero] at ha
      subst ha
      refine rg_det rfl rfl rfl (fun K hK => ?_)
      go_big_quiet_op
      refine hK _ ?_; clear hK K
      refine rg_val rfl rfl (fun W1 hW1 hF => step_callv en_attestor_batch_Verify (HG.out W1 (grw_below hW1)) rfl rfl) ?_
      intro a' ha
      simp only [Act.put, List.setIfInBounds_toArray, List.set_cons_succ, List.set_cons_zero] at ha
      subst ha
      iterate 2 (refine rg_det rfl rfl rfl (fun K hK => ?_); go_big_quiet_op; refine hK _ ?_; clear hK K)
      refine rg_pass rfl rfl ?_
      intro a' ha
      simp only [Act.put, List.setIfInBounds_toArray, List.set_cons_succ, List.set_cons_zero] at ha
      subst ha
      refine rg_rel rfl rfl (fun W1 hW1 hF => step_new hi0 iz0 rfl) ?_
      intro n10 m10 v10 hn10 hm10 hd10 hf10 a' ha
      simp only [Act.put, List.setIfInBounds_toArray, List.set_cons_succ, List.set_cons_zero] at ha
      subst ha
      obtain rfl := hf10
      refine rg_nil (fun w' hw' hF => ?_)
      obtain ⟨z, rfl⟩ := hw'
      simp only [List.drop_succ_cons, List.drop_zero]
      refine wpList_putS ?_
      intro a' ha
      simp only [Act.put, List.setIfInBounds_toArray, List.set_cons_succ, List.set_cons_zero] at ha
      subst ha
      rotate_right 1
      all_goals
        obtain ⟨hm10, -, hl10, bq⟩ := end_last hF
        have e1 := bq.cell
        have e2 := bq.frozen
        clear hF zA zB
        go_upto_region 13 with (fail)
        rename_i K hK
        refine set3B (M := fun W => Code.wp _ _ _ _ W) bq fun X1 hX1 bX1 => ?_
        revert K
        exact KK.out n10 X1 ⟨below_put z.h hX1 hn10, bX1⟩
    intro n20 X1 hQ1 K hK
    obtain ⟨BX1, b20⟩ := hQ1
    apply join21 (Q := fun n X => Below X1.heap.size X1 X ∧ Blk X n 42 #[.slice A20 p2.length c20, .int .u64 (fv y2.a), .int .u64 (fv y2.b)])
    case h =>
      intro kk
      have KK := Lib.hid kk
      clear kk
      go_upto_region 13 with (fail)
      have zA := gw_blk (b5Y.keep BX1)
      have zB := gw_blk (b10Y.keep BX1)
      refine wp_region_swap 11 9 undef [(4, Spec.val (.agg #[.int .u64 (fv (xe).a), .int .u64 (fv (xe).b)])), (6, Spec.val (.tuple #[.agg #[.slice A20 p2.length c20, .int .u64 (fv y2.a), .int .u64 (fv y2.b)], .int .i64 e20])), (10, Spec.rel (New 42 #[.slice none 0 0, .int .u64 0, .int .u64 0]) (NewF))] (by kernel_rfl) (by kernel_rfl) (by kernel_rfl) rfl rfl rfl rfl ⟨fit_new, trivial⟩ ?_ ?_
      iterate 4 (refine rg_det rfl rfl rfl (fun K hK => ?_); go_big_quiet_op; refine hK _ ?_; clear hK K)
      refine rg_val rfl rfl (fun W1 hW1 hF => step_callv en_attestor_attestorref02_Made (HXm.out W1) rfl rfl) ?_
      intro a' ha
      simp only [Act.put, List.setIfInBounds_toArray, List.set_cons_succ, List.set_cons_zero] at ha
      subst ha
      refine rg_det rfl rfl rfl (fun K hK => ?_)
      go_big_quiet_op
      refine hK _ ?_; clear hK K
      refine rg_val rfl rfl (fun W1 hW1 hF => step_callv en_attestor_attestorref21_Verify (HR.out W1 (BX1.trans ((grw_below hW1).mono BX1.size))) rfl rfl) ?_
      intro a' ha
      simp only [Act.put, List.setIfInBounds_toArray, List.set_cons_succ, List.set_cons_zero] at ha
      subst ha
      iterate 3 (refine rg_det rfl rfl rfl (fun K hK => ?_); go_big_quiet_op; refine hK _ ?_; clear hK K)
      refine rg_rel rfl rfl (fun W1 hW1 hF => step_new hi0 iz0 rfl) ?_
      intro n10 m10 v10 hn10 hm10 hd10 hf10 a' ha
      simp only [Act.put, List.setIfInBounds_toArray, List.set_cons_succ, List.set_cons_zero] at ha
      subst ha
      obtain rfl := hf10
      refine rg_nil (fun w' hw' hF => ?_)
      obtain ⟨z, rfl⟩ := hw'
      simp only [List.drop_succ_cons, List.drop_zero]
      rotate_left 1
      iterate 4 (refine rg_det rfl rfl rfl (fun K hK => ?_); go_big_quiet_op; refine hK _ ?_; clear hK K)
      refine rg_val rfl rfl (fun W1 hW1 hF => step_callv en_attestor_attestorref02_Made (HXm.out W1) rfl rfl) ?_
      intro a' ha
      simp only [Act.put, List.setIfInBounds_toArray, List.set_cons_succ, List.set_cons_zero] at ha
      subst ha
      refine rg_det rfl rfl rfl (fun K hK => ?_)
      go_big_quiet_op
      refine hK _ ?_; clear hK K
      refine rg_val rfl rfl (fun W1 hW1 hF => step_callv en_attestor_attestorref21_Verify (HR.out W1 (BX1.trans ((grw_below hW1).mono BX1.size))) rfl rfl) ?_
      intro a' ha
      simp only [Act.put, List.setIfInBounds_toArray, List.set_cons_succ, List.set_cons_zero] at ha
      subst ha
      iterate 2 (refine rg_det rfl rfl rfl (fun K hK => ?_); go_big_quiet_op; refine hK _ ?_; clear hK K)
      refine rg_pass rfl rfl ?_
      intro a' ha
      simp only [Act.put, List.setIfInBounds_toArray, List.set_cons_succ, List.set_cons_zero] at ha
      subst ha
      refine rg_rel rfl rfl (fun W1 hW1 hF => step_new hi0 iz0 rfl) ?_
      intro n10 m10 v10 hn10 hm10 hd10 hf10 a' ha
      simp only [Act.put, List.setIfInBounds_toArray, List.set_cons_succ, List.set_cons_zero] at ha
      subst ha
      obtain rfl := hf10
      refine rg_nil (fun w' hw' hF => ?_)
      obtain ⟨z, rfl⟩ := hw'
      simp only [List.drop_succ_cons, List.drop_zero]
      refine wpList_putS ?_
      intro a' ha
      simp only [Act.put, List.setIfInBounds_toArray, List.set_cons_succ, List.set_cons_zero] at ha
      subst ha
      rotate_right 1
      all_goals
        obtain ⟨hm10, -, hl10, bq⟩ := end_last hF
        have e1 := bq.cell
        have e2 := bq.frozen
        clear hF zA zB
        go_upto_region 14 with (fail)
        rename_i K hK
        refine set3B (M := fun W => Code.wp _ _ _ _ W) bq fun X2 hX2 bX2 => ?_
        revert K
        exact KK.out n10 X2 ⟨below_put z.h hX2 hn10, bX2⟩
    intro n22 X2 hQ2 K2 hK2
    obtain ⟨BX2, b22⟩ := hQ2
    clear HG HR HXm
    have BY2 := BX1.trans (BX2.mono BX1.size)
    have b202 := b20.keep BX2
    have hsY2 := BY2.size
    have h2Y := hYn.trans (BY2.mono hYn.size)
    have U2Y := UY.keep BY2
    have T2Y := Rd.keep TTY BY2
    have C2Y := Rd.keep CY BY2
    have R2Y := TY.keep BY2
    clear UY TTY CY TY b5Y b10Y b20 BX1 BX2
    go_upto_region 14 with (fail)
    refine wp_region_lit ?_
    obtain ⟨itr, ztr, ht0, htz0, htz1⟩ := tr_zero
    refine wpList_plain rfl fun K62 hK62 => wp_of_step (stepAt_mono (fun v174 w174 hh => ?_) (step_callv en_attestor_attestorref10_New (rNew bBatch (by decide) _) rfl rfl))
    obtain ⟨rfl, B174⟩ := hh
    refine hK62 _ _ ?_
    clear hK62 K62
    try simp only [Act.put, List.setIfInBounds_toArray, List.set_cons_succ, List.set_cons_zero]
    have hst0 := Lib.hid (newT_ok (stB bBatch))
    generalize newT (stB bBatch) = st0 at *
    refine wpList_plain rfl fun K63 hK63 => wp_of_step (stepAt_mono (fun v24 w24 hh => ?_) (step_new0 ht0 htz0 rfl))
    obtain ⟨rfl, rfl⟩ := hh
    refine hK63 _ _ ?_
    clear hK63 K63
    try simp only [Act.put, List.setIfInBounds_toArray, List.set_cons_succ, List.set_cons_zero]
    have d24 := blk_al1 w174 60 ztr.cells
    have B24 := B174.trans ((below_al1 w174 (.cells ztr.cells 60)).mono B174.size)
    refine wpList_putT rfl (.tmp 24) (.tmp 174) rfl rfl rfl d24 htz1 hst0.out.len fun X3 hX3 b24 => ?_
    have BX3 := below_put B24 hX3 B174.size
    have hs3 : w174.heap.size + 1 = X3.heap.size := by rw [hX3.size]; simp
    obtain ⟨n24, hn24⟩ : ∃ n, n = w174.heap.size := ⟨_, rfl⟩
    rw [← hn24] at b24 hs3 ⊢
    have b203 := b202.keep BX3
    have b223 := b22.keep BX3
    have h3Y := h2Y.trans (BX3.mono h2Y.size)
    have U3Y := U2Y.keep BX3
    have T3Y := Rd.keep T2Y BX3
    have C3Y := Rd.keep C2Y BX3
    have R3Y := R2Y.keep BX3
    have hs23 := BX3.size
    clear U2Y T2Y C2Y R2Y b202 b22 d24 B24 B174 BX3 hX3 hn24
    try simp only [Act.put, List.setIfInBounds_toArray, List.set_cons_succ, List.set_cons_zero]
    have HN24 := b24.lt
    go_upto_region 15 with (fail)
    refine wp_region_lit ?_
    iterate 2 (refine wpList_plain rfl fun K hK => ?_; go_big_op; refine hK _ _ ?_; clear hK K)
    refine wpList_plain rfl fun K67 hK67 => wp_of_step (stepAt_mono (fun vl26 wl26 hh => ?_) (step_loadT rfl rfl hst0.out.len b24))
    obtain ⟨rfl, rfl⟩ := hh
    refine hK67 _ _ ?_
    clear hK67 K67
    try simp only [Act.put, List.setIfInBounds_toArray, List.set_cons_succ, List.set_cons_zero]
    refine wpList_plain rfl fun K68 hK68 => wp_of_step (stepAt_mono (fun vc26 wc26 hh => ?_) (step_call (R := MkR st0 (tabB T us (rhT st0)) k wl26 (mev T (mkIt st0 (tabB T us (rhT st0)) k).C)) en_attestor_batch_Make ((gMakeB T us k (by omega) st0 hst0.out _ _ _ _ _ _ wl26 (by omega) (by omega) T3Y U3Y HT.out hpu (HL.out _ h3Y) (HLs.out _ h3Y)).mono fun e w' ⟨v1, A, cap, he, q1, q2, q3⟩ => ⟨_, he, v1, A, cap, by rw [prvV_mev]; rfl, q1, q2, q3⟩) rfl rfl))
    obtain ⟨v126, A26, c26, rfl, TR26, EC26, BM26⟩ := hh
    refine hK68 _ _ ?_
    clear hK68 K68
    try simp only [Act.put, List.setIfInBounds_toArray, List.set_cons_succ, List.set_cons_zero]
    obtain ⟨ms26, hms26⟩ : ∃ ms26, ms26 = mkIt st0 (tabB T us (rhT st0)) k := ⟨_, rfl⟩
    rw [← hms26] at TR26 EC26 ⊢
    have HMS26 := Lib.hid hms26
    clear hms26
    obtain ⟨AR26, cR26, rfl⟩ := TR26.len
    have hlM := mkIt_lenC st0 (tabB T us (rhT st0)) k
    iterate 1 (refine wpList_plain rfl fun K hK => ?_; go_big_op; refine hK _ _ ?_; clear hK K)
    unfold clV clc ptV
    dsimp only
    refine wpList_plain rfl fun K70 hK70 => wp_of_step (stepAt_mono (fun ve26 we26 hh => ?_) (step_ext (v := .slice AR26 ms26.R.length cR26) rfl rfl rfl))
    obtain ⟨rfl, rfl⟩ := hh
    refine hK70 _ _ ?_
    clear hK70 K70
    try simp only [Act.put, List.setIfInBounds_toArray, List.set_cons_succ, List.set_cons_zero]
    refine wpList_plain rfl fun K71 hK71 => wp_of_step (stepAt_mono (fun ve26 we26 hh => ?_) (step_ext (v := .agg #[.slice A26 ms26.C.length c26, .int .u64 (fv (mev T ms26.C).a), .int .u64 (fv (mev T ms26.C).b)]) rfl rfl rfl))
    obtain ⟨rfl, rfl⟩ := hh
    refine hK71 _ _ ?_
    clear hK71 K71
    try simp only [Act.put, List.setIfInBounds_toArray, List.set_cons_succ, List.set_cons_zero]
    refine wpList_plain rfl fun K72 hK72 => wp_of_step (stepAt_mono (fun ve26 we26 hh => ?_) (step_ext (v := tsV ms26.st 1) rfl rfl rfl))
    obtain ⟨rfl, rfl⟩ := hh
    refine hK72 _ _ ?_
    clear hK72 K72
    try simp only [Act.put, List.setIfInBounds_toArray, List.set_cons_succ, List.set_cons_zero]
    have hokM := mkIt_ok st0 (tabB T us (rhT st0)) hst0.out k
    rw [← HMS26.out] at hlM hokM
    have HOM26 := Lib.hid hokM
    have HLM26 := Lib.hid hlM
    clear hlM hokM
    refine wpList_plain rfl fun K73 hK73 => wp_of_step (stepAt_mono (fun va26 wa26 hh => ?_) (step_new0 hi0 iz0 rfl))
    obtain ⟨rfl, rfl⟩ := hh
    refine hK73 _ _ ?_
    clear hK73 K73
    try simp only [Act.put, List.setIfInBounds_toArray, List.set_cons_succ, List.set_cons_zero]
    have dC26 := blk_al1 we26 42 (Value.agg #[.slice none 0 0, .int .u64 0, .int .u64 0]).cells
    have BC26 := below_al1 we26 (.cells (Value.agg #[.slice none 0 0, .int .u64 0, .int .u64 0]).cells 42)
    obtain ⟨nC26, hnC26⟩ : ∃ n, n = we26.heap.size := ⟨_, rfl⟩
    have hsC26 : (we26.alloc (.cells (Value.agg #[.slice none 0 0, .int .u64 0, .int .u64 0]).cells 42)).heap.size = nC26 + 1 := by rw [hnC26]; simp
    rw [← hnC26] at dC26 ⊢
    have hnCa26 : we26.heap.size ≤ nC26 := by omega
    clear hnC26
    generalize we26.alloc (.cells (Value.agg #[.slice none 0 0, .int .u64 0, .int .u64 0]).cells 42) = wp26 at *
    refine wpList_plain rfl fun K74 hK74 => wp_of_step (stepAt_mono (fun vb26 wb26 hh => ?_) (step_new0 ht0 htz0 rfl))
    obtain ⟨rfl, rfl⟩ := hh
    refine hK74 _ _ ?_
    clear hK74 K74
    try simp only [Act.put, List.setIfInBounds_toArray, List.set_cons_succ, List.set_cons_zero]
    have dT26 := blk_al1 wp26 60 ztr.cells
    have BT26 := below_al1 wp26 (.cells ztr.cells 60)
    rw [hsC26] at dT26 ⊢
    have dC226 := dC26.keep BT26
    have BE26 := BC26.trans (BT26.mono BC26.size)
    clear dC26 BC26 BT26 hsC26
    generalize wp26.alloc (.cells ztr.cells 60) = wq26 at *
    iterate 1 (refine wpList_plain rfl fun K hK => ?_; go_big_op; refine hK _ _ ?_; clear hK K)
    have hwe26 := BM26.size
    refine wpList_put rfl 42 (.tmp 26) (.tmp 181) rfl rfl (cells := [.slice A26 ms26.C.length c26, .int .u64 (fv (mev T ms26.C).a), .int .u64 (fv (mev T ms26.C).b)]) rfl dC226 (by show 0 + 3 ≤ 3; decide) claim_size rfl (spl_all _ _ rfl) fun Xa26 hXa26 bC26 => ?_
    have dT226 := hXa26.blk dT26 (by omega)
    have BEa26 := below_put BE26 hXa26 (by omega)
    refine wpList_putT rfl (.tmp 27) (.tmp 182) rfl rfl rfl dT226 htz1 HOM26.out.len fun Xb26 hXb26 bT26 => ?_
    have bC226 := hXb26.blk bC26 (by omega)
    have BEb26 := below_put BEa26 hXb26 (by omega)
    have BB26 := BM26.trans (BEb26.mono BM26.size)
    replace TR26 := TR26.keep BEb26
    replace EC26 := Rd.keep EC26 BEb26
    replace b203 := b203.keep BB26
    replace b223 := b223.keep BB26
    replace b24 := b24.keep BB26
    replace U3Y := U3Y.keep BB26
    replace T3Y := Rd.keep T3Y BB26
    replace C3Y := Rd.keep C3Y BB26
    replace R3Y := R3Y.keep BB26
    replace h3Y := h3Y.trans (BB26.mono h3Y.size)
    have hsB26 := BB26.size
    clear dC226 dT26 BE26 bC26 dT226 BEa26 BM26 hXa26 hXb26
    try simp only [Act.put, List.setIfInBounds_toArray, List.set_cons_succ, List.set_cons_zero]
    replace TR26 := TR26
    go_upto_region 16 with (fail)
    refine wp_region_lit ?_
    iterate 2 (refine wpList_plain rfl fun K hK => ?_; go_big_op; refine hK _ _ ?_; clear hK K)
    refine wpList_plain rfl fun K79 hK79 => wp_of_step (stepAt_mono (fun vl29 wl29 hh => ?_) (step_loadT rfl rfl hst0.out.len b24))
    obtain ⟨rfl, rfl⟩ := hh
    refine hK79 _ _ ?_
    clear hK79 K79
    try simp only [Act.put, List.setIfInBounds_toArray, List.set_cons_succ, List.set_cons_zero]
    refine wpList_plain rfl fun K80 hK80 => wp_of_step (stepAt_mono (fun vc29 wc29 hh => ?_) (step_call (R := MkR st0 (tabB T us (rhT st0)) k wl29 (mev T (mkIt st0 (tabB T us (rhT st0)) k).C)) en_attestor_attestorref21_Make ((rMakeB T us k (by omega) st0 hst0.out _ _ _ _ _ _ wl29 T3Y U3Y HT.out hup).mono fun e w' ⟨v1, A, cap, he, q1, q2, q3⟩ => ⟨_, he, v1, A, cap, rfl, q1, q2, q3⟩) rfl rfl))
    obtain ⟨v129, A29, c29, rfl, TR29, EC29, BM29⟩ := hh
    refine hK80 _ _ ?_
    clear hK80 K80
    try simp only [Act.put, List.setIfInBounds_toArray, List.set_cons_succ, List.set_cons_zero]
    obtain ⟨ms29, hms29⟩ : ∃ ms29, ms29 = mkIt st0 (tabB T us (rhT st0)) k := ⟨_, rfl⟩
    rw [← hms29] at TR29 EC29 ⊢
    have HMS29 := Lib.hid hms29
    clear hms29
    obtain ⟨AR29, cR29, rfl⟩ := TR29.len
    have hlM := mkIt_lenC st0 (tabB T us (rhT st0)) k
    iterate 1 (refine wpList_plain rfl fun K hK => ?_; go_big_op; refine hK _ _ ?_; clear hK K)
    unfold clV clc ptV
    dsimp only
    refine wpList_plain rfl fun K82 hK82 => wp_of_step (stepAt_mono (fun ve29 we29 hh => ?_) (step_ext (v := .slice AR29 ms29.R.length cR29) rfl rfl rfl))
    obtain ⟨rfl, rfl⟩ := hh
    refine hK82 _ _ ?_
    clear hK82 K82
    try simp only [Act.put, List.setIfInBounds_toArray, List.set_cons_succ, List.set_cons_zero]
    refine wpList_plain rfl fun K83 hK83 => wp_of_step (stepAt_mono (fun ve29 we29 hh => ?_) (step_ext (v := .agg #[.slice A29 ms29.C.length c29, .int .u64 (fv (mev T ms29.C).a), .int .u64 (fv (mev T ms29.C).b)]) rfl rfl rfl))
    obtain ⟨rfl, rfl⟩ := hh
    refine hK83 _ _ ?_
    clear hK83 K83
    try simp only [Act.put, List.setIfInBounds_toArray, List.set_cons_succ, List.set_cons_zero]
    refine wpList_plain rfl fun K84 hK84 => wp_of_step (stepAt_mono (fun ve29 we29 hh => ?_) (step_ext (v := tsV ms29.st 1) rfl rfl rfl))
    obtain ⟨rfl, rfl⟩ := hh
    refine hK84 _ _ ?_
    clear hK84 K84
    try simp only [Act.put, List.setIfInBounds_toArray, List.set_cons_succ, List.set_cons_zero]
    have hokM := mkIt_ok st0 (tabB T us (rhT st0)) hst0.out k
    rw [← HMS29.out] at hlM hokM
    have HOM29 := Lib.hid hokM
    have HLM29 := Lib.hid hlM
    clear hlM hokM
    refine wpList_plain rfl fun K85 hK85 => wp_of_step (stepAt_mono (fun va29 wa29 hh => ?_) (step_new0 hi0 iz0 rfl))
    obtain ⟨rfl, rfl⟩ := hh
    refine hK85 _ _ ?_
    clear hK85 K85
    try simp only [Act.put, List.setIfInBounds_toArray, List.set_cons_succ, List.set_cons_zero]
    have dC29 := blk_al1 we29 42 (Value.agg #[.slice none 0 0, .int .u64 0, .int .u64 0]).cells
    have BC29 := below_al1 we29 (.cells (Value.agg #[.slice none 0 0, .int .u64 0, .int .u64 0]).cells 42)
    obtain ⟨nC29, hnC29⟩ : ∃ n, n = we29.heap.size := ⟨_, rfl⟩
    have hsC29 : (we29.alloc (.cells (Value.agg #[.slice none 0 0, .int .u64 0, .int .u64 0]).cells 42)).heap.size = nC29 + 1 := by rw [hnC29]; simp
    rw [← hnC29] at dC29 ⊢
    have hnCa29 : we29.heap.size ≤ nC29 := by omega
    clear hnC29
    generalize we29.alloc (.cells (Value.agg #[.slice none 0 0, .int .u64 0, .int .u64 0]).cells 42) = wp29 at *
    refine wpList_plain rfl fun K86 hK86 => wp_of_step (stepAt_mono (fun vb29 wb29 hh => ?_) (step_new0 ht0 htz0 rfl))
    obtain ⟨rfl, rfl⟩ := hh
    refine hK86 _ _ ?_
    clear hK86 K86
    try simp only [Act.put, List.setIfInBounds_toArray, List.set_cons_succ, List.set_cons_zero]
    have dT29 := blk_al1 wp29 60 ztr.cells
    have BT29 := below_al1 wp29 (.cells ztr.cells 60)
    rw [hsC29] at dT29 ⊢
    have dC229 := dC29.keep BT29
    have BE29 := BC29.trans (BT29.mono BC29.size)
    clear dC29 BC29 BT29 hsC29
    generalize wp29.alloc (.cells ztr.cells 60) = wq29 at *
    iterate 1 (refine wpList_plain rfl fun K hK => ?_; go_big_op; refine hK _ _ ?_; clear hK K)
    have hwe29 := BM29.size
    refine wpList_put rfl 42 (.tmp 29) (.tmp 189) rfl rfl (cells := [.slice A29 ms29.C.length c29, .int .u64 (fv (mev T ms29.C).a), .int .u64 (fv (mev T ms29.C).b)]) rfl dC229 (by show 0 + 3 ≤ 3; decide) claim_size rfl (spl_all _ _ rfl) fun Xa29 hXa29 bC29 => ?_
    have dT229 := hXa29.blk dT29 (by omega)
    have BEa29 := below_put BE29 hXa29 (by omega)
    refine wpList_putT rfl (.tmp 30) (.tmp 190) rfl rfl rfl dT229 htz1 HOM29.out.len fun Xb29 hXb29 bT29 => ?_
    have bC229 := hXb29.blk bC29 (by omega)
    have BEb29 := below_put BEa29 hXb29 (by omega)
    have BB29 := BM29.trans (BEb29.mono BM29.size)
    replace TR29 := TR29.keep BEb29
    replace EC29 := Rd.keep EC29 BEb29
    replace b203 := b203.keep BB29
    replace b223 := b223.keep BB29
    replace b24 := b24.keep BB29
    replace U3Y := U3Y.keep BB29
    replace T3Y := Rd.keep T3Y BB29
    replace C3Y := Rd.keep C3Y BB29
    replace R3Y := R3Y.keep BB29
    replace h3Y := h3Y.trans (BB29.mono h3Y.size)
    have hsB29 := BB29.size
    clear dC229 dT29 BE29 bC29 dT229 BEa29 BM29 hXa29 hXb29
    try simp only [Act.put, List.setIfInBounds_toArray, List.set_cons_succ, List.set_cons_zero]
    replace TR26 := TR26.keep BB29
    replace EC26 := Rd.keep EC26 BB29
    replace bC226 := bC226.keep BB29
    replace bT26 := bT26.keep BB29
    clear U3Y T3Y
    obtain ⟨ifd, hf0, hfz0, hfz1, hfz2⟩ := info_parts fold_info
    have hg21 : gs2.length ≤ 1000 := by omega
    have hg22 : ∀ g ∈ gs2, g.length ≤ 10000 := fun g hg => by rw [hgr2 g hg]; decide
    go_upto_region 17 with (fail)
    refine wp_region_lit ?_
    iterate 2 (refine wpList_plain rfl fun K hK => ?_; go_big_op; refine hK _ _ ?_; clear hK K)
    refine wpList_plain rfl fun K91 hK91 => wp_of_step (stepAt_mono (fun vl31 wl31 hh => ?_) (step_loadT rfl rfl hst0.out.len b24))
    obtain ⟨rfl, rfl⟩ := hh
    refine hK91 _ _ ?_
    clear hK91 K91
    try simp only [Act.put, List.setIfInBounds_toArray, List.set_cons_succ, List.set_cons_zero]
    refine wpList_plain rfl fun K92 hK92 => wp_of_step (stepAt_mono (fun vc31 wc31 hh => ?_) (step_call (R := DrR st0 gs2 wl31) en_attestor_batch_Draw ((gDrawB gs2 hg21 hg22 st0 hst0.out (.slice AU us.length cU) _ _ _ wl31 (HLs.out _ h3Y) R3Y).mono fun e w' ⟨A, cap, he, q1, q2⟩ => ⟨_, he, A, cap, rfl, q1, q2⟩) rfl (by simp [Act.eval, hgl2])))
    obtain ⟨A31, c31, rfl, EC31, BM31⟩ := hh
    refine hK92 _ _ ?_
    clear hK92 K92
    try simp only [Act.put, List.setIfInBounds_toArray, List.set_cons_succ, List.set_cons_zero]
    obtain ⟨fc31, hfc31⟩ : ∃ fc, fc = drC st0 gs2 := ⟨_, rfl⟩
    obtain ⟨fr31, hfr31⟩ : ∃ fr, fr = rhT st0 := ⟨_, rfl⟩
    obtain ⟨fs31, hfs31⟩ : ∃ fs, fs = drS st0 gs2 := ⟨_, rfl⟩
    rw [← hfc31] at EC31
    rw [← hfc31, ← hfr31, ← hfs31]
    have HFC31 := Lib.hid hfc31
    have HFR31 := Lib.hid hfr31
    have HFS31 := Lib.hid hfs31
    have HOM31 := Lib.hid (show StOk fs31 from hfs31 ▸ drS_ok st0 hst0.out gs2)
    clear hfc31 hfr31 hfs31
    iterate 1 (refine wpList_plain rfl fun K hK => ?_; go_big_op; refine hK _ _ ?_; clear hK K)
    unfold fdV
    refine wpList_plain rfl fun K94 hK94 => wp_of_step (stepAt_mono (fun ve31 we31 hh => ?_) (step_ext (v := .agg #[.int .u64 (fv fr31.a), .int .u64 (fv fr31.b), .slice A31 fc31.length c31]) rfl rfl rfl))
    obtain ⟨rfl, rfl⟩ := hh
    refine hK94 _ _ ?_
    clear hK94 K94
    try simp only [Act.put, List.setIfInBounds_toArray, List.set_cons_succ, List.set_cons_zero]
    refine wpList_plain rfl fun K95 hK95 => wp_of_step (stepAt_mono (fun ve31 we31 hh => ?_) (step_ext (v := tsV fs31 1) rfl rfl rfl))
    obtain ⟨rfl, rfl⟩ := hh
    refine hK95 _ _ ?_
    clear hK95 K95
    try simp only [Act.put, List.setIfInBounds_toArray, List.set_cons_succ, List.set_cons_zero]
    refine wpList_plain rfl fun K96 hK96 => wp_of_step (stepAt_mono (fun va31 wa31 hh => ?_) (step_new0 hf0 hfz0 rfl))
    obtain ⟨rfl, rfl⟩ := hh
    refine hK96 _ _ ?_
    clear hK96 K96
    try simp only [Act.put, List.setIfInBounds_toArray, List.set_cons_succ, List.set_cons_zero]
    have dC31 := blk_al1 we31 28 (Value.agg #[.int .u64 0, .int .u64 0, .slice none 0 0]).cells
    have BC31 := below_al1 we31 (.cells (Value.agg #[.int .u64 0, .int .u64 0, .slice none 0 0]).cells 28)
    obtain ⟨nC31, hnC31⟩ : ∃ n, n = we31.heap.size := ⟨_, rfl⟩
    have hsC31 : (we31.alloc (.cells (Value.agg #[.int .u64 0, .int .u64 0, .slice none 0 0]).cells 28)).heap.size = nC31 + 1 := by rw [hnC31]; simp
    rw [← hnC31] at dC31 ⊢
    have hnCa31 : we31.heap.size ≤ nC31 := by omega
    clear hnC31
    generalize we31.alloc (.cells (Value.agg #[.int .u64 0, .int .u64 0, .slice none 0 0]).cells 28) = wp31 at *
    refine wpList_plain rfl fun K97 hK97 => wp_of_step (stepAt_mono (fun vb31 wb31 hh => ?_) (step_new0 ht0 htz0 rfl))
    obtain ⟨rfl, rfl⟩ := hh
    refine hK97 _ _ ?_
    clear hK97 K97
    try simp only [Act.put, List.setIfInBounds_toArray, List.set_cons_succ, List.set_cons_zero]
    have dT31 := blk_al1 wp31 60 ztr.cells
    have BT31 := below_al1 wp31 (.cells ztr.cells 60)
    rw [hsC31] at dT31 ⊢
    have dC231 := dC31.keep BT31
    have BE31 := BC31.trans (BT31.mono BC31.size)
    clear dC31 BC31 BT31 hsC31
    generalize wp31.alloc (.cells ztr.cells 60) = wq31 at *
    have hwe31 := BM31.size
    refine wpList_put rfl 28 (.tmp 31) (.tmp 196) rfl rfl (cells := [.int .u64 (fv fr31.a), .int .u64 (fv fr31.b), .slice A31 fc31.length c31]) rfl dC231 (by show 0 + 3 ≤ 3; decide) fold_size rfl (spl_all _ _ rfl) fun Xa31 hXa31 bC31 => ?_
    have dT231 := hXa31.blk dT31 (by omega)
    have BEa31 := below_put BE31 hXa31 (by omega)
    refine wpList_putT rfl (.tmp 32) (.tmp 197) rfl rfl rfl dT231 htz1 HOM31.out.len fun Xb31 hXb31 bT31 => ?_
    have bC231 := hXb31.blk bC31 (by omega)
    have BEb31 := below_put BEa31 hXb31 (by omega)
    have BB31 := BM31.trans (BEb31.mono BM31.size)
    replace EC31 := Rd.keep EC31 BEb31
    replace b203 := b203.keep BB31
    replace b223 := b223.keep BB31
    replace b24 := b24.keep BB31
    replace C3Y := Rd.keep C3Y BB31
    replace R3Y := R3Y.keep BB31
    replace h3Y := h3Y.trans (BB31.mono h3Y.size)
    replace TR26 := TR26.keep BB31
    replace EC26 := Rd.keep EC26 BB31
    replace bC226 := bC226.keep BB31
    replace bT26 := bT26.keep BB31
    replace TR29 := TR29.keep BB31
    replace EC29 := Rd.keep EC29 BB31
    replace bC229 := bC229.keep BB31
    replace bT29 := bT29.keep BB31
    have hsB31 := BB31.size
    clear dC231 dT31 BE31 bC31 dT231 BEa31 BM31 hXa31 hXb31
    try simp only [Act.put, List.setIfInBounds_toArray, List.set_cons_succ, List.set_cons_zero]
    go_upto_region 18 with (fail)
    refine wp_region_lit ?_
    iterate 2 (refine wpList_plain rfl fun K hK => ?_; go_big_op; refine hK _ _ ?_; clear hK K)
    refine wpList_plain rfl fun K101 hK101 => wp_of_step (stepAt_mono (fun vl33 wl33 hh => ?_) (step_loadT rfl rfl hst0.out.len b24))
    obtain ⟨rfl, rfl⟩ := hh
    refine hK101 _ _ ?_
    clear hK101 K101
    try simp only [Act.put, List.setIfInBounds_toArray, List.set_cons_succ, List.set_cons_zero]
    refine wpList_plain rfl fun K102 hK102 => wp_of_step (stepAt_mono (fun vc33 wc33 hh => ?_) (step_call (R := DrR st0 gs2 wl33) en_attestor_attestorref21_Draw ((rDrawB gs2 hg21 hg22 st0 hst0.out (.slice AU us.length cU) _ _ _ wl33 R3Y).mono fun e w' ⟨A, cap, he, q1, q2⟩ => ⟨_, he, A, cap, rfl, q1, q2⟩) rfl (by simp [Act.eval, hgl2])))
    obtain ⟨A33, c33, rfl, EC33, BM33⟩ := hh
    refine hK102 _ _ ?_
    clear hK102 K102
    try simp only [Act.put, List.setIfInBounds_toArray, List.set_cons_succ, List.set_cons_zero]
    obtain ⟨fc33, hfc33⟩ : ∃ fc, fc = drC st0 gs2 := ⟨_, rfl⟩
    obtain ⟨fr33, hfr33⟩ : ∃ fr, fr = rhT st0 := ⟨_, rfl⟩
    obtain ⟨fs33, hfs33⟩ : ∃ fs, fs = drS st0 gs2 := ⟨_, rfl⟩
    rw [← hfc33] at EC33
    rw [← hfc33, ← hfr33, ← hfs33]
    have HFC33 := Lib.hid hfc33
    have HFR33 := Lib.hid hfr33
    have HFS33 := Lib.hid hfs33
    have HOM33 := Lib.hid (show StOk fs33 from hfs33 ▸ drS_ok st0 hst0.out gs2)
    clear hfc33 hfr33 hfs33
    iterate 1 (refine wpList_plain rfl fun K hK => ?_; go_big_op; refine hK _ _ ?_; clear hK K)
    unfold fdV
    refine wpList_plain rfl fun K104 hK104 => wp_of_step (stepAt_mono (fun ve33 we33 hh => ?_) (step_ext (v := .agg #[.int .u64 (fv fr33.a), .int .u64 (fv fr33.b), .slice A33 fc33.length c33]) rfl rfl rfl))
    obtain ⟨rfl, rfl⟩ := hh
    refine hK104 _ _ ?_
    clear hK104 K104
    try simp only [Act.put, List.setIfInBounds_toArray, List.set_cons_succ, List.set_cons_zero]
    refine wpList_plain rfl fun K105 hK105 => wp_of_step (stepAt_mono (fun ve33 we33 hh => ?_) (step_ext (v := tsV fs33 1) rfl rfl rfl))
    obtain ⟨rfl, rfl⟩ := hh
    refine hK105 _ _ ?_
    clear hK105 K105
    try simp only [Act.put, List.setIfInBounds_toArray, List.set_cons_succ, List.set_cons_zero]
    refine wpList_plain rfl fun K106 hK106 => wp_of_step (stepAt_mono (fun va33 wa33 hh => ?_) (step_new0 hf0 hfz0 rfl))
    obtain ⟨rfl, rfl⟩ := hh
    refine hK106 _ _ ?_
    clear hK106 K106
    try simp only [Act.put, List.setIfInBounds_toArray, List.set_cons_succ, List.set_cons_zero]
    have dC33 := blk_al1 we33 28 (Value.agg #[.int .u64 0, .int .u64 0, .slice none 0 0]).cells
    have BC33 := below_al1 we33 (.cells (Value.agg #[.int .u64 0, .int .u64 0, .slice none 0 0]).cells 28)
    obtain ⟨nC33, hnC33⟩ : ∃ n, n = we33.heap.size := ⟨_, rfl⟩
    have hsC33 : (we33.alloc (.cells (Value.agg #[.int .u64 0, .int .u64 0, .slice none 0 0]).cells 28)).heap.size = nC33 + 1 := by rw [hnC33]; simp
    rw [← hnC33] at dC33 ⊢
    have hnCa33 : we33.heap.size ≤ nC33 := by omega
    clear hnC33
    generalize we33.alloc (.cells (Value.agg #[.int .u64 0, .int .u64 0, .slice none 0 0]).cells 28) = wp33 at *
    refine wpList_plain rfl fun K107 hK107 => wp_of_step (stepAt_mono (fun vb33 wb33 hh => ?_) (step_new0 ht0 htz0 rfl))
    obtain ⟨rfl, rfl⟩ := hh
    refine hK107 _ _ ?_
    clear hK107 K107
    try simp only [Act.put, List.setIfInBounds_toArray, List.set_cons_succ, List.set_cons_zero]
    have dT33 := blk_al1 wp33 60 ztr.cells
    have BT33 := below_al1 wp33 (.cells ztr.cells 60)
    rw [hsC33] at dT33 ⊢
    have dC233 := dC33.keep BT33
    have BE33 := BC33.trans (BT33.mono BC33.size)
    clear dC33 BC33 BT33 hsC33
    generalize wp33.alloc (.cells ztr.cells 60) = wq33 at *
    have hwe33 := BM33.size
    refine wpList_put rfl 28 (.tmp 33) (.tmp 203) rfl rfl (cells := [.int .u64 (fv fr33.a), .int .u64 (fv fr33.b), .slice A33 fc33.length c33]) rfl dC233 (by show 0 + 3 ≤ 3; decide) fold_size rfl (spl_all _ _ rfl) fun Xa33 hXa33 bC33 => ?_
    have dT233 := hXa33.blk dT33 (by omega)
    have BEa33 := below_put BE33 hXa33 (by omega)
    refine wpList_putT rfl (.tmp 34) (.tmp 204) rfl rfl rfl dT233 htz1 HOM33.out.len fun Xb33 hXb33 bT33 => ?_
    have bC233 := hXb33.blk bC33 (by omega)
    have BEb33 := below_put BEa33 hXb33 (by omega)
    have BB33 := BM33.trans (BEb33.mono BM33.size)
    replace EC33 := Rd.keep EC33 BEb33
    replace b203 := b203.keep BB33
    replace b223 := b223.keep BB33
    replace b24 := b24.keep BB33
    replace C3Y := Rd.keep C3Y BB33
    replace R3Y := R3Y.keep BB33
    replace h3Y := h3Y.trans (BB33.mono h3Y.size)
    replace TR26 := TR26.keep BB33
    replace EC26 := Rd.keep EC26 BB33
    replace bC226 := bC226.keep BB33
    replace bT26 := bT26.keep BB33
    replace TR29 := TR29.keep BB33
    replace EC29 := Rd.keep EC29 BB33
    replace bC229 := bC229.keep BB33
    replace bT29 := bT29.keep BB33
    have hsB33 := BB33.size
    clear dC233 dT33 BE33 bC33 dT233 BEa33 BM33 hXa33 hXb33
    try simp only [Act.put, List.setIfInBounds_toArray, List.set_cons_succ, List.set_cons_zero]
    replace EC31 := Rd.keep EC31 BB33
    replace bC231 := bC231.keep BB33
    replace bT31 := bT31.keep BB33
    obtain rfl : ms29 = ms26 := HMS29.out.trans HMS26.out.symm
    obtain rfl : fc33 = fc31 := HFC33.out.trans HFC31.out.symm
    obtain rfl : fr33 = fr31 := HFR33.out.trans HFR31.out.symm
    obtain rfl : fs33 = fs31 := HFS33.out.trans HFS31.out.symm
    go_upto_region 19 with (fail)
    have e20 := b203.cell
    have e22 := b223.cell
    have HSa := Lib.hid (fun W1 (hW : Below Xb33.heap.size Xb33 W1) => show Calls Tryz.prog 12 #[.agg #[.slice A20 p2.length c20, .int .u64 (fv y2.a), .int .u64 (fv y2.b)], .agg #[.slice A20 p2.length c20, .int .u64 (fv y2.a), .int .u64 (fv y2.b)]] W1 (Ret (.bool true) W1) from by
      have hE : ExtS 0 W1.heap.size W1 (.slice A20 p2.length c20) p2 := by
        rcases hvc with ⟨h1, h2, h3⟩ | ⟨h1, h2, h3⟩
        · rw [h1, h2, h3]; exact rd_nil _ _ _ _ _ _
        · rw [h1, h2, h3]; exact exts_baseV (Rd.keep C3Y hW)
      exact rSame21 p2 y2 A20 A20 c20 c20 _ _ _ _ W1 hE hE)
    go_wp2_with fail
    refine (HSa.out _ (Below.refl _ _)).mono ?_
    rintro e x1 ⟨rfl, B19a⟩
    have e26 := (bC226.keep B19a).cell
    clear e20 e22
    go_wp2_with fail
    refine (rSameR _ _ _ _ _ _ _ x1 (TR26.keep B19a) (TR29.keep B19a)).mono ?_
    rintro e x2 ⟨rfl, B19b⟩
    have B192 := B19a.trans (B19b.mono B19a.size)
    clear e26
    have e26 := (bC226.keep B192).cell
    have e29 := (bC229.keep B192).cell
    have HSb := Lib.hid (show Calls Tryz.prog 12 #[.agg #[.slice A26 ms29.C.length c26, .int .u64 (fv (mev T ms29.C).a), .int .u64 (fv (mev T ms29.C).b)], .agg #[.slice A29 ms29.C.length c29, .int .u64 (fv (mev T ms29.C).a), .int .u64 (fv (mev T ms29.C).b)]] x2 (Ret (.bool true) x2) from rSame21 ms29.C (mev T ms29.C) A26 A29 c26 c29 _ _ _ _ x2 (by have := Rd.keep EC26 B192; rwa [← HLM29.out] at this) (by have := Rd.keep EC29 B192; rwa [← HLM29.out] at this))
    go_wp2_with fail
    refine HSb.out.mono ?_
    rintro e x3 ⟨rfl, B19c⟩
    have B193 := B192.trans (B19c.mono B192.size)
    rename_i K hK
    refine hK _ _ ?_
    clear hK K e26 e29
    try simp only [Act.put, List.setIfInBounds_toArray, List.set_cons_succ, List.set_cons_zero]
    iterate 2 (refine wpList_plain rfl fun K hK => ?_; go_big_op; refine hK _ _ ?_; clear hK K)
    refine wpList_step fun K111 hK111 => ?_
    rw [if_pos (by rfl)]
    refine wp_of_step (stepAt_mono (fun v227 w227 hh => ?_) (step_loadT rfl rfl HOM29.out.len (bT26.keep B193)))
    obtain ⟨rfl, rfl⟩ := hh
    refine hK111 _ _ ?_
    clear hK111 K111
    try simp only [Act.put, List.setIfInBounds_toArray, List.set_cons_succ, List.set_cons_zero]
    refine wpList_step fun K112 hK112 => ?_
    rw [if_pos (by rfl)]
    refine wp_of_step (stepAt_mono (fun v228 w228 hh => ?_) (step_loadT rfl rfl HOM29.out.len (bT29.keep B193)))
    obtain ⟨rfl, rfl⟩ := hh
    refine hK112 _ _ ?_
    clear hK112 K112
    try simp only [Act.put, List.setIfInBounds_toArray, List.set_cons_succ, List.set_cons_zero]
    refine wpList_step fun K113 hK113 => ?_
    rw [if_pos (by rfl)]
    refine wp_of_step (stepAt_mono (fun v229 w229 hh => ?_) (step_eqT rfl rfl rfl HOM29.out.len))
    obtain ⟨rfl, rfl⟩ := hh
    refine hK113 _ _ ?_
    clear hK113 K113
    try simp only [Act.put, List.setIfInBounds_toArray, List.set_cons_succ, List.set_cons_zero]
    iterate 2 (refine wpList_plain rfl fun K hK => ?_; go_big_op; refine hK _ _ ?_; clear hK K)
    have e31 := (bC231.keep B193).cell
    have e33 := (bC233.keep B193).cell
    go_wp2_with fail
    refine (xSame3 fc33 _ _ _ _ _ _ w229 (Rd.keep EC31 B193) (Rd.keep EC33 B193)).mono ?_
    rintro e x4 ⟨rfl, B19d⟩
    have B194 := B193.trans (B19d.mono B193.size)
    rename_i K hK
    refine hK _ _ ?_
    clear hK K e31 e33
    try simp only [Act.put, List.setIfInBounds_toArray, List.set_cons_succ, List.set_cons_zero]
    iterate 2 (refine wpList_plain rfl fun K hK => ?_; go_big_op; refine hK _ _ ?_; clear hK K)
    refine wpList_step fun K117 hK117 => ?_
    rw [if_pos (by rfl)]
    refine wp_of_step (stepAt_mono (fun v246 w246 hh => ?_) (step_loadT rfl rfl HOM33.out.len (bT31.keep B194)))
    obtain ⟨rfl, rfl⟩ := hh
    refine hK117 _ _ ?_
    clear hK117 K117
    try simp only [Act.put, List.setIfInBounds_toArray, List.set_cons_succ, List.set_cons_zero]
    refine wpList_step fun K118 hK118 => ?_
    rw [if_pos (by rfl)]
    refine wp_of_step (stepAt_mono (fun v247 w247 hh => ?_) (step_loadT rfl rfl HOM33.out.len (bT33.keep B194)))
    obtain ⟨rfl, rfl⟩ := hh
    refine hK118 _ _ ?_
    clear hK118 K118
    try simp only [Act.put, List.setIfInBounds_toArray, List.set_cons_succ, List.set_cons_zero]
    refine wpList_step fun K119 hK119 => ?_
    rw [if_pos (by rfl)]
    refine wp_of_step (stepAt_mono (fun v248 w248 hh => ?_) (step_eqT rfl rfl rfl HOM33.out.len))
    obtain ⟨rfl, rfl⟩ := hh
    refine hK119 _ _ ?_
    clear hK119 K119
    try simp only [Act.put, List.setIfInBounds_toArray, List.set_cons_succ, List.set_cons_zero]
    iterate 2 (refine wpList_plain rfl fun K hK => ?_; go_big_op; refine hK _ _ ?_; clear hK K)
    have h5Y := h3Y.trans (B194.mono h3Y.size)
    go_wp2_with fail
    exact bodyPost_ret (v := .bool true) (by simp [results, Tryz.results3, go_sem]) rfl ⟨rfl, h5Y⟩
end Go.Proofs.YtkgglhakimkkhaaGreatDoor
