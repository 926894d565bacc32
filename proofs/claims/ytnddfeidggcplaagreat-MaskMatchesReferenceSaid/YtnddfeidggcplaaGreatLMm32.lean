/-
  MaskMatchesReference: the walk.
-/
import Derived.Test.YtnddfeidggcplaaGreatRx32
import Derived.Test.YtnddfeidggcplaaGreatZ32
import Derived.Test.YtnddfeidggcplaaGreatXp32
namespace Go.Proofs.YtnddfeidggcplaaGreat
open Go.RowKit

section
variable {w : World} {q : Q32} {gS gW : Nat} {AT AP AM AC : Option Addr} {cT cP cM cC : Nat} {X Y : World}
theorem Z32.rprove (h : Z32 w q gS gW AT AP AM AC cT cP cM cC X) (hb : Below X.heap.size X Y) : Calls Tryz.prog 15 #[.agg #[.slice AT 3 cT, .slice AP q.ps.length cP], .slice AM q.n cM, .agg #[.int .u64 (fv q.rho.a), .int .u64 (fv q.rho.b), .slice AC q.n cC]] Y (PrvM Y (prvM (prvR q.tabs q.ps q.co) q.m q.rho q.co) (prvV q.tabs q.co) · ·) := by
  have k := h.keep hb
  exact rProveM q.tabs q.ps q.m q.rho q.co q.n q.co_len (Nat.le_trans q.n_le (by decide)) q.all (by rw [q.tabs_len]; decide) (by rw [q.tabs_len]; decide) q.m_len q.m_row q.deg AC cC (.slice AT 3 cT) (.slice AP q.ps.length cP) (.slice AM q.n cM) _ _ _ _ 0 Y.heap.size Y k.hS k.hM k.hC
theorem Z32.gexp (h : Z32 w q gS gW AT AP AM AC cT cP cM cC X) (rs : List (List E)) (hrl : rs.length ≤ 1000) (F : List (List E) × Int) (hF : F = explE (prvR q.tabs q.ps q.co) rs q.rho q.co q.n (degE q.ps)) (lo hi : Nat) (vR : Value) (hR : TabS lo hi X vR rs) :
    Calls Tryz.prog 16 #[.agg #[.slice AT 3 cT, .slice AP q.ps.length cP], vR, .agg #[.int .u64 (fv q.rho.a), .int .u64 (fv q.rho.b), .slice AC q.n cC]] X (ExpR X F · ·) := by
  have := gExplain q.tabs q.ps rs q.rho q.co q.n (Nat.le_trans q.n_le (by decide)) q.all (by rw [q.tabs_len]; decide) (by rw [q.tabs_len]; decide) (Nat.le_trans q.deg (by decide)) hrl AC cC (.slice AT 3 cT) (.slice AP q.ps.length cP) vR _ _ _ _ 0 X.heap.size X h.hS hR (by rw [q.co_len]; exact h.hC)
  rw [q.co_len, ← hF] at this
  exact this
theorem Z32.rexp (h : Z32 w q gS gW AT AP AM AC cT cP cM cC X) (rs : List (List E)) (hrl : rs.length ≤ 1000) (F : List (List E) × Int) (hF : F = explE (prvR q.tabs q.ps q.co) rs q.rho q.co q.n (degE q.ps)) (lo hi : Nat) (vR : Value) (hR : TabS lo hi X vR rs) :
    Calls Tryz.prog 17 #[.agg #[.slice AT 3 cT, .slice AP q.ps.length cP], vR, .agg #[.int .u64 (fv q.rho.a), .int .u64 (fv q.rho.b), .slice AC q.n cC]] X (ExpR X F · ·) := by
  rw [hF]
  exact rExplain q.tabs q.ps rs q.rho q.co q.n q.co_len (Nat.le_trans q.n_le (by decide)) q.all (by rw [q.tabs_len]; decide) (by rw [q.tabs_len]; decide) (Nat.le_trans q.deg (by decide)) hrl AC cC (.slice AT 3 cT) (.slice AP q.ps.length cP) vR _ _ _ _ 0 X.heap.size X h.hS hR h.hC
theorem Z32.rtot (h : Z32 w q gS gW AT AP AM AC cT cP cM cC X) (hb : Below X.heap.size X Y) : Calls Tryz.prog 21 #[.slice AM q.n cM] Y (Ret (ev (Go.Proofs.YtnddfeidggcplaaGreat.totM q.m)) Y) :=
  rTotM q.m (by rw [q.m_len]; exact Nat.le_trans q.n_le (by decide)) (fun g hg => by rw [q.m_row g hg]; have := degE_pos q.ps; have := q.deg; omega) (.slice AM q.n cM) _ _ Y (h.keep hb).hM
theorem Z32.rev (h : Z32 w q gS gW AT AP AM AC cT cP cM cC X) (hb : Below X.heap.size X Y) : Calls Tryz.prog 23 #[.slice AM q.n cM, .slice AC q.n cC] Y (Ret (ev (Go.Proofs.YtnddfeidggcplaaGreat.evM q.m q.co)) Y) :=
  rEvM q.m q.co (by rw [q.m_len, q.co_len]; exact Nat.le_refl _) (by rw [q.m_len]; exact Nat.le_trans q.n_le (by decide)) (fun g hg => by rw [q.m_row g hg]; have := q.deg; omega) (.slice AM q.n cM) (.slice AC q.n cC) _ _ _ _ Y (h.keep hb).hM (h.keep hb).hC
end
theorem en_attestor_attestorref32_Total : ∀ args w, (callFunc 21 args).run Tryz.prog w = .ok (.enter 21 args) w := enters_of Tryz.func21 (by kernel_rfl) rfl
attribute [local irreducible] wpRg
set_option maxRecDepth 100000 in
set_option maxHeartbeats 8000000 in
theorem wkMaskMatchesReference (q : Q32) (A : Nat → Option Addr) (cc : Nat → Nat) (AL : Option Addr) (cL : Nat) (vM vC : Value) (L : List (List Raw)) (vO : Value) (na : Nat) (ha : na < 256) (w : World) (h : Q32S w.heap.size w q A cc AL cL vM vC) (hL : RTabS 0 w.heap.size w vO L) :
    Calls Tryz.prog 3 #[qv32 A cc AL cL vM vC q, vO, .int .u8 (na : Int)] w (Ret (.bool true) w) := by
  have HL := Lib.hid hL
  obtain ⟨AO, cO, rfl⟩ := hL.len
  generalize L.length = lO at *
  have hq0 := q.n_le
  obtain ⟨D, hD⟩ : ∃ D, D = degE q.ps := ⟨_, rfl⟩
  have hD9 : D ≤ 3 := by rw [hD]; exact q.deg
  have HD := Lib.hid hD
  clear hL hD
  have HQ := Lib.hid (fun W (hW : Below w.heap.size w W) => lMade32 q A cc AL cL vM vC W (h.keep hW hW.size))
  unfold qv32 at *
  clear h
  go_enter Tryz.func3, Tryz.ntmps3
  go_wp2_with fail
  refine calls_stk1 fun W1 hB1 hz1 b1 => ?_
  refine (lSanity32a W1).mono ?_
  rintro e w1 ⟨rfl, hb1⟩
  have h1 := hB1.trans (hb1.mono hB1.size)
  have f1 := (b1.keep hb1).cell
  go_wp2_with fail
  refine (HQ.out w1 h1).mono ?_
  rintro e w2 ⟨vt, vp, vm, AC, cC, rfl, hS, hM, hC, hb2⟩
  obtain ⟨AT, cT, hv⟩ := hS.ht.len
  replace hv : vt = .slice AT 3 cT := by rw [hv, q.tabs_len]
  subst hv
  obtain ⟨AP, cP, rfl⟩ := hS.hp.len
  obtain ⟨AM, cM, hv⟩ := hM.len
  replace hv : vm = .slice AM q.n cM := by rw [hv, q.m_len]
  subst hv
  rw [q.co_len] at hC ⊢
  clear f1
  unfold sv
  go_upto_region 3 with (fail)
  refine wp_stk2 fun X hX hzX b4 b6 => ?_
  have h2 := h1.trans (hb2.mono h1.size)
  have hZ : Z32 w q w2.heap.size (w2.heap.size + 1) AT AP AM AC cT cP cM cC X :=
    ⟨⟨(hS.ht.keep hX).base, (hS.hp.keep hX).base, hS.ix, hS.few, hS.short⟩, (hM.keep hX).base, ext_base (Rd.keep hC hX), b4, b6, h2.trans (hX.mono h2.size)⟩
  clear hS hM hC b4 b6 hX hzX hb2 h1 h2 hB1 hz1 b1 hb1 HQ
  obtain ⟨rs, hrs⟩ : ∃ rs, rs = prvM (prvR q.tabs q.ps q.co) q.m q.rho q.co := ⟨_, rfl⟩
  have HRL := Lib.hid (show rs.length = q.n by rw [hrs, prvM_length, q.m_len])
  obtain ⟨vals, hvals⟩ : ∃ v, v = prvV q.tabs q.co := ⟨_, rfl⟩
  obtain ⟨F, hF⟩ : ∃ F, F = explE (prvR q.tabs q.ps q.co) rs q.rho q.co q.n (degE q.ps) := ⟨_, rfl⟩
  have HF := Lib.hid hF
  have HRs := Lib.hid hrs
  have HVl := Lib.hid hvals
  clear hrs hvals hF
  have e4 := hZ.bS.cell
  have e6 := hZ.bW.cell
  go_wp2_with fail
  refine (hZ.prove (Below.refl _ _)).mono ?_
  rw [← HRs.out, ← HVl.out]
  rintro e w4 ⟨v1, v2, rfl, hR, hV, hb4⟩
  obtain ⟨AV, cV, rfl⟩ := Rd.len hV
  obtain ⟨AR, cR, hv⟩ := hR.len
  rw [HRL.out] at hv
  subst hv
  replace hZ := hZ.keep hb4
  clear e4 e6 hb4
  have e4 := hZ.bS.cell
  have e6 := hZ.bW.cell
  go_wp2_with fail
  refine (hZ.rprove (Below.refl _ _)).mono ?_
  rw [← HRs.out, ← HVl.out]
  rintro e w5 ⟨v1, v2, rfl, hR2, hV2, hb5⟩
  obtain ⟨AV2, cV2, rfl⟩ := Rd.len hV2
  obtain ⟨AR2, cR2, hv⟩ := hR2.len
  rw [HRL.out] at hv
  subst hv
  replace hZ := hZ.keep hb5
  replace hR := hR.keep hb5
  replace hV := Rd.keep hV hb5
  clear e4 e6 hb5
  have e4 := hZ.bS.cell
  have e6 := hZ.bW.cell
  go_wp2_with fail
  refine (hZ.gexp rs (by rw [HRL.out]; omega) F HF.out _ _ _ hR).mono ?_
  rintro e w6 ⟨v3, rfl, hK, hb6⟩
  obtain ⟨AK, cK, rfl⟩ := hK.len
  replace hZ := hZ.keep hb6
  replace hR := hR.keep hb6
  replace hV := Rd.keep hV hb6
  replace hR2 := hR2.keep hb6
  replace hV2 := Rd.keep hV2 hb6
  clear e4 e6 hb6
  have e4 := hZ.bS.cell
  have e6 := hZ.bW.cell
  go_wp2_with fail
  refine (hZ.rexp rs (by rw [HRL.out]; omega) F HF.out _ _ _ hR2).mono ?_
  rintro e w7 ⟨v3, rfl, hK2, hb7⟩
  obtain ⟨AK2, cK2, rfl⟩ := hK2.len
  replace hZ := hZ.keep hb7
  replace hR := hR.keep hb7
  replace hV := Rd.keep hV hb7
  replace hR2 := hR2.keep hb7
  replace hV2 := Rd.keep hV2 hb7
  replace hK := hK.keep hb7
  clear e4 e6 hb7
  have e4 := hZ.bS.cell
  go_wp2_with fail
  refine (show Calls Tryz.prog 19 #[.agg #[.slice AT 3 cT, .slice AP q.ps.length cP]] w7 (Ret (.int .i64 (D : Nat)) w7) by rw [HD.out]; exact rDegree (.slice AT 3 cT) (.slice AP q.ps.length cP) q.ps _ _ w7 hZ.hS.hp hZ.hS.short).mono ?_
  rintro e w8 ⟨rfl, hb8⟩
  replace hZ := hZ.keep hb8
  replace hR := hR.keep hb8
  replace hV := Rd.keep hV hb8
  replace hR2 := hR2.keep hb8
  replace hV2 := Rd.keep hV2 hb8
  replace hK := hK.keep hb8
  replace hK2 := hK2.keep hb8
  clear e4 hb8
  go_wp2_with fail
  obtain ⟨n5, hn5⟩ : ∃ n, n = na % 5 := ⟨_, rfl⟩
  obtain ⟨m5, hm5⟩ : ∃ n, n = D + 1 + na / 5 % 2 := ⟨_, rfl⟩
  rw [show (na : Int) % 5 = (n5 : Int) by omega, show (D : Int) + 1 + (na : Int) / 5 % 2 = (m5 : Int) by omega]
  have hn5a : n5 ≤ 4 := by omega
  have hm5a : m5 ≤ 5 := by omega
  clear hn5 hm5
  refine (rMadeRounds L n5 m5 (by omega) (by omega) _ _ _ w8 (HL.out.keep hZ.hw)).mono ?_
  rintro e w9 ⟨v4, rfl, hO, hb9⟩
  replace hO : TabS w8.heap.size w9.heap.size w9 v4 (mdR L n5 m5) := hO
  obtain ⟨AM5, cM5, hv⟩ := hO.len
  have HOl := Lib.hid (show (mdR L n5 m5).length = n5 from mdR_length _ _ _)
  rw [HOl.out] at hv
  subst hv
  generalize mdR L n5 m5 = os at *
  obtain ⟨G, hG⟩ : ∃ F, F = explE (prvR q.tabs q.ps q.co) os q.rho q.co q.n (degE q.ps) := ⟨_, rfl⟩
  have HG := Lib.hid hG
  clear hG
  replace hZ := hZ.keep hb9
  replace hR := hR.keep hb9
  replace hV := Rd.keep hV hb9
  replace hR2 := hR2.keep hb9
  replace hV2 := Rd.keep hV2 hb9
  replace hK := hK.keep hb9
  replace hK2 := hK2.keep hb9
  clear hb9
  have e4 := hZ.bS.cell
  have e6 := hZ.bW.cell
  go_wp2_with fail
  refine (hZ.gexp os (by rw [HOl.out]; omega) G HG.out _ _ _ hO).mono ?_
  rintro e w10 ⟨v3, rfl, hJ, hb10⟩
  obtain ⟨AJ, cJ, rfl⟩ := hJ.len
  replace hZ := hZ.keep hb10
  replace hR := hR.keep hb10
  replace hV := Rd.keep hV hb10
  replace hR2 := hR2.keep hb10
  replace hV2 := Rd.keep hV2 hb10
  replace hK := hK.keep hb10
  replace hK2 := hK2.keep hb10
  replace hO := hO.keep hb10
  clear e4 e6 hb10
  have e4 := hZ.bS.cell
  have e6 := hZ.bW.cell
  go_wp2_with fail
  refine (hZ.rexp os (by rw [HOl.out]; omega) G HG.out _ _ _ hO).mono ?_
  rintro e w11 ⟨v3, rfl, hJ2, hb11⟩
  obtain ⟨AJ2, cJ2, rfl⟩ := hJ2.len
  replace hZ := hZ.keep hb11
  replace hR := hR.keep hb11
  replace hV := Rd.keep hV hb11
  replace hR2 := hR2.keep hb11
  replace hV2 := Rd.keep hV2 hb11
  replace hK := hK.keep hb11
  replace hK2 := hK2.keep hb11
  replace hJ := hJ.keep hb11
  clear e4 e6 hb11 hO
  have e4 := hZ.bS.cell
  have X1 := Lib.hid (fun W1 (h : Below w11.heap.size w11 W1) => hZ.totM h)
  have X2 := Lib.hid (fun W1 (h : Below w11.heap.size w11 W1) => hZ.rtot h)
  have X3 := Lib.hid (fun W1 (h : Below w11.heap.size w11 W1) => hZ.evM h)
  have X4 := Lib.hid (fun W1 (h : Below w11.heap.size w11 W1) => hZ.rev h)
  have X5 := Lib.hid (show ∀ W1, Below w11.heap.size w11 W1 → Calls Tryz.prog 24 #[.slice AR q.n cR, .slice AR2 q.n cR2] W1 (Ret (.bool true) W1) from fun W1 h => rSameR rs _ _ _ _ _ _ W1 (hR.keep h) (hR2.keep h))
  have X6 := Lib.hid (show ∀ W1, Below w11.heap.size w11 W1 → Calls Tryz.prog 25 #[.slice AV vals.length cV, .slice AV2 vals.length cV2] W1 (Ret (.bool true) W1) from fun W1 h => xSame vals _ _ _ _ _ _ W1 (Rd.keep hV h) (Rd.keep hV2 h))
  have X7 := Lib.hid (show ∀ W1, Below w11.heap.size w11 W1 → Calls Tryz.prog 24 #[.slice AK F.1.length cK, .slice AK2 F.1.length cK2] W1 (Ret (.bool true) W1) from fun W1 h => rSameR F.1 _ _ _ _ _ _ W1 (hK.keep h) (hK2.keep h))
  have X8 := Lib.hid (show ∀ W1, Below w11.heap.size w11 W1 → Calls Tryz.prog 24 #[.slice AJ G.1.length cJ, .slice AJ2 G.1.length cJ2] W1 (Ret (.bool true) W1) from fun W1 h => rSameR G.1 _ _ _ _ _ _ W1 (hJ.keep h) (hJ2.keep h))
  have yW := gw_blk hZ.bW
  have hw11 := hZ.hw
  obtain ⟨tM, htM⟩ : ∃ x, x = totM q.m := ⟨_, rfl⟩
  obtain ⟨eM, heM⟩ : ∃ x, x = evM q.m q.co := ⟨_, rfl⟩
  rw [← htM] at X1 X2
  rw [← heM] at X3 X4
  clear hZ hR hV hR2 hV2 hK hK2 hJ hJ2 htM heM e4
  generalize F.1.length = fl at *
  generalize G.1.length = gl at *
  generalize vals.length = vl at *
  go_wp2_with fail
  refine wp_region_rg 49 [(1, Spec.val (.agg #[.int .u64 (fv (tM).a), .int .u64 (fv (tM).b)])), (3, Spec.val (.agg #[.int .u64 (fv (tM).a), .int .u64 (fv (tM).b)])), (9, Spec.val (.agg #[.int .u64 (fv (eM).a), .int .u64 (fv (eM).b)])), (13, Spec.val (.agg #[.int .u64 (fv (eM).a), .int .u64 (fv (eM).b)])), (19, Spec.val (.bool true)), (24, Spec.val (.bool true)), (29, Spec.val (.bool true)), (39, Spec.val (.bool true))] (by kernel_rfl) (by kernel_rfl) (by kernel_rfl) trivial ?_
  refine rg_det rfl rfl rfl (fun K hK => ?_)
  go_big_quiet_op
  refine hK _ ?_; clear hK K
  refine rg_val rfl rfl (fun W1 hW1 hF => step_callv en_attestor_mask_Total (X1.out W1 (grw_below hW1)) rfl rfl) ?_
  intro a' ha
  simp only [Act.put, List.setIfInBounds_toArray, List.set_cons_succ, List.set_cons_zero] at ha
  subst ha
  refine rg_det rfl rfl rfl (fun K hK => ?_)
  go_big_quiet_op
  refine hK _ ?_; clear hK K
  refine rg_val rfl rfl (fun W1 hW1 hF => step_callv en_attestor_attestorref32_Total (X2.out W1 (grw_below hW1)) rfl rfl) ?_
  intro a' ha
  simp only [Act.put, List.setIfInBounds_toArray, List.set_cons_succ, List.set_cons_zero] at ha
  subst ha
  refine rg_det rfl rfl rfl (fun K hK => ?_)
  go_big_quiet_op
  refine hK _ ?_; clear hK K
  refine rg_det rfl rfl rfl (fun K hK => ?_)
  go_big_quiet_op
  refine hK _ ?_; clear hK K
  refine rg_det rfl rfl rfl (fun K hK => ?_)
  go_big_quiet_op
  refine hK _ ?_; clear hK K
  refine rg_det rfl rfl rfl (fun K hK => ?_)
  go_big_quiet_op
  refine hK _ ?_; clear hK K
  refine rg_det rfl rfl rfl (fun K hK => ?_)
  go_big_quiet_op
  refine hK _ ?_; clear hK K
  refine rg_val rfl rfl (fun W1 hW1 hF => step_callv en_attestor_mask_Eval (X3.out W1 (grw_below hW1)) rfl rfl) ?_
  intro a' ha
  simp only [Act.put, List.setIfInBounds_toArray, List.set_cons_succ, List.set_cons_zero] at ha
  subst ha
  refine rg_det rfl rfl rfl (fun K hK => ?_)
  go_big_quiet_op
  refine hK _ ?_; clear hK K
  refine rg_det rfl rfl rfl (fun K hK => ?_)
  go_big_quiet_op
  refine hK _ ?_; clear hK K
  refine rg_det rfl rfl rfl (fun K hK => ?_)
  go_big_quiet_op
  refine hK _ ?_; clear hK K
  refine rg_val rfl rfl (fun W1 hW1 hF => step_callv en_attestor_attestorref32_Eval (X4.out W1 (grw_below hW1)) rfl rfl) ?_
  intro a' ha
  simp only [Act.put, List.setIfInBounds_toArray, List.set_cons_succ, List.set_cons_zero] at ha
  subst ha
  refine rg_det rfl rfl rfl (fun K hK => ?_)
  go_big_quiet_op
  refine hK _ ?_; clear hK K
  refine rg_det rfl rfl rfl (fun K hK => ?_)
  go_big_quiet_op
  refine hK _ ?_; clear hK K
  refine rg_det rfl rfl rfl (fun K hK => ?_)
  go_big_quiet_op
  refine hK _ ?_; clear hK K
  refine rg_det rfl rfl rfl (fun K hK => ?_)
  go_big_quiet_op
  refine hK _ ?_; clear hK K
  refine rg_det rfl rfl rfl (fun K hK => ?_)
  go_big_quiet_op
  refine hK _ ?_; clear hK K
  refine rg_val rfl rfl (fun W1 hW1 hF => step_callv en_attestor_attestorref06_SameRounds (X5.out W1 (grw_below hW1)) rfl rfl) ?_
  intro a' ha
  simp only [Act.put, List.setIfInBounds_toArray, List.set_cons_succ, List.set_cons_zero] at ha
  subst ha
  refine rg_det rfl rfl rfl (fun K hK => ?_)
  go_big_quiet_op
  refine hK _ ?_; clear hK K
  refine rg_det rfl rfl rfl (fun K hK => ?_)
  go_big_quiet_op
  refine hK _ ?_; clear hK K
  refine rg_det rfl rfl rfl (fun K hK => ?_)
  go_big_quiet_op
  refine hK _ ?_; clear hK K
  refine rg_det rfl rfl rfl (fun K hK => ?_)
  go_big_quiet_op
  refine hK _ ?_; clear hK K
  refine rg_val rfl rfl (fun W1 hW1 hF => step_callv en_attestor_attestorref02_Same (X6.out W1 (grw_below hW1)) rfl rfl) ?_
  intro a' ha
  simp only [Act.put, List.setIfInBounds_toArray, List.set_cons_succ, List.set_cons_zero] at ha
  subst ha
  refine rg_det rfl rfl rfl (fun K hK => ?_)
  go_big_quiet_op
  refine hK _ ?_; clear hK K
  refine rg_det rfl rfl rfl (fun K hK => ?_)
  go_big_quiet_op
  refine hK _ ?_; clear hK K
  refine rg_det rfl rfl rfl (fun K hK => ?_)
  go_big_quiet_op
  refine hK _ ?_; clear hK K
  refine rg_det rfl rfl rfl (fun K hK => ?_)
  go_big_quiet_op
  refine hK _ ?_; clear hK K
  refine rg_val rfl rfl (fun W1 hW1 hF => step_callv en_attestor_attestorref06_SameRounds (X7.out W1 (grw_below hW1)) rfl rfl) ?_
  intro a' ha
  simp only [Act.put, List.setIfInBounds_toArray, List.set_cons_succ, List.set_cons_zero] at ha
  subst ha
  refine rg_det rfl rfl rfl (fun K hK => ?_)
  go_big_quiet_op
  refine hK _ ?_; clear hK K
  refine rg_det rfl rfl rfl (fun K hK => ?_)
  go_big_quiet_op
  refine hK _ ?_; clear hK K
  refine rg_det rfl rfl rfl (fun K hK => ?_)
  go_big_quiet_op
  refine hK _ ?_; clear hK K
  refine rg_det rfl rfl rfl (fun K hK => ?_)
  go_big_quiet_op
  refine hK _ ?_; clear hK K
  refine rg_det rfl rfl rfl (fun K hK => ?_)
  go_big_quiet_op
  refine hK _ ?_; clear hK K
  refine rg_det rfl rfl rfl (fun K hK => ?_)
  go_big_quiet_op
  refine hK _ ?_; clear hK K
  refine rg_det rfl rfl rfl (fun K hK => ?_)
  go_big_quiet_op
  refine hK _ ?_; clear hK K
  refine rg_det rfl rfl rfl (fun K hK => ?_)
  go_big_quiet_op
  refine hK _ ?_; clear hK K
  refine rg_det rfl rfl rfl (fun K hK => ?_)
  go_big_quiet_op
  refine hK _ ?_; clear hK K
  refine rg_val rfl rfl (fun W1 hW1 hF => step_callv en_attestor_attestorref06_SameRounds (X8.out W1 (grw_below hW1)) rfl rfl) ?_
  intro a' ha
  simp only [Act.put, List.setIfInBounds_toArray, List.set_cons_succ, List.set_cons_zero] at ha
  subst ha
  refine rg_det rfl rfl rfl (fun K hK => ?_)
  go_big_quiet_op
  refine hK _ ?_; clear hK K
  refine rg_det rfl rfl rfl (fun K hK => ?_)
  go_big_quiet_op
  refine hK _ ?_; clear hK K
  refine rg_det rfl rfl rfl (fun K hK => ?_)
  go_big_quiet_op
  refine hK _ ?_; clear hK K
  refine rg_det rfl rfl rfl (fun K hK => ?_)
  go_big_quiet_op
  refine hK _ ?_; clear hK K
  refine rg_det rfl rfl rfl (fun K hK => ?_)
  go_big_quiet_op
  refine hK _ ?_; clear hK K
  refine rg_det rfl rfl rfl (fun K hK => ?_)
  go_big_quiet_op
  refine hK _ ?_; clear hK K
  refine rg_det rfl rfl rfl (fun K hK => ?_)
  go_big_quiet_op
  refine hK _ ?_; clear hK K
  refine rg_det rfl rfl rfl (fun K hK => ?_)
  go_big_quiet_op
  refine hK _ ?_; clear hK K
  refine rg_det rfl rfl rfl (fun K hK => ?_)
  go_big_quiet_op
  refine hK _ ?_; clear hK K
  refine rg_nil (fun w' hw' hF => ?_)
  obtain ⟨z, rfl⟩ := hw'
  simp only [List.drop_succ_cons, List.drop_zero]
  have hBz := hw11.trans (z.h.mono hw11.size)
  clear hF
  go_wp2_with fail
  go_ret
  exact ⟨rfl, hBz⟩
end Go.Proofs.YtnddfeidggcplaaGreat
