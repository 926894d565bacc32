/-
  MaskTotals: the walk.
-/
import Derived.Test.YtnddfeidggcplaaGreatTm32
import Derived.Deep.RegionHeld3
namespace Go.Proofs.YtnddfeidggcplaaGreat
open Go.RowKit

def vsK (m : List (List E)) (n k : Nat) : E := esum ((List.range k).map fun i => evM m (vertex i n))
theorem vsK_succ (m : List (List E)) (n k : Nat) : vsK m n (k + 1) = vsK m n k + evM m (vertex k n) := esum_range _ k
theorem two_keep {W X : World} {g : Nat} {a b : Value} (hB : Below W.heap.size W X) (hg : g < W.heap.size) (k : W.cell? ⟨g, 0, none⟩ = some a ∧ W.cell? ⟨g, 1, none⟩ = some b) : X.cell? ⟨g, 0, none⟩ = some a ∧ X.cell? ⟨g, 1, none⟩ = some b :=
  ⟨(hB.cell (p := ⟨g, 0, none⟩) hg).trans k.1, (hB.cell (p := ⟨g, 1, none⟩) hg).trans k.2⟩
theorem join5 {A : Prop} {M : Option Addr → Nat → Nat → Nat → World → Prop} (Q : Option Addr → Nat → Nat → Nat → World → Prop) (h : (∀ p c n e X, Q p c n e X → M p c n e X) → A) (k : ∀ p c n e X, Q p c n e X → M p c n e X) : A := h k
theorem all3 {a b c : Nat × (World → Prop)} {w : World} (h : ∀ φ ∈ [] ++ [a] ++ [b] ++ [c], φ.2 w) : a.2 w ∧ b.2 w ∧ c.2 w := ⟨h a (by simp), h b (by simp), h c (by simp)⟩
theorem all2 {a b : Nat × (World → Prop)} {w : World} (h : ∀ φ ∈ [] ++ [a] ++ [b], φ.2 w) : a.2 w ∧ b.2 w := ⟨h a (by simp), h b (by simp)⟩
theorem far_of {n m a b : Nat} (h : ∀ r : Nat × Nat, r ∈ [] ++ [(a, b)] → m ≤ r.1 ∨ r.2 ≤ n) : m ≤ a ∨ b ≤ n := h (a, b) (by simp)
theorem far_of2 {n m a b c d : Nat} (h : ∀ r : Nat × Nat, r ∈ [] ++ [(a, b)] ++ [(c, d)] → m ≤ r.1 ∨ r.2 ≤ n) : (m ≤ a ∨ b ≤ n) ∧ (m ≤ c ∨ d ≤ n) := ⟨h (a, b) (by simp), h (c, d) (by simp)⟩
attribute [local irreducible] wpRg
set_option maxRecDepth 100000 in
set_option maxHeartbeats 8000000 in
theorem wkMaskTotals (q : Q32) (A : Nat → Option Addr) (cc : Nat → Nat) (AL : Option Addr) (cL : Nat) (vM vC : Value) (L : List (List Raw)) (vO : Value) (r : Raw) (hr : Word r.1 ∧ Word r.2) (w : World) (h : Q32S w.heap.size w q A cc AL cL vM vC) (hL : RTabS 0 w.heap.size w vO L) :
    Calls Tryz.prog 5 #[qv32 A cc AL cL vM vC q, vO, .agg #[.int .u64 r.1, .int .u64 r.2]] w (Ret (.bool true) w) := by
  obtain ⟨AO, cO, rfl⟩ := hL.len
  obtain ⟨lO, hlO⟩ : ∃ l, l = L.length := ⟨_, rfl⟩
  rw [← hlO] at hL ⊢
  have HLO := Lib.hid hL
  have HLl := Lib.hid hlO
  have HXM := Lib.hid (xMade r.1 r.2 hr.1.1 hr.1.2 hr.2.1 hr.2.2)
  obtain ⟨r1, r2⟩ := r
  simp only at *
  generalize em r1 r2 = y at *
  clear hr hL hlO
  have HQ := Lib.hid (fun W (hW : Below w.heap.size w W) => lMade32 q A cc AL cL vM vC W (h.keep hW hW.size))
  unfold qv32 at *
  clear h
  go_enter Tryz.func5, Tryz.ntmps5
  go_wp2_with fail
  refine calls_stk2 fun W1 hB1 hz1 b1 b5 => ?_
  refine (lSanity32a W1).mono ?_
  rintro e w1 ⟨rfl, hb1⟩
  have h1 := hB1.trans (hb1.mono hB1.size)
  have f1 := (b1.keep hb1).cell
  go_wp2_with fail
  refine (HQ.out w1 h1).mono ?_
  rintro e w2 ⟨vt, vp, vm, AC, cC, rfl, hS, hM, hC, hb2⟩
  obtain ⟨AT, cT, hv⟩ := hS.ht.len
  replace hv : vt = .slice AT 3 cT := by rw [hv, q.tabs_len]
  subst hv
  obtain ⟨AP, cP, rfl⟩ := hS.hp.len
  obtain ⟨AM, cM, hv⟩ := hM.len
  replace hv : vm = .slice AM q.n cM := by rw [hv, q.m_len]
  subst hv
  rw [q.co_len] at hC ⊢
  clear f1
  unfold sv
  go_upto_region 3 with (fail)
  refine wp_stk2 fun X hX hzX b8 b6 => ?_
  have h2 := h1.trans (hb2.mono h1.size)
  have hZ : Z32 w q w2.heap.size (w2.heap.size + 1) AT AP AM AC cT cP cM cC X :=
    ⟨⟨(hS.ht.keep hX).base, (hS.hp.keep hX).base, hS.ix, hS.few, hS.short⟩, (hM.keep hX).base, ext_base (Rd.keep hC hX), b8, b6, h2.trans (hX.mono h2.size)⟩
  replace b5 := b5.keep (hb1.trans ((hb2.trans (hX.mono hb2.size)).mono hb1.size))
  clear hS hM hC b8 b6 hX hzX hb2 h1 h2 hB1 hz1 b1 hb1 HQ
  go_upto_region 4 with (fail)
  refine wp_stk1 fun Y hY hzY b12 => ?_
  have hYs := hzY.out
  replace b12 : Blk Y X.heap.size 30 #[.int .u64 (fv (vsK q.m q.n 0).a), .int .u64 (fv (vsK q.m q.n 0).b)] := by
    have e : fv (vsK q.m q.n 0).a = 0 := fv0
    have e' : fv (vsK q.m q.n 0).b = 0 := fv0
    rw [e, e']
    exact b12
  obtain ⟨N, hN, hN2, hN6⟩ := pow_i64 q.n (Nat.le_trans q.n_le (by decide))
  have hN8 : N ≤ 8 := by rw [hN]; exact Nat.pow_le_pow_right (by decide) q.n_le
  have hn3 := q.n_le
  have HN := Lib.hid hN
  clear hN hzY
  go_wp2_with fail
  go_loopw [13] (fun i wr => ∃ k : Nat, k ≤ N ∧ i = .int .i64 k ∧ Blk wr X.heap.size 30 #[.int .u64 (fv (vsK q.m q.n k).a), .int .u64 (fv (vsK q.m q.n k).b)] ∧ Below X.heap.size X wr ∧ X.heap.size + 1 ≤ wr.heap.size) (fun i _ => N - (intOf i).toNat)
  case atStart => exact ⟨0, Nat.zero_le _, rfl, b12, hY, by omega⟩
  case round =>
    obtain ⟨k, hk, rfl, b12, hBr, hrs⟩ := hrel
    obtain ⟨V, hV⟩ : ∃ V, V = wr := ⟨_, rfl⟩
    subst hV
    by_cases hlt : k < N
    · have HSu := Lib.hid (vsK_succ q.m q.n k)
      obtain ⟨S1, hS1⟩ : ∃ S, S = vsK q.m q.n (k + 1) := ⟨_, rfl⟩
      rw [← hS1] at HSu
      have HS1 := Lib.hid hS1
      clear hS1
      generalize vsK q.m q.n k = S0 at *
      have HEv := Lib.hid (show ∀ W1 A2 c2 lo hi, Below V.heap.size V W1 → ExtS lo hi W1 (.slice A2 (vertex k q.n).length c2) (vertex k q.n) → Calls Tryz.prog 22 #[.slice AM q.n cM, .slice A2 (vertex k q.n).length c2] W1 (Ret (ev (evM q.m (vertex k q.n))) W1) from fun W1 A2 c2 lo hi hW hE =>
        gEvM q.m (vertex k q.n) (by rw [q.m_len, vertex_length]; exact Nat.le_refl _) (by rw [q.m_len]; omega) (fun g hg => by rw [q.m_row g hg]; have := q.deg; omega) (.slice AM q.n cM) (.slice A2 _ c2) _ _ _ _ W1 (hZ.keep (hBr.trans (hW.mono hBr.size))).hM hE)
      have HAd := Lib.hid (show ∀ W1, Calls Tryz.prog 32 #[ev S0, ev (evM q.m (vertex k q.n))] W1 (Ret (ev S1) W1) from fun W1 => by rw [HSu.out]; exact eAdd _ _ W1)
      generalize evM q.m (vertex k q.n) = ek at *
      have HVx := Lib.hid (mVertex k q.n (by omega) (by omega))
      generalize vertex k q.n = vx at *
      have f1 := gw_blk b12
      go_wp2_with fail
      refine wp_region_rg 7 [(4, Spec.rel (ExtA vx) (SlF vx.length)), (5, Spec.val (.agg #[.int .u64 (fv (ek).a), .int .u64 (fv (ek).b)])), (6, Spec.val (.agg #[.int .u64 (fv (S1).a), .int .u64 (fv (S1).b)]))] (by kernel_rfl) (by kernel_rfl) (by kernel_rfl) ⟨fit_ext, trivial⟩ ?_
      refine rg_det rfl rfl rfl (fun K hK => ?_)
      go_big_quiet_op
      refine hK _ ?_; clear hK K
      refine rg_det rfl rfl rfl (fun K hK => ?_)
      go_big_quiet_op
      refine hK _ ?_; clear hK K
      refine rg_det rfl rfl rfl (fun K hK => ?_)
      go_big_quiet_op
      refine hK _ ?_; clear hK K
      refine rg_det rfl rfl rfl (fun K hK => ?_)
      go_big_quiet_op
      refine hK _ ?_; clear hK K
      refine rg_rel rfl rfl (fun W1 hW1 hF => step_callr en_attestor_attestorref05_Vertex (HVx.out W1) rfl rfl) ?_
      intro n4 m4 v4 hn4 hm4 hd4 hf4 a' ha
      simp only [Act.put, List.setIfInBounds_toArray, List.set_cons_succ, List.set_cons_zero] at ha
      subst ha
      obtain ⟨A4, cap4, rfl⟩ := hf4
      refine rg_val rfl rfl (fun W1 hW1 hF => (step_callv en_attestor_mask_Eval (HEv.out W1 _ _ _ _ (grw_below hW1) (pick_last hF (by kernel_rfl)).2) rfl rfl)) ?_
      intro a' ha
      simp only [Act.put, List.setIfInBounds_toArray, List.set_cons_succ, List.set_cons_zero] at ha
      subst ha
      refine rg_val rfl rfl (fun W1 hW1 hF => step_callv en_attestor_ext_Add (HAd.out W1) rfl rfl) ?_
      intro a' ha
      simp only [Act.put, List.setIfInBounds_toArray, List.set_cons_succ, List.set_cons_zero] at ha
      subst ha
      refine rg_nil (fun w' hw' hF => ?_)
      obtain ⟨z, rfl⟩ := hw'
      simp only [List.drop_succ_cons, List.drop_zero]
      have b12z := b12.gw z
      have hBz := hBr.trans (z.h.mono hBr.size)
      have hzs := z.h.size
      have e1 := b12z.cell
      have e2 := b12z.frozen
      clear hF f1 HVx HAd HEv b12
      go_wp2_with fail
      have hp : Put z.w _ X.heap.size := (Put.set z.w X.heap.size 0 (.int .u64 (fv S1.a))).trans (Put.set _ X.heap.size 1 (.int .u64 (fv S1.b)))
      exact ⟨⟨k + 1, by omega, by go_num, by rw [← HS1.out]; exact (b12z.set_ 0 _).set_ 1 _, below_put hBz hp (Nat.le_refl _), by rw [hp.size]; omega⟩, by simp [intOf]; omega⟩
    · obtain rfl : k = N := by omega
      rw [show vsK q.m q.n k = totM q.m by
        have e := rest_tot q.m (fun i hi => by
          have h1 := q.m_row (q.m.getD i []) (by rw [show q.m.getD i [] = q.m[i] by simp [List.getD, hi]]; exact List.getElem_mem _)
          have h2 := q.deg
          have h3 := degE_pos q.ps
          omega)
        rw [← e]
        unfold restE vsK
        rw [q.m_len, List.length_nil, Nat.sub_zero, HN.out]
        rfl] at b12
      have hZV := hZ.keep hBr
      have b5V := b5.keep hBr
      have f1 := gw_blk hZV.bS
      have f2 := gw_blk b5V
      have hwV := hZV.hw
      have hMk := Lib.hid (show ∀ W1, Below V.heap.size V W1 → Calls Tryz.prog 34 #[.slice AO lO cO, .agg #[.slice AT 3 cT, .slice AP q.ps.length cP]] W1 (RetR (TabR (mdR L q.n (degE q.ps + 1))) W1) from fun W1 h => by
        have k := hZV.keep h
        have hLW := HLO.out.keep (hwV.trans (h.mono hwV.size))
        rw [HLl.out] at hLW ⊢
        exact rMade32 L q.tabs q.ps q.n (Nat.le_trans q.n_le (by decide)) q.all (by rw [q.tabs_len]; decide) (Nat.le_trans q.deg (by decide)) _ _ _ 0 W1.heap.size 0 _ W1 k.hS hLW)
      have HKL := Lib.hid (mdR_length L q.n (degE q.ps + 1))
      have HKR := Lib.hid (show ∀ i, i < q.n → ((mdR L q.n (degE q.ps + 1)).getD i []).length = degE q.ps + 1 from fun i hi => by simp [mdR, List.getD, hi, madeAll_length])
      generalize mdR L q.n (degE q.ps + 1) = kk at *
      obtain ⟨i1, hi1, jz0, jz1, jz2⟩ := info_parts ext_info
      obtain ⟨s0, hs0, hsz0, hsz1, hsz2⟩ := info_parts sl_info
      go_upto_region 8 with (fail)
      apply join5 (Q := fun p c n e Z => Below V.heap.size V Z ∧ (∃ lo hi, TabS lo hi Z (.slice p kk.length c) kk ∧ hi ≤ Z.heap.size ∧ V.heap.size ≤ lo ∧ (e < lo ∨ hi ≤ e)) ∧ Blk Z n 30 #[.int .u64 (fv y.a), .int .u64 (fv y.b)] ∧ Blk Z e 22 #[] ∧ V.heap.size ≤ n ∧ V.heap.size ≤ e ∧ n ≠ e)
      case h =>
        intro K0
        have KK := Lib.hid K0
        clear K0
        refine wp_region_swap 8 5 undef [(2, Spec.rel (TabR kk) (SlF kk.length)), (4, Spec.val (.agg #[.int .u64 (fv (y).a), .int .u64 (fv (y).b)])), (5, Spec.rel (Lit 22 0 #[]) (LitF 0)), (6, Spec.rel (New 30 #[.int .u64 0, .int .u64 0]) (NewF))] (by kernel_rfl) (by kernel_rfl) (by kernel_rfl) rfl rfl rfl rfl ⟨fit_tabR, fit_lit, fit_new, trivial⟩ ?_ ?_
        refine rg_det rfl rfl rfl (fun K hK => ?_)
        go_big_quiet_op
        refine hK _ ?_; clear hK K
        refine rg_det rfl rfl rfl (fun K hK => ?_)
        go_big_quiet_op
        refine hK _ ?_; clear hK K
        refine rg_rel rfl rfl (fun W1 hW1 hF => step_callr en_attestor_attestorref32_Made (hMk.out W1 (grw_below hW1)) rfl rfl) ?_
        intro n2 m2 v2 hn2 hm2 hd2 hf2 a' ha
        simp only [Act.put, List.setIfInBounds_toArray, List.set_cons_succ, List.set_cons_zero] at ha
        subst ha
        obtain ⟨A2, cap2, rfl⟩ := hf2
        refine rg_det rfl rfl rfl (fun K hK => ?_)
        go_big_quiet_op
        refine hK _ ?_; clear hK K
        refine rg_val rfl rfl (fun W1 hW1 hF => step_callv en_attestor_attestorref02_Made (HXM.out W1) rfl rfl) ?_
        intro a' ha
        simp only [Act.put, List.setIfInBounds_toArray, List.set_cons_succ, List.set_cons_zero] at ha
        subst ha
        refine rg_rel rfl rfl (fun W1 hW1 hF => step_lit0 Tryz.underlying37 hs0 hsz0 rfl) ?_
        intro n5 m5 v5 hn5 hm5 hd5 hf5 a' ha
        simp only [Act.put, List.setIfInBounds_toArray, List.set_cons_succ, List.set_cons_zero] at ha
        subst ha
        obtain rfl := hf5
        refine rg_rel rfl rfl (fun W1 hW1 hF => step_new hi1 jz0 rfl) ?_
        intro n6 m6 v6 hn6 hm6 hd6 hf6 a' ha
        simp only [Act.put, List.setIfInBounds_toArray, List.set_cons_succ, List.set_cons_zero] at ha
        subst ha
        obtain rfl := hf6
        refine rg_det rfl rfl rfl (fun K hK => ?_)
        go_big_quiet_op
        refine hK _ ?_; clear hK K
        refine rg_nil (fun w' hw' hF => ?_)
        obtain ⟨z, rfl⟩ := hw'
        simp only [List.drop_succ_cons, List.drop_zero]
        rotate_left 1
        refine rg_det rfl rfl rfl (fun K hK => ?_)
        go_big_quiet_op
        refine hK _ ?_; clear hK K
        refine rg_det rfl rfl rfl (fun K hK => ?_)
        go_big_quiet_op
        refine hK _ ?_; clear hK K
        refine rg_rel rfl rfl (fun W1 hW1 hF => step_callr en_attestor_attestorref32_Made (hMk.out W1 (grw_below hW1)) rfl rfl) ?_
        intro n2 m2 v2 hn2 hm2 hd2 hf2 a' ha
        simp only [Act.put, List.setIfInBounds_toArray, List.set_cons_succ, List.set_cons_zero] at ha
        subst ha
        obtain ⟨A2, cap2, rfl⟩ := hf2
        refine rg_det rfl rfl rfl (fun K hK => ?_)
        go_big_quiet_op
        refine hK _ ?_; clear hK K
        refine rg_val rfl rfl (fun W1 hW1 hF => step_callv en_attestor_attestorref02_Made (HXM.out W1) rfl rfl) ?_
        intro a' ha
        simp only [Act.put, List.setIfInBounds_toArray, List.set_cons_succ, List.set_cons_zero] at ha
        subst ha
        refine rg_pass rfl rfl ?_
        intro a' ha
        simp only [Act.put, List.setIfInBounds_toArray, List.set_cons_succ, List.set_cons_zero] at ha
        subst ha
        refine rg_rel rfl rfl (fun W1 hW1 hF => step_new hi1 jz0 rfl) ?_
        intro n6 m6 v6 hn6 hm6 hd6 hf6 a' ha
        simp only [Act.put, List.setIfInBounds_toArray, List.set_cons_succ, List.set_cons_zero] at ha
        subst ha
        obtain rfl := hf6
        refine rg_det rfl rfl rfl (fun K hK => ?_)
        go_big_quiet_op
        refine hK _ ?_; clear hK K
        refine rg_nil (fun w' hw' hF => ?_)
        obtain ⟨z, rfl⟩ := hw'
        simp only [List.drop_succ_cons, List.drop_zero]
        refine wpList_putS ?_
        intro a' ha
        simp only [Act.put, List.setIfInBounds_toArray, List.set_cons_succ, List.set_cons_zero] at ha
        subst ha
        rotate_right 1
        · obtain ⟨⟨hm2', t2⟩, ⟨hm5', -, hl5, b5e⟩, ⟨hm6', -, hl6, b6e⟩⟩ := all3 hF
          replace t2 : TabS n2 m2 z.w (.slice A2 kk.length cap2) kk := t2
          replace b5e : Blk z.w n5 22 #[] := b5e
          replace b6e : Blk z.w n6 30 #[.int .u64 0, .int .u64 0] := b6e
          have q1 := far_of hd5
          obtain ⟨q2, q3⟩ := far_of2 hd6
          have e1 := b6e.cell
          have e2 := b6e.frozen
          clear hF hd2 hd5 hd6
          go_upto_region 9 with (fail)
          rename_i K' hK' K hK
          refine set2 (M := fun W => Code.wp _ _ _ _ W) b6e fun X2 hX2 bX2 => ?_
          have hs2 := hX2.size
          revert K' K
          exact KK.out A2 cap2 n6 n5 X2 ⟨below_put z.h hX2 hn6, ⟨n2, m2, t2.other (by omega) fun g h1 h2 _ => hX2.other g (by omega), by omega, hn2, by omega⟩, bX2, hX2.blk b5e (by omega), hn6, hn5, by omega⟩
        · obtain ⟨⟨hm2', t2⟩, ⟨hm6', -, hl6, b6e⟩⟩ := all2 hF
          replace t2 : TabS n2 m2 z.w (.slice A2 kk.length cap2) kk := t2
          replace b6e : Blk z.w n6 30 #[.int .u64 0, .int .u64 0] := b6e
          have q2 := far_of hd6
          have e1 := b6e.cell
          have e2 := b6e.frozen
          clear hF hd2 hd6
          go_upto_region 9 with (fail)
          rename_i K' hK' K hK
          have hp : Put z.w _ n6 := (Put.set z.w n6 0 (.int .u64 (fv y.a))).trans (Put.set _ n6 1 (.int .u64 (fv y.b)))
          have bp := (b6e.set_ 0 (.int .u64 (fv y.a))).set_ 1 (.int .u64 (fv y.b))
          generalize ((z.w.setCell ⟨n6, 0, none⟩ (.int .u64 (fv y.a))).setCell ⟨n6, 1, none⟩ (.int .u64 (fv y.b))) = X2 at *
          have hs2 := hp.size
          refine wp_stk1 (w := X2) fun X3 hX3 hz3 bX3 => ?_
          have hs3 := hX3.size
          have hlz := hz3.out
          have hzz := z.h.size
          obtain ⟨e0, he0⟩ : ∃ e, e = X2.heap.size := ⟨_, rfl⟩
          rw [← he0] at bX3
          rw [show z.w.heap.size = e0 by omega]
          revert K' K
          exact KK.out A2 cap2 n6 e0 X3 ⟨(below_put z.h hp hn6).trans (hX3.mono (by omega)), ⟨n2, m2, (t2.other (by omega) fun g h1 h2 _ => hp.other g (by omega)).keep hX3, by omega, hn2, by omega⟩, bp.keep hX3, bX3, hn6, by omega, by omega⟩
      intro Ak ck gn ge V8 ⟨hB8, ⟨lk, hk8, hkk, hkh, hkl, hke⟩, bn, be, hgn, hge, hne⟩ K1 hK1 K2 hK2
      rw [HKL.out] at hkk ⊢
      have hbase : V.heap.size ≤ V8.heap.size := hB8.size
      have hMV := hZV.hM
      have HMR := Lib.hid (show ∀ (i : Nat) (g : List E), q.m[i]? = some g → g.length = degE q.ps + 1 from fun i g hg => q.m_row g (List.mem_of_getElem? hg))
      have HMRd := Lib.hid (show ∀ i, i < q.n → (q.m.getD i []).length = degE q.ps + 1 from fun i hi => q.m_row _ (by rw [show q.m.getD i [] = q.m[i]'(by rw [q.m_len]; exact hi) by simp [List.getD, q.m_len, hi]]; exact List.getElem_mem _))
      have HML := Lib.hid q.m_len
      have hlt0 := hlt
      have HKM := Lib.hid (fun W (h : Below V.heap.size V W) => (hZV.keep h).hC)
      have HEm := Lib.hid (fun W (h : Below V.heap.size V W) => hZV.evM h)
      have HTm := Lib.hid (fun W (h : Below V.heap.size V W) => hZV.totM h)
      have bWV := hZV.bW
      obtain ⟨D, hD⟩ : ∃ x, x = degE q.ps := ⟨_, rfl⟩
      have hD9 : D ≤ 3 := by rw [hD]; exact q.deg
      have hD1 : 1 ≤ D := by rw [hD]; exact degE_pos q.ps
      rw [← hD] at HKR HMR HMRd
      clear hD hlt hlt0 hk hZ hMk HXM HLO HLl hN2 hN6 hN8 HN hZV f1 f2 b5V b5 hBr hrs
      go_wp2_with fail
      go_loopw [16, 17] (fun u i wr => ∃ j : Nat, j ≤ q.n ∧ i = .int .i64 j ∧ RowT V.heap.size wr u (linM q.m y kk j) ∧ TabS lk hk8 wr (.slice Ak q.n ck) kk ∧ Outside lk hk8 u ∧ Blk wr gn 30 #[.int .u64 (fv y.a), .int .u64 (fv y.b)] ∧ u.ownBlock ≠ some gn ∧ Below V.heap.size V wr ∧ hk8 ≤ wr.heap.size) (fun _ i _ => q.n - (intOf i).toNat)
      case atStart => exact ⟨0, Nat.zero_le _, rfl, ⟨[], ⟨rfl, .inr ⟨ge, 0, #[], rfl, hge, be, Nat.le_refl _, Nat.zero_le _, rfl, by simp⟩⟩, rfl, fun k x t h => by simp at h⟩, hkk, fun b hb => by simp [Value.ownBlock] at hb; omega, bn, by simp [Value.ownBlock]; omega, hB8, hkh⟩
      case round =>
        obtain ⟨i, hi, rfl, hrow, hkk, hout, bn, hnn, hBr, hkh⟩ := hrel
        obtain ⟨Z, hZe⟩ : ∃ Z, Z = wr := ⟨_, rfl⟩
        subst hZe
        obtain ⟨AU, cU, hv⟩ := hrow.len (by rw [linM_length]; omega)
        rw [linM_length] at hv
        subst hv
        have hsZ := hBr.size
        by_cases hlt : i < q.n
        · obtain ⟨gR, oR, cR', hv, -, -, -, lR, qR⟩ := tabs_cells (hMV.keep hBr) (by rw [HML.out]; omega)
          rw [HML.out] at hv
          cases hv
          obtain ⟨gP, oP, cP', hv, -, -, -, lP, qP⟩ := tabs_cells hkk (by rw [HKL.out]; omega)
          rw [HKL.out] at hv
          cases hv
          obtain ⟨rL, hrL⟩ : ∃ g, q.m[i]? = some g := ⟨_, List.getElem?_eq_getElem (by rw [HML.out]; exact hlt)⟩
          obtain ⟨pL, hpL⟩ : ∃ g, kk[i]? = some g := ⟨_, List.getElem?_eq_getElem (by rw [HKL.out]; exact hlt)⟩
          obtain ⟨A1, c1, d1, x1⟩ := qR i rL hrL
          obtain ⟨A2, c2, d2, x2⟩ := qP i pL hpL
          have hl1 := HMR.out i rL hrL
          have hl2 := HKR.out i hlt
          rw [List.getD_eq_getElem?_getD, hpL] at hl2
          replace hl2 : pL.length = D + 1 := hl2
          rw [hl1] at d1 x1
          rw [hl2] at d2 x2
          have HS := Lib.hid (show linM q.m y kk (i + 1) = linM q.m y kk i ++ [linR rL y pL] by
            rw [linM_succ, List.getD_eq_getElem?_getD, List.getD_eq_getElem?_getD, hrL, hpL]; rfl)
          have Hl1 := Lib.hid hl1
          have Hl2 := Lib.hid hl2
          obtain ⟨g1, o1, c1', hv, -, -, -, l1, q1⟩ := exts_cells x1 (by omega)
          rw [hl1] at hv
          cases hv
          obtain ⟨g2, o2, c2', hv, -, -, -, l2, q2⟩ := exts_cells x2 (by omega)
          rw [hl2] at hv
          cases hv
          have Q1 := Lib.hid q1
          have Q2 := Lib.hid q2
          have HLr := Lib.hid (show (linR rL y pL).length = D + 1 by rw [linR_length, hl2])
          have HLx := Lib.hid (show ∀ (t : Nat) (a b : E), rL[t]? = some a → pL[t]? = some b → ((linR rL y pL).take (t + 1)).flatMap ec = ((linR rL y pL).take t).flatMap ec ++ ec (a + y * b) from fun t a b ha hb => by
            obtain ⟨ht, hbe⟩ := List.getElem?_eq_some_iff.1 hb
            have h1 : (linR rL y pL)[t]? = some (a + y * b) := by simp [linR, ht, List.getD, ha, hbe]
            rw [List.take_add_one, h1]
            simp)
          clear hl1 hl2 qR qP q1 q2 hrL hpL x1 x2
          generalize linR rL y pL = rw0 at *
          go_wp2_with fail
          go_loopw [18, 19] (fun v t wi => ∃ k : Nat, k ≤ D + 1 ∧ t = .int .i64 k ∧ wi.ownsRow Z.heap.size 30 2 v k ((rw0.take k).flatMap ec) ∧ Below Z.heap.size Z wi) (fun _ t _ => D + 1 - (intOf t).toNat)
          case atStart => exact ⟨0, Nat.zero_le _, rfl, ⟨by simp, .inr ⟨Z.heap.size, 0, #[], rfl, Nat.le_refl _, World.alloc_heap_new Z _, Nat.le_refl _, Nat.zero_le _, rfl, by simp⟩⟩, (Below.refl _ _).alloc (Nat.le_refl _) _⟩
          case round =>
            obtain ⟨t, ht, rfl, hown, hBy⟩ := hrel
            obtain ⟨U, hU⟩ : ∃ U, U = wr := ⟨_, rfl⟩
            subst hU
            have hsy := hBy.size
            have e1 := (hBy.cell (p := ⟨gR, oR + i, none⟩) lR).trans d1
            by_cases hltj : t < D + 1
            · obtain ⟨a, ha, -⟩ := get_of (l := rL) (k := t) (by rw [Hl1.out]; exact hltj)
              obtain ⟨b, hb, -⟩ := get_of (l := pL) (k := t) (by rw [Hl2.out]; exact hltj)
              obtain ⟨y1, y2⟩ := Q1.out t a ha
              obtain ⟨y3, y4⟩ := Q2.out t b hb
              have HX := Lib.hid (HLx.out t a b ha hb)
              have f1 := gw_cell (Nat.lt_of_lt_of_le lR hBy.size) e1
              have f2 := gw_cell (Nat.lt_of_lt_of_le lP hBy.size) ((hBy.cell (p := ⟨gP, oP + i, none⟩) lP).trans d2)
              have f3 := gw_cell (Nat.lt_of_lt_of_le l1 hBy.size) ((hBy.cell (p := ⟨g1, o1 + t * 2, none⟩) l1).trans y1)
              have f4 := gw_cell (Nat.lt_of_lt_of_le l1 hBy.size) ((hBy.cell (p := ⟨g1, o1 + t * 2 + 1, none⟩) l1).trans y2)
              have f5 := gw_cell (Nat.lt_of_lt_of_le l2 hBy.size) ((hBy.cell (p := ⟨g2, o2 + t * 2, none⟩) l2).trans y3)
              have f6 := gw_cell (Nat.lt_of_lt_of_le l2 hBy.size) ((hBy.cell (p := ⟨g2, o2 + t * 2 + 1, none⟩) l2).trans y4)
              have f7 := gw_blk (bn.keep hBy)
              obtain ⟨Av, cv, rfl⟩ := own_len hown
              clear ha hb y1 y2 y3 y4
              go_wp2_with fail
              clear e1
              refine wp_region_rg 19 [(16, Spec.val (.agg #[.int .u64 (fv ((y * b)).a), .int .u64 (fv ((y * b)).b)])), (17, Spec.val (.agg #[.int .u64 (fv ((a + y * b)).a), .int .u64 (fv ((a + y * b)).b)])), (18, Spec.rel (Lit 30 1 #[.int .u64 (fv (a + y * b).a), .int .u64 (fv (a + y * b).b)]) (LitF 1))] (by kernel_rfl) (by kernel_rfl) (by kernel_rfl) ⟨fit_lit, trivial⟩ ?_
              refine rg_det rfl rfl rfl (fun K hK => ?_)
              go_big_quiet_op
              refine hK _ ?_; clear hK K
              refine rg_det rfl rfl rfl (fun K hK => ?_)
              go_big_quiet_op
              refine hK _ ?_; clear hK K
              refine rg_det rfl rfl rfl (fun K hK => ?_)
              go_big_quiet_op
              refine hK _ ?_; clear hK K
              refine rg_det rfl rfl rfl (fun K hK => ?_)
              go_big_quiet_op
              refine hK _ ?_; clear hK K
              refine rg_det rfl rfl rfl (fun K hK => ?_)
              go_big_quiet_op
              refine hK _ ?_; clear hK K
              refine rg_det rfl rfl rfl (fun K hK => ?_)
              go_big_quiet_op
              refine hK _ ?_; clear hK K
              refine rg_det rfl rfl rfl (fun K hK => ?_)
              go_big_quiet_op
              refine hK _ ?_; clear hK K
              refine rg_det rfl rfl rfl (fun K hK => ?_)
              go_big_quiet_op
              refine hK _ ?_; clear hK K
              refine rg_det rfl rfl rfl (fun K hK => ?_)
              go_big_quiet_op
              refine hK _ ?_; clear hK K
              refine rg_det rfl rfl rfl (fun K hK => ?_)
              go_big_quiet_op
              refine hK _ ?_; clear hK K
              refine rg_det rfl rfl rfl (fun K hK => ?_)
              go_big_quiet_op
              refine hK _ ?_; clear hK K
              refine rg_det rfl rfl rfl (fun K hK => ?_)
              go_big_quiet_op
              refine hK _ ?_; clear hK K
              refine rg_det rfl rfl rfl (fun K hK => ?_)
              go_big_quiet_op
              refine hK _ ?_; clear hK K
              refine rg_det rfl rfl rfl (fun K hK => ?_)
              go_big_quiet_op
              refine hK _ ?_; clear hK K
              refine rg_det rfl rfl rfl (fun K hK => ?_)
              go_big_quiet_op
              refine hK _ ?_; clear hK K
              refine rg_det rfl rfl rfl (fun K hK => ?_)
              go_big_quiet_op
              refine hK _ ?_; clear hK K
              refine rg_val rfl rfl (fun W1 hW1 hF => step_callv en_attestor_ext_Mul (eMul y b W1) rfl rfl) ?_
              intro a' ha
              simp only [Act.put, List.setIfInBounds_toArray, List.set_cons_succ, List.set_cons_zero] at ha
              subst ha
              refine rg_val rfl rfl (fun W1 hW1 hF => step_callv en_attestor_ext_Add (eAdd a (y * b) W1) rfl rfl) ?_
              intro a' ha
              simp only [Act.put, List.setIfInBounds_toArray, List.set_cons_succ, List.set_cons_zero] at ha
              subst ha
              refine rg_rel rfl rfl (fun W1 hW1 hF => step_lit1 Tryz.underlying22 hi1 jz0 jz1 (by decide) (by decide) rfl rfl rfl) ?_
              intro n18 m18 v18 hn18 hm18 hd18 hf18 a' ha
              simp only [Act.put, List.setIfInBounds_toArray, List.set_cons_succ, List.set_cons_zero] at ha
              subst ha
              obtain rfl := hf18
              refine rg_nil (fun w' hw' hF => ?_)
              obtain ⟨z, rfl⟩ := hw'
              simp only [List.drop_succ_cons, List.drop_zero]
              obtain ⟨hm18', -, hl18, b18⟩ := end_last hF
              have hO2 := own_below hown (Nat.le_refl _) z.h
              have hzs := z.h.size
              have hBz := hBy.trans (z.h.mono hBy.size)
              clear hF f1 f2 f3 f4 f5 f6 f7 hd18
              go_wp2_with (at_builtin; refine wpList_app1 rfl _ _ rfl Tryz.underlying22 hi1 jz0 jz1 jz2 rfl (by decide) (cl := ec (a + y * b)) rfl (ec_one _) rfl rfl hO2 b18 ?h63 ?hby ?hbase ?_)
              case h63 => unfold maxLen; omega
              case hby => omega
              case hbase => omega
              intro v1 w4 hown4 hgrow hB5
              rw [← HX.out] at hown4
              clear hgrow hO2 b18
              go_wp2_with fail
              exact ⟨⟨t + 1, by omega, by go_num, hown4, hBz.trans hB5⟩, by simp [intOf]; omega⟩
            · obtain rfl : t = D + 1 := by omega
              have hown' := hown
              rw [List.take_of_length_le (by rw [HLr.out]; exact Nat.le_refl _)] at hown'
              obtain ⟨A9, c9, rfl⟩ := own_len hown
              have hE : ExtS Z.heap.size U.heap.size U (.slice A9 (D + 1) c9) rw0 := by
                unfold ExtS
                rw [HLr.out]
                exact Rd.of_own hown' (by omega) (Nat.le_refl _)
              have hal : Below U.heap.size U (U.alloc (.cells #[.slice A9 (D + 1) c9] 22)) := (Below.refl _ _).alloc (Nat.le_refl _) _
              have hXU := hBy.trans (hal.mono hsy)
              have hrU := hrow.keep hXU
              have hkU := hkk.keep hXU
              have hnU := bn.keep hXU
              go_wp2_with (at_builtin; refine wpList_appT (x := .slice A9 (D + 1) c9) (y := rw0) (lo := Z.heap.size) (hi := U.heap.size) (base := V.heap.size) (ts := linM q.m y kk i) rfl _ _ rfl Tryz.underlying37 rfl rfl ?hrow ?hsrc rfl ?hE ?hlo ?hhi ?hout ?hk ?hbase ?_)
              case hrow => exact hrU
              case hsrc => exact Blk.new_at _ _ _ rfl
              case hE => exact Rd.keep hE hal
              case hlo => omega
              case hhi => simp
              case hout => exact hrow.out (Nat.le_refl _)
              case hk => rw [linM_length]; omega
              case hbase => simp; omega
              intro u' w3 hrow3 hB3 hg3 hob3
              have hsz : (U.alloc (.cells #[.slice A9 (D + 1) c9] 22)).heap.size = U.heap.size + 1 := by simp
              have hk3 := tabs_kept hkU (Kept.of_grown hg3 hout (by omega)) hg3.size
              have ho3 : Outside lk hk8 u' := fun b hb => by
                rcases hob3 with h | h
                · exact hout b (by rw [← h]; exact hb)
                · rw [h] at hb
                  cases hb
                  exact .inr (by omega)
              have hn3' := grown_blk hg3 hnU (fun e => hnn e.symm)
              have hnn3 : u'.ownBlock ≠ some gn := by
                rcases hob3 with h | h
                · rw [h]; exact hnn
                · rw [h, ne_eq, Option.some.injEq]
                  have := bn.lt
                  omega
              have hs3 := hg3.size
              go_wp2_with fail
              exact ⟨⟨i + 1, by omega, by go_num, by rw [HS.out]; exact hrow3, hk3, ho3, hn3', hnn3, (hBr.trans (hXU.mono hsZ)).trans hB3, by omega⟩, by simp [intOf]; omega⟩
        · obtain rfl : i = q.n := by omega
          have hbT := hrow.tabs (by rw [linM_length]; omega)
          have hHl : ∀ g ∈ linM q.m y kk q.n, g.length = D + 1 := fun g hg => by
            obtain ⟨i, hi, rfl⟩ := List.mem_map.1 hg
            rw [linR_length, HKR.out i (List.mem_range.1 hi)]
          have hKl : ∀ g ∈ kk, g.length = D + 1 := fun g hg => by
            obtain ⟨i, hi, rfl⟩ := List.mem_iff_getElem.1 hg
            have := HKR.out i (by rw [← HKL.out]; exact hi)
            rwa [show kk.getD i [] = kk[i] by simp [List.getD, hi]] at this
          have hlt' := lin_tot (m := q.m) (k := kk) (f := y) hD1 HKR.out HML.out HKL.out
          have hle' := lin_evM (m := q.m) (k := kk) (f := y) (co := q.co) HMRd.out HKR.out HML.out HKL.out
          have hwZ := hwV.trans (hBr.mono hwV.size)
          have f1 := gw_blk (b12.keep hBr)
          have f2 := gw_blk bn
          have f3 := gw_blk (bWV.keep hBr)
          obtain ⟨tM, htM⟩ : ∃ x, x = totM q.m := ⟨_, rfl⟩
          obtain ⟨eM, heM⟩ : ∃ x, x = evM q.m q.co := ⟨_, rfl⟩
          obtain ⟨tK, htK⟩ : ∃ x, x = totM kk := ⟨_, rfl⟩
          obtain ⟨eK, heK⟩ : ∃ x, x = evM kk q.co := ⟨_, rfl⟩
          rw [← htM, ← htK] at hlt'
          rw [← heM, ← heK] at hle'
          rw [← htM] at f1
          have X1 := Lib.hid (show ∀ W1, Below Z.heap.size Z W1 → Calls Tryz.prog 20 #[.slice AM q.n cM] W1 (Ret (ev tM) W1) from fun W1 h => by rw [htM]; exact HTm.out W1 (hBr.trans (h.mono hBr.size)))
          have X2 := Lib.hid (show ∀ W1, Below Z.heap.size Z W1 → Calls Tryz.prog 20 #[.slice AU q.n cU] W1 (Ret (ev (tM + y * tK)) W1) from fun W1 h => by
            rw [← hlt']
            exact gTotM (linM q.m y kk q.n) (by rw [linM_length]; omega) (fun g hg => by rw [hHl g hg]; omega) (.slice AU q.n cU) _ _ W1 (hbT.keep h))
          have X3 := Lib.hid (show ∀ W1, Below Z.heap.size Z W1 → Calls Tryz.prog 20 #[.slice Ak q.n ck] W1 (Ret (ev tK) W1) from fun W1 h => by
            rw [htK]
            exact gTotM kk (by rw [HKL.out]; omega) (fun g hg => by rw [hKl g hg]; omega) (.slice Ak q.n ck) _ _ W1 (hkk.keep h))
          have X4 := Lib.hid (show ∀ W1, Below Z.heap.size Z W1 → Calls Tryz.prog 22 #[.slice AU q.n cU, .slice AC q.n cC] W1 (Ret (ev (eM + y * eK)) W1) from fun W1 h => by
            rw [← hle']
            exact gEvM (linM q.m y kk q.n) q.co (by rw [linM_length, q.co_len]; exact Nat.le_refl _) (by rw [linM_length]; omega) (fun g hg => by rw [hHl g hg]; omega) (.slice AU q.n cU) (.slice AC q.n cC) _ _ _ _ W1 (hbT.keep h) (HKM.out W1 (hBr.trans (h.mono hBr.size))))
          have X5 := Lib.hid (show ∀ W1, Below Z.heap.size Z W1 → Calls Tryz.prog 22 #[.slice AM q.n cM, .slice AC q.n cC] W1 (Ret (ev eM) W1) from fun W1 h => by rw [heM]; exact HEm.out W1 (hBr.trans (h.mono hBr.size)))
          have X6 := Lib.hid (show ∀ W1, Below Z.heap.size Z W1 → Calls Tryz.prog 22 #[.slice Ak q.n ck, .slice AC q.n cC] W1 (Ret (ev eK) W1) from fun W1 h => by
            rw [heK]
            exact gEvM kk q.co (by rw [HKL.out, q.co_len]; exact Nat.le_refl _) (by rw [HKL.out]; omega) (fun g hg => by rw [hKl g hg]; omega) (.slice Ak q.n ck) (.slice AC q.n cC) _ _ _ _ W1 (hkk.keep h) (HKM.out W1 (hBr.trans (h.mono hBr.size))))
          clear hlt' hle' htM heM htK heK hHl hKl hbT hkk hrow HKM HEm HTm
          go_wp2_with fail
          refine wp_region_rg 35 [(1, Spec.val (.agg #[.int .u64 (fv (tM).a), .int .u64 (fv (tM).b)])), (6, Spec.val (.agg #[.int .u64 (fv ((tM + y * tK)).a), .int .u64 (fv ((tM + y * tK)).b)])), (10, Spec.val (.agg #[.int .u64 (fv (tK).a), .int .u64 (fv (tK).b)])), (11, Spec.val (.agg #[.int .u64 (fv ((y * tK)).a), .int .u64 (fv ((y * tK)).b)])), (12, Spec.val (.agg #[.int .u64 (fv ((tM + y * tK)).a), .int .u64 (fv ((tM + y * tK)).b)])), (19, Spec.val (.agg #[.int .u64 (fv ((eM + y * eK)).a), .int .u64 (fv ((eM + y * eK)).b)])), (23, Spec.val (.agg #[.int .u64 (fv (eM).a), .int .u64 (fv (eM).b)])), (28, Spec.val (.agg #[.int .u64 (fv (eK).a), .int .u64 (fv (eK).b)])), (29, Spec.val (.agg #[.int .u64 (fv ((y * eK)).a), .int .u64 (fv ((y * eK)).b)])), (30, Spec.val (.agg #[.int .u64 (fv ((eM + y * eK)).a), .int .u64 (fv ((eM + y * eK)).b)]))] (by kernel_rfl) (by kernel_rfl) (by kernel_rfl) trivial ?_
          refine rg_det rfl rfl rfl (fun K hK => ?_)
          go_big_quiet_op
          refine hK _ ?_; clear hK K
          refine rg_val rfl rfl (fun W1 hW1 hF => step_callv en_attestor_mask_Total (X1.out W1 (grw_below hW1)) rfl rfl) ?_
          intro a' ha
          simp only [Act.put, List.setIfInBounds_toArray, List.set_cons_succ, List.set_cons_zero] at ha
          subst ha
          refine rg_det rfl rfl rfl (fun K hK => ?_)
          go_big_quiet_op
          refine hK _ ?_; clear hK K
          refine rg_det rfl rfl rfl (fun K hK => ?_)
          go_big_quiet_op
          refine hK _ ?_; clear hK K
          refine rg_det rfl rfl rfl (fun K hK => ?_)
          go_big_quiet_op
          refine hK _ ?_; clear hK K
          refine rg_det rfl rfl rfl (fun K hK => ?_)
          go_big_quiet_op
          refine hK _ ?_; clear hK K
          refine rg_val rfl rfl (fun W1 hW1 hF => step_callv en_attestor_mask_Total (X2.out W1 (grw_below hW1)) rfl rfl) ?_
          intro a' ha
          simp only [Act.put, List.setIfInBounds_toArray, List.set_cons_succ, List.set_cons_zero] at ha
          subst ha
          refine rg_det rfl rfl rfl (fun K hK => ?_)
          go_big_quiet_op
          refine hK _ ?_; clear hK K
          refine rg_det rfl rfl rfl (fun K hK => ?_)
          go_big_quiet_op
          refine hK _ ?_; clear hK K
          refine rg_det rfl rfl rfl (fun K hK => ?_)
          go_big_quiet_op
          refine hK _ ?_; clear hK K
          refine rg_val rfl rfl (fun W1 hW1 hF => step_callv en_attestor_mask_Total (X3.out W1 (grw_below hW1)) rfl rfl) ?_
          intro a' ha
          simp only [Act.put, List.setIfInBounds_toArray, List.set_cons_succ, List.set_cons_zero] at ha
          subst ha
          refine rg_val rfl rfl (fun W1 hW1 hF => step_callv en_attestor_ext_Mul (eMul y tK W1) rfl rfl) ?_
          intro a' ha
          simp only [Act.put, List.setIfInBounds_toArray, List.set_cons_succ, List.set_cons_zero] at ha
          subst ha
          refine rg_val rfl rfl (fun W1 hW1 hF => step_callv en_attestor_ext_Add (eAdd tM (y * tK) W1) rfl rfl) ?_
          intro a' ha
          simp only [Act.put, List.setIfInBounds_toArray, List.set_cons_succ, List.set_cons_zero] at ha
          subst ha
          refine rg_det rfl rfl rfl (fun K hK => ?_)
          go_big_quiet_op
          refine hK _ ?_; clear hK K
          refine rg_det rfl rfl rfl (fun K hK => ?_)
          go_big_quiet_op
          refine hK _ ?_; clear hK K
          refine rg_det rfl rfl rfl (fun K hK => ?_)
          go_big_quiet_op
          refine hK _ ?_; clear hK K
          refine rg_det rfl rfl rfl (fun K hK => ?_)
          go_big_quiet_op
          refine hK _ ?_; clear hK K
          refine rg_det rfl rfl rfl (fun K hK => ?_)
          go_big_quiet_op
          refine hK _ ?_; clear hK K
          refine rg_det rfl rfl rfl (fun K hK => ?_)
          go_big_quiet_op
          refine hK _ ?_; clear hK K
          refine rg_val rfl rfl (fun W1 hW1 hF => step_callv en_attestor_mask_Eval (X4.out W1 (grw_below hW1)) rfl rfl) ?_
          intro a' ha
          simp only [Act.put, List.setIfInBounds_toArray, List.set_cons_succ, List.set_cons_zero] at ha
          subst ha
          refine rg_det rfl rfl rfl (fun K hK => ?_)
          go_big_quiet_op
          refine hK _ ?_; clear hK K
          refine rg_det rfl rfl rfl (fun K hK => ?_)
          go_big_quiet_op
          refine hK _ ?_; clear hK K
          refine rg_det rfl rfl rfl (fun K hK => ?_)
          go_big_quiet_op
          refine hK _ ?_; clear hK K
          refine rg_val rfl rfl (fun W1 hW1 hF => step_callv en_attestor_mask_Eval (X5.out W1 (grw_below hW1)) rfl rfl) ?_
          intro a' ha
          simp only [Act.put, List.setIfInBounds_toArray, List.set_cons_succ, List.set_cons_zero] at ha
          subst ha
          refine rg_det rfl rfl rfl (fun K hK => ?_)
          go_big_quiet_op
          refine hK _ ?_; clear hK K
          refine rg_det rfl rfl rfl (fun K hK => ?_)
          go_big_quiet_op
          refine hK _ ?_; clear hK K
          refine rg_det rfl rfl rfl (fun K hK => ?_)
          go_big_quiet_op
          refine hK _ ?_; clear hK K
          refine rg_det rfl rfl rfl (fun K hK => ?_)
          go_big_quiet_op
          refine hK _ ?_; clear hK K
          refine rg_val rfl rfl (fun W1 hW1 hF => step_callv en_attestor_mask_Eval (X6.out W1 (grw_below hW1)) rfl rfl) ?_
          intro a' ha
          simp only [Act.put, List.setIfInBounds_toArray, List.set_cons_succ, List.set_cons_zero] at ha
          subst ha
          refine rg_val rfl rfl (fun W1 hW1 hF => step_callv en_attestor_ext_Mul (eMul y eK W1) rfl rfl) ?_
          intro a' ha
          simp only [Act.put, List.setIfInBounds_toArray, List.set_cons_succ, List.set_cons_zero] at ha
          subst ha
          refine rg_val rfl rfl (fun W1 hW1 hF => step_callv en_attestor_ext_Add (eAdd eM (y * eK) W1) rfl rfl) ?_
          intro a' ha
          simp only [Act.put, List.setIfInBounds_toArray, List.set_cons_succ, List.set_cons_zero] at ha
          subst ha
          refine rg_det rfl rfl rfl (fun K hK => ?_)
          go_big_quiet_op
          refine hK _ ?_; clear hK K
          refine rg_det rfl rfl rfl (fun K hK => ?_)
          go_big_quiet_op
          refine hK _ ?_; clear hK K
          refine rg_det rfl rfl rfl (fun K hK => ?_)
          go_big_quiet_op
          refine hK _ ?_; clear hK K
          refine rg_det rfl rfl rfl (fun K hK => ?_)
          go_big_quiet_op
          refine hK _ ?_; clear hK K
          refine rg_nil (fun w' hw' hF => ?_)
          obtain ⟨z6, rfl⟩ := hw'
          simp only [List.drop_succ_cons, List.drop_zero]
          have hBz := hwZ.trans (z6.h.mono hwZ.size)
          clear hF
          go_wp2_with fail
          go_ret
          exact ⟨rfl, hBz⟩
end Go.Proofs.YtnddfeidggcplaaGreat
