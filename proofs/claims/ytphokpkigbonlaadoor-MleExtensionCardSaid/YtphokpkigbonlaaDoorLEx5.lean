/-
  MleExtension: the walk.
-/
import Derived.Test.YtphokpkigbonlaaDoorLay5
namespace Go.Proofs.YtphokpkigbonlaaDoor
open Go.RowKit

set_option maxRecDepth 100000 in
set_option maxHeartbeats 8000000 in
theorem wkMleExtension (q : Q5) (vT vP vQ : Value) (zi zk : Int) (w : World) (h : Q5S w.heap.size w q vT vP vQ) (hzi : 0 ≤ zi ∧ zi < 256) (hzk : 0 ≤ zk ∧ zk < 256) (hL : Laid w) :
    Calls Tryd.prog 4 #[qv5 vT vP vQ q, .int .u8 zi, .int .u8 zk] w (Ret (.bool true) w) := by
  obtain ⟨i0, hi0, iz0, iz1, iz2⟩ := info_parts ext_info
  obtain ⟨hzi0, hzi1⟩ := hzi
  obtain ⟨hzk0, hzk1⟩ := hzk
  obtain ⟨zi, rfl⟩ := Int.eq_ofNat_of_zero_le hzi0
  obtain ⟨zk, rfl⟩ := Int.eq_ofNat_of_zero_le hzk0
  unfold qv5
  go_enter Tryd.func4, Tryd.ntmps4
  go_wp2_with fail
  refine calls_stk1 fun W1 hB1 hz1 b1 => ?_
  refine (lSanity5 W1 (hL.keep hB1)).mono ?_
  rintro e w2 ⟨rfl, hb2⟩
  have hB2 := hB1.trans (hb2.mono hB1.size)
  have e1 := (b1.keep hb2).cell
  go_wp2_with fail
  refine (lMade5 q vT vP vQ w.heap.size w2 (h.keep hB2) hB2.size).mono ?_
  rintro e w3 ⟨a, b, c, nt, mt, np, mp, ns, ms, rfl, ot, op, os, ⟨lt1, lp1, ls1, lt2, lp2, ls2⟩, ⟨dtp, dts, dps⟩, hb3⟩
  obtain ⟨Aa, capa, rfl⟩ := ot.1.len
  obtain ⟨Ab, capb, rfl⟩ := op.1.len
  obtain ⟨Ac, capc, rfl⟩ := os.1.len
  have hB3 := hB2.trans (hb3.mono hB2.size)
  have Ly := lay_made5 ot op os lt2 lp2 ls2 (hL.keep hB3)
  clear e1 h
  generalize q.t = t at *
  generalize q.p = p at *
  generalize q.s = s at *
  have hpl := Ly.pl
  have ht64 := Ly.t64
  have ht0 := Ly.t0
  obtain ⟨at_, hat⟩ : ∃ at_, at_ = zi % t.length := ⟨_, rfl⟩
  have hm1 : Int.tmod (zi : Int) (t.length : Int) = (at_ : Int) := by rw [hat]; rfl
  have hm2 : (zi : Int) % (t.length : Int) = (at_ : Int) := by rw [hat]; rfl
  have hat1 : at_ < t.length := by rw [hat]; exact Nat.mod_lt _ ht0
  clear hat
  obtain ⟨gT, oT, cT, hv, -, -, -, q4, q5⟩ := exts_cells Ly.ht ht0
  cases hv
  obtain ⟨x, hx, hxd⟩ := get_of hat1
  obtain ⟨d1, d2⟩ := q5 at_ x hx
  have f1 := gw_cell q4 d1
  have f2 := gw_cell q4 d2
  have hmv := mev_vertex t at_ p.length Ly.tl (by rw [← Ly.tl]; exact hat1)
  rw [hxd] at hmv
  have HMV := Lib.hid hmv
  have hvl := vertex_length at_ p.length
  have HVL := Lib.hid hvl
  have ha6 : at_ ≤ 1000000 := by omega
  have hp60 : p.length ≤ 60 := by omega
  clear q5 hx hxd hmv hvl d1 d2
  go_wp2_with fail
  clear hm1 hm2
  refine wp_region_rg 11 [(4, Spec.rel (ExtA (vertex at_ p.length)) (SlF (vertex at_ p.length).length)), (5, Spec.val (.agg #[.int .u64 (fv (x).a), .int .u64 (fv (x).b)]))] (by kernel_rfl) (by kernel_rfl) (by kernel_rfl) ⟨fit_ext, trivial⟩ ?_
  refine rg_det rfl rfl rfl (fun K hK => ?_)
  go_big_quiet_op
  refine hK _ ?_; clear hK K
  refine rg_det rfl rfl rfl (fun K hK => ?_)
  go_big_quiet_op
  refine hK _ ?_; clear hK K
  refine rg_det rfl rfl rfl (fun K hK => ?_)
  go_big_quiet_op
  refine hK _ ?_; clear hK K
  refine rg_det rfl rfl rfl (fun K hK => ?_)
  go_big_quiet_op
  refine hK _ ?_; clear hK K
  refine rg_rel rfl rfl (fun W1 hW1 hF => step_callr en_attestor_attestorref05_Vertex (mVertex at_ p.length ha6 hp60 W1) rfl rfl) ?_
  intro n4 m4 v4 hn4 hm4 hd4 hf4 a' ha
  simp only [Act.put, List.setIfInBounds_toArray, List.set_cons_succ, List.set_cons_zero] at ha
  subst ha
  obtain ⟨A4, cap4, rfl⟩ := hf4
  refine rg_val rfl rfl (fun W1 hW1 hF => step_callv en_attestor_mle_Eval ((by rw [← HMV.out]; exact (Ly.grw hW1).evalP (pick_last hF (by kernel_rfl)).2 (pick_last hF (by kernel_rfl)).1 HVL.out)) rfl rfl) ?_
  intro a' ha
  simp only [Act.put, List.setIfInBounds_toArray, List.set_cons_succ, List.set_cons_zero] at ha
  subst ha
  refine rg_det rfl rfl rfl (fun K hK => ?_)
  go_big_quiet_op
  refine hK _ ?_; clear hK K
  refine rg_det rfl rfl rfl (fun K hK => ?_)
  go_big_quiet_op
  refine hK _ ?_; clear hK K
  refine rg_det rfl rfl rfl (fun K hK => ?_)
  go_big_quiet_op
  refine hK _ ?_; clear hK K
  refine rg_det rfl rfl rfl (fun K hK => ?_)
  go_big_quiet_op
  refine hK _ ?_; clear hK K
  refine rg_det rfl rfl rfl (fun K hK => ?_)
  go_big_quiet_op
  refine hK _ ?_; clear hK K
  refine rg_nil (fun w' hw' hF => ?_)
  obtain ⟨z, rfl⟩ := hw'
  simp only [List.drop_succ_cons, List.drop_zero]
  have Lz := Ly.keep z.h
  have hBz := hB3.trans (z.h.mono hB3.size)
  clear hF f1 f2 Ly
  by_cases hp0 : p.length = 0
  · have hb0 : ((p.length : Int) == 0) = true := by rw [beq_iff_eq]; omega
    clear hp0
    go_wp2_with fail
    go_ret
    exact ⟨rfl, hBz⟩
  · have hb0 : ((p.length : Int) == 0) = false := by rw [beq_eq_false_iff_ne]; omega
    obtain ⟨c, hc⟩ : ∃ c, c = zk % p.length := ⟨_, rfl⟩
    have hm1 : Int.tmod (zk : Int) (p.length : Int) = (c : Int) := by rw [hc]; rfl
    have hm2 : (zk : Int) % (p.length : Int) = (c : Int) := by rw [hc]; rfl
    have hc1 : c < p.length := by rw [hc]; exact Nat.mod_lt _ (by omega)
    have hpos : 0 < p.length := by omega
    clear hc hp0
    go_wp2_with (at_builtin; refine stop_in ?_)
    clear hm1 hm2 hb0
    refine stop_out ?_
    refine stk1 (M := fun W => wpList _ _ _ _ _ W) fun W5 hB5 hz5 b5 => ?_
    have hs5 : W5.heap.size = z.w.heap.size + 1 := hz5.out
    refine wpList_appB rfl _ _ rfl Tryd.underlying22 hi0 iz0 iz1 iz2 rfl (by decide) (cl := p.flatMap ec) (base := z.w.heap.size) (cs := []) (k := 0) (fun u hu => by obtain ⟨x, _, hx⟩ := List.mem_flatMap.1 hu; exact ec_one x u hx) rfl rfl (Rd.keep Lz.hp hB5) ⟨rfl, .inr ⟨z.w.heap.size, 0, #[], rfl, Nat.le_refl _, b5, Nat.le_refl _, Nat.zero_le _, rfl, rfl⟩⟩ (by unfold maxLen; omega) (by omega) (by omega) ?_
    intro v6 w6 hownw6 hgroww6 hBw6
    rw [Nat.zero_add, List.nil_append] at hownw6
    have B6 := hB5.trans hBw6
    have X6 := ownX_of_own hownw6 rfl (by omega)
    go_wp2_with (at_builtin; refine stop_in ?_)
    refine stop_out ?_
    refine stk1 (M := fun W => wpList _ _ _ _ _ W) fun W7 hB7 hz7 b7 => ?_
    have hs7 : W7.heap.size = w6.heap.size + 1 := hz7.out
    have hs6 := B6.size
    refine wpList_appB rfl _ _ rfl Tryd.underlying22 hi0 iz0 iz1 iz2 rfl (by decide) (cl := p.flatMap ec) (base := w6.heap.size) (cs := []) (k := 0) (fun u hu => by obtain ⟨x, _, hx⟩ := List.mem_flatMap.1 hu; exact ec_one x u hx) rfl rfl (Rd.keep (Rd.keep Lz.hp B6) hB7) ⟨rfl, .inr ⟨w6.heap.size, 0, #[], rfl, Nat.le_refl _, b7, Nat.le_refl _, Nat.zero_le _, rfl, rfl⟩⟩ (by unfold maxLen; omega) (by omega) (by omega) ?_
    intro v8 w8 hownw8 hgroww8 hBw8
    rw [Nat.zero_add, List.nil_append] at hownw8
    have B8 := hB7.trans hBw8
    have X8 := ownX_of_own hownw8 rfl (by omega)
    obtain ⟨gl, cl, rl, rfl, l1, l2, l3, l4⟩ := X6.2 hpos
    obtain ⟨gh, ch, rh, rfl, h1, h2, h3, h4⟩ := X8.2 hpos
    have l4 := l4.keep B8
    have hne : gl ≠ gh := by omega
    have B68 := B6.trans (B8.mono B6.size)
    have Lz8 := Lz.keep B68
    clear hownw6 hgroww6 hBw6 hownw8 hgroww8 hBw8 X6 X8 hs5 hs6 hs7 hz5 hz7 b5 b7
    obtain ⟨pc, hpc, hpcd⟩ := get_of hc1
    obtain ⟨s1, s2⟩ := blk_cellP l4 hpc
    have e1 := l4.frozen
    have HPC := Lib.hid hpc
    have hsz8 := B68.size
    clear hpc hpcd
    go_wp2_with fail
    refine set2 (M := fun W => Calls _ _ _ W _) l4 fun X9 hX9 b9 => ?_
    have b9 : Blk X9 gl 27 ((p.set c 0).flatMap ec ++ rl).toArray := by rw [← flat_set_pad 0 rl p c hc1]; simpa [zero_a, zero_b, fv_zero] using b9
    have h9 := hX9.blk h4 (Ne.symm hne)
    have B9 := below_put B68 hX9 l2
    clear e1 s1 s2 l4 h4 hX9 Lz8
    refine (xOne _).mono ?_
    rintro e w10 ⟨he, hb10⟩
    unfold ev at he
    subst he
    have b10 := b9.keep hb10
    have h10 := h9.keep hb10
    have B10 := B9.trans (hb10.mono B9.size)
    obtain ⟨s1, s2⟩ := blk_cellP h10 HPC.out
    have e1 := h10.frozen
    clear b9 h9
    go_wp2_with fail
    refine set2 (M := fun W => Calls _ _ _ W _) h10 fun X11 hX11 h11 => ?_
    have h11 : Blk X11 gh 27 ((p.set c 1).flatMap ec ++ rh).toArray := by rw [← flat_set_pad 1 rh p c hc1]; simpa using h11
    have b11 := hX11.blk b10 hne
    have B11 := below_put B10 hX11 (by omega)
    clear e1 s1 s2 h10 b10 hX11
    have ll : (p.set c 0).length = p.length := List.length_set ..
    have lh : (p.set c 1).length = p.length := List.length_set ..
    have hpm : p.length ≤ 1000000 := by omega
    have low := exts_pad b11 ll hpm (Nat.zero_le _) b11.lt l1
    have high := exts_pad h11 lh hpm (Nat.zero_le _) h11.lt h1
    have LL := Lib.hid ll
    have LH := Lib.hid lh
    clear ll lh
    refine ((Lz.keep B11).evalP low (Nat.le_refl _) LL.out).mono ?_
    rintro e w12 ⟨he, hb12⟩
    unfold ev at he
    subst he
    have B12 := B11.trans (hb12.mono B11.size)
    go_wp2_with fail
    refine ((Lz.keep B12).evalP (Rd.keep high hb12) hb12.size LH.out).mono ?_
    rintro e w13 ⟨he, hb13⟩
    unfold ev at he
    subst he
    have B13 := B12.trans (hb13.mono B12.size)
    have haf := mev_affine t p c pc hc1 Lz.tl
    have hpc2 : p.set c pc = p := by
      have := HPC.out
      obtain ⟨h1, h2⟩ := List.getElem?_eq_some_iff.1 this
      rw [← h2]; exact List.set_getElem_self h1
    rw [hpc2] at haf
    have HAF := Lib.hid haf
    clear haf hpc2
    generalize mev t (p.set c 0) = ml at *
    generalize mev t (p.set c 1) = mh at *
    go_wp2_with fail
    refine wp_stk2 fun W14 hB14 hz14 b14 b15 => ?_
    have B14 := B13.trans (hB14.mono B13.size)
    have L14 := Lz.keep B14
    obtain ⟨g2, o2, c2, hv, -, -, -, p4, p5⟩ := exts_cells L14.hp hpos
    cases hv
    obtain ⟨d1, d2⟩ := p5 c pc HPC.out
    have f1 := gw_cell p4 d1
    have f2 := gw_cell p4 d2
    have f3 := gw_blk b14
    have f4 := gw_blk b15
    clear p5 d1 d2 low high b11 h11
    refine wp_region_rg 17 [(2, Spec.val (.agg #[.int .u64 (fv (ml + pc * (mh - ml)).a), .int .u64 (fv (ml + pc * (mh - ml)).b)])), (10, Spec.val (.agg #[.int .u64 (fv (mh - ml).a), .int .u64 (fv (mh - ml).b)])), (11, Spec.val (.agg #[.int .u64 (fv (pc * (mh - ml)).a), .int .u64 (fv (pc * (mh - ml)).b)])), (12, Spec.val (.agg #[.int .u64 (fv (ml + pc * (mh - ml)).a), .int .u64 (fv (ml + pc * (mh - ml)).b)]))] (by kernel_rfl) (by kernel_rfl) (by kernel_rfl) trivial ?_
    refine rg_det rfl rfl rfl (fun K hK => ?_)
    go_big_quiet_op
    refine hK _ ?_; clear hK K
    refine rg_det rfl rfl rfl (fun K hK => ?_)
    go_big_quiet_op
    refine hK _ ?_; clear hK K
    refine rg_val rfl rfl (fun W1 hW1 hF => step_callv en_attestor_mle_Eval ((by rw [← HAF.out]; exact (L14.grw hW1).eval)) rfl rfl) ?_
    intro a' ha
    simp only [Act.put, List.setIfInBounds_toArray, List.set_cons_succ, List.set_cons_zero] at ha
    subst ha
    refine rg_det rfl rfl rfl (fun K hK => ?_)
    go_big_quiet_op
    refine hK _ ?_; clear hK K
    refine rg_det rfl rfl rfl (fun K hK => ?_)
    go_big_quiet_op
    refine hK _ ?_; clear hK K
    refine rg_det rfl rfl rfl (fun K hK => ?_)
    go_big_quiet_op
    refine hK _ ?_; clear hK K
    refine rg_det rfl rfl rfl (fun K hK => ?_)
    go_big_quiet_op
    refine hK _ ?_; clear hK K
    refine rg_det rfl rfl rfl (fun K hK => ?_)
    go_big_quiet_op
    refine hK _ ?_; clear hK K
    refine rg_det rfl rfl rfl (fun K hK => ?_)
    go_big_quiet_op
    refine hK _ ?_; clear hK K
    refine rg_det rfl rfl rfl (fun K hK => ?_)
    go_big_quiet_op
    refine hK _ ?_; clear hK K
    refine rg_val rfl rfl (fun W1 hW1 hF => step_callv en_attestor_ext_Sub (eSub mh ml W1) rfl rfl) ?_
    intro a' ha
    simp only [Act.put, List.setIfInBounds_toArray, List.set_cons_succ, List.set_cons_zero] at ha
    subst ha
    refine rg_val rfl rfl (fun W1 hW1 hF => step_callv en_attestor_ext_Mul (eMul pc (mh - ml) W1) rfl rfl) ?_
    intro a' ha
    simp only [Act.put, List.setIfInBounds_toArray, List.set_cons_succ, List.set_cons_zero] at ha
    subst ha
    refine rg_val rfl rfl (fun W1 hW1 hF => step_callv en_attestor_ext_Add (eAdd ml (pc * (mh - ml)) W1) rfl rfl) ?_
    intro a' ha
    simp only [Act.put, List.setIfInBounds_toArray, List.set_cons_succ, List.set_cons_zero] at ha
    subst ha
    refine rg_det rfl rfl rfl (fun K hK => ?_)
    go_big_quiet_op
    refine hK _ ?_; clear hK K
    refine rg_det rfl rfl rfl (fun K hK => ?_)
    go_big_quiet_op
    refine hK _ ?_; clear hK K
    refine rg_det rfl rfl rfl (fun K hK => ?_)
    go_big_quiet_op
    refine hK _ ?_; clear hK K
    refine rg_det rfl rfl rfl (fun K hK => ?_)
    go_big_quiet_op
    refine hK _ ?_; clear hK K
    refine rg_nil (fun w' hw' hF => ?_)
    obtain ⟨z2, rfl⟩ := hw'
    simp only [List.drop_succ_cons, List.drop_zero]
    clear hF f1 f2 f3 f4
    go_wp2_with fail
    go_ret
    exact ⟨rfl, hBz.trans ((B14.trans (z2.h.mono B14.size)).mono hBz.size)⟩
end Go.Proofs.YtphokpkigbonlaaDoor
