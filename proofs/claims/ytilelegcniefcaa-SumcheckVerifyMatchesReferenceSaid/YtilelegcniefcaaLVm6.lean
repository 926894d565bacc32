/-
  SumcheckVerifyMatchesReference: the walk.
-/
import Derived.Test.YtilelegcniefcaaRf6
namespace Go.Proofs.Ytilelegcniefcaa
open Go.RowKit

theorem coins_info : (Try.prog.info? 51).map (fun i => (i.zero, i.size, i.bytes)) = some (some (.agg #[.slice none 0 0, .int .i64 0]), 2, 32) := by kernel_rfl
/-- At most six elements of a raw row, made. -/
def md6 (l : List Raw) : List E := mdK l (min l.length 6)
def mT (tabs : List (List Raw)) (j : Nat) : List (List E) := (tabs.take j).map md6
theorem mT_len (tabs : List (List Raw)) (j : Nat) (h : j ≤ tabs.length) : (mT tabs j).length = j := by unfold mT; rw [List.length_map, List.length_take]; omega
theorem md6_len (l : List Raw) : (md6 l).length ≤ 6 := by unfold md6; rw [mdK_length]; omega
set_option maxRecDepth 100000 in
set_option maxHeartbeats 8000000 in
theorem wkSumcheckVerifyMatches (r : Raw) (hr : Word r.1 ∧ Word r.2) (tabs : List (List Raw)) (vL : Value) (c : List Raw) (vC : Value) (d : Int) (hd : Num d) (w : World) (hL : RTabS 0 w.heap.size w vL tabs) (hc : RawS 0 w.heap.size w vC c) :
    Calls Try.prog 4 #[.agg #[.int .u64 r.1, .int .u64 r.2], vL, .agg #[vC, .int .i64 d]] w (Ret (.bool true) w) := by
  obtain ⟨s0, hs0, sz0, sz1, sz2⟩ := info_parts sl_info
  obtain ⟨k0, hk0, kz0, kz1, kz2⟩ := info_parts coins_info
  obtain ⟨AL, cL, rfl⟩ := hL.len
  obtain ⟨AC, cC, rfl⟩ := hc.1.len
  have hsm := hL.small
  have HLs := Lib.hid hL
  have HCs := Lib.hid hc
  have HXM := Lib.hid (xMade r.1 r.2 hr.1.1 hr.1.2 hr.2.1 hr.2.2)
  have hd' := hd
  unfold Num at hd'
  obtain ⟨hd1, hd2⟩ := hd'
  obtain ⟨r1, r2⟩ := r
  simp only at *
  generalize em r1 r2 = y at *
  obtain ⟨L, hLe⟩ : ∃ L, L = tabs.length := ⟨_, rfl⟩
  have HLn := Lib.hid hLe
  rw [← hLe] at hsm HLs ⊢
  obtain ⟨lc, hlc⟩ : ∃ n, n = c.length := ⟨_, rfl⟩
  rw [← hlc] at HCs ⊢
  clear hr hL hc hd hLe hlc
  go_enter Try.func4, Try.ntmps4
  go_wp2_with fail
  refine calls_stk2 fun W hB hz b3 b5 => ?_
  refine (lSanity6 W).mono ?_
  rintro e w1 ⟨rfl, hb1⟩
  have hB1 := hB.trans (hb1.mono hB.size)
  have b31 := b3.keep hb1
  have b51 := b5.keep hb1
  clear hz b3 b5
  go_upto_region 3 with (fail)
  refine wp_stk1 fun V hV hzV b8 => ?_
  have hBV := hB1.trans (hV.mono hB1.size)
  have hVs : V.heap.size = w1.heap.size + 1 := hzV.out
  have own0 : V.ownsRow w1.heap.size 22 1 (.slice (some ⟨w1.heap.size, 0, none⟩) 0 0) 0 [] := ⟨rfl, .inr ⟨w1.heap.size, 0, #[], rfl, Nat.le_refl _, b8, Nat.le_refl _, Nat.zero_le _, rfl, rfl⟩⟩
  clear hzV b8 hBV
  go_wp2_with fail
  go_loopw [8, 9] (fun u i wr => ∃ j : Nat, j ≤ L ∧ j ≤ 6 ∧ i = .int .i64 j ∧ Below w1.heap.size w1 wr ∧ w1.heap.size + 1 ≤ wr.heap.size ∧ ((j = 0 ∧ wr.ownsRow w1.heap.size 22 1 u 0 []) ∨ (0 < j ∧ ∃ N0 N1, RowF w1.heap.size N0 N1 wr u (mT tabs j)))) (fun _ i _ => 6 - (intOf i).toNat)
  case atStart => exact ⟨0, by omega, by omega, rfl, hV, by omega, .inl ⟨rfl, own0⟩⟩
  case round =>
    obtain ⟨j, hjL, hj6, rfl, hBr, hrs, hrow⟩ := hrel
    have hBwr := hB1.trans (hBr.mono hB1.size)
    by_cases hlt : j < L
    · by_cases hl6 : j < 6
      · obtain ⟨gL, oL, cL', hv, lL, qL⟩ := rtabs_cells HLs.out (by rw [← HLn.out]; omega)
        rw [← HLn.out] at hv
        cases hv
        obtain ⟨t, ht⟩ : ∃ t, tabs[j]? = some t := ⟨_, List.getElem?_eq_getElem (by rw [← HLn.out]; exact hlt)⟩
        obtain ⟨At, ct, d1, hR⟩ := qL j t ht
        have e1 := (hBwr.cell (p := ⟨gL, oL + j, none⟩) lL).trans d1
        have hT : mT tabs (j + 1) = mT tabs j ++ [md6 t] := by unfold mT; rw [List.take_add_one, ht]; simp
        have HT := Lib.hid hT
        have HTl := Lib.hid (show (mT tabs j).length = j from mT_len tabs j (by rw [← HLn.out]; exact hjL))
        have HR := Lib.hid (show RawS 0 w.heap.size wr (.slice At t.length ct) t from ⟨Rd.keep hR.1 hBwr, hR.2⟩)
        have hu : ∃ A n c, u8 = .slice A n c := by
          rcases hrow with ⟨_, h⟩ | ⟨_, _, _, h⟩
          · obtain ⟨A, c, h⟩ := own_len h; exact ⟨A, _, c, h⟩
          · obtain ⟨A, c, h⟩ := h.len; exact ⟨A, _, c, h⟩
        obtain ⟨Au, nu, cu, rfl⟩ := hu
        have HROW := Lib.hid hrow
        clear qL ht d1 hR hT hrow
        go_wp2_with fail
        refine (xMade3O t 6 (by decide) _ _ _ wr HR.out).mono ?_
        rintro e w2 ⟨v2, rfl, hown2, hb2⟩
        obtain ⟨A2, c2, rfl⟩ := own_len hown2
        have hB2 := hBr.trans (hb2.mono hBr.size)
        have hs2 := hb2.size
        obtain ⟨tl, htl⟩ : ∃ tl, tl = min t.length 6 := ⟨_, rfl⟩
        have X2 : OwnX (md6 t) wr.heap.size w2.heap.size (.slice A2 tl c2) w2 := by rw [htl]; exact ownX_of_own hown2 (mdK_length _ _) (by omega)
        rw [← htl]
        have hal : Below w2.heap.size w2 (w2.alloc (.cells #[.slice A2 tl c2] 22)) := (Below.refl _ _).alloc (Nat.le_refl _) _
        have has : (w2.alloc (.cells #[.slice A2 tl c2] 22)).heap.size = w2.heap.size + 1 := by simp
        rcases HROW.out with ⟨hj0, hown⟩ | ⟨hj0, N0, N1, hrow⟩
        · subst hj0
          have hob := fun b hb => own_block (g := b) hown hb
          have HOB := Lib.hid hob
          clear hown2 htl hob
          go_wp2_with (at_builtin; refine wpList_appF1 (x := .slice A2 tl c2) (y := md6 t) (N0 := wr.heap.size) (N1 := w2.heap.size) (base := w1.heap.size) rfl _ _ rfl Try.underlying36 rfl rfl ?hown (Blk.new_at _ _ _ rfl) rfl ?hE ?hlo ?h01 ?hhi ?hout ?hbase ?_)
          case hown => exact own_below (own_below hown (Nat.le_refl _) hb2) (Nat.le_refl _) hal
          case hE => exact X2.keep hal
          case hlo => exact hBr.size
          case h01 => exact hs2
          case hhi => rw [has]; omega
          case hout => exact fun b hb => .inl (HOB.out b hb).2
          case hbase => rw [has]; omega
          intro v' w3 hrow3 hB3 hg3
          have hs3 : w2.heap.size + 1 ≤ w3.heap.size := by rw [← has]; exact hB3.size
          have hBw3 : Below w1.heap.size w1 w3 := (hB2.trans (hal.mono hB2.size)).trans hB3
          have HR3 := Lib.hid (show RowF w1.heap.size wr.heap.size w2.heap.size w3 v' (mT tabs (0 + 1)) by rw [HT.out]; exact hrow3)
          clear hg3 hB3 hrow3 X2 hal has e1
          go_wp2_with fail
          exact ⟨⟨0 + 1, by omega, by omega, by go_num, hBw3, by omega, .inr ⟨by omega, _, _, HR3.out⟩⟩, by simp [intOf]⟩
        · have hob := fun b hb => RowF.block (g := b) hrow hb
          have HOB := Lib.hid hob
          have hN1 : N1 ≤ wr.heap.size := by obtain ⟨_, _, _, _, _, h, _⟩ := hrow; exact h
          clear hown2 htl hob
          go_wp2_with (at_builtin; refine wpList_appF (x := .slice A2 tl c2) (y := md6 t) (lo := wr.heap.size) (hi := w2.heap.size) (N0 := N0) (N1 := N1) (base := w1.heap.size) (ts := mT tabs j) rfl _ _ rfl Try.underlying36 rfl rfl ?hrow ?h0 (Blk.new_at _ _ _ rfl) rfl ?hE ?hlo ?hhi ?hout ?hk ?hbase ?_)
          case hrow => exact (hrow.keep hb2).keep hal
          case h0 => rw [HTl.out]; exact hj0
          case hE => exact (X2.keep hal).1
          case hlo => exact hN1
          case hhi => rw [has]; omega
          case hout => exact fun b hb => .inl (HOB.out b hb).2
          case hk => rw [HTl.out]; omega
          case hbase => rw [has]; omega
          intro v' w3 hrow3 hB3 hg3
          have hs3 : w2.heap.size + 1 ≤ w3.heap.size := by rw [← has]; exact hB3.size
          have hBw3 : Below w1.heap.size w1 w3 := (hB2.trans (hal.mono hB2.size)).trans hB3
          have HR3 := Lib.hid (show RowF w1.heap.size N0 N1 w3 v' (mT tabs (j + 1)) by rw [HT.out]; exact hrow3)
          clear hg3 hB3 hrow3 X2 hal has e1
          go_wp2_with fail
          exact ⟨⟨j + 1, by omega, by omega, by go_num, hBw3, by omega, .inr ⟨by omega, _, _, HR3.out⟩⟩, by simp [intOf]; omega⟩
      · obtain rfl : j = 6 := by omega
        skip
        have hml : (mT tabs 6).length = 6 := mT_len tabs 6 (by rw [← HLn.out]; exact hjL)
        rcases hrow with ⟨hj0, hown⟩ | ⟨hj0, N0, N1, hrow⟩
        · omega
        · obtain ⟨Au, cu, hv⟩ := hrow.len
          rw [hml] at hv
          subst hv
          have HRW := Lib.hid hrow
          have HML := Lib.hid hml
          clear hrow hml
          have hml2 : ∃ t0 ts, mT tabs 6 = t0 :: ts ∧ ts.length + 1 = 6 ∧ t0.length ≤ 6 := by
            have h := HML.out
            have h1 : ∀ t ∈ mT tabs 6, t.length ≤ 6 := fun t ht => by
              obtain ⟨l, _, rfl⟩ := List.mem_map.1 ht
              exact md6_len l
            match mT tabs 6, h, h1 with
            | [], h, _ => first | (simp at h; done) | (simp at h; omega)
            | t0 :: ts, h, h1 => exact ⟨t0, ts, rfl, h, h1 t0 (List.mem_cons_self ..)⟩
          obtain ⟨t0, ts, hts, htl, ht06⟩ := hml2
          have HTS := Lib.hid hts
          have HTL := Lib.hid htl
          have hj7 : 6 ≤ 6 := hj6
          clear hts htl
          have b5r := b51.keep hBr
          have b3r := b31.keep hBr
          have f1 := gw_blk b5r
          have HCr := Lib.hid (show RawS 0 w.heap.size wr (.slice AC lc cC) c from ⟨Rd.keep HCs.out.1 hBwr, HCs.out.2⟩)
          go_wp2_with fail
          refine wp_region_rg 7 [(2, Spec.rel (ExtA (md6 c)) (SlF (md6 c).length)), (6, Spec.rel (New 51 #[.slice none 0 0, .int .i64 0]) (NewF))] (by kernel_rfl) (by kernel_rfl) (by kernel_rfl) ⟨fit_ext, fit_new, trivial⟩ ?_
          refine rg_det rfl rfl rfl (fun K hK => ?_)
          go_big_quiet_op
          refine hK _ ?_; clear hK K
          refine rg_det rfl rfl rfl (fun K hK => ?_)
          go_big_quiet_op
          refine hK _ ?_; clear hK K
          refine rg_rel rfl rfl (fun W1 hW1 hF => step_callr en_attestor_attestorref03_Made (xMade3 c 6 (by decide) _ _ _ W1 ⟨Rd.keep HCr.out.1 (grw_below hW1), HCr.out.2⟩) rfl rfl) ?_
          intro na2 ma2 va2 hna2 hma2 hda2 hfa2 a' ha
          simp only [Act.put, List.setIfInBounds_toArray, List.set_cons_succ, List.set_cons_zero] at ha
          subst ha
          obtain ⟨Aa2, capa2, rfl⟩ := hfa2
          refine rg_det rfl rfl rfl (fun K hK => ?_)
          go_big_quiet_op
          refine hK _ ?_; clear hK K
          refine rg_det rfl rfl rfl (fun K hK => ?_)
          go_big_quiet_op
          refine hK _ ?_; clear hK K
          refine rg_det rfl rfl rfl (fun K hK => ?_)
          go_big_quiet_op
          refine hK _ ?_; clear hK K
          refine rg_rel rfl rfl (fun W1 hW1 hF => step_new hk0 kz0 rfl) ?_
          intro na6 ma6 va6 hna6 hma6 hda6 hfa6 a' ha
          simp only [Act.put, List.setIfInBounds_toArray, List.set_cons_succ, List.set_cons_zero] at ha
          subst ha
          obtain rfl := hfa6
          refine rg_nil (fun w' hw' hF => ?_)
          obtain ⟨z7, rfl⟩ := hw'
          simp only [List.drop_succ_cons, List.drop_zero]
          obtain ⟨hma6', -, hla6, ba6⟩ := end_last hF
          obtain ⟨hma2', hxc⟩ := end_last (end_init hF)
          have hdj := hda6 (na2, ma2) (by simp)
          have e2 := ba6.frozen
          have e3 := ba6.cell
          clear hF hda2 hda6 f1
          go_upto_region 8 with (fail)
          refine set2 (M := fun W => Code.wp _ _ _ _ W) ba6 fun X7 hX7 b10 => ?_
          have hB7 := below_put z7.h hX7 hna6
          have hxc7 : ExtS na2 ma2 X7 _ (md6 c) := hX7.rd hxc (by simp only at hdj; omega)
          have b37 := b3r.keep hB7
          have e1 := b37.cell
          clear e2 e3 ba6 hX7 hxc hdj b3r b5r
          go_wp2_with fail
          refine (HXM.out _).mono ?_
          rintro e w8 ⟨he, hb8⟩
          unfold ev at he
          subst he
          go_upto_region 9 with (fail)
          refine wp_stk1 fun X9 hX9 hzX9 b11 => ?_
          have h79 := hb8.trans (hX9.mono hb8.size)
          have hr9 := hB7.trans (h79.mono hB7.size)
          have b109 := b10.keep h79
          have HC9 := Lib.hid (show ExtS na2 ma2 X9 _ (md6 c) from Rd.keep hxc7 h79)
          have hB9 := hBwr.trans (hr9.mono hBwr.size)
          clear e1 hzX9 hxc7 b10 b37
          have hrow9 := HRW.out.keep hr9
          rw [HTS.out] at hrow9
          obtain ⟨us, o1, o2, o3, o4, o5, o6, o7⟩ := hrow9
          have hrd := Rd.of_own o1 (by have := HTL.out; simp only [List.length_cons]; omega) (Nat.le_refl _)
          have hjl : (t0 :: ts).length = 6 := HTL.out
          rw [hjl] at hrd o2
          obtain ⟨gU, oU, cU, hv, -, -, -, lU, qU⟩ := Rd.form hrd hj0
          cases hv
          obtain ⟨x0, hx0⟩ : ∃ x0, us[0]? = some x0 := ⟨_, List.getElem?_eq_getElem (by omega)⟩
          have hE0 := (o7 0 x0 t0 hx0 rfl)
          rw [if_pos rfl] at hE0
          obtain ⟨A0, c0, rfl⟩ := Rd.len hE0.1
          have d1 := qU 0 _ hx0
          rw [Nat.add_zero] at d1
          clear o1 o2 o4 o5 o6 o7 hrd hjl qU hx0 hE0 us
          obtain ⟨tl0, htl0⟩ : ∃ n, n = t0.length := ⟨_, rfl⟩
          have HTL0 := Lib.hid htl0
          rw [← htl0] at d1 ht06
          clear htl0
          by_cases hbig : 1 < tl0
          · obtain ⟨gV, oV, cV, g, cap, rest, hv, lUr, hc0, hg0, lgr, bGr, hclose⟩ := RowF.first (HTS.out ▸ HRW.out) (by rw [← HTL0.out]; omega) (by have := HTL.out; omega) (by rw [← HTL0.out]; omega)
            rw [HTL.out] at hv
            cases hv
            have lg : g < X9.heap.size := Nat.lt_of_lt_of_le lgr hr9.size
            have bG := bGr.keep hr9
            replace hc0 := (hr9.cell (p := ⟨gU, oU, none⟩) lUr).trans hc0
            rw [hc0] at d1
            cases d1
            have HCL := Lib.hid hclose
            obtain ⟨x0, hx0, -⟩ := get_of (l := t0) (k := 0) (by rw [← HTL0.out]; omega)
            obtain ⟨x1, hx1, -⟩ := get_of (l := t0) (k := 1) (by rw [← HTL0.out]; omega)
            obtain ⟨q1, q2⟩ := blk_cellP bG hx0
            obtain ⟨q3, q4⟩ := blk_cellP bG hx1
            simp only [Nat.zero_mul, Nat.one_mul, Nat.zero_add, Nat.reduceAdd] at q1 q2 q3 q4
            have f1 := gw_cell lU hc0
            have f2 := gw_cell lg q1
            have f3 := gw_cell lg q2
            have f4 := gw_blk b11
            have e1 := hc0
            clear hclose hx0 hx1 q1 q2
            go_wp2_with fail
            refine wp_region_rg 11 [(9, Spec.val (.agg #[.int .u64 (fv (y - x0).a), .int .u64 (fv (y - x0).b)]))] (by kernel_rfl) (by kernel_rfl) (by kernel_rfl) trivial ?_
            refine rg_det rfl rfl rfl (fun K hK => ?_)
            go_big_quiet_op
            refine hK _ ?_; clear hK K
            refine rg_det rfl rfl rfl (fun K hK => ?_)
            go_big_quiet_op
            refine hK _ ?_; clear hK K
            refine rg_det rfl rfl rfl (fun K hK => ?_)
            go_big_quiet_op
            refine hK _ ?_; clear hK K
            refine rg_det rfl rfl rfl (fun K hK => ?_)
            go_big_quiet_op
            refine hK _ ?_; clear hK K
            refine rg_det rfl rfl rfl (fun K hK => ?_)
            go_big_quiet_op
            refine hK _ ?_; clear hK K
            refine rg_det rfl rfl rfl (fun K hK => ?_)
            go_big_quiet_op
            refine hK _ ?_; clear hK K
            refine rg_det rfl rfl rfl (fun K hK => ?_)
            go_big_quiet_op
            refine hK _ ?_; clear hK K
            refine rg_det rfl rfl rfl (fun K hK => ?_)
            go_big_quiet_op
            refine hK _ ?_; clear hK K
            refine rg_det rfl rfl rfl (fun K hK => ?_)
            go_big_quiet_op
            refine hK _ ?_; clear hK K
            refine rg_val rfl rfl (fun W1 hW1 hF => step_callv en_attestor_attestorref02_Sub (xSub y x0 W1) rfl rfl) ?_
            intro a' ha
            simp only [Act.put, List.setIfInBounds_toArray, List.set_cons_succ, List.set_cons_zero] at ha
            subst ha
            refine rg_det rfl rfl rfl (fun K hK => ?_)
            go_big_quiet_op
            refine hK _ ?_; clear hK K
            refine rg_nil (fun w' hw' hF => ?_)
            obtain ⟨z10, rfl⟩ := hw'
            simp only [List.drop_succ_cons, List.drop_zero]
            have bGz := bG.gw z10
            have e2 := bGz.frozen
            have e3 := bGz.cell
            have s1 := (z10.h.cell (p := ⟨g, 2, none⟩) lg).trans q3
            have s2 := (z10.h.cell (p := ⟨g, 3, none⟩) lg).trans q4
            have h1l : 1 < t0.length := hbig
            clear hF f1 f2 f3 f4 e1 e3 hc0 bG q3 q4
            go_upto_region 11 with (fail)
            refine set2 (M := fun W => Code.wp _ _ _ _ W) bGz fun X10 hX10 b10' => ?_
            have bG2 : Blk X10 g 43 ((t0.set 1 (y - x0)).flatMap ec ++ rest).toArray := by rw [← flat_set_pad (y - x0) rest t0 1 h1l]; simpa using b10'
            have HG : Hid (TabS 0 X10.heap.size X10 (.slice (some ⟨gU, oU, none⟩) 6 cu) (t0.set 1 (y - x0) :: ts)) := Lib.hid (HCL.out z10.w X10 (t0.set 1 (y - x0)) (hr9.trans (z10.h.mono hr9.size)) hX10 (List.length_set ..) bG2)
            have h9s := hr9.size
            have h8s : wr.heap.size ≤ w8.heap.size := by have := hB7.size; have := hb8.size; omega
            have hgw : w.heap.size ≤ g := by have := hB1.size; omega
            have hB10 := below_put (hB9.trans (z10.h.mono hB9.size)) hX10 hgw
            have b10k := hX10.blk (b109.keep z10.h) (by omega)
            have b11k := hX10.blk (b11.keep z10.h) (by omega)
            have HC10 := Lib.hid (show ExtS na2 ma2 X10 _ (md6 c) from hX10.rd (Rd.keep HC9.out z10.h) (.inl (by omega)))
            clear e2 s1 s2 bGz b10' bG2 HCL hX10 bGr lgr lUr
            have HV1 := Lib.hid (show ∀ W1, Below X10.heap.size X10 W1 → Calls Try.prog 33 #[ev y, (.slice (some ⟨gU, oU, none⟩) 6 cu), .agg #[.slice Aa2 (md6 c).length capa2, .int .i64 d]] W1 (Ret (.tuple #[ev (vrfE d y (t0.set 1 (y - x0) :: ts) (md6 c)).1, .int .i64 (vrfE d y (t0.set 1 (y - x0) :: ts) (md6 c)).2]) W1) from fun W1 hW => gVerify y (t0.set 1 (y - x0) :: ts) (md6 c) d ⟨hd1, hd2⟩ (by simp only [List.length_cons]; have := HTL.out; omega) _ _ _ _ _ _ W1 (HG.out.keep hW) (Rd.keep HC10.out hW))
            have HV2 := Lib.hid (show ∀ W1, Below X10.heap.size X10 W1 → Calls Try.prog 34 #[ev y, (.slice (some ⟨gU, oU, none⟩) 6 cu), .agg #[.slice Aa2 (md6 c).length capa2, .int .i64 d]] W1 (Ret (.tuple #[ev (vrfE d y (t0.set 1 (y - x0) :: ts) (md6 c)).1, .int .i64 (vrfE d y (t0.set 1 (y - x0) :: ts) (md6 c)).2]) W1) from fun W1 hW => rVerify y (t0.set 1 (y - x0) :: ts) (md6 c) d ⟨hd1, hd2⟩ _ _ _ _ _ _ W1 (HG.out.keep hW) (Rd.keep HC10.out hW))
            have HZ := vrf_zero d y (t0.set 1 (y - x0) :: ts) (md6 c)
            generalize vrfE d y (t0.set 1 (y - x0) :: ts) (md6 c) = p at *
            obtain ⟨px, pz⟩ := p
            simp only at HZ HV1 HV2
            have e1 := b11k.cell
            have e2 := b10k.cell
            go_wp2_with fail
            refine (HV1.out _ (Below.refl _ _)).mono ?_
            rintro e w12 ⟨he, hb12⟩
            unfold ev at he
            subst he
            go_upto_region 12 with (fail)
            refine wp_stk1 fun X12 hX12 hz12 b12 => ?_
            have h12 := hb12.trans (hX12.mono hb12.size)
            replace e1 := (b11k.keep h12).cell
            replace e2 := (b10k.keep h12).cell
            clear hz12
            go_wp2_with fail
            refine (HV2.out _ h12).mono ?_
            rintro e w13 ⟨he, hb13⟩
            unfold ev at he
            subst he
            go_upto_region 13 with (fail)
            refine wp_stk1 fun X13 hX13 hz13 b14 => ?_
            have h123 := hb13.trans (hX13.mono hb13.size)
            have h13 := h12.trans (h123.mono h12.size)
            have e3 := (b12.keep h123).cell
            have e4 := b14.cell
            clear e1 e2 hz13 HV1 HV2
            rcases HZ with hz0 | hx0
            · subst hz0
              go_wp2_with fail
              go_ret
              exact ⟨rfl, hB10.trans (h13.mono hB10.size)⟩
            · by_cases hpz : pz = 0
              · subst hpz
                go_wp2_with fail
                go_ret
                exact ⟨rfl, hB10.trans (h13.mono hB10.size)⟩
              · subst hx0
                simp only [zero_a, zero_b, fv_zero] at e3 e4
                go_wp2_with fail
                go_ret
                exact ⟨rfl, hB10.trans (h13.mono hB10.size)⟩
          · have e1 := d1
            have HG : Hid (TabS 0 X9.heap.size X9 (.slice (some ⟨gU, oU, none⟩) 6 cu) (t0 :: ts)) := Lib.hid (by
              have := (HRW.out.keep hr9).tabs (by rw [HML.out]; omega)
              rwa [HTS.out] at this)
            clear d1
            have HV1 := Lib.hid (show ∀ W1, Below X9.heap.size X9 W1 → Calls Try.prog 33 #[ev y, (.slice (some ⟨gU, oU, none⟩) 6 cu), .agg #[.slice Aa2 (md6 c).length capa2, .int .i64 d]] W1 (Ret (.tuple #[ev (vrfE d y (t0 :: ts) (md6 c)).1, .int .i64 (vrfE d y (t0 :: ts) (md6 c)).2]) W1) from fun W1 hW => gVerify y (t0 :: ts) (md6 c) d ⟨hd1, hd2⟩ (by simp only [List.length_cons]; have := HTL.out; omega) _ _ _ _ _ _ W1 (HG.out.keep hW) (Rd.keep HC9.out hW))
            have HV2 := Lib.hid (show ∀ W1, Below X9.heap.size X9 W1 → Calls Try.prog 34 #[ev y, (.slice (some ⟨gU, oU, none⟩) 6 cu), .agg #[.slice Aa2 (md6 c).length capa2, .int .i64 d]] W1 (Ret (.tuple #[ev (vrfE d y (t0 :: ts) (md6 c)).1, .int .i64 (vrfE d y (t0 :: ts) (md6 c)).2]) W1) from fun W1 hW => rVerify y (t0 :: ts) (md6 c) d ⟨hd1, hd2⟩ _ _ _ _ _ _ W1 (HG.out.keep hW) (Rd.keep HC9.out hW))
            have HZ := vrf_zero d y (t0 :: ts) (md6 c)
            generalize vrfE d y (t0 :: ts) (md6 c) = p at *
            obtain ⟨px, pz⟩ := p
            simp only at HZ HV1 HV2
            have e1 := b11.cell
            have e2 := b109.cell
            go_wp2_with fail
            refine (HV1.out _ (Below.refl _ _)).mono ?_
            rintro e w12 ⟨he, hb12⟩
            unfold ev at he
            subst he
            go_upto_region 12 with (fail)
            refine wp_stk1 fun X12 hX12 hz12 b12 => ?_
            have h12 := hb12.trans (hX12.mono hb12.size)
            replace e1 := (b11.keep h12).cell
            replace e2 := (b109.keep h12).cell
            clear hz12
            go_wp2_with fail
            refine (HV2.out _ h12).mono ?_
            rintro e w13 ⟨he, hb13⟩
            unfold ev at he
            subst he
            go_upto_region 13 with (fail)
            refine wp_stk1 fun X13 hX13 hz13 b14 => ?_
            have h123 := hb13.trans (hX13.mono hb13.size)
            have h13 := h12.trans (h123.mono h12.size)
            have e3 := (b12.keep h123).cell
            have e4 := b14.cell
            clear e1 e2 hz13 HV1 HV2
            rcases HZ with hz0 | hx0
            · subst hz0
              go_wp2_with fail
              go_ret
              exact ⟨rfl, hB9.trans (h13.mono hB9.size)⟩
            · by_cases hpz : pz = 0
              · subst hpz
                go_wp2_with fail
                go_ret
                exact ⟨rfl, hB9.trans (h13.mono hB9.size)⟩
              · subst hx0
                simp only [zero_a, zero_b, fv_zero] at e3 e4
                go_wp2_with fail
                go_ret
                exact ⟨rfl, hB9.trans (h13.mono hB9.size)⟩
    · skip
      skip
      have hml : (mT tabs j).length = j := mT_len tabs j (by rw [← HLn.out]; exact hjL)
      rcases hrow with ⟨hj0, hown⟩ | ⟨hj0, N0, N1, hrow⟩
      · skip
        subst hj0
        obtain ⟨Au, cu, rfl⟩ := own_len hown
        have HO := Lib.hid hown
        clear hown hml
        have b5r := b51.keep hBr
        have b3r := b31.keep hBr
        have f1 := gw_blk b5r
        have HCr := Lib.hid (show RawS 0 w.heap.size wr (.slice AC lc cC) c from ⟨Rd.keep HCs.out.1 hBwr, HCs.out.2⟩)
        go_wp2_with fail
        refine wp_region_rg 7 [(2, Spec.rel (ExtA (md6 c)) (SlF (md6 c).length)), (6, Spec.rel (New 51 #[.slice none 0 0, .int .i64 0]) (NewF))] (by kernel_rfl) (by kernel_rfl) (by kernel_rfl) ⟨fit_ext, fit_new, trivial⟩ ?_
        refine rg_det rfl rfl rfl (fun K hK => ?_)
        go_big_quiet_op
        refine hK _ ?_; clear hK K
        refine rg_det rfl rfl rfl (fun K hK => ?_)
        go_big_quiet_op
        refine hK _ ?_; clear hK K
        refine rg_rel rfl rfl (fun W1 hW1 hF => step_callr en_attestor_attestorref03_Made (xMade3 c 6 (by decide) _ _ _ W1 ⟨Rd.keep HCr.out.1 (grw_below hW1), HCr.out.2⟩) rfl rfl) ?_
        intro na2 ma2 va2 hna2 hma2 hda2 hfa2 a' ha
        simp only [Act.put, List.setIfInBounds_toArray, List.set_cons_succ, List.set_cons_zero] at ha
        subst ha
        obtain ⟨Aa2, capa2, rfl⟩ := hfa2
        refine rg_det rfl rfl rfl (fun K hK => ?_)
        go_big_quiet_op
        refine hK _ ?_; clear hK K
        refine rg_det rfl rfl rfl (fun K hK => ?_)
        go_big_quiet_op
        refine hK _ ?_; clear hK K
        refine rg_det rfl rfl rfl (fun K hK => ?_)
        go_big_quiet_op
        refine hK _ ?_; clear hK K
        refine rg_rel rfl rfl (fun W1 hW1 hF => step_new hk0 kz0 rfl) ?_
        intro na6 ma6 va6 hna6 hma6 hda6 hfa6 a' ha
        simp only [Act.put, List.setIfInBounds_toArray, List.set_cons_succ, List.set_cons_zero] at ha
        subst ha
        obtain rfl := hfa6
        refine rg_nil (fun w' hw' hF => ?_)
        obtain ⟨z7, rfl⟩ := hw'
        simp only [List.drop_succ_cons, List.drop_zero]
        obtain ⟨hma6', -, hla6, ba6⟩ := end_last hF
        obtain ⟨hma2', hxc⟩ := end_last (end_init hF)
        have hdj := hda6 (na2, ma2) (by simp)
        have e2 := ba6.frozen
        have e3 := ba6.cell
        clear hF hda2 hda6 f1
        go_upto_region 8 with (fail)
        refine set2 (M := fun W => Code.wp _ _ _ _ W) ba6 fun X7 hX7 b10 => ?_
        have hB7 := below_put z7.h hX7 hna6
        have hxc7 : ExtS na2 ma2 X7 _ (md6 c) := hX7.rd hxc (by simp only at hdj; omega)
        have b37 := b3r.keep hB7
        have e1 := b37.cell
        clear e2 e3 ba6 hX7 hxc hdj b3r b5r
        go_wp2_with fail
        refine (HXM.out _).mono ?_
        rintro e w8 ⟨he, hb8⟩
        unfold ev at he
        subst he
        go_upto_region 9 with (fail)
        refine wp_stk1 fun X9 hX9 hzX9 b11 => ?_
        have h79 := hb8.trans (hX9.mono hb8.size)
        have hr9 := hB7.trans (h79.mono hB7.size)
        have b109 := b10.keep h79
        have HC9 := Lib.hid (show ExtS na2 ma2 X9 _ (md6 c) from Rd.keep hxc7 h79)
        have hB9 := hBwr.trans (hr9.mono hBwr.size)
        clear e1 hzX9 hxc7 b10 b37
        have HG : Hid (TabS 0 X9.heap.size X9 (.slice Au 0 cu) []) := Lib.hid ⟨[], rfl, Rd.wide (Rd.of_own (own_below HO.out (Nat.le_refl _) hr9) (by decide) (Nat.le_refl _)) (Nat.zero_le _) (Nat.le_refl _), fun k u t h => by simp at h⟩
        clear HO
        have HV1 := Lib.hid (show ∀ W1, Below X9.heap.size X9 W1 → Calls Try.prog 33 #[ev y, (.slice Au 0 cu), .agg #[.slice Aa2 (md6 c).length capa2, .int .i64 d]] W1 (Ret (.tuple #[ev (vrfE d y [] (md6 c)).1, .int .i64 (vrfE d y [] (md6 c)).2]) W1) from fun W1 hW => gVerify y [] (md6 c) d ⟨hd1, hd2⟩ (by decide) _ _ _ _ _ _ W1 (HG.out.keep hW) (Rd.keep HC9.out hW))
        have HV2 := Lib.hid (show ∀ W1, Below X9.heap.size X9 W1 → Calls Try.prog 34 #[ev y, (.slice Au 0 cu), .agg #[.slice Aa2 (md6 c).length capa2, .int .i64 d]] W1 (Ret (.tuple #[ev (vrfE d y [] (md6 c)).1, .int .i64 (vrfE d y [] (md6 c)).2]) W1) from fun W1 hW => rVerify y [] (md6 c) d ⟨hd1, hd2⟩ _ _ _ _ _ _ W1 (HG.out.keep hW) (Rd.keep HC9.out hW))
        have HZ := vrf_zero d y [] (md6 c)
        generalize vrfE d y [] (md6 c) = p at *
        obtain ⟨px, pz⟩ := p
        simp only at HZ HV1 HV2
        have e1 := b11.cell
        have e2 := b109.cell
        go_wp2_with fail
        refine (HV1.out _ (Below.refl _ _)).mono ?_
        rintro e w12 ⟨he, hb12⟩
        unfold ev at he
        subst he
        go_upto_region 12 with (fail)
        refine wp_stk1 fun X12 hX12 hz12 b12 => ?_
        have h12 := hb12.trans (hX12.mono hb12.size)
        replace e1 := (b11.keep h12).cell
        replace e2 := (b109.keep h12).cell
        clear hz12
        go_wp2_with fail
        refine (HV2.out _ h12).mono ?_
        rintro e w13 ⟨he, hb13⟩
        unfold ev at he
        subst he
        go_upto_region 13 with (fail)
        refine wp_stk1 fun X13 hX13 hz13 b14 => ?_
        have h123 := hb13.trans (hX13.mono hb13.size)
        have h13 := h12.trans (h123.mono h12.size)
        have e3 := (b12.keep h123).cell
        have e4 := b14.cell
        clear e1 e2 hz13 HV1 HV2
        rcases HZ with hz0 | hx0
        · subst hz0
          go_wp2_with fail
          go_ret
          exact ⟨rfl, hB9.trans (h13.mono hB9.size)⟩
        · by_cases hpz : pz = 0
          · subst hpz
            go_wp2_with fail
            go_ret
            exact ⟨rfl, hB9.trans (h13.mono hB9.size)⟩
          · subst hx0
            simp only [zero_a, zero_b, fv_zero] at e3 e4
            go_wp2_with fail
            go_ret
            exact ⟨rfl, hB9.trans (h13.mono hB9.size)⟩
      · obtain ⟨Au, cu, hv⟩ := hrow.len
        rw [hml] at hv
        subst hv
        have HRW := Lib.hid hrow
        have HML := Lib.hid hml
        clear hrow hml
        have hml2 : ∃ t0 ts, mT tabs j = t0 :: ts ∧ ts.length + 1 = j ∧ t0.length ≤ 6 := by
          have h := HML.out
          have h1 : ∀ t ∈ mT tabs j, t.length ≤ 6 := fun t ht => by
            obtain ⟨l, _, rfl⟩ := List.mem_map.1 ht
            exact md6_len l
          match mT tabs j, h, h1 with
          | [], h, _ => first | (simp at h; done) | (simp at h; omega)
          | t0 :: ts, h, h1 => exact ⟨t0, ts, rfl, h, h1 t0 (List.mem_cons_self ..)⟩
        obtain ⟨t0, ts, hts, htl, ht06⟩ := hml2
        have HTS := Lib.hid hts
        have HTL := Lib.hid htl
        have hj7 : j ≤ 6 := hj6
        clear hts htl
        have b5r := b51.keep hBr
        have b3r := b31.keep hBr
        have f1 := gw_blk b5r
        have HCr := Lib.hid (show RawS 0 w.heap.size wr (.slice AC lc cC) c from ⟨Rd.keep HCs.out.1 hBwr, HCs.out.2⟩)
        go_wp2_with fail
        refine wp_region_rg 7 [(2, Spec.rel (ExtA (md6 c)) (SlF (md6 c).length)), (6, Spec.rel (New 51 #[.slice none 0 0, .int .i64 0]) (NewF))] (by kernel_rfl) (by kernel_rfl) (by kernel_rfl) ⟨fit_ext, fit_new, trivial⟩ ?_
        refine rg_det rfl rfl rfl (fun K hK => ?_)
        go_big_quiet_op
        refine hK _ ?_; clear hK K
        refine rg_det rfl rfl rfl (fun K hK => ?_)
        go_big_quiet_op
        refine hK _ ?_; clear hK K
        refine rg_rel rfl rfl (fun W1 hW1 hF => step_callr en_attestor_attestorref03_Made (xMade3 c 6 (by decide) _ _ _ W1 ⟨Rd.keep HCr.out.1 (grw_below hW1), HCr.out.2⟩) rfl rfl) ?_
        intro na2 ma2 va2 hna2 hma2 hda2 hfa2 a' ha
        simp only [Act.put, List.setIfInBounds_toArray, List.set_cons_succ, List.set_cons_zero] at ha
        subst ha
        obtain ⟨Aa2, capa2, rfl⟩ := hfa2
        refine rg_det rfl rfl rfl (fun K hK => ?_)
        go_big_quiet_op
        refine hK _ ?_; clear hK K
        refine rg_det rfl rfl rfl (fun K hK => ?_)
        go_big_quiet_op
        refine hK _ ?_; clear hK K
        refine rg_det rfl rfl rfl (fun K hK => ?_)
        go_big_quiet_op
        refine hK _ ?_; clear hK K
        refine rg_rel rfl rfl (fun W1 hW1 hF => step_new hk0 kz0 rfl) ?_
        intro na6 ma6 va6 hna6 hma6 hda6 hfa6 a' ha
        simp only [Act.put, List.setIfInBounds_toArray, List.set_cons_succ, List.set_cons_zero] at ha
        subst ha
        obtain rfl := hfa6
        refine rg_nil (fun w' hw' hF => ?_)
        obtain ⟨z7, rfl⟩ := hw'
        simp only [List.drop_succ_cons, List.drop_zero]
        obtain ⟨hma6', -, hla6, ba6⟩ := end_last hF
        obtain ⟨hma2', hxc⟩ := end_last (end_init hF)
        have hdj := hda6 (na2, ma2) (by simp)
        have e2 := ba6.frozen
        have e3 := ba6.cell
        clear hF hda2 hda6 f1
        go_upto_region 8 with (fail)
        refine set2 (M := fun W => Code.wp _ _ _ _ W) ba6 fun X7 hX7 b10 => ?_
        have hB7 := below_put z7.h hX7 hna6
        have hxc7 : ExtS na2 ma2 X7 _ (md6 c) := hX7.rd hxc (by simp only at hdj; omega)
        have b37 := b3r.keep hB7
        have e1 := b37.cell
        clear e2 e3 ba6 hX7 hxc hdj b3r b5r
        go_wp2_with fail
        refine (HXM.out _).mono ?_
        rintro e w8 ⟨he, hb8⟩
        unfold ev at he
        subst he
        go_upto_region 9 with (fail)
        refine wp_stk1 fun X9 hX9 hzX9 b11 => ?_
        have h79 := hb8.trans (hX9.mono hb8.size)
        have hr9 := hB7.trans (h79.mono hB7.size)
        have b109 := b10.keep h79
        have HC9 := Lib.hid (show ExtS na2 ma2 X9 _ (md6 c) from Rd.keep hxc7 h79)
        have hB9 := hBwr.trans (hr9.mono hBwr.size)
        clear e1 hzX9 hxc7 b10 b37
        have hrow9 := HRW.out.keep hr9
        rw [HTS.out] at hrow9
        obtain ⟨us, o1, o2, o3, o4, o5, o6, o7⟩ := hrow9
        have hrd := Rd.of_own o1 (by have := HTL.out; simp only [List.length_cons]; omega) (Nat.le_refl _)
        have hjl : (t0 :: ts).length = j := HTL.out
        rw [hjl] at hrd o2
        obtain ⟨gU, oU, cU, hv, -, -, -, lU, qU⟩ := Rd.form hrd hj0
        cases hv
        obtain ⟨x0, hx0⟩ : ∃ x0, us[0]? = some x0 := ⟨_, List.getElem?_eq_getElem (by omega)⟩
        have hE0 := (o7 0 x0 t0 hx0 rfl)
        rw [if_pos rfl] at hE0
        obtain ⟨A0, c0, rfl⟩ := Rd.len hE0.1
        have d1 := qU 0 _ hx0
        rw [Nat.add_zero] at d1
        clear o1 o2 o4 o5 o6 o7 hrd hjl qU hx0 hE0 us
        obtain ⟨tl0, htl0⟩ : ∃ n, n = t0.length := ⟨_, rfl⟩
        have HTL0 := Lib.hid htl0
        rw [← htl0] at d1 ht06
        clear htl0
        by_cases hbig : 1 < tl0
        · obtain ⟨gV, oV, cV, g, cap, rest, hv, lUr, hc0, hg0, lgr, bGr, hclose⟩ := RowF.first (HTS.out ▸ HRW.out) (by rw [← HTL0.out]; omega) (by have := HTL.out; omega) (by rw [← HTL0.out]; omega)
          rw [HTL.out] at hv
          cases hv
          have lg : g < X9.heap.size := Nat.lt_of_lt_of_le lgr hr9.size
          have bG := bGr.keep hr9
          replace hc0 := (hr9.cell (p := ⟨gU, oU, none⟩) lUr).trans hc0
          rw [hc0] at d1
          cases d1
          have HCL := Lib.hid hclose
          obtain ⟨x0, hx0, -⟩ := get_of (l := t0) (k := 0) (by rw [← HTL0.out]; omega)
          obtain ⟨x1, hx1, -⟩ := get_of (l := t0) (k := 1) (by rw [← HTL0.out]; omega)
          obtain ⟨q1, q2⟩ := blk_cellP bG hx0
          obtain ⟨q3, q4⟩ := blk_cellP bG hx1
          simp only [Nat.zero_mul, Nat.one_mul, Nat.zero_add, Nat.reduceAdd] at q1 q2 q3 q4
          have f1 := gw_cell lU hc0
          have f2 := gw_cell lg q1
          have f3 := gw_cell lg q2
          have f4 := gw_blk b11
          have e1 := hc0
          clear hclose hx0 hx1 q1 q2
          go_wp2_with fail
          refine wp_region_rg 11 [(9, Spec.val (.agg #[.int .u64 (fv (y - x0).a), .int .u64 (fv (y - x0).b)]))] (by kernel_rfl) (by kernel_rfl) (by kernel_rfl) trivial ?_
          refine rg_det rfl rfl rfl (fun K hK => ?_)
          go_big_quiet_op
          refine hK _ ?_; clear hK K
          refine rg_det rfl rfl rfl (fun K hK => ?_)
          go_big_quiet_op
          refine hK _ ?_; clear hK K
          refine rg_det rfl rfl rfl (fun K hK => ?_)
          go_big_quiet_op
          refine hK _ ?_; clear hK K
          refine rg_det rfl rfl rfl (fun K hK => ?_)
          go_big_quiet_op
          refine hK _ ?_; clear hK K
          refine rg_det rfl rfl rfl (fun K hK => ?_)
          go_big_quiet_op
          refine hK _ ?_; clear hK K
          refine rg_det rfl rfl rfl (fun K hK => ?_)
          go_big_quiet_op
          refine hK _ ?_; clear hK K
          refine rg_det rfl rfl rfl (fun K hK => ?_)
          go_big_quiet_op
          refine hK _ ?_; clear hK K
          refine rg_det rfl rfl rfl (fun K hK => ?_)
          go_big_quiet_op
          refine hK _ ?_; clear hK K
          refine rg_det rfl rfl rfl (fun K hK => ?_)
          go_big_quiet_op
          refine hK _ ?_; clear hK K
          refine rg_val rfl rfl (fun W1 hW1 hF => step_callv en_attestor_attestorref02_Sub (xSub y x0 W1) rfl rfl) ?_
          intro a' ha
          simp only [Act.put, List.setIfInBounds_toArray, List.set_cons_succ, List.set_cons_zero] at ha
          subst ha
          refine rg_det rfl rfl rfl (fun K hK => ?_)
          go_big_quiet_op
          refine hK _ ?_; clear hK K
          refine rg_nil (fun w' hw' hF => ?_)
          obtain ⟨z10, rfl⟩ := hw'
          simp only [List.drop_succ_cons, List.drop_zero]
          have bGz := bG.gw z10
          have e2 := bGz.frozen
          have e3 := bGz.cell
          have s1 := (z10.h.cell (p := ⟨g, 2, none⟩) lg).trans q3
          have s2 := (z10.h.cell (p := ⟨g, 3, none⟩) lg).trans q4
          have h1l : 1 < t0.length := hbig
          clear hF f1 f2 f3 f4 e1 e3 hc0 bG q3 q4
          go_upto_region 11 with (fail)
          refine set2 (M := fun W => Code.wp _ _ _ _ W) bGz fun X10 hX10 b10' => ?_
          have bG2 : Blk X10 g 43 ((t0.set 1 (y - x0)).flatMap ec ++ rest).toArray := by rw [← flat_set_pad (y - x0) rest t0 1 h1l]; simpa using b10'
          have HG : Hid (TabS 0 X10.heap.size X10 (.slice (some ⟨gU, oU, none⟩) j cu) (t0.set 1 (y - x0) :: ts)) := Lib.hid (HCL.out z10.w X10 (t0.set 1 (y - x0)) (hr9.trans (z10.h.mono hr9.size)) hX10 (List.length_set ..) bG2)
          have h9s := hr9.size
          have h8s : wr.heap.size ≤ w8.heap.size := by have := hB7.size; have := hb8.size; omega
          have hgw : w.heap.size ≤ g := by have := hB1.size; omega
          have hB10 := below_put (hB9.trans (z10.h.mono hB9.size)) hX10 hgw
          have b10k := hX10.blk (b109.keep z10.h) (by omega)
          have b11k := hX10.blk (b11.keep z10.h) (by omega)
          have HC10 := Lib.hid (show ExtS na2 ma2 X10 _ (md6 c) from hX10.rd (Rd.keep HC9.out z10.h) (.inl (by omega)))
          clear e2 s1 s2 bGz b10' bG2 HCL hX10 bGr lgr lUr
          have HV1 := Lib.hid (show ∀ W1, Below X10.heap.size X10 W1 → Calls Try.prog 33 #[ev y, (.slice (some ⟨gU, oU, none⟩) j cu), .agg #[.slice Aa2 (md6 c).length capa2, .int .i64 d]] W1 (Ret (.tuple #[ev (vrfE d y (t0.set 1 (y - x0) :: ts) (md6 c)).1, .int .i64 (vrfE d y (t0.set 1 (y - x0) :: ts) (md6 c)).2]) W1) from fun W1 hW => gVerify y (t0.set 1 (y - x0) :: ts) (md6 c) d ⟨hd1, hd2⟩ (by simp only [List.length_cons]; have := HTL.out; omega) _ _ _ _ _ _ W1 (HG.out.keep hW) (Rd.keep HC10.out hW))
          have HV2 := Lib.hid (show ∀ W1, Below X10.heap.size X10 W1 → Calls Try.prog 34 #[ev y, (.slice (some ⟨gU, oU, none⟩) j cu), .agg #[.slice Aa2 (md6 c).length capa2, .int .i64 d]] W1 (Ret (.tuple #[ev (vrfE d y (t0.set 1 (y - x0) :: ts) (md6 c)).1, .int .i64 (vrfE d y (t0.set 1 (y - x0) :: ts) (md6 c)).2]) W1) from fun W1 hW => rVerify y (t0.set 1 (y - x0) :: ts) (md6 c) d ⟨hd1, hd2⟩ _ _ _ _ _ _ W1 (HG.out.keep hW) (Rd.keep HC10.out hW))
          have HZ := vrf_zero d y (t0.set 1 (y - x0) :: ts) (md6 c)
          generalize vrfE d y (t0.set 1 (y - x0) :: ts) (md6 c) = p at *
          obtain ⟨px, pz⟩ := p
          simp only at HZ HV1 HV2
          have e1 := b11k.cell
          have e2 := b10k.cell
          go_wp2_with fail
          refine (HV1.out _ (Below.refl _ _)).mono ?_
          rintro e w12 ⟨he, hb12⟩
          unfold ev at he
          subst he
          go_upto_region 12 with (fail)
          refine wp_stk1 fun X12 hX12 hz12 b12 => ?_
          have h12 := hb12.trans (hX12.mono hb12.size)
          replace e1 := (b11k.keep h12).cell
          replace e2 := (b10k.keep h12).cell
          clear hz12
          go_wp2_with fail
          refine (HV2.out _ h12).mono ?_
          rintro e w13 ⟨he, hb13⟩
          unfold ev at he
          subst he
          go_upto_region 13 with (fail)
          refine wp_stk1 fun X13 hX13 hz13 b14 => ?_
          have h123 := hb13.trans (hX13.mono hb13.size)
          have h13 := h12.trans (h123.mono h12.size)
          have e3 := (b12.keep h123).cell
          have e4 := b14.cell
          clear e1 e2 hz13 HV1 HV2
          rcases HZ with hz0 | hx0
          · subst hz0
            go_wp2_with fail
            go_ret
            exact ⟨rfl, hB10.trans (h13.mono hB10.size)⟩
          · by_cases hpz : pz = 0
            · subst hpz
              go_wp2_with fail
              go_ret
              exact ⟨rfl, hB10.trans (h13.mono hB10.size)⟩
            · subst hx0
              simp only [zero_a, zero_b, fv_zero] at e3 e4
              go_wp2_with fail
              go_ret
              exact ⟨rfl, hB10.trans (h13.mono hB10.size)⟩
        · have e1 := d1
          have HG : Hid (TabS 0 X9.heap.size X9 (.slice (some ⟨gU, oU, none⟩) j cu) (t0 :: ts)) := Lib.hid (by
            have := (HRW.out.keep hr9).tabs (by rw [HML.out]; omega)
            rwa [HTS.out] at this)
          clear d1
          have HV1 := Lib.hid (show ∀ W1, Below X9.heap.size X9 W1 → Calls Try.prog 33 #[ev y, (.slice (some ⟨gU, oU, none⟩) j cu), .agg #[.slice Aa2 (md6 c).length capa2, .int .i64 d]] W1 (Ret (.tuple #[ev (vrfE d y (t0 :: ts) (md6 c)).1, .int .i64 (vrfE d y (t0 :: ts) (md6 c)).2]) W1) from fun W1 hW => gVerify y (t0 :: ts) (md6 c) d ⟨hd1, hd2⟩ (by simp only [List.length_cons]; have := HTL.out; omega) _ _ _ _ _ _ W1 (HG.out.keep hW) (Rd.keep HC9.out hW))
          have HV2 := Lib.hid (show ∀ W1, Below X9.heap.size X9 W1 → Calls Try.prog 34 #[ev y, (.slice (some ⟨gU, oU, none⟩) j cu), .agg #[.slice Aa2 (md6 c).length capa2, .int .i64 d]] W1 (Ret (.tuple #[ev (vrfE d y (t0 :: ts) (md6 c)).1, .int .i64 (vrfE d y (t0 :: ts) (md6 c)).2]) W1) from fun W1 hW => rVerify y (t0 :: ts) (md6 c) d ⟨hd1, hd2⟩ _ _ _ _ _ _ W1 (HG.out.keep hW) (Rd.keep HC9.out hW))
          have HZ := vrf_zero d y (t0 :: ts) (md6 c)
          generalize vrfE d y (t0 :: ts) (md6 c) = p at *
          obtain ⟨px, pz⟩ := p
          simp only at HZ HV1 HV2
          have e1 := b11.cell
          have e2 := b109.cell
          go_wp2_with fail
          refine (HV1.out _ (Below.refl _ _)).mono ?_
          rintro e w12 ⟨he, hb12⟩
          unfold ev at he
          subst he
          go_upto_region 12 with (fail)
          refine wp_stk1 fun X12 hX12 hz12 b12 => ?_
          have h12 := hb12.trans (hX12.mono hb12.size)
          replace e1 := (b11.keep h12).cell
          replace e2 := (b109.keep h12).cell
          clear hz12
          go_wp2_with fail
          refine (HV2.out _ h12).mono ?_
          rintro e w13 ⟨he, hb13⟩
          unfold ev at he
          subst he
          go_upto_region 13 with (fail)
          refine wp_stk1 fun X13 hX13 hz13 b14 => ?_
          have h123 := hb13.trans (hX13.mono hb13.size)
          have h13 := h12.trans (h123.mono h12.size)
          have e3 := (b12.keep h123).cell
          have e4 := b14.cell
          clear e1 e2 hz13 HV1 HV2
          rcases HZ with hz0 | hx0
          · subst hz0
            go_wp2_with fail
            go_ret
            exact ⟨rfl, hB9.trans (h13.mono hB9.size)⟩
          · by_cases hpz : pz = 0
            · subst hpz
              go_wp2_with fail
              go_ret
              exact ⟨rfl, hB9.trans (h13.mono hB9.size)⟩
            · subst hx0
              simp only [zero_a, zero_b, fv_zero] at e3 e4
              go_wp2_with fail
              go_ret
              exact ⟨rfl, hB9.trans (h13.mono hB9.size)⟩
end Go.Proofs.Ytilelegcniefcaa
