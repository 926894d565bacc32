/-
  Simulate of the reference of chapter 32, by contract.
-/
import Derived.Test.YtnddfeidggcplaaGreatRl32
import Derived.Test.YtnddfeidggcplaaGreatXp32
namespace Go.Proofs.YtnddfeidggcplaaGreat
open Go.RowKit

def LastA (c r fin : E) (xs : List E) (lo hi : Nat) (v : Value) (w : World) : Prop := (clsE c r fin xs = none ∧ v = nilV) ∨ ∃ row A cap, clsE c r fin xs = some row ∧ row.length = xs.length + 2 ∧ v = .slice A (xs.length + 2) cap ∧ ExtS lo hi w (.slice A (xs.length + 2) cap) row
theorem last_stable (c r fin : E) (xs : List E) : Stable (LastA c r fin xs) := fun lo hi v w w' h hb => by
  rcases h with h | ⟨row, A, cap, h1, h2, h3, h4⟩
  · exact .inl h
  · exact .inr ⟨row, A, cap, h1, h2, h3, Rd.below h4 hb (Nat.le_refl _)⟩
theorem rLastA (c r fin : E) (xs : List E) (D : Nat) (hD : D = xs.length + 1) (hk : xs.length ≤ 800) (AC AX : Option Addr) (nC cC cX : Nat) (lo hi : Nat) (w : World) (h : ExtS lo hi w (.slice AX xs.length cX) xs) :
    Calls Tryz.prog 71 #[ev c, ev r, .agg #[.slice AC nC cC, .int .i64 (D : Int), .slice AX xs.length cX, .int .u64 (fv fin.a), .int .u64 (fv fin.b)]] w (RetR (LastA c r fin xs) w) :=
  (rLast c r fin xs D hD hk AC AX nC cC cX lo hi w h).mono fun e w' ⟨hB, hh⟩ => by
    rcases hh with ⟨h1, rfl⟩ | ⟨row, A, cap, h1, h2, rfl, h3⟩
    · exact ⟨_, rfl, .inl ⟨h1, rfl⟩, hB⟩
    · exact ⟨_, rfl, .inr ⟨row, A, cap, h1, h2, rfl, h3⟩, hB⟩
theorem en_attestor_attestorref32_Simulate : ∀ args w, (callFunc 28 args).run Tryz.prog w = .ok (.enter 28 args) w := enters_of Tryz.func28 (by kernel_rfl) rfl
attribute [local irreducible] wpRg
set_option maxRecDepth 100000 in
set_option maxHeartbeats 8000000 in
theorem rSimulate (v : E) (co L : List E) (D : Nat) (fin : E) (hD : 1 ≤ D) (hD9 : D ≤ 800) (n : Nat) (hcn : co.length = n) (hn : n ≤ 1000) (AC AL : Option Addr) (capC capL lo hi lo2 hi2 : Nat) (w : World) (hc : ExtS lo hi w (.slice AC n capC) co) (hL : ExtS lo2 hi2 w (.slice AL L.length capL) L) :
    Calls Tryz.prog 28 #[ev v, .agg #[.slice AC n capC, .int .i64 D, .slice AL L.length capL, .int .u64 (fv fin.a), .int .u64 (fv fin.b)]] w (SimR w (simE v co L D fin) · ·) := by
  obtain ⟨i1, hi1, jz0, jz1, jz2⟩ := info_parts ext_info
  have HC := Lib.hid hc
  have HL := Lib.hid hL
  have HCN := Lib.hid hcn
  have HSm := Lib.hid hL.2.1
  have HT0 := Lib.hid (simT_zero v co L D fin)
  clear hc hL hcn
  obtain ⟨nl, hnl⟩ : ∃ nl, nl = L.length := ⟨_, rfl⟩
  rw [← hnl] at HL HSm ⊢
  have HNL := Lib.hid hnl
  obtain ⟨d, hd⟩ : ∃ d, d = D - 1 := ⟨_, rfl⟩
  have hdi : (D : Int) - 1 = (d : Int) := by omega
  have hd8 : d ≤ 800 := by omega
  have HDd := Lib.hid (show D = d + 1 by omega)
  have hmul : ∀ j, j < n → j * D ≤ 800000 := fun j hj => Nat.le_trans (Nat.mul_le_mul (show j ≤ 1000 by omega) hD9) (by decide)
  have HMul := Lib.hid hmul
  have HSuc := Lib.hid (fun j => Nat.succ_mul j D)
  clear hnl hd hmul
  unfold ev
  go_enter Tryz.func28, Tryz.ntmps28
  go_upto_region 1 with (fail)
  refine wp_stk2 fun W hB hz b2 b3 => ?_
  have hWa : w.heap.size + 1 + 1 ≤ W.heap.size := Nat.le_of_eq hz.out.symm
  clear hz
  go_upto_region 2 with (fail)
  refine wp_stk1 fun V0 hV0 hzV bO => ?_
  obtain ⟨go0, hgo0⟩ : ∃ g, g = W.heap.size := ⟨_, rfl⟩
  rw [← hgo0] at bO ⊢
  have hgo1 : w.heap.size + 1 + 1 ≤ go0 := by omega
  have hV0s : go0 + 1 ≤ V0.heap.size := by rw [hzV.out]; omega
  have HR0 := Lib.hid (show RowT go0 V0 (.slice (some ⟨go0, 0, none⟩) 0 0) (simT v co L D fin 0) by
    rw [HT0.out]
    exact ⟨[], ⟨rfl, .inr ⟨go0, 0, #[], rfl, Nat.le_refl _, bO, Nat.le_refl _, Nat.zero_le _, rfl, rfl⟩⟩, rfl, fun k x t h => by simp at h⟩)
  replace b2 := b2.keep hV0
  replace b3 := b3.keep hV0
  have hw0 := hB.trans (hV0.mono hB.size)
  clear hgo0 hzV hV0 hB bO
  go_wp2_with fail
  go_loopw [5, 6, 7] (fun u a i wr => ∃ j m : Nat, j ≤ n ∧ i = .int .i64 j ∧ a = .int .i64 m ∧ (j < n → m = j * D) ∧ RowT go0 wr u (simT v co L D fin j) ∧ (∃ vj : E, (j < n → vj = simV v co L D j) ∧ Blk wr w.heap.size 30 #[.int .u64 (fv vj.a), .int .u64 (fv vj.b)]) ∧ Blk wr (w.heap.size + 1) 57 #[.slice AC n capC, .int .i64 D, .slice AL nl capL, .int .u64 (fv fin.a), .int .u64 (fv fin.b)] ∧ Below w.heap.size w wr ∧ go0 ≤ wr.heap.size) (fun _ _ i _ => n - (intOf i).toNat)
  case atStart => exact ⟨0, 0, Nat.zero_le _, rfl, rfl, fun _ => (Nat.zero_mul _).symm, HR0.out, ⟨v, fun _ => rfl, b2⟩, b3, hw0, by omega⟩
  case round =>
    obtain ⟨j, m, hj, rfl, rfl, hm, hrow, ⟨vj, hvj, b2⟩, b3, hBr, hrs⟩ := hrel
    obtain ⟨V, hV⟩ : ∃ V, V = wr := ⟨_, rfl⟩
    subst hV
    by_cases hlt : j < n
    · have hm' := hm hlt
      have hvj' := hvj hlt
      have hm8 : m ≤ 800000 := by rw [hm']; exact HMul.out j hlt
      have HMj := Lib.hid hm'
      have HVj := Lib.hid hvj'
      obtain ⟨r, hr⟩ : ∃ r, co[j]? = some r := ⟨_, List.getElem?_eq_getElem (by rw [HCN.out]; exact hlt)⟩
      obtain ⟨gc, oc, cc, hv, -, -, -, lc, qc⟩ := exts_cells HC.out (by rw [HCN.out]; omega)
      rw [HCN.out] at hv
      cases hv
      obtain ⟨d1, d2⟩ := qc j r hr
      have HRr := Lib.hid hr
      clear hm hvj hm' hvj' qc hr
      have e3 := b3.cell
      by_cases hlast : j + 1 = n
      · have hq : ((j : Int) == (n : Int) - 1) = true := by simp; omega
        have hq2 : ¬ ((j : Int) < (n : Int) - 1) := by omega
        go_wp2_with fail
        clear e3
        go_loopw [6, 9, 10] (fun a v' k wi => ∃ t : Nat, t ≤ d ∧ k = .int .i64 t ∧ a = .int .i64 ((m + t : Nat) : Int) ∧ wi.ownsRow V.heap.size 30 2 v' t ((tkZ L m t).flatMap ec) ∧ Below V.heap.size V wi) (fun _ _ k _ => d - (intOf k).toNat)
        case atStart => exact ⟨0, Nat.zero_le _, rfl, rfl, ⟨by simp [tkZ], .inr ⟨V.heap.size, 0, #[], rfl, Nat.le_refl _, World.alloc_heap_new V _, Nat.le_refl _, Nat.zero_le _, rfl, by simp [tkZ]⟩⟩, (Below.refl _ _).alloc (Nat.le_refl _) _⟩
        case round =>
          obtain ⟨t, ht, rfl, rfl, hown, hBy⟩ := hrel
          obtain ⟨Y, hY⟩ : ∃ Y, Y = wr := ⟨_, rfl⟩
          subst hY
          have hys := hBy.size
          by_cases hlt2 : t < d
          · obtain ⟨z, hz⟩ : ∃ z, z = L.getD (m + t) 0 := ⟨_, rfl⟩
            have HT := Lib.hid (show (tkZ L m (t + 1)).flatMap ec = (tkZ L m t).flatMap ec ++ ec z by rw [tkZ_succ, List.flatMap_append, hz]; simp)
            obtain ⟨An, cn, rfl⟩ := own_len hown
            go_upto_region 13 with (fail)
            refine wp_stk1 fun Y1 hY1 hzY1 bX => ?_
            have hVY1 := hBy.trans (hY1.mono hys)
            have e3 := (b3.keep hVY1).cell
            by_cases hat : m + t < nl
            · obtain ⟨gl, ol, cl, hv, -, -, -, ll, ql⟩ := exts_cells (Rd.keep HL.out (hBr.trans (hVY1.mono hBr.size))) (by rw [← HNL.out]; omega)
              rw [← HNL.out] at hv
              cases hv
              obtain ⟨d3, d4⟩ := ql (m + t) z (by
                rw [hz, List.getD_eq_getElem?_getD, List.getElem?_eq_getElem (by rw [← HNL.out]; exact hat)]
                rfl)
              have e11 := bX.cell
              have e11f := bX.frozen
              clear ql hz
              go_upto_region 15 with (fail)
              refine set2 (M := fun W => Code.wp _ _ _ _ W) bX fun Z pZ bZ => ?_
              have hYZ := below_put hY1 pZ (Nat.le_refl _)
              clear e3 d3 d4 e11 e11f bX
              have bX : Blk Z Y.heap.size 30 #[.int .u64 (fv z.a), .int .u64 (fv z.b)] := bZ
              have e11 := bX.cell
              have al : Below Z.heap.size Z (Z.alloc (.cells #[.int .u64 (fv z.a), .int .u64 (fv z.b)] 30)) := (Below.refl _ _).alloc (Nat.le_refl _) _
              have hZs := hYZ.size
              go_wp2_with (at_builtin; refine wpList_app1 rfl _ _ rfl Tryz.underlying22 hi1 jz0 jz1 jz2 rfl (by decide) (cl := ec z) rfl (ec_one _) rfl rfl (own_below (N := Y.heap.size) hown (Nat.le_refl _) (hYZ.trans (al.mono hZs))) (Blk.new_at _ _ _ rfl) ?h63 ?hby ?hbase ?_)
              case h63 => unfold maxLen; omega
              case hby => omega
              case hbase => simp; omega
              intro v9 w9 hown9 hgrow9 hB9
              rw [← HT.out] at hown9
              clear e11 hgrow9
              go_wp2_with fail
              exact ⟨⟨t + 1, by omega, by go_num, by go_num, hown9, (hBy.trans ((hYZ.trans (al.mono hZs)).mono hys)).trans hB9⟩, by simp [intOf]; omega⟩
            · have hz0 : z = 0 := by
                rw [hz, List.getD_eq_getElem?_getD, List.getElem?_eq_none (by rw [← HNL.out]; omega)]
                rfl
              go_upto_region 15 with (fail)
              obtain ⟨Z, hZ⟩ : ∃ Z, Z = Y1 := ⟨_, rfl⟩
              rw [← hZ] at hY1 bX ⊢
              have hYZ := hY1
              have bX' : Blk Z Y.heap.size 30 #[.int .u64 (fv z.a), .int .u64 (fv z.b)] := by rw [hz0]; exact bX
              clear e3 bX hz0 hz hZ
              have bX := bX'
              clear bX'
              have e11 := bX.cell
              have al : Below Z.heap.size Z (Z.alloc (.cells #[.int .u64 (fv z.a), .int .u64 (fv z.b)] 30)) := (Below.refl _ _).alloc (Nat.le_refl _) _
              have hZs := hYZ.size
              go_wp2_with (at_builtin; refine wpList_app1 rfl _ _ rfl Tryz.underlying22 hi1 jz0 jz1 jz2 rfl (by decide) (cl := ec z) rfl (ec_one _) rfl rfl (own_below (N := Y.heap.size) hown (Nat.le_refl _) (hYZ.trans (al.mono hZs))) (Blk.new_at _ _ _ rfl) ?h63 ?hby ?hbase ?_)
              case h63 => unfold maxLen; omega
              case hby => omega
              case hbase => simp; omega
              intro v9 w9 hown9 hgrow9 hB9
              rw [← HT.out] at hown9
              clear e11 hgrow9
              go_wp2_with fail
              exact ⟨⟨t + 1, by omega, by go_num, by go_num, hown9, (hBy.trans ((hYZ.trans (al.mono hZs)).mono hys)).trans hB9⟩, by simp [intOf]; omega⟩
          · obtain rfl : d = t := by omega
            obtain ⟨An, cn, rfl⟩ := own_len hown
            have hE : ExtS V.heap.size Y.heap.size Y (.slice An d cn) (tkZ L m d) := by
              unfold ExtS
              rw [tkZ_length]
              exact Rd.of_own hown (by omega) (Nat.le_refl _)
            go_upto_region 18 with (fail)
            refine wp_stk1 fun Z hZ hzZ bR => ?_
            have hVZ := hBy.trans (hZ.mono hys)
            have hrZ := hBr.trans (hVZ.mono hBr.size)
            have hVZs := hVZ.size
            have e3 := (b3.keep hVZ).cell
            have y2 := gw_blk (b2.keep hVZ)
            have y3 := gw_blk (b3.keep hVZ)
            have y4 := gw_cell (Nat.lt_of_lt_of_le lc hrZ.size) ((hrZ.cell (p := ⟨gc, oc + j * 2, none⟩) lc).trans d1)
            have y5 := gw_cell (Nat.lt_of_lt_of_le lc hrZ.size) ((hrZ.cell (p := ⟨gc, oc + j * 2 + 1, none⟩) lc).trans d2)
            have HLs := Lib.hid (show ∀ W1, Below Z.heap.size Z W1 → Calls Tryz.prog 71 #[ev vj, ev r, .agg #[.slice none 0 0, .int .i64 (D : Int), .slice An d cn, .int .u64 (fv fin.a), .int .u64 (fv fin.b)]] W1 (RetR (LastA vj r fin (tkZ L m d)) W1) from fun W1 h => by
              have := rLastA vj r fin (tkZ L m d) D (by rw [tkZ_length]; exact HDd.out) (by rw [tkZ_length]; omega) none An 0 0 cn _ _ W1 (by rw [tkZ_length]; exact Rd.keep (Rd.keep hE hZ) h)
              rwa [tkZ_length] at this)
            have HX0 := Lib.hid (show clsE vj r fin (tkZ L m d) = none → simE v co L D fin = [] from fun h => simT_last0 v co L D fin j (by rw [HCN.out]; exact hlast) (by rw [tkZ_drop, ← HVj.out, ← HMj.out, HDd.out, Nat.add_sub_cancel, show co.getD j 0 = r by simp [List.getD, HRr.out]]; exact h))
            have HX1 := Lib.hid (show ∀ row, clsE vj r fin (tkZ L m d) = some row → simT v co L D fin (j + 1) = simT v co L D fin j ++ [row] from fun row h => by
              rw [simT_end v co L D fin (j + 1) (by rw [HCN.out]; omega)]
              exact (simT_last1 v co L D fin j (by rw [HCN.out]; exact hlast) row (by rw [tkZ_drop, ← HVj.out, ← HMj.out, HDd.out, Nat.add_sub_cancel, show co.getD j 0 = r by simp [List.getD, HRr.out]]; exact h)).symm)
            clear hE hown bR
            go_upto_region 21 with (fail)
            clear e3
            refine wp_region_rg 13 [(12, Spec.rel (LastA vj r fin (tkZ L m d)) AnyV)] (by kernel_rfl) (by kernel_rfl) (by kernel_rfl) ⟨fit_of (last_stable _ _ _ _), trivial⟩ ?_
            refine rg_det rfl rfl rfl (fun K hK => ?_)
            go_big_quiet_op
            refine hK _ ?_; clear hK K
            refine rg_det rfl rfl rfl (fun K hK => ?_)
            go_big_quiet_op
            refine hK _ ?_; clear hK K
            refine rg_det rfl rfl rfl (fun K hK => ?_)
            go_big_quiet_op
            refine hK _ ?_; clear hK K
            refine rg_det rfl rfl rfl (fun K hK => ?_)
            go_big_quiet_op
            refine hK _ ?_; clear hK K
            refine rg_det rfl rfl rfl (fun K hK => ?_)
            go_big_quiet_op
            refine hK _ ?_; clear hK K
            refine rg_det rfl rfl rfl (fun K hK => ?_)
            go_big_quiet_op
            refine hK _ ?_; clear hK K
            refine rg_det rfl rfl rfl (fun K hK => ?_)
            go_big_quiet_op
            refine hK _ ?_; clear hK K
            refine rg_det rfl rfl rfl (fun K hK => ?_)
            go_big_quiet_op
            refine hK _ ?_; clear hK K
            refine rg_det rfl rfl rfl (fun K hK => ?_)
            go_big_quiet_op
            refine hK _ ?_; clear hK K
            refine rg_det rfl rfl rfl (fun K hK => ?_)
            go_big_quiet_op
            refine hK _ ?_; clear hK K
            refine rg_det rfl rfl rfl (fun K hK => ?_)
            go_big_quiet_op
            refine hK _ ?_; clear hK K
            refine rg_det rfl rfl rfl (fun K hK => ?_)
            go_big_quiet_op
            refine hK _ ?_; clear hK K
            refine rg_rel rfl rfl (fun W1 hW1 hF => step_callr en_attestor_attestorref32_last (HLs.out W1 (grw_below hW1)) rfl rfl) ?_
            intro ns12 ms12 vs12 hns12 hms12 hds12 hfs12 a' ha
            simp only [Act.put, List.setIfInBounds_toArray, List.set_cons_succ, List.set_cons_zero] at ha
            subst ha
            refine rg_nil (fun w' hw' hF => ?_)
            obtain ⟨z9, rfl⟩ := hw'
            simp only [List.drop_succ_cons, List.drop_zero]
            obtain ⟨hms', hA⟩ := end_last hF
            have hz9 := z9.h
            have hVX := hVZ.trans (hz9.mono hVZs)
            clear hF y2 y3 y4 y5 HLs hds12
            rcases hA with ⟨hcl, rfl⟩ | ⟨row, AR, cR, hcl, hrl, rfl, hER⟩
            · have HN := Lib.hid (HX0.out hcl)
              have hBz := hBr.trans (hVX.mono hBr.size)
              unfold nilV
              clear hcl
              go_wp2_with fail
              refine bodyPost_ret (v := nilV) (by simp [nilV, results, Tryz.results28, go_sem]) rfl ⟨nilV, rfl, by rw [HN.out]; exact nil_tabs _ _ _, hBz⟩
            · have HNx := Lib.hid (HX1.out row hcl)
              rw [tkZ_length, show d + 2 = D + 1 by have := HDd.out; omega] at hrl hER
              rw [tkZ_length, show d + 2 = D + 1 by have := HDd.out; omega]
              have HRw := Lib.hid hrl
              obtain ⟨X, hX⟩ : ∃ X, X = z9.w := ⟨_, rfl⟩
              rw [← hX] at hVX hER hms' ⊢
              obtain ⟨lR, hlRe⟩ : ∃ l, l = ns12 := ⟨_, rfl⟩
              rw [← hlRe] at hER
              have hlR : V.heap.size ≤ lR := by omega
              replace hER : ExtS lR X.heap.size X (.slice AR (D + 1) cR) row := Rd.wide hER (Nat.le_refl _) hms'
              clear hcl hrl hX hlRe
              have hq0 : (((D + 1 : Nat) : Int) == 0) = false := by simp; omega
              obtain ⟨AU, cU, hv⟩ := hrow.len'
              rw [simT_length v co L D fin j (by rw [HCN.out]; exact hlt)] at hv
              subst hv
              have alX : Below X.heap.size X (X.alloc (.cells #[.slice AR (D + 1) cR] 22)) := (Below.refl _ _).alloc (Nat.le_refl _) _
              have hXs := hVX.size
              go_wp2_with (at_builtin; refine wpList_appT (x := .slice AR (D + 1) cR) (y := row) (lo := lR) (hi := X.heap.size) (base := go0) (ts := simT v co L D fin j) rfl _ _ rfl Tryz.underlying37 rfl rfl ?hrow ?hsrc rfl ?hE ?hlo ?hhi ?hout ?hk ?hbase ?_)
              case hrow => exact hrow.keep (hVX.trans (alX.mono hXs))
              case hsrc => exact Blk.new_at _ _ _ rfl
              case hE => exact Rd.keep hER alX
              case hlo => omega
              case hhi => simp
              case hout => exact hrow.out hlR
              case hk => rw [simT_length v co L D fin j (by rw [HCN.out]; exact hlt)]; omega
              case hbase => simp; omega
              intro u' w8 hrow8 hB8 hg8 hob8
              rw [← HNx.out] at hrow8
              have hs8 : X.heap.size + 1 ≤ w8.heap.size := by have := hg8.size; simpa using this
              have hE8 := rd_kept (Rd.keep hER alX) (Kept.of_grown hg8 (hrow.out hlR) (by simp)) hg8.size
              have hVX8 := hVX.trans (alX.mono hXs)
              have b28 := (b2.keep hVX8).below hB8 (by omega)
              have b38 := (b3.keep hVX8).below hB8 (by omega)
              have h8 := (hBr.trans (hVX8.mono hBr.size)).trans (hB8.mono (by omega))
              have e3 := b38.cell
              have d18 := (h8.cell (p := ⟨gc, oc + j * 2, none⟩) lc).trans d1
              have d28 := (h8.cell (p := ⟨gc, oc + j * 2 + 1, none⟩) lc).trans d2
              obtain ⟨A8, c8, hv⟩ := hrow8.len'
              subst hv
              have HAt := Lib.hid (pAt row r (by rw [HRw.out]; omega) _ _ _ w8 hE8)
              generalize atE row r = ar at *
              unfold ev at HAt
              clear hE8 hg8 hob8 hER alX hVX8 hrow
              generalize (simT v co L D fin (j + 1)).length = l8 at *
              go_wp2_with fail
              with_reducible refine Calls.mono HAt.out ?_
              rintro e w9 ⟨rfl, hb9⟩
              replace b28 := b28.keep hb9
              replace b38 := b38.keep hb9
              have hrow9 := hrow8.keep hb9
              have h9 := h8.trans (hb9.mono h8.size)
              have hs9 := hb9.size
              clear e3 d18 d28 hb9 hrow8
              have e2 := b28.cell
              have e2f := b28.frozen
              go_upto_region 4 with (fail)
              refine set2 (M := fun W => Code.wp _ _ _ _ W) b28 fun Z pZ bZ => ?_
              have hrowZ := hrow9.put pZ (by omega)
              have b3Z := pZ.blk b38 (by omega)
              have hZ := below_put h9 pZ (Nat.le_refl _)
              have hZs := Nat.le_of_eq pZ.size.symm
              clear e2 e2f
              go_wp2_with fail
              exact ⟨⟨j + 1, m + d, by omega, by go_num, rfl, fun h => by omega, hrowZ, ⟨ar, fun h => by omega, bZ⟩, b3Z, hZ, by omega⟩, by simp [intOf]; omega⟩
      · have hq : ((j : Int) == (n : Int) - 1) = false := by simp; omega
        have hq2 : (j : Int) < (n : Int) - 1 := by omega
        go_wp2_with fail
        clear e3
        go_loopw [6, 9, 10] (fun a v' k wi => ∃ t : Nat, t ≤ D ∧ k = .int .i64 t ∧ a = .int .i64 ((m + t : Nat) : Int) ∧ wi.ownsRow V.heap.size 30 2 v' t ((tkZ L m t).flatMap ec) ∧ Below V.heap.size V wi) (fun _ _ k _ => D - (intOf k).toNat)
        case atStart => exact ⟨0, Nat.zero_le _, rfl, rfl, ⟨by simp [tkZ], .inr ⟨V.heap.size, 0, #[], rfl, Nat.le_refl _, World.alloc_heap_new V _, Nat.le_refl _, Nat.zero_le _, rfl, by simp [tkZ]⟩⟩, (Below.refl _ _).alloc (Nat.le_refl _) _⟩
        case round =>
          obtain ⟨t, ht, rfl, rfl, hown, hBy⟩ := hrel
          obtain ⟨Y, hY⟩ : ∃ Y, Y = wr := ⟨_, rfl⟩
          subst hY
          have hys := hBy.size
          by_cases hlt2 : t < D
          · obtain ⟨z, hz⟩ : ∃ z, z = L.getD (m + t) 0 := ⟨_, rfl⟩
            have HT := Lib.hid (show (tkZ L m (t + 1)).flatMap ec = (tkZ L m t).flatMap ec ++ ec z by rw [tkZ_succ, List.flatMap_append, hz]; simp)
            obtain ⟨An, cn, rfl⟩ := own_len hown
            go_upto_region 13 with (fail)
            refine wp_stk1 fun Y1 hY1 hzY1 bX => ?_
            have hVY1 := hBy.trans (hY1.mono hys)
            have e3 := (b3.keep hVY1).cell
            by_cases hat : m + t < nl
            · obtain ⟨gl, ol, cl, hv, -, -, -, ll, ql⟩ := exts_cells (Rd.keep HL.out (hBr.trans (hVY1.mono hBr.size))) (by rw [← HNL.out]; omega)
              rw [← HNL.out] at hv
              cases hv
              obtain ⟨d3, d4⟩ := ql (m + t) z (by
                rw [hz, List.getD_eq_getElem?_getD, List.getElem?_eq_getElem (by rw [← HNL.out]; exact hat)]
                rfl)
              have e11 := bX.cell
              have e11f := bX.frozen
              clear ql hz
              go_upto_region 15 with (fail)
              refine set2 (M := fun W => Code.wp _ _ _ _ W) bX fun Z pZ bZ => ?_
              have hYZ := below_put hY1 pZ (Nat.le_refl _)
              clear e3 d3 d4 e11 e11f bX
              have bX : Blk Z Y.heap.size 30 #[.int .u64 (fv z.a), .int .u64 (fv z.b)] := bZ
              have e11 := bX.cell
              have al : Below Z.heap.size Z (Z.alloc (.cells #[.int .u64 (fv z.a), .int .u64 (fv z.b)] 30)) := (Below.refl _ _).alloc (Nat.le_refl _) _
              have hZs := hYZ.size
              go_wp2_with (at_builtin; refine wpList_app1 rfl _ _ rfl Tryz.underlying22 hi1 jz0 jz1 jz2 rfl (by decide) (cl := ec z) rfl (ec_one _) rfl rfl (own_below (N := Y.heap.size) hown (Nat.le_refl _) (hYZ.trans (al.mono hZs))) (Blk.new_at _ _ _ rfl) ?h63 ?hby ?hbase ?_)
              case h63 => unfold maxLen; omega
              case hby => omega
              case hbase => simp; omega
              intro v9 w9 hown9 hgrow9 hB9
              rw [← HT.out] at hown9
              clear e11 hgrow9
              go_wp2_with fail
              exact ⟨⟨t + 1, by omega, by go_num, by go_num, hown9, (hBy.trans ((hYZ.trans (al.mono hZs)).mono hys)).trans hB9⟩, by simp [intOf]; omega⟩
            · have hz0 : z = 0 := by
                rw [hz, List.getD_eq_getElem?_getD, List.getElem?_eq_none (by rw [← HNL.out]; omega)]
                rfl
              go_upto_region 15 with (fail)
              obtain ⟨Z, hZ⟩ : ∃ Z, Z = Y1 := ⟨_, rfl⟩
              rw [← hZ] at hY1 bX ⊢
              have hYZ := hY1
              have bX' : Blk Z Y.heap.size 30 #[.int .u64 (fv z.a), .int .u64 (fv z.b)] := by rw [hz0]; exact bX
              clear e3 bX hz0 hz hZ
              have bX := bX'
              clear bX'
              have e11 := bX.cell
              have al : Below Z.heap.size Z (Z.alloc (.cells #[.int .u64 (fv z.a), .int .u64 (fv z.b)] 30)) := (Below.refl _ _).alloc (Nat.le_refl _) _
              have hZs := hYZ.size
              go_wp2_with (at_builtin; refine wpList_app1 rfl _ _ rfl Tryz.underlying22 hi1 jz0 jz1 jz2 rfl (by decide) (cl := ec z) rfl (ec_one _) rfl rfl (own_below (N := Y.heap.size) hown (Nat.le_refl _) (hYZ.trans (al.mono hZs))) (Blk.new_at _ _ _ rfl) ?h63 ?hby ?hbase ?_)
              case h63 => unfold maxLen; omega
              case hby => omega
              case hbase => simp; omega
              intro v9 w9 hown9 hgrow9 hB9
              rw [← HT.out] at hown9
              clear e11 hgrow9
              go_wp2_with fail
              exact ⟨⟨t + 1, by omega, by go_num, by go_num, hown9, (hBy.trans ((hYZ.trans (al.mono hZs)).mono hys)).trans hB9⟩, by simp [intOf]; omega⟩
          · obtain rfl : D = t := by omega
            obtain ⟨An, cn, rfl⟩ := own_len hown
            have hE : ExtS V.heap.size Y.heap.size Y (.slice An D cn) (tkZ L m D) := by
              unfold ExtS
              rw [tkZ_length]
              exact Rd.of_own hown (by omega) (Nat.le_refl _)
            go_upto_region 18 with (fail)
            refine wp_stk1 fun Z hZ hzZ bR => ?_
            have hVZ := hBy.trans (hZ.mono hys)
            have hVZs := hVZ.size
            have e3 := (b3.keep hVZ).cell
            have y2 := gw_blk (b2.keep hVZ)
            obtain ⟨x0, hx0, hx0d⟩ := get_of (l := tkZ L m D) (k := 0) (by rw [tkZ_length]; omega)
            obtain ⟨gn, on, cn', hv, -, -, -, ln, qn⟩ := exts_cells (Rd.keep hE hZ) (by rw [tkZ_length]; omega)
            rw [tkZ_length] at hv
            cases hv
            obtain ⟨w0, w1⟩ := qn 0 x0 hx0
            simp only [Nat.zero_mul, Nat.add_zero] at w0 w1
            have y4 := gw_cell ln w0
            have y5 := gw_cell ln w1
            have HE := Lib.hid hE
            have hRl := bR.lt
            obtain ⟨row, hrow0⟩ : ∃ row, row = simRow vj (tkZ L m D) := ⟨_, rfl⟩
            have HFl := Lib.hid (show ec (vj - x0) ++ (tkZ L m D).flatMap ec = row.flatMap ec by rw [hrow0]; unfold simRow; rw [hx0d]; simp)
            have HRw := Lib.hid (show row.length = D + 1 by rw [hrow0, simRow_length, tkZ_length])
            have HNx := Lib.hid (show simT v co L D fin (j + 1) = simT v co L D fin j ++ [row] by rw [simT_succ v co L D fin j (by rw [HCN.out]; omega), tkZ_drop, ← HVj.out, ← HMj.out, hrow0])
            have HVx := Lib.hid (show atE row r = simV v co L D (j + 1) by
              show _ = atE (simRow (simV v co L D j) (tkZ L (j * D) D)) (co.getD j 0)
              rw [← HVj.out, ← HMj.out, hrow0, show co.getD j 0 = r by simp [List.getD, HRr.out]])
            clear qn w0 w1 hx0 hx0d hE hown hrow0
            go_upto_region 19 with (fail)
            clear e3
            refine wp_region_rg 7 [(5, Spec.val (.agg #[.int .u64 (fv ((vj - x0)).a), .int .u64 (fv ((vj - x0)).b)])), (6, Spec.rel (Lit 30 1 #[.int .u64 (fv (vj - x0).a), .int .u64 (fv (vj - x0).b)]) (LitF 1))] (by kernel_rfl) (by kernel_rfl) (by kernel_rfl) ⟨fit_lit, trivial⟩ ?_
            refine rg_det rfl rfl rfl (fun K hK => ?_)
            go_big_quiet_op
            refine hK _ ?_; clear hK K
            refine rg_det rfl rfl rfl (fun K hK => ?_)
            go_big_quiet_op
            refine hK _ ?_; clear hK K
            refine rg_det rfl rfl rfl (fun K hK => ?_)
            go_big_quiet_op
            refine hK _ ?_; clear hK K
            refine rg_det rfl rfl rfl (fun K hK => ?_)
            go_big_quiet_op
            refine hK _ ?_; clear hK K
            refine rg_det rfl rfl rfl (fun K hK => ?_)
            go_big_quiet_op
            refine hK _ ?_; clear hK K
            refine rg_val rfl rfl (fun W1 hW1 hF => step_callv en_attestor_attestorref02_Sub (xSub vj x0 W1) rfl rfl) ?_
            intro a' ha
            simp only [Act.put, List.setIfInBounds_toArray, List.set_cons_succ, List.set_cons_zero] at ha
            subst ha
            refine rg_rel rfl rfl (fun W1 hW1 hF => step_lit1 Tryz.underlying22 hi1 jz0 jz1 (by decide) (by decide) rfl rfl rfl) ?_
            intro ns6 ms6 vs6 hns6 hms6 hds6 hfs6 a' ha
            simp only [Act.put, List.setIfInBounds_toArray, List.set_cons_succ, List.set_cons_zero] at ha
            subst ha
            obtain rfl := hfs6
            refine rg_nil (fun w' hw' hF => ?_)
            obtain ⟨z9, rfl⟩ := hw'
            simp only [List.drop_succ_cons, List.drop_zero]
            obtain ⟨hms', -, hls, bL⟩ := end_last hF
            have hz9 := z9.h
            have hz9s := hz9.size
            have bRz := bR.gw z9
            have hYz := hZ.trans (hz9.mono hZ.size)
            clear hF y2 y4 y5 hds6 bR
            go_wp2_with (at_builtin; refine wpList_app1 rfl _ _ rfl Tryz.underlying22 hi1 jz0 jz1 jz2 rfl (by decide) (cl := ec (vj - x0)) (cs := []) (k := 0) (base := Y.heap.size) rfl (ec_one _) rfl rfl ⟨rfl, .inr ⟨Y.heap.size, 0, #[], rfl, Nat.le_refl _, bRz, Nat.le_refl _, Nat.zero_le _, rfl, rfl⟩⟩ bL ?h63 ?hby ?hbase ?_)
            case h63 => unfold maxLen; omega
            case hby => omega
            case hbase => omega
            intro v1 w7 hown7 hgrow7 hB7
            try rw [Nat.zero_add, List.nil_append] at hown7
            obtain ⟨A7, c7, rfl⟩ := own_len hown7
            have hY7 := hYz.trans hB7
            have hY7s := hY7.size
            have hE7 := Rd.keep HE.out hY7
            unfold ExtS at hE7
            rw [tkZ_length] at hE7
            clear hgrow7 bL bRz
            go_wp2_with (at_builtin; refine wpList_appB rfl _ _ rfl Tryz.underlying22 hi1 jz0 jz1 jz2 rfl (by decide) (cl := (tkZ L m D).flatMap ec) (m := D) (k := 1) (lo := V.heap.size) (hi2 := Y.heap.size) (base := Y.heap.size) (cs := ec (vj - x0)) (fun u hu => by obtain ⟨x, _, hx⟩ := List.mem_flatMap.1 hu; exact ec_one x u hx) rfl rfl hE7 hown7 ?h63 ?hby ?hbase ?_)
            case h63 => unfold maxLen; omega
            case hby => omega
            case hbase => omega
            intro v1 X hown8 hgrow8 hB8
            rw [HFl.out, Nat.add_comm 1 D] at hown8
            obtain ⟨AR, cR, rfl⟩ := own_len hown8
            have hYX := hY7.trans hB8
            have hVX := hBy.trans (hYX.mono hys)
            obtain ⟨lR, hlRe⟩ : ∃ l, l = Y.heap.size := ⟨_, rfl⟩
            have hER : ExtS lR X.heap.size X (.slice AR (D + 1) cR) row := by
              unfold ExtS
              rw [HRw.out, hlRe]
              exact Rd.of_own hown8 (by omega) (Nat.le_refl _)
            have hlR : V.heap.size ≤ lR := by omega
            clear hlRe hown8 hgrow8 hE7
            have hq0 : (((D + 1 : Nat) : Int) == 0) = false := by simp; omega
            obtain ⟨AU, cU, hv⟩ := hrow.len'
            rw [simT_length v co L D fin j (by rw [HCN.out]; exact hlt)] at hv
            subst hv
            have alX : Below X.heap.size X (X.alloc (.cells #[.slice AR (D + 1) cR] 22)) := (Below.refl _ _).alloc (Nat.le_refl _) _
            have hXs := hVX.size
            go_wp2_with (at_builtin; refine wpList_appT (x := .slice AR (D + 1) cR) (y := row) (lo := lR) (hi := X.heap.size) (base := go0) (ts := simT v co L D fin j) rfl _ _ rfl Tryz.underlying37 rfl rfl ?hrow ?hsrc rfl ?hE ?hlo ?hhi ?hout ?hk ?hbase ?_)
            case hrow => exact hrow.keep (hVX.trans (alX.mono hXs))
            case hsrc => exact Blk.new_at _ _ _ rfl
            case hE => exact Rd.keep hER alX
            case hlo => omega
            case hhi => simp
            case hout => exact hrow.out hlR
            case hk => rw [simT_length v co L D fin j (by rw [HCN.out]; exact hlt)]; omega
            case hbase => simp; omega
            intro u' w8 hrow8 hB8 hg8 hob8
            rw [← HNx.out] at hrow8
            have hs8 : X.heap.size + 1 ≤ w8.heap.size := by have := hg8.size; simpa using this
            have hE8 := rd_kept (Rd.keep hER alX) (Kept.of_grown hg8 (hrow.out hlR) (by simp)) hg8.size
            have hVX8 := hVX.trans (alX.mono hXs)
            have b28 := (b2.keep hVX8).below hB8 (by omega)
            have b38 := (b3.keep hVX8).below hB8 (by omega)
            have h8 := (hBr.trans (hVX8.mono hBr.size)).trans (hB8.mono (by omega))
            have e3 := b38.cell
            have d18 := (h8.cell (p := ⟨gc, oc + j * 2, none⟩) lc).trans d1
            have d28 := (h8.cell (p := ⟨gc, oc + j * 2 + 1, none⟩) lc).trans d2
            obtain ⟨A8, c8, hv⟩ := hrow8.len'
            subst hv
            have HAt := Lib.hid (pAt row r (by rw [HRw.out]; omega) _ _ _ w8 hE8)
            generalize atE row r = ar at *
            unfold ev at HAt
            clear hE8 hg8 hob8 hER alX hVX8 hrow
            generalize (simT v co L D fin (j + 1)).length = l8 at *
            go_wp2_with fail
            with_reducible refine Calls.mono HAt.out ?_
            rintro e w9 ⟨rfl, hb9⟩
            replace b28 := b28.keep hb9
            replace b38 := b38.keep hb9
            have hrow9 := hrow8.keep hb9
            have h9 := h8.trans (hb9.mono h8.size)
            have hs9 := hb9.size
            clear e3 d18 d28 hb9 hrow8
            have e2 := b28.cell
            have e2f := b28.frozen
            go_upto_region 4 with (fail)
            refine set2 (M := fun W => Code.wp _ _ _ _ W) b28 fun Z pZ bZ => ?_
            have hrowZ := hrow9.put pZ (by omega)
            have b3Z := pZ.blk b38 (by omega)
            have hZ := below_put h9 pZ (Nat.le_refl _)
            have hZs := Nat.le_of_eq pZ.size.symm
            clear e2 e2f
            go_wp2_with fail
            exact ⟨⟨j + 1, m + D, by omega, by go_num, rfl, fun h => by rw [HSuc.out, ← HMj.out], hrowZ, ⟨ar, fun h => HVx.out, bZ⟩, b3Z, hZ, by omega⟩, by simp [intOf]; omega⟩
    · obtain rfl : j = n := by omega
      have hT := hrow.tabs (by rw [simT_end v co L D fin j (by rw [HCN.out]; omega)]; have := simE_le v co L D fin; rw [HCN.out] at this; omega)
      rw [simT_end v co L D fin j (by rw [HCN.out]; omega)] at hT
      obtain ⟨AU, cU, rfl⟩ := hT.len
      have e3 := b3.cell
      have HTT := Lib.hid (hT.wide (show w.heap.size ≤ go0 by omega) (Nat.le_refl _))
      clear hrow hT
      generalize (simE v co L D fin).length = ll at *
      go_wp2_with fail
      refine bodyPost_ret (v := .slice AU ll cU) (by simp [results, Tryz.results28, go_sem]) rfl ⟨_, rfl, HTT.out, hBr⟩
end Go.Proofs.YtnddfeidggcplaaGreat
