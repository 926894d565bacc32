/-
  Moved of the reference of chapter 32, by contract; shaped.
-/
import Derived.Test.YtnddfeidggcplaaGreatZ32
namespace Go.Proofs.YtnddfeidggcplaaGreat
open Go.RowKit

def mvV (a b i : Nat) (c v : E) : E := if i = b then (if i = a then v + c else v) - c else (if i = a then v + c else v)
def mvR (a b i : Nat) (c : E) (g : List E) : List E := g.map (mvV a b i c)
def mvK (m : List (List E)) (a b : Nat) (c : E) (k : Nat) : List (List E) := (List.range k).map fun i => mvR a b i c (m.getD i [])
theorem mvK_length (m : List (List E)) (a b : Nat) (c : E) (k : Nat) : (mvK m a b c k).length = k := by simp [mvK]
theorem mvK_succ (m : List (List E)) (a b : Nat) (c : E) (k : Nat) (g : List E) (h : m[k]? = some g) : mvK m a b c (k + 1) = mvK m a b c k ++ [mvR a b k c g] := by
  simp [mvK, List.range_succ, List.getD, h]
theorem mvR_length (a b i : Nat) (c : E) (g : List E) : (mvR a b i c g).length = g.length := by simp [mvR]
theorem mvR_take (a b i : Nat) (c : E) (g : List E) (x : Nat) (v : E) (h : g[x]? = some v) : (mvR a b i c (g.take (x + 1))).flatMap ec = (mvR a b i c (g.take x)).flatMap ec ++ ec (mvV a b i c v) := by
  simp [mvR, List.take_add_one, h]
theorem en_attestor_attestorref32_Moved : ∀ args w, (callFunc 44 args).run Tryz.prog w = .ok (.enter 44 args) w := enters_of Tryz.func44 (by kernel_rfl) rfl
set_option maxRecDepth 100000 in
set_option maxHeartbeats 4000000 in
theorem rMoved (m : List (List E)) (n a0 b0 : Nat) (hm : m.length = n) (hn : n ≤ 1000) (hr : ∀ g ∈ m, g.length ≤ 1000) (ha : a0 < 256) (hb0 : b0 < 256) (c : E) (A : Option Addr) (cA lo hi : Nat) (w : World) (h : TabS lo hi w (.slice A n cA) m) :
    Calls Tryz.prog 44 #[.slice A n cA, .agg #[.int .u8 (a0 : Int), .int .u8 (b0 : Int)], .agg #[.int .u64 (fv c.a), .int .u64 (fv c.b)]] w (RetR (fun lo hi v w' => TabS lo hi w' v (mvK m (a0 % n) (b0 % n) c n)) w) := by
  obtain ⟨i0, hi0, iz0, iz1, iz2⟩ := info_parts ext_info
  have HM := Lib.hid hm
  have HR := Lib.hid hr
  have HH := Lib.hid h
  clear h hm hr
  go_enter Tryz.func44, Tryz.ntmps44
  go_upto_region 2 with (fail)
  refine wp_stk3 fun W hB hz bA bC bO => ?_
  have hWs := hz.out
  clear hz
  go_wp2_with fail
  go_loopw [7, 8] (fun u i wr => ∃ k : Nat, k ≤ n ∧ i = .int .i64 k ∧ RowT (w.heap.size + 1 + 1) wr u (mvK m (a0 % n) (b0 % n) c k) ∧ Below (w.heap.size + 1 + 1) W wr) (fun _ i _ => n - (intOf i).toNat)
  case atStart => exact ⟨0, Nat.zero_le _, rfl, ⟨[], ⟨rfl, .inr ⟨w.heap.size + 1 + 1, 0, #[], rfl, Nat.le_refl _, bO, Nat.le_refl _, Nat.zero_le _, rfl, by simp⟩⟩, rfl, fun k x t h => by simp at h⟩, Below.refl _ _⟩
  case round =>
    obtain ⟨i, hii, rfl, hrow, hBr⟩ := hrel
    obtain ⟨V, hV⟩ : ∃ V, V = wr := ⟨_, rfl⟩
    subst hV
    by_cases hlt : i < n
    · obtain ⟨g, off, cap', hv, -, -, -, lg, qg⟩ := tabs_cells HH.out (by rw [HM.out]; omega)
      rw [HM.out] at hv
      cases hv
      obtain ⟨R, hR⟩ : ∃ g, m[i]? = some g := ⟨_, List.getElem?_eq_getElem (by rw [HM.out]; exact hlt)⟩
      obtain ⟨A1, c1, d1, x1⟩ := qg i R hR
      have hRl := HR.out R (List.mem_of_getElem? hR)
      have HS := Lib.hid (mvK_succ m (a0 % n) (b0 % n) c i R hR)
      obtain ⟨L, hL⟩ : ∃ L, L = R.length := ⟨_, rfl⟩
      rw [← hL] at d1 x1 hRl
      have HL := Lib.hid hL
      have hm1 : Int.tmod (a0 : Int) (n : Int) = ((a0 % n : Nat) : Int) := rfl
      have hm2 : Int.tmod (b0 : Int) (n : Int) = ((b0 % n : Nat) : Int) := rfl
      have hn0 : n ≠ 0 := by omega
      have lA0 : a0 % n < n := Nat.mod_lt _ (by omega)
      have lB0 : b0 % n < n := Nat.mod_lt _ (by omega)
      generalize a0 % n = a at *
      generalize b0 % n = b at *
      have hBW : Below w.heap.size w V := hB.trans (hBr.mono (by omega))
      have hs := hBr.size
      have dr' := d1
      have dr := (hBW.cell (p := ⟨g, off + i, none⟩) lg).trans d1
      have xr : ExtS lo hi V (.slice A1 L c1) R := Rd.keep x1 hBW
      clear qg hR x1 hL d1
      go_wp2_with fail
      go_loopw [9, 10] (fun u j wi => ∃ k : Nat, k ≤ L ∧ j = .int .i64 k ∧ wi.ownsRow V.heap.size 30 2 u k ((mvR a b i c (R.take k)).flatMap ec) ∧ Below V.heap.size V wi) (fun _ j _ => L - (intOf j).toNat)
      case atStart => exact ⟨0, Nat.zero_le _, rfl, ⟨by simp [mvR], .inr ⟨V.heap.size, 0, #[], rfl, Nat.le_refl _, World.alloc_heap_new V _, Nat.le_refl _, Nat.zero_le _, rfl, by simp [mvR]⟩⟩, (Below.refl _ _).alloc (Nat.le_refl _) _⟩
      case round =>
        obtain ⟨j, hj, rfl, hown, hBy⟩ := hrel
        obtain ⟨U, hU⟩ : ∃ U, U = wr := ⟨_, rfl⟩
        subst hU
        have hBWy := hBW.trans (hBy.mono hBW.size)
        have hsy := hBy.size
        have dy := (hBWy.cell (p := ⟨g, off + i, none⟩) lg).trans dr'
        by_cases hltj : j < L
        · obtain ⟨g1, o1, c1', hv, -, -, -, l1, q1⟩ := exts_cells (Rd.keep xr hBy) (by rw [← HL.out]; omega)
          rw [← HL.out] at hv
          cases hv
          obtain ⟨v, hv, -⟩ := get_of (l := R) (k := j) (by rw [← HL.out]; exact hltj)
          obtain ⟨k1, k2⟩ := q1 j v hv
          have HT := Lib.hid (mvR_take a b i c R j v hv)
          clear q1 hv
          go_upto_region 10 with (fail)
          refine wp_stk1 fun Y hY hzY bX => ?_
          clear hzY
          have hBYy := hBy.trans (hY.mono hBy.size)
          have hXY : Below U.heap.size U Y := hY
          replace bA := (bA.below hBr (by omega)).keep hBYy
          replace bC := (bC.below hBr (by omega)).keep hBYy
          have hYs := hY.size
          by_cases ha' : i = a
          · have ha2 : ((i : Int) == (a : Int)) = true := by rw [ha']; exact beq_self_eq_true _
            have hu := Lib.hid (show (if i = a then v + c else v) = v + c from if_pos ha')
            clear ha'
            have e3 := bX.cell
            have e3f := bX.frozen
            have e1 := bA.cell
            have e5 := bC.cell
            go_wp2_with fail
            refine (xAdd v c _).mono ?_
            rintro e w4 ⟨he, hb4⟩
            unfold ev at he
            subst he
            replace bX := bX.keep hb4
            replace bA := bA.keep hb4
            replace bC := bC.keep hb4
            replace hXY := hXY.trans (hb4.mono hXY.size)
            clear e3 e3f e1 e5 hb4 hY hBYy
            have e3 := bX.cell
            have e3f := bX.frozen
            go_upto_region 12 with (fail)
            refine set2 (M := fun W => Code.wp _ _ _ _ W) bX fun X2 hX2 bX2 => ?_
            have hXY2 := below_put hXY hX2 (Nat.le_refl _)
            replace bA := hX2.blk bA (by omega)
            replace bC := hX2.blk bC (by omega)
            clear bX hXY hX2
            have bX := bX2
            have hXY := hXY2
            clear bX2 hXY2 e3 e3f
            have e3 := bX.cell
            have e3f := bX.frozen
            have e1 := bA.cell
            have e5 := bC.cell
            by_cases hb : i = b
            · have HV := Lib.hid (show mvV a b i c v = (v + c) - c by unfold mvV; rw [if_pos hb, hu.out])
              have hb2 : ((i : Int) == (b : Int)) = true := by rw [hb]; exact beq_self_eq_true _
              clear hb
              go_wp2_with fail
              refine (xSub (v + c) c _).mono ?_
              rintro e w5 ⟨he, hb5⟩
              unfold ev at he
              subst he
              replace bX := bX.keep hb5
              replace hXY := hXY.trans (hb5.mono hXY.size)
              clear e3 e3f e1 e5 hb5
              have e3 := bX.cell
              have e3f := bX.frozen
              go_upto_region 14 with (fail)
              refine set2 (M := fun W => Code.wp _ _ _ _ W) bX fun X2 hX2 bX2 => ?_
              have hXY2 := below_put hXY hX2 (Nat.le_refl _)
              clear bX hXY hX2
              have bX := bX2
              have hXY := hXY2
              clear bX2 hXY2 e3 e3f
              have e4 := bX.cell
              have sX := hXY.size
              go_wp2_with (at_builtin; refine wpList_app1 rfl _ _ rfl Tryz.underlying22 hi0 iz0 iz1 iz2 rfl (by decide) (cl := ec ((v + c) - c)) rfl (ec_one _) rfl rfl (own_below hown (Nat.le_refl _) ?hX) ?hsrc ?h63 ?hby ?hbase ?_)
              case hX => exact hXY.alloc hXY.size _
              case hsrc => exact Blk.new_at _ _ _ (by simp)
              case h63 => unfold maxLen; omega
              case hby => omega
              case hbase => have := hBy.size; have := hXY.size; simp; omega
              intro v1 w3 hown3 hgrow hB3
              go_wp2
              exact ⟨⟨j + 1, by omega, by go_num, by rw [HT.out, HV.out]; exact hown3, (hBy.trans ((hXY.alloc hXY.size _).mono hBy.size)).trans hB3⟩, by simp [intOf]; omega⟩
            · have HV := Lib.hid (show mvV a b i c v = v + c by unfold mvV; rw [if_neg hb, hu.out])
              have hb2 : ((i : Int) == (b : Int)) = false := by simp; omega
              clear hb
              go_upto_region 14 with (fail)
              clear e3 e3f e1 e5
              have e4 := bX.cell
              have sX := hXY.size
              go_wp2_with (at_builtin; refine wpList_app1 rfl _ _ rfl Tryz.underlying22 hi0 iz0 iz1 iz2 rfl (by decide) (cl := ec (v + c)) rfl (ec_one _) rfl rfl (own_below hown (Nat.le_refl _) ?hX) ?hsrc ?h63 ?hby ?hbase ?_)
              case hX => exact hXY.alloc hXY.size _
              case hsrc => exact Blk.new_at _ _ _ (by simp)
              case h63 => unfold maxLen; omega
              case hby => omega
              case hbase => have := hBy.size; have := hXY.size; simp; omega
              intro v1 w3 hown3 hgrow hB3
              go_wp2
              exact ⟨⟨j + 1, by omega, by go_num, by rw [HT.out, HV.out]; exact hown3, (hBy.trans ((hXY.alloc hXY.size _).mono hBy.size)).trans hB3⟩, by simp [intOf]; omega⟩
          · have ha2 : ((i : Int) == (a : Int)) = false := by simp; omega
            have hu := Lib.hid (show (if i = a then v + c else v) = v from if_neg ha')
            clear ha'
            have e3 := bX.cell
            have e3f := bX.frozen
            have e1 := bA.cell
            have e5 := bC.cell
            go_upto_region 12 with (fail)
            clear e3 e3f e1 e5 hY hBYy
            have e3 := bX.cell
            have e3f := bX.frozen
            have e1 := bA.cell
            have e5 := bC.cell
            by_cases hb : i = b
            · have HV := Lib.hid (show mvV a b i c v = (v) - c by unfold mvV; rw [if_pos hb, hu.out])
              have hb2 : ((i : Int) == (b : Int)) = true := by rw [hb]; exact beq_self_eq_true _
              clear hb
              go_wp2_with fail
              refine (xSub (v) c _).mono ?_
              rintro e w5 ⟨he, hb5⟩
              unfold ev at he
              subst he
              replace bX := bX.keep hb5
              replace hXY := hXY.trans (hb5.mono hXY.size)
              clear e3 e3f e1 e5 hb5
              have e3 := bX.cell
              have e3f := bX.frozen
              go_upto_region 14 with (fail)
              refine set2 (M := fun W => Code.wp _ _ _ _ W) bX fun X2 hX2 bX2 => ?_
              have hXY2 := below_put hXY hX2 (Nat.le_refl _)
              clear bX hXY hX2
              have bX := bX2
              have hXY := hXY2
              clear bX2 hXY2 e3 e3f
              have e4 := bX.cell
              have sX := hXY.size
              go_wp2_with (at_builtin; refine wpList_app1 rfl _ _ rfl Tryz.underlying22 hi0 iz0 iz1 iz2 rfl (by decide) (cl := ec ((v) - c)) rfl (ec_one _) rfl rfl (own_below hown (Nat.le_refl _) ?hX) ?hsrc ?h63 ?hby ?hbase ?_)
              case hX => exact hXY.alloc hXY.size _
              case hsrc => exact Blk.new_at _ _ _ (by simp)
              case h63 => unfold maxLen; omega
              case hby => omega
              case hbase => have := hBy.size; have := hXY.size; simp; omega
              intro v1 w3 hown3 hgrow hB3
              go_wp2
              exact ⟨⟨j + 1, by omega, by go_num, by rw [HT.out, HV.out]; exact hown3, (hBy.trans ((hXY.alloc hXY.size _).mono hBy.size)).trans hB3⟩, by simp [intOf]; omega⟩
            · have HV := Lib.hid (show mvV a b i c v = v by unfold mvV; rw [if_neg hb, hu.out])
              have hb2 : ((i : Int) == (b : Int)) = false := by simp; omega
              clear hb
              go_upto_region 14 with (fail)
              clear e3 e3f e1 e5
              have e4 := bX.cell
              have sX := hXY.size
              go_wp2_with (at_builtin; refine wpList_app1 rfl _ _ rfl Tryz.underlying22 hi0 iz0 iz1 iz2 rfl (by decide) (cl := ec (v)) rfl (ec_one _) rfl rfl (own_below hown (Nat.le_refl _) ?hX) ?hsrc ?h63 ?hby ?hbase ?_)
              case hX => exact hXY.alloc hXY.size _
              case hsrc => exact Blk.new_at _ _ _ (by simp)
              case h63 => unfold maxLen; omega
              case hby => omega
              case hbase => have := hBy.size; have := hXY.size; simp; omega
              intro v1 w3 hown3 hgrow hB3
              go_wp2
              exact ⟨⟨j + 1, by omega, by go_num, by rw [HT.out, HV.out]; exact hown3, (hBy.trans ((hXY.alloc hXY.size _).mono hBy.size)).trans hB3⟩, by simp [intOf]; omega⟩
        · obtain rfl : j = L := by omega
          have hown' := hown
          rw [List.take_of_length_le (by rw [← HL.out]; exact Nat.le_refl _)] at hown'
          obtain ⟨A9, c9, rfl⟩ := own_len hown
          obtain ⟨A7, c7, hv⟩ := hrow.len'
          rw [mvK_length] at hv
          subst hv
          have hrU := hrow.keep hBy
          have hml : (mvR a b i c R).length = j := by rw [mvR_length, HL.out]
          have hE : ExtS V.heap.size U.heap.size U (.slice A9 j c9) (mvR a b i c R) := by
            unfold ExtS
            rw [hml]
            exact Rd.of_own hown' (by omega) (Nat.le_refl _)
          go_wp2_with (at_builtin; refine wpList_appT (x := .slice A9 j c9) (y := mvR a b i c R) (lo := V.heap.size) (hi := U.heap.size) (base := w.heap.size + 1 + 1) (ts := mvK m a b c i) rfl _ _ rfl Tryz.underlying37 rfl rfl ?hrow ?hsrc rfl ?hE ?hlo ?hhi ?hout ?hk ?hbase ?_)
          case hrow => exact hrU.keep ((Below.refl _ _).alloc (Nat.le_refl _) _)
          case hsrc => exact Blk.new_at _ _ _ rfl
          case hE => exact Rd.keep hE ((Below.refl _ _).alloc (Nat.le_refl _) _)
          case hlo => omega
          case hhi => simp
          case hout => exact hrow.out (Nat.le_refl _)
          case hk => rw [mvK_length]; omega
          case hbase => simp; omega
          intro u' w3 hrow3 hB3 hg3 hob3
          have hal : Below U.heap.size U (U.alloc (.cells #[.slice A9 j c9] 22)) := (Below.refl _ _).alloc (Nat.le_refl _) _
          go_wp2_with fail
          exact ⟨⟨i + 1, by omega, by go_num, by rw [HS.out]; exact hrow3, (hBr.trans ((hBy.trans (hal.mono hBy.size)).mono (by omega))).trans hB3⟩, by simp [intOf]; omega⟩
    · obtain rfl : i = n := by omega
      go_wp2_with fail
      go_ret
      exact ⟨_, rfl, (hrow.tabs (by rw [mvK_length]; omega)).wide (by omega) (Nat.le_refl _), hB.trans (hBr.mono (by omega))⟩
end Go.Proofs.YtnddfeidggcplaaGreat
