/-
  Trim, Add and Mul of the reference of package poly, by contract: what the lists that they return are worth as polynomials.
-/
import Derived.Test.YtilelegcniefcaaPev
import Derived.Test.YtilelegcniefcaaRiv
import Derived.Test.YtilelegcniefcaaPa
import Derived.Test.YtilelegcniefcaaSm6
namespace Go.Proofs.Ytilelegcniefcaa
open Go.RowKit

/-- A slice of at most n coefficients of a polynomial function. -/
def PolA (n : Nat) (f : E → E) (lo hi : Nat) (v : Value) (w : World) : Prop := ∃ cs : List E, cs.length ≤ n ∧ (∀ x, pev cs x = f x) ∧ ExtS lo hi w v cs
theorem pol_stable (n : Nat) (f : E → E) : Stable (PolA n f) := fun _ _ _ _ _ ⟨cs, h1, h2, h3⟩ hb => ⟨cs, h1, h2, h3.below hb (Nat.le_refl _)⟩
set_option maxRecDepth 100000 in
set_option maxHeartbeats 1000000 in
theorem pTrim (xs : List E) (hn : xs.length ≤ 100000) (v : Value) (lo hi : Nat) (w : World) (h : ExtS lo hi w v xs) :
    Calls Try.prog 102 #[v] w (RetR (PolA xs.length (pev xs)) w) := by
  obtain ⟨A, cap, rfl⟩ := Rd.len h
  obtain ⟨i0, hi0, iz0, iz1, iz2⟩ := info_parts ext_info
  have HH := Lib.hid h
  clear h
  go_enter Try.func102, Try.ntmps102
  go_wp2_with fail
  go_loopw [3] (fun i wr => ∃ n : Nat, n ≤ xs.length ∧ i = .int .i64 n ∧ (∀ x, pev (xs.take n) x = pev xs x) ∧ Below w.heap.size w wr) (fun i _ => (intOf i).toNat)
  case atStart => exact ⟨xs.length, Nat.le_refl _, rfl, fun x => by rw [List.take_length], Below.refl _ _⟩
  case round =>
    obtain ⟨n, hnl, rfl, hpe, hB⟩ := hrel
    have HP := Lib.hid hpe
    clear hpe
    by_cases h0 : 0 < n
    · obtain ⟨k, rfl⟩ : ∃ k, n = k + 1 := ⟨n - 1, by omega⟩
      obtain ⟨g, off, cap', hv, q1, q2, q3, q4, q5⟩ := exts_cells HH.out (by omega)
      cases hv
      obtain ⟨a, ha, had⟩ := get_of (l := xs) (k := k) (by omega)
      obtain ⟨d1, d2⟩ := q5 k a ha
      have f1 := (hB.cell (p := ⟨g, off + k * 2, none⟩) q4).trans d1
      have f2 := (hB.cell (p := ⟨g, off + k * 2 + 1, none⟩) q4).trans d2
      have q6 : g < wr.heap.size := Nat.lt_of_lt_of_le q4 hB.size
      have hk1 : ((k + 1 : Nat) : Int) - 1 = (k : Int) := by omega
      clear q5 d1 d2 ha
      by_cases hz : a = 0
      · have HZ := Lib.hid (show ∀ W1, Calls Try.prog 38 #[ev a] W1 (Ret (.bool true) W1) from fun W1 => by
          have := xIsZero a W1
          rwa [decide_eq_true hz] at this)
        have HP2 := Lib.hid (show ∀ x, pev (xs.take k) x = pev xs x from fun x => by rw [← HP.out x, pev_cut x xs k (by omega) (by rw [had, hz])])
        clear had hz
        go_wp2_with fail
        refine (HZ.out _).mono ?_
        rintro e w2 ⟨rfl, hb⟩
        go_wp2_with fail
        exact ⟨⟨k, by omega, by go_num, HP2.out, hB.trans (hb.mono hB.size)⟩, by simp [intOf]⟩
      · have HZ := Lib.hid (show ∀ W1, Calls Try.prog 38 #[ev a] W1 (Ret (.bool false) W1) from fun W1 => by
          have := xIsZero a W1
          rwa [decide_eq_false hz] at this)
        clear had hz
        go_wp2_with fail
        refine (HZ.out _).mono ?_
        rintro e w2 ⟨rfl, hb⟩
        have hB2 := hB.trans (hb.mono hB.size)
        have hX := Rd.keep HH.out hB2
        have hT := exts_take (k := k + 1) hX hnl
        have HT := Lib.hid hT
        clear hX hT f1 f2
        go_wp2_with (at_builtin; refine stop_in ?_)
        refine stop_out ?_
        refine stk1 (M := fun W => wpList _ _ _ _ _ W) fun W9 hB9 hz9 b9 => ?_
        have hs9 : W9.heap.size = w2.heap.size + 1 := hz9.out
        have hl9 : (xs.take (k + 1)).length ≤ 100000 := by rw [List.length_take]; omega
        refine wpList_appB rfl _ _ rfl Try.underlying22 hi0 iz0 iz1 iz2 rfl (by decide) (cl := (xs.take (k + 1)).flatMap ec) (base := w2.heap.size) (cs := []) (k := 0) (fun u hu => by obtain ⟨x, _, hx⟩ := List.mem_flatMap.1 hu; exact ec_one x u hx) rfl rfl (Rd.keep HT.out hB9) ⟨rfl, .inr ⟨w2.heap.size, 0, #[], rfl, Nat.le_refl _, b9, Nat.le_refl _, Nat.zero_le _, rfl, rfl⟩⟩ (by unfold maxLen; omega) (by omega) (by omega) ?_
        intro v10 w10 hownw10 hgroww10 hBw10
        rw [Nat.zero_add, List.nil_append] at hownw10
        have hX := exts_of_own hownw10 rfl (by omega) (Nat.le_refl w10.heap.size)
        have HX := Lib.hid hX
        have hBf := hB2.trans ((hB9.trans hBw10).mono hB2.size)
        have hl2 : (xs.take (k + 1)).length ≤ xs.length := by rw [List.length_take]; omega
        have HL2 := Lib.hid hl2
        clear hX hownw10 b9 hl2 hl9
        go_wp2_with fail
        go_ret
        exact ⟨_, rfl, ⟨xs.take (k + 1), HL2.out, HP.out, Rd.wide HX.out hB2.size (Nat.le_refl _)⟩, hBf⟩
    · obtain rfl : n = 0 := by omega
      rw [show ((0 : Nat) : Int) = 0 from rfl]
      go_wp2_with (at_builtin; refine stop_in ?_)
      refine stop_out ?_
      refine stk1 (M := fun W => wpList _ _ _ _ _ W) fun W9 hB9 hz9 b9 => ?_
      have hs9 : W9.heap.size = wr.heap.size + 1 := hz9.out
      refine wpList_appB rfl _ _ rfl Try.underlying22 hi0 iz0 iz1 iz2 rfl (by decide) (cl := ([] : List E).flatMap ec) (base := wr.heap.size) (cs := []) (k := 0) (fun u hu => by obtain ⟨x, _, hx⟩ := List.mem_flatMap.1 hu; exact ec_one x u hx) rfl rfl (rd_nil 0 0 2 W9 A cap) ⟨rfl, .inr ⟨wr.heap.size, 0, #[], rfl, Nat.le_refl _, b9, Nat.le_refl _, Nat.zero_le _, rfl, rfl⟩⟩ (by unfold maxLen; omega) (by omega) (by omega) ?_
      intro v10 w10 hownw10 hgroww10 hBw10
      rw [Nat.zero_add, List.nil_append] at hownw10
      have hX := exts_of_own (xs := ([] : List E)) hownw10 rfl (by omega) (Nat.le_refl w10.heap.size)
      have HX := Lib.hid hX
      have hBf := hB.trans ((hB9.trans hBw10).mono hB.size)
      clear hX hownw10 b9
      go_wp2_with fail
      go_ret
      exact ⟨_, rfl, ⟨[], Nat.zero_le _, HP.out, Rd.wide HX.out hB.size (Nat.le_refl _)⟩, hBf⟩
end Go.Proofs.Ytilelegcniefcaa
