/-
  Validity of tables: the reference's function, by contract.
-/
import Derived.Test.YtnfiomccgakooaaDoorMm5
namespace Go.Proofs.YtnfiomccgakooaaDoor
open Go.RowKit
attribute [local go_sem] Oper.semAt_some

theorem pow16 (n : Nat) (h : n ≤ 16) : ∃ M : Nat, M = 2 ^ n ∧ M ≤ 65536 ∧ wrap64 ((2 : Int) ^ n) = (M : Int) := by
  have h1 : 2 ^ n ≤ 65536 := Nat.le_trans (Nat.pow_le_pow_right (by decide) h) (by decide)
  have e : (2 : Int) ^ n = ((2 ^ n : Nat) : Int) := by simp
  rw [e]
  generalize 2 ^ n = M at *
  exact ⟨M, rfl, h1, by simp only [wrap64]; omega⟩
set_option maxRecDepth 100000 in
set_option maxHeartbeats 2000000 in
theorem rValid5 (xs : List Raw) (v : Value) (lo hi : Nat) (w : World) (h : RawS lo hi w v xs) :
    Calls Tryd.prog 6 #[v] w (RetR (VRes xs) w) := by
  obtain ⟨A, cap, rfl⟩ := h.1.len
  have hlen := h.1.2.1
  obtain ⟨L, hL⟩ : ∃ L, L = xs.length := ⟨_, rfl⟩
  have HH := Lib.hid h
  rw [← hL] at hlen HH ⊢
  have HL := Lib.hid hL
  clear hL h
  go_enter Tryd.func6, Tryd.ntmps6
  go_wp2
  go_loopw [4] (fun i wr => ∃ n : Nat, n ≤ 16 ∧ i = .int .i64 n ∧ (∀ m, m < n → 2 ^ m < L) ∧ w = wr) (fun i _ => 16 - (intOf i).toNat)
  case atStart => exact ⟨0, Nat.zero_le _, rfl, fun m hm => absurd hm (Nat.not_lt_zero m), rfl⟩
  case round =>
    obtain ⟨n, hn, rfl, hall, rfl⟩ := hrel
    have HA := Lib.hid hall
    obtain ⟨M, hM, hM2, hw⟩ := pow16 n hn
    have HM := Lib.hid hM
    clear hall hM
    by_cases hc : n < 16 ∧ M < L
    · obtain ⟨hc1, hc2⟩ := hc
      go_wp2
      refine ⟨⟨n + 1, by omega, by go_num, fun m hm => ?_, by first | trivial | rfl⟩, by simp [intOf]; omega⟩
      rcases Nat.lt_succ_iff_lt_or_eq.1 hm with h1 | h1
      · exact HA.out m h1
      · subst h1; rw [← HM.out]; exact hc2
    · have hno : M ≠ L → ¬ ∃ m, xs.length = 2 ^ m ∧ m ≤ 16 ∧ xs.all vld = true := by
        rintro hne ⟨m, h1, h2, _⟩
        rw [← HL.out] at h1
        rcases Nat.lt_trichotomy m n with h3 | h3 | h3
        · have := HA.out m h3; omega
        · subst h3; exact hne (HM.out.trans h1.symm)
        · have h4 := Nat.pow_lt_pow_right (a := 2) (by decide) h3
          have h5 := HM.out
          omega
      have HNO := Lib.hid hno
      clear hno
      by_cases hML : M = L
      · have HML := Lib.hid hML
        have hb1 : ((M : Int) != (L : Int)) = false := by simp [hML]
        have hb2 : decide (M < L) = false := by simp; omega
        clear hML hc
        by_cases hn16 : n < 16
        all_goals
          go_wp2
          clear hb1 hb2 hw
          go_loopw [5] (fun i wr => ∃ k : Nat, k ≤ L ∧ i = .int .i64 k ∧ (xs.take k).all vld = true ∧ Below w.heap.size w wr) (fun i _ => L - (intOf i).toNat)
          case atStart => exact ⟨0, Nat.zero_le _, rfl, rfl, Below.refl _ _⟩
          case round =>
            obtain ⟨k, hk, rfl, hall, hB⟩ := hrel
            have HA2 := Lib.hid hall
            clear hall
            by_cases hlt : k < L
            · have hlt2 : k < xs.length := by rw [← HL.out]; exact hlt
              obtain ⟨g, off, cap', hv, q1, q2, q3, q4, q5⟩ := raws_cells HH.out (by omega)
              cases hv
              obtain ⟨x, hx⟩ : ∃ x, xs[k]? = some x := ⟨xs[k], List.getElem?_eq_getElem hlt2⟩
              obtain ⟨d1, d2⟩ := q5 k x hx
              have c1 := (hB.cell (p := ⟨g, off + k * 2, none⟩) q4).trans d1
              have c2 := (hB.cell (p := ⟨g, off + k * 2 + 1, none⟩) q4).trans d2
              have HX := Lib.hid hx
              clear q5 d1 d2 hx hlt2
              go_wp2_with fail
              refine (xValid x wr).mono ?_
              rintro e w2 ⟨rfl, hb⟩
              clear c1 c2
              cases hv : vld x
              · have HV := Lib.hid hv
                clear hv
                go_wp2
                go_ret2
                refine ⟨_, rfl, ⟨0, false, rfl, .inr ⟨rfl, rfl, fun ⟨m, _, _, h3⟩ => ?_⟩⟩, hB.trans (hb.mono hB.size)⟩
                have := List.all_eq_true.1 h3 x (List.mem_of_getElem? HX.out)
                rw [HV.out] at this
                cases this
              · have HV := Lib.hid hv
                clear hv
                go_wp2
                refine ⟨⟨k + 1, by omega, by go_num, ?_, hB.trans (hb.mono hB.size)⟩, by simp [intOf]; omega⟩
                rw [List.take_add_one, HX.out, List.all_append, HA2.out]
                simp [HV.out]
            · obtain rfl : k = L := by omega
              go_wp2
              go_ret2
              refine ⟨_, rfl, ⟨n, true, rfl, .inl ⟨rfl, ?_, hn, ?_⟩⟩, hB⟩
              · rw [← HL.out, ← HML.out, HM.out]
              · have := HA2.out
                rwa [List.take_of_length_le (Nat.le_of_eq HL.out.symm)] at this
      · have hb1 : ((M : Int) != (L : Int)) = true := by simp; omega
        have hc2 : n < 16 → ¬ M < L := fun h1 h2 => hc ⟨h1, h2⟩
        have HC2 := Lib.hid hc2
        have HML := Lib.hid hML
        clear hc hc2 hML
        by_cases hn16 : n < 16
        · have hb2 : decide (M < L) = false := by have := HC2.out hn16; simp; omega
          go_wp2
          go_ret2
          exact ⟨_, rfl, ⟨0, false, rfl, .inr ⟨rfl, rfl, HNO.out HML.out⟩⟩, Below.refl _ _⟩
        · go_wp2
          go_ret2
          exact ⟨_, rfl, ⟨0, false, rfl, .inr ⟨rfl, rfl, HNO.out HML.out⟩⟩, Below.refl _ _⟩
end Go.Proofs.YtnfiomccgakooaaDoor
