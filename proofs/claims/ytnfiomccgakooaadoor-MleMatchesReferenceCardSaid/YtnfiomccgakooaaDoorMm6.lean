/-
  Validity of tables: the function Valid of package mle, by contract.
-/
import Derived.Test.YtnfiomccgakooaaDoorMm5
namespace Go.Proofs.YtnfiomccgakooaaDoor
open Go.RowKit
attribute [local go_sem] Oper.semAt_some

set_option maxRecDepth 100000 in
set_option maxHeartbeats 1000000 in
theorem gValid (xs : List Raw) (v : Value) (lo hi : Nat) (w : World) (h : RawS lo hi w v xs) :
    Calls Tryd.prog 5 #[v] w (RetR (VRes xs) w) := by
  obtain ⟨A, cap, rfl⟩ := h.1.len
  have hlen := h.1.2.1
  by_cases h0 : xs.length = 0
  · have hb := bits_Len xs.length (by omega) w
    rw [h0] at hb ⊢
    go_enter Tryd.func5, Tryd.ntmps5
    go_wp2_with fail
    refine hb.mono ?_
    rintro e w2 ⟨rfl, rfl⟩
    go_wp2
    go_ret2
    exact ⟨_, rfl, ⟨0, false, rfl, .inr ⟨rfl, rfl, fun ⟨m, h1, _⟩ => by have := Nat.two_pow_pos m; omega⟩⟩, Below.refl _ _⟩
  · have hb := bits_Len xs.length (by omega) w
    obtain ⟨k, hk, hk1, hk2⟩ := bitLen_log xs.length h0 (by omega)
    rw [hk] at hb
    have hkb : k ≤ 47 := by
      refine Classical.byContradiction fun hn => ?_
      have : 2 ^ 48 ≤ 2 ^ k := Nat.pow_le_pow_right (by decide) (by omega)
      omega
    obtain ⟨M, hM⟩ : ∃ M, M = 2 ^ k := ⟨_, rfl⟩
    have hM2 : M ≤ 2 ^ 47 := by rw [hM]; exact Nat.pow_le_pow_right (by decide) hkb
    have hw : wrap64 ((2 : Int) ^ k) = (M : Int) := by
      rw [show (2 : Int) ^ k = (M : Int) by rw [hM]; simp]
      simp only [wrap64]; omega
    have hX0 : ∀ m, xs.length = 2 ^ m → m = k := fun m hm => by
      rcases Nat.lt_trichotomy m k with h1 | h1 | h1
      · have := Nat.pow_lt_pow_right (a := 2) (by decide) h1
        omega
      · exact h1
      · have := Nat.pow_le_pow_right (n := 2) (by decide) (show k + 1 ≤ m from h1)
        omega
    obtain ⟨L, hL⟩ : ∃ L, L = xs.length := ⟨_, rfl⟩
    rw [← hL] at hlen h0 hb ⊢
    have HB := Lib.hid hb
    have HM := Lib.hid hM
    have HL := Lib.hid hL
    have HX := Lib.hid hX0
    have hz : ((L : Int) == 0) = false := by simp; omega
    rw [← hL] at h
    have HH := Lib.hid h
    clear hb hk hk1 hk2 hM hL h hX0
    by_cases hLM : L = M
    · subst hLM
      clear hM2
      go_enter Tryd.func5, Tryd.ntmps5
      go_wp2_with fail
      refine HB.out.mono ?_
      rintro e w2 ⟨rfl, rfl⟩
      go_wp2_with fail
      · have hk16 : k ≤ 16 := by omega
        have HK16 := Lib.hid hk16
        clear hk16
        refine (gContains xs _ lo hi _ HH.out).mono ?_
        rintro e w2 ⟨rfl, hb2⟩
        cases hv : xs.all vld
        · have HV := Lib.hid hv
          clear hv
          go_wp2
          go_ret2
          exact ⟨_, rfl, ⟨0, false, rfl, .inr ⟨rfl, rfl, fun ⟨m, _, _, h3⟩ => by rw [HV.out] at h3; cases h3⟩⟩, hb2⟩
        · have HV := Lib.hid hv
          clear hv
          go_wp2
          go_ret2
          exact ⟨_, rfl, ⟨k, true, rfl, .inl ⟨rfl, by rw [← HL.out, HM.out], HK16.out, HV.out⟩⟩, hb2⟩
      · have hk17 : 16 < k := by omega
        go_ret2
        exact ⟨_, rfl, ⟨0, false, rfl, .inr ⟨rfl, rfl, fun ⟨m, h1, h2, _⟩ => by have := HX.out m h1; omega⟩⟩, Below.refl _ _⟩
    · have he1 : ((L : Int) == (M : Int)) = false := by simp; omega
      have he2 : ((L : Int) != (M : Int)) = true := by simp; omega
      go_enter Tryd.func5, Tryd.ntmps5
      go_wp2_with fail
      refine HB.out.mono ?_
      rintro e w2 ⟨rfl, rfl⟩
      go_wp2
      go_ret2
      exact ⟨_, rfl, ⟨0, false, rfl, .inr ⟨rfl, rfl, fun ⟨m, h1, h2, _⟩ => by
        have := HX.out m h1
        subst this
        exact hLM (HL.out.trans (h1.trans HM.out.symm))⟩⟩, Below.refl _ _⟩
end Go.Proofs.YtnfiomccgakooaaDoor
