/-
  shaped of the law of chapter 32, by contract.
-/
import Derived.Test.YtnddfeidggcplaaGreatNm32
namespace Go.Proofs.YtnddfeidggcplaaGreat
open Go.RowKit

theorem en_attestor_attestorlaw32_shaped : ∀ args w, (callFunc 42 args).run Tryz.prog w = .ok (.enter 42 args) w := enters_of Tryz.func42 (by kernel_rfl) rfl
set_option maxRecDepth 100000 in
theorem lShaped (m : List (List E)) (d : Nat) (hd : d ≤ 1000) (hn : m.length ≤ 1000) (hr : ∀ (i : Nat) (g : List E), m[i]? = some g → g.length = d) (v : Value) (lo hi : Nat) (w : World) (h : TabS lo hi w v m) :
    Calls Tryz.prog 42 #[v, .int .i64 (d : Int)] w (Ret (.bool true) w) := by
  obtain ⟨A, cap, rfl⟩ := h.len
  obtain ⟨n, hn'⟩ : ∃ n, n = m.length := ⟨_, rfl⟩
  rw [← hn'] at h hn ⊢
  have HN := Lib.hid hn'
  have HR := Lib.hid hr
  have HH := Lib.hid h
  clear h hr hn'
  go_enter Tryz.func42, Tryz.ntmps42
  go_wp2_with fail
  go_loopw [5] (fun i wr => ∃ k : Nat, k ≤ n ∧ i = .int .i64 k ∧ wr = w) (fun i _ => n - (intOf i).toNat)
  case atStart => exact ⟨0, Nat.zero_le _, rfl, rfl⟩
  case round =>
    obtain ⟨i, hii, rfl, rfl⟩ := hrel
    by_cases hlt : i < n
    · obtain ⟨g, off, cap', hv, -, -, -, lg, qg⟩ := tabs_cells HH.out (by rw [← HN.out]; omega)
      rw [← HN.out] at hv
      cases hv
      obtain ⟨R, hR⟩ : ∃ g, m[i]? = some g := ⟨_, List.getElem?_eq_getElem (by rw [← HN.out]; exact hlt)⟩
      obtain ⟨A1, c1, d1, x1⟩ := qg i R hR
      rw [HR.out i R hR] at d1
      clear qg hR x1
      go_wp2_with fail
      exact ⟨⟨i + 1, by omega, by go_num, trivial⟩, by simp [intOf]; omega⟩
    · obtain rfl : i = n := by omega
      go_wp2_with fail
      go_ret
      exact ⟨rfl, Below.refl _ _⟩
end Go.Proofs.YtnddfeidggcplaaGreat
