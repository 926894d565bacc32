/-
  slices.ContainsFunc, over slices of slices, of elements, of indices and of terms, by contract: whether some element's test says so.
-/
import Derived.Test.YtilelegcniefcaaFi
namespace Go.Proofs.Ytilelegcniefcaa
open Go.RowKit

def anyK (n : Nat) (bs : Nat → Bool) : Bool := (List.range n).any bs
theorem anyK_true (n k : Nat) (bs : Nat → Bool) (h : k < n) (hb : bs k = true) : anyK n bs = true := List.any_eq_true.2 ⟨k, List.mem_range.2 h, hb⟩
theorem anyK_false (n : Nat) (bs : Nat → Bool) (h : ∀ k, k < n → bs k = false) : anyK n bs = false := by
  unfold anyK
  rw [List.any_eq_false]
  intro k hk
  rw [h k (List.mem_range.1 hk)]
  decide
set_option maxRecDepth 100000 in
set_option maxHeartbeats 1000000 in
theorem gIdxS (n : Nat) (hn : n ≤ 140737488355327) (bs : Nat → Bool) (u : Nat → Value) (A : Option Addr) (g off cap : Nat) (hA : 0 < n → A = some ⟨g, off, none⟩) (w : World) (F : FuncId) (cp : List Value) (hen : ∀ args w, (callFunc F args).run Try.prog w = .ok (.enter F args) w)
    (hcell : ∀ k W, k < n → Below w.heap.size w W → g < W.heap.size ∧ W.cell? ⟨g, off + k, none⟩ = some (u k)) (hcall : ∀ k W, k < n → Below w.heap.size w W → Calls Try.prog F ((u k) :: cp).toArray W (Ret (.bool (bs k)) W)) :
    Calls Try.prog 71 #[.slice A n cap, .func (.func F) #[] cp.toArray] w (RetR (fun _ _ v _ => ∃ r : Int, v = .int .i64 r ∧ ((anyK n bs = false ∧ r = -1) ∨ (anyK n bs = true ∧ 0 ≤ r))) w) := by
  have HC := Lib.hid hcell
  have HK := Lib.hid hcall
  have HEN := Lib.hid hen
  have HA := Lib.hid hA
  clear hcell hcall hen hA
  go_enter Try.func71, Try.ntmps71
  go_wp2
  go_loopw [8] (fun i wr => ∃ k : Nat, k ≤ n ∧ i = .int .i64 k ∧ (∀ j, j < k → bs j = false) ∧ Below w.heap.size w wr) (fun i _ => n - (intOf i).toNat)
  case atStart => exact ⟨0, Nat.zero_le _, rfl, fun j hj => absurd hj (by omega), Below.refl _ _⟩
  case round =>
    obtain ⟨k, hk, rfl, hall, hB⟩ := hrel
    have HAll := Lib.hid hall
    clear hall
    by_cases hlt : k < n
    · have hA := HA.out (by omega)
      subst hA
      obtain ⟨hgs, hc⟩ := HC.out k wr hlt hB
      have hcl := Lib.hid (HK.out k wr hlt hB)
      have hen := HEN.out
      go_wp2_with fail
      refine (Calls.mono hcl.out ?_)
      rintro e w2 ⟨rfl, hb⟩
      clear hen hc
      cases hbk : bs k
      · have HB := Lib.hid hbk
        clear hbk
        go_wp2
        exact ⟨⟨k + 1, by omega, by go_num, fun j hj => by
          rcases Nat.lt_succ_iff_lt_or_eq.1 hj with h1 | h1
          · exact HAll.out j h1
          · subst h1; exact HB.out, hB.trans (hb.mono hB.size)⟩, by simp [intOf]; omega⟩
      · have HB := Lib.hid hbk
        clear hbk
        go_wp2
        go_ret
        exact ⟨_, rfl, ⟨k, rfl, .inr ⟨anyK_true n k bs hlt HB.out, by omega⟩⟩, hB.trans (hb.mono hB.size)⟩
    · obtain rfl : k = n := by omega
      go_wp2
      go_ret
      exact ⟨_, rfl, ⟨-1, rfl, .inl ⟨anyK_false _ _ HAll.out, rfl⟩⟩, hB⟩
set_option maxRecDepth 100000 in
set_option maxHeartbeats 1000000 in
theorem gConS (n : Nat) (hn : n ≤ 140737488355327) (bs : Nat → Bool) (u : Nat → Value) (A : Option Addr) (g off cap : Nat) (hA : 0 < n → A = some ⟨g, off, none⟩) (w : World) (F : FuncId) (cp : List Value) (hen : ∀ args w, (callFunc F args).run Try.prog w = .ok (.enter F args) w)
    (hcell : ∀ k W, k < n → Below w.heap.size w W → g < W.heap.size ∧ W.cell? ⟨g, off + k, none⟩ = some (u k)) (hcall : ∀ k W, k < n → Below w.heap.size w W → Calls Try.prog F ((u k) :: cp).toArray W (Ret (.bool (bs k)) W)) :
    Calls Try.prog 49 #[.slice A n cap, .func (.func F) #[] cp.toArray] w (Ret (.bool (anyK n bs)) w) := by
  have HI := Lib.hid (gIdxS n hn bs u A g off cap hA w F cp hen hcell hcall)
  clear hcell hcall hen hA
  go_enter Try.func49, Try.ntmps49
  go_wp2_with fail
  refine HI.out.mono ?_
  rintro e w2 ⟨v, rfl, ⟨r, rfl, hr⟩, hb⟩
  rcases hr with ⟨h1, rfl⟩ | ⟨h1, h2⟩
  · have H1 := Lib.hid h1
    clear h1
    go_wp2
    go_ret
    exact ⟨by rw [H1.out]; rfl, hb⟩
  · have H1 := Lib.hid h1
    clear h1
    go_wp2
    go_ret
    exact ⟨by rw [H1.out]; rfl, hb⟩
set_option maxRecDepth 100000 in
set_option maxHeartbeats 1000000 in
theorem gIdxI (n : Nat) (hn : n ≤ 140737488355327) (bs : Nat → Bool) (u : Nat → Value) (A : Option Addr) (g off cap : Nat) (hA : 0 < n → A = some ⟨g, off, none⟩) (w : World) (F : FuncId) (cp : List Value) (hen : ∀ args w, (callFunc F args).run Try.prog w = .ok (.enter F args) w)
    (hcell : ∀ k W, k < n → Below w.heap.size w W → g < W.heap.size ∧ W.cell? ⟨g, off + k, none⟩ = some (u k)) (hcall : ∀ k W, k < n → Below w.heap.size w W → Calls Try.prog F ((u k) :: cp).toArray W (Ret (.bool (bs k)) W)) :
    Calls Try.prog 70 #[.slice A n cap, .func (.func F) #[] cp.toArray] w (RetR (fun _ _ v _ => ∃ r : Int, v = .int .i64 r ∧ ((anyK n bs = false ∧ r = -1) ∨ (anyK n bs = true ∧ 0 ≤ r))) w) := by
  have HC := Lib.hid hcell
  have HK := Lib.hid hcall
  have HEN := Lib.hid hen
  have HA := Lib.hid hA
  clear hcell hcall hen hA
  go_enter Try.func70, Try.ntmps70
  go_wp2
  go_loopw [8] (fun i wr => ∃ k : Nat, k ≤ n ∧ i = .int .i64 k ∧ (∀ j, j < k → bs j = false) ∧ Below w.heap.size w wr) (fun i _ => n - (intOf i).toNat)
  case atStart => exact ⟨0, Nat.zero_le _, rfl, fun j hj => absurd hj (by omega), Below.refl _ _⟩
  case round =>
    obtain ⟨k, hk, rfl, hall, hB⟩ := hrel
    have HAll := Lib.hid hall
    clear hall
    by_cases hlt : k < n
    · have hA := HA.out (by omega)
      subst hA
      obtain ⟨hgs, hc⟩ := HC.out k wr hlt hB
      have hcl := Lib.hid (HK.out k wr hlt hB)
      have hen := HEN.out
      go_wp2_with fail
      refine (Calls.mono hcl.out ?_)
      rintro e w2 ⟨rfl, hb⟩
      clear hen hc
      cases hbk : bs k
      · have HB := Lib.hid hbk
        clear hbk
        go_wp2
        exact ⟨⟨k + 1, by omega, by go_num, fun j hj => by
          rcases Nat.lt_succ_iff_lt_or_eq.1 hj with h1 | h1
          · exact HAll.out j h1
          · subst h1; exact HB.out, hB.trans (hb.mono hB.size)⟩, by simp [intOf]; omega⟩
      · have HB := Lib.hid hbk
        clear hbk
        go_wp2
        go_ret
        exact ⟨_, rfl, ⟨k, rfl, .inr ⟨anyK_true n k bs hlt HB.out, by omega⟩⟩, hB.trans (hb.mono hB.size)⟩
    · obtain rfl : k = n := by omega
      go_wp2
      go_ret
      exact ⟨_, rfl, ⟨-1, rfl, .inl ⟨anyK_false _ _ HAll.out, rfl⟩⟩, hB⟩
set_option maxRecDepth 100000 in
set_option maxHeartbeats 1000000 in
theorem gConI (n : Nat) (hn : n ≤ 140737488355327) (bs : Nat → Bool) (u : Nat → Value) (A : Option Addr) (g off cap : Nat) (hA : 0 < n → A = some ⟨g, off, none⟩) (w : World) (F : FuncId) (cp : List Value) (hen : ∀ args w, (callFunc F args).run Try.prog w = .ok (.enter F args) w)
    (hcell : ∀ k W, k < n → Below w.heap.size w W → g < W.heap.size ∧ W.cell? ⟨g, off + k, none⟩ = some (u k)) (hcall : ∀ k W, k < n → Below w.heap.size w W → Calls Try.prog F ((u k) :: cp).toArray W (Ret (.bool (bs k)) W)) :
    Calls Try.prog 48 #[.slice A n cap, .func (.func F) #[] cp.toArray] w (Ret (.bool (anyK n bs)) w) := by
  have HI := Lib.hid (gIdxI n hn bs u A g off cap hA w F cp hen hcell hcall)
  clear hcell hcall hen hA
  go_enter Try.func48, Try.ntmps48
  go_wp2_with fail
  refine HI.out.mono ?_
  rintro e w2 ⟨v, rfl, ⟨r, rfl, hr⟩, hb⟩
  rcases hr with ⟨h1, rfl⟩ | ⟨h1, h2⟩
  · have H1 := Lib.hid h1
    clear h1
    go_wp2
    go_ret
    exact ⟨by rw [H1.out]; rfl, hb⟩
  · have H1 := Lib.hid h1
    clear h1
    go_wp2
    go_ret
    exact ⟨by rw [H1.out]; rfl, hb⟩
set_option maxRecDepth 100000 in
set_option maxHeartbeats 1000000 in
theorem gIdxE (n : Nat) (hn : n ≤ 140737488355327) (bs : Nat → Bool) (u1 u2 : Nat → Value) (A : Option Addr) (g off cap : Nat) (hA : 0 < n → A = some ⟨g, off, none⟩) (w : World) (F : FuncId) (cp : List Value) (hen : ∀ args w, (callFunc F args).run Try.prog w = .ok (.enter F args) w)
    (hcell : ∀ k W, k < n → Below w.heap.size w W → g < W.heap.size ∧ W.cell? ⟨g, off + k * 2, none⟩ = some (u1 k) ∧ W.cell? ⟨g, off + k * 2 + 1, none⟩ = some (u2 k)) (hcall : ∀ k W, k < n → Below w.heap.size w W → Calls Try.prog F ((.agg #[u1 k, u2 k]) :: cp).toArray W (Ret (.bool (bs k)) W)) :
    Calls Try.prog 69 #[.slice A n cap, .func (.func F) #[] cp.toArray] w (RetR (fun _ _ v _ => ∃ r : Int, v = .int .i64 r ∧ ((anyK n bs = false ∧ r = -1) ∨ (anyK n bs = true ∧ 0 ≤ r))) w) := by
  have HC := Lib.hid hcell
  have HK := Lib.hid hcall
  have HEN := Lib.hid hen
  have HA := Lib.hid hA
  clear hcell hcall hen hA
  go_enter Try.func69, Try.ntmps69
  go_wp2
  go_loopw [8] (fun i wr => ∃ k : Nat, k ≤ n ∧ i = .int .i64 k ∧ (∀ j, j < k → bs j = false) ∧ Below w.heap.size w wr) (fun i _ => n - (intOf i).toNat)
  case atStart => exact ⟨0, Nat.zero_le _, rfl, fun j hj => absurd hj (by omega), Below.refl _ _⟩
  case round =>
    obtain ⟨k, hk, rfl, hall, hB⟩ := hrel
    have HAll := Lib.hid hall
    clear hall
    by_cases hlt : k < n
    · have hA := HA.out (by omega)
      subst hA
      obtain ⟨hgs, hc⟩ := HC.out k wr hlt hB
      have hcl := Lib.hid (HK.out k wr hlt hB)
      have hen := HEN.out
      go_wp2_with fail
      refine (Calls.mono hcl.out ?_)
      rintro e w2 ⟨rfl, hb⟩
      clear hen hc
      cases hbk : bs k
      · have HB := Lib.hid hbk
        clear hbk
        go_wp2
        exact ⟨⟨k + 1, by omega, by go_num, fun j hj => by
          rcases Nat.lt_succ_iff_lt_or_eq.1 hj with h1 | h1
          · exact HAll.out j h1
          · subst h1; exact HB.out, hB.trans (hb.mono hB.size)⟩, by simp [intOf]; omega⟩
      · have HB := Lib.hid hbk
        clear hbk
        go_wp2
        go_ret
        exact ⟨_, rfl, ⟨k, rfl, .inr ⟨anyK_true n k bs hlt HB.out, by omega⟩⟩, hB.trans (hb.mono hB.size)⟩
    · obtain rfl : k = n := by omega
      go_wp2
      go_ret
      exact ⟨_, rfl, ⟨-1, rfl, .inl ⟨anyK_false _ _ HAll.out, rfl⟩⟩, hB⟩
set_option maxRecDepth 100000 in
set_option maxHeartbeats 1000000 in
theorem gConE (n : Nat) (hn : n ≤ 140737488355327) (bs : Nat → Bool) (u1 u2 : Nat → Value) (A : Option Addr) (g off cap : Nat) (hA : 0 < n → A = some ⟨g, off, none⟩) (w : World) (F : FuncId) (cp : List Value) (hen : ∀ args w, (callFunc F args).run Try.prog w = .ok (.enter F args) w)
    (hcell : ∀ k W, k < n → Below w.heap.size w W → g < W.heap.size ∧ W.cell? ⟨g, off + k * 2, none⟩ = some (u1 k) ∧ W.cell? ⟨g, off + k * 2 + 1, none⟩ = some (u2 k)) (hcall : ∀ k W, k < n → Below w.heap.size w W → Calls Try.prog F ((.agg #[u1 k, u2 k]) :: cp).toArray W (Ret (.bool (bs k)) W)) :
    Calls Try.prog 45 #[.slice A n cap, .func (.func F) #[] cp.toArray] w (Ret (.bool (anyK n bs)) w) := by
  have HI := Lib.hid (gIdxE n hn bs u1 u2 A g off cap hA w F cp hen hcell hcall)
  clear hcell hcall hen hA
  go_enter Try.func45, Try.ntmps45
  go_wp2_with fail
  refine HI.out.mono ?_
  rintro e w2 ⟨v, rfl, ⟨r, rfl, hr⟩, hb⟩
  rcases hr with ⟨h1, rfl⟩ | ⟨h1, h2⟩
  · have H1 := Lib.hid h1
    clear h1
    go_wp2
    go_ret
    exact ⟨by rw [H1.out]; rfl, hb⟩
  · have H1 := Lib.hid h1
    clear h1
    go_wp2
    go_ret
    exact ⟨by rw [H1.out]; rfl, hb⟩
set_option maxRecDepth 100000 in
set_option maxHeartbeats 1000000 in
theorem gIdxP (n : Nat) (hn : n ≤ 140737488355327) (bs : Nat → Bool) (u1 u2 u3 : Nat → Value) (A : Option Addr) (g off cap : Nat) (hA : 0 < n → A = some ⟨g, off, none⟩) (w : World) (F : FuncId) (cp : List Value) (hen : ∀ args w, (callFunc F args).run Try.prog w = .ok (.enter F args) w)
    (hcell : ∀ k W, k < n → Below w.heap.size w W → g < W.heap.size ∧ W.cell? ⟨g, off + k * 3, none⟩ = some (u1 k) ∧ W.cell? ⟨g, off + k * 3 + 1, none⟩ = some (u2 k) ∧ W.cell? ⟨g, off + k * 3 + 2, none⟩ = some (u3 k)) (hcall : ∀ k W, k < n → Below w.heap.size w W → Calls Try.prog F ((.agg #[u1 k, u2 k, u3 k]) :: cp).toArray W (Ret (.bool (bs k)) W)) :
    Calls Try.prog 72 #[.slice A n cap, .func (.func F) #[] cp.toArray] w (RetR (fun _ _ v _ => ∃ r : Int, v = .int .i64 r ∧ ((anyK n bs = false ∧ r = -1) ∨ (anyK n bs = true ∧ 0 ≤ r))) w) := by
  have HC := Lib.hid hcell
  have HK := Lib.hid hcall
  have HEN := Lib.hid hen
  have HA := Lib.hid hA
  clear hcell hcall hen hA
  go_enter Try.func72, Try.ntmps72
  go_wp2
  go_loopw [8] (fun i wr => ∃ k : Nat, k ≤ n ∧ i = .int .i64 k ∧ (∀ j, j < k → bs j = false) ∧ Below w.heap.size w wr) (fun i _ => n - (intOf i).toNat)
  case atStart => exact ⟨0, Nat.zero_le _, rfl, fun j hj => absurd hj (by omega), Below.refl _ _⟩
  case round =>
    obtain ⟨k, hk, rfl, hall, hB⟩ := hrel
    have HAll := Lib.hid hall
    clear hall
    by_cases hlt : k < n
    · have hA := HA.out (by omega)
      subst hA
      obtain ⟨hgs, hc⟩ := HC.out k wr hlt hB
      have hcl := Lib.hid (HK.out k wr hlt hB)
      have hen := HEN.out
      go_wp2_with fail
      refine (Calls.mono hcl.out ?_)
      rintro e w2 ⟨rfl, hb⟩
      clear hen hc
      cases hbk : bs k
      · have HB := Lib.hid hbk
        clear hbk
        go_wp2
        exact ⟨⟨k + 1, by omega, by go_num, fun j hj => by
          rcases Nat.lt_succ_iff_lt_or_eq.1 hj with h1 | h1
          · exact HAll.out j h1
          · subst h1; exact HB.out, hB.trans (hb.mono hB.size)⟩, by simp [intOf]; omega⟩
      · have HB := Lib.hid hbk
        clear hbk
        go_wp2
        go_ret
        exact ⟨_, rfl, ⟨k, rfl, .inr ⟨anyK_true n k bs hlt HB.out, by omega⟩⟩, hB.trans (hb.mono hB.size)⟩
    · obtain rfl : k = n := by omega
      go_wp2
      go_ret
      exact ⟨_, rfl, ⟨-1, rfl, .inl ⟨anyK_false _ _ HAll.out, rfl⟩⟩, hB⟩
set_option maxRecDepth 100000 in
set_option maxHeartbeats 1000000 in
theorem gConP (n : Nat) (hn : n ≤ 140737488355327) (bs : Nat → Bool) (u1 u2 u3 : Nat → Value) (A : Option Addr) (g off cap : Nat) (hA : 0 < n → A = some ⟨g, off, none⟩) (w : World) (F : FuncId) (cp : List Value) (hen : ∀ args w, (callFunc F args).run Try.prog w = .ok (.enter F args) w)
    (hcell : ∀ k W, k < n → Below w.heap.size w W → g < W.heap.size ∧ W.cell? ⟨g, off + k * 3, none⟩ = some (u1 k) ∧ W.cell? ⟨g, off + k * 3 + 1, none⟩ = some (u2 k) ∧ W.cell? ⟨g, off + k * 3 + 2, none⟩ = some (u3 k)) (hcall : ∀ k W, k < n → Below w.heap.size w W → Calls Try.prog F ((.agg #[u1 k, u2 k, u3 k]) :: cp).toArray W (Ret (.bool (bs k)) W)) :
    Calls Try.prog 50 #[.slice A n cap, .func (.func F) #[] cp.toArray] w (Ret (.bool (anyK n bs)) w) := by
  have HI := Lib.hid (gIdxP n hn bs u1 u2 u3 A g off cap hA w F cp hen hcell hcall)
  clear hcell hcall hen hA
  go_enter Try.func50, Try.ntmps50
  go_wp2_with fail
  refine HI.out.mono ?_
  rintro e w2 ⟨v, rfl, ⟨r, rfl, hr⟩, hb⟩
  rcases hr with ⟨h1, rfl⟩ | ⟨h1, h2⟩
  · have H1 := Lib.hid h1
    clear h1
    go_wp2
    go_ret
    exact ⟨by rw [H1.out]; rfl, hb⟩
  · have H1 := Lib.hid h1
    clear h1
    go_wp2
    go_ret
    exact ⟨by rw [H1.out]; rfl, hb⟩
end Go.Proofs.Ytilelegcniefcaa
