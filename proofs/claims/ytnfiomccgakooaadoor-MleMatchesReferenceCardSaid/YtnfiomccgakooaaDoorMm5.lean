/-
  Validity of tables: the function of package mle and the reference's, by contract.
-/
import Derived.Test.YtnfiomccgakooaaDoorMr1
import Derived.Test.YtnfiomccgakooaaDoorLen
namespace Go.Proofs.YtnfiomccgakooaaDoor
open Go.RowKit
attribute [local go_sem] Oper.semAt_some

def vld (x : Raw) : Bool := decide (x.1 < 18446744069414584321) && decide (x.2 < 18446744069414584321)
/-- What is returned for a table: the number of variables, and whether it is valid. -/
def VR (xs : List Raw) (n : Nat) (b : Bool) : Prop := (b = true ∧ xs.length = 2 ^ n ∧ n ≤ 16 ∧ xs.all vld = true) ∨ (b = false ∧ n = 0 ∧ ¬ ∃ m, xs.length = 2 ^ m ∧ m ≤ 16 ∧ xs.all vld = true)
theorem vr_unique {xs : List Raw} {n m : Nat} {a b : Bool} (h1 : VR xs n a) (h2 : VR xs m b) : n = m ∧ a = b := by
  rcases h1 with ⟨ha, h3, h4, h5⟩ | ⟨ha, h3, h4⟩ <;> rcases h2 with ⟨hb, h6, h7, h8⟩ | ⟨hb, h6, h7⟩
  · refine ⟨?_, by rw [ha, hb]⟩
    exact (Nat.pow_right_inj (Nat.le_refl 2)).1 (h3.symm.trans h6)
  · exact absurd ⟨n, h3, h4, h5⟩ h7
  · exact absurd ⟨m, h6, h7, h8⟩ h4
  · exact ⟨by omega, by rw [ha, hb]⟩
def VRes (xs : List Raw) (_ _ : Nat) (v : Value) (_ : World) : Prop := ∃ (n : Nat) (b : Bool), v = .tuple #[.int .i64 n, .bool b] ∧ VR xs n b
set_option maxRecDepth 100000 in
set_option maxHeartbeats 400000 in
theorem fValid (a : Int) (w : World) : Calls Tryd.prog 57 #[.int .u64 a] w (Ret (.bool (decide (a < 18446744069414584321))) w) := by
  go_enter Tryd.func57, Tryd.ntmps57
  go_wp2
  go_ret
  exact ⟨rfl, Below.refl _ _⟩
set_option maxRecDepth 100000 in
set_option maxHeartbeats 400000 in
theorem rValid1 (a : Int) (w : World) : Calls Tryd.prog 58 #[.int .u64 a] w (Ret (.bool (decide (a < 18446744069414584321))) w) := by
  go_enter Tryd.func58, Tryd.ntmps58
  go_wp2
  go_ret
  exact ⟨rfl, Below.refl _ _⟩
set_option maxRecDepth 100000 in
set_option maxHeartbeats 400000 in
theorem eValid (x : Raw) (w : World) : Calls Tryd.prog 31 #[.agg #[.int .u64 x.1, .int .u64 x.2]] w (Ret (.bool (vld x)) w) := by
  unfold vld
  cases hd : decide (x.1 < 18446744069414584321)
  · skip
    go_enter Tryd.func31, Tryd.ntmps31
    go_wp2_with fail
    refine calls_stk1 fun W hB hz b1 => ?_
    refine (fValid x.1 W).mono ?_
    rintro e w2 ⟨rfl, hb⟩
    rw [hd]
    clear hd
    go_wp2
    go_ret
    exact ⟨rfl, hB.trans (hb.mono hB.size)⟩
  · skip
    go_enter Tryd.func31, Tryd.ntmps31
    go_wp2_with fail
    refine calls_stk1 fun W hB hz b1 => ?_
    refine (fValid x.1 W).mono ?_
    rintro e w2 ⟨rfl, hb⟩
    rw [hd]
    have c1 := (b1.keep hb).cell
    clear hd
    go_wp2_with fail
    refine (fValid x.2 _).mono ?_
    rintro e w3 ⟨rfl, hb3⟩
    go_wp2
    go_ret
    exact ⟨rfl, (hB.trans (hb.mono hB.size)).trans (hb3.mono (hB.trans (hb.mono hB.size)).size)⟩
set_option maxRecDepth 100000 in
set_option maxHeartbeats 400000 in
theorem xValid (x : Raw) (w : World) : Calls Tryd.prog 32 #[.agg #[.int .u64 x.1, .int .u64 x.2]] w (Ret (.bool (vld x)) w) := by
  unfold vld
  cases hd : decide (x.1 < 18446744069414584321)
  · skip
    go_enter Tryd.func32, Tryd.ntmps32
    go_wp2_with fail
    refine calls_stk1 fun W hB hz b1 => ?_
    refine (rValid1 x.1 W).mono ?_
    rintro e w2 ⟨rfl, hb⟩
    rw [hd]
    clear hd
    go_wp2
    go_ret
    exact ⟨rfl, hB.trans (hb.mono hB.size)⟩
  · skip
    go_enter Tryd.func32, Tryd.ntmps32
    go_wp2_with fail
    refine calls_stk1 fun W hB hz b1 => ?_
    refine (rValid1 x.1 W).mono ?_
    rintro e w2 ⟨rfl, hb⟩
    rw [hd]
    have c1 := (b1.keep hb).cell
    clear hd
    go_wp2_with fail
    refine (rValid1 x.2 _).mono ?_
    rintro e w3 ⟨rfl, hb3⟩
    go_wp2
    go_ret
    exact ⟨rfl, (hB.trans (hb.mono hB.size)).trans (hb3.mono (hB.trans (hb.mono hB.size)).size)⟩
set_option maxRecDepth 100000 in
set_option maxHeartbeats 400000 in
theorem gNotValid (x : Raw) (w : World) : Calls Tryd.prog 30 #[.agg #[.int .u64 x.1, .int .u64 x.2]] w (Ret (.bool (!vld x)) w) := by
  go_enter Tryd.func30, Tryd.ntmps30
  go_wp2_with fail
  refine calls_stk1 fun W hB hz b1 => ?_
  refine (eValid x W).mono ?_
  rintro e w2 ⟨rfl, hb⟩
  go_wp2
  go_ret
  exact ⟨rfl, hB.trans (hb.mono hB.size)⟩
set_option maxRecDepth 100000 in
set_option maxHeartbeats 1000000 in
theorem gIndexFunc (xs : List Raw) (v : Value) (lo hi : Nat) (w : World) (h : RawS lo hi w v xs) :
    Calls Tryd.prog 56 #[v, .func (.func 30) #[] #[]] w (RetR (fun _ _ v _ => ∃ r : Int, v = .int .i64 r ∧ ((xs.all vld = true ∧ r = -1) ∨ (xs.all vld = false ∧ 0 ≤ r))) w) := by
  obtain ⟨A, cap, rfl⟩ := h.1.len
  have hlen := h.1.2.1
  go_enter Tryd.func56, Tryd.ntmps56
  go_wp2
  go_loopw [8] (fun i wr => ∃ k : Nat, k ≤ xs.length ∧ i = .int .i64 k ∧ (xs.take k).all vld = true ∧ Below w.heap.size w wr) (fun i _ => xs.length - (intOf i).toNat)
  case atStart => exact ⟨0, Nat.zero_le _, rfl, rfl, Below.refl _ _⟩
  case round =>
    obtain ⟨k, hk, rfl, hall, hB⟩ := hrel
    by_cases hlt : k < xs.length
    · obtain ⟨g, off, cap', hv, q1, q2, q3, q4, q5⟩ := raws_cells h (by omega)
      cases hv
      obtain ⟨x, hx⟩ : ∃ x, xs[k]? = some x := ⟨xs[k], List.getElem?_eq_getElem hlt⟩
      obtain ⟨d1, d2⟩ := q5 k x hx
      have c1 := (hB.cell (p := ⟨g, off + k * 2, none⟩) q4).trans d1
      have c2 := (hB.cell (p := ⟨g, off + k * 2 + 1, none⟩) q4).trans d2
      have HX := Lib.hid hx
      have HA := Lib.hid hall
      clear q5 d1 d2 hx hall h
      go_wp2_with fail
      refine (gNotValid x wr).mono ?_
      rintro e w2 ⟨rfl, hb⟩
      clear c1 c2
      cases hv : vld x
      · have HV := Lib.hid hv
        clear hv
        go_wp2
        go_ret
        refine ⟨_, rfl, ⟨k, rfl, .inr ⟨?_, by omega⟩⟩, hB.trans (hb.mono hB.size)⟩
        rw [List.all_eq_false]
        exact ⟨x, List.mem_of_getElem? HX.out, by rw [HV.out]; decide⟩
      · have HV := Lib.hid hv
        clear hv
        go_wp2
        refine ⟨⟨k + 1, by omega, by go_num, ?_, hB.trans (hb.mono hB.size)⟩, by simp [intOf]; omega⟩
        rw [List.take_add_one, HX.out, List.all_append, HA.out]
        simp [HV.out]
    · obtain rfl : k = xs.length := by omega
      rw [List.take_of_length_le (Nat.le_refl _)] at hall
      have HA := Lib.hid hall
      clear hall
      go_wp2
      go_ret
      exact ⟨_, rfl, ⟨-1, rfl, .inl ⟨HA.out, rfl⟩⟩, hB⟩
set_option maxRecDepth 100000 in
set_option maxHeartbeats 1000000 in
theorem gContains (xs : List Raw) (v : Value) (lo hi : Nat) (w : World) (h : RawS lo hi w v xs) :
    Calls Tryd.prog 29 #[v, .func (.func 30) #[] #[]] w (Ret (.bool (!xs.all vld)) w) := by
  obtain ⟨A, cap, rfl⟩ := h.1.len
  go_enter Tryd.func29, Tryd.ntmps29
  go_wp2_with fail
  refine (gIndexFunc xs _ lo hi w h).mono ?_
  rintro e w2 ⟨v, rfl, ⟨r, rfl, hr⟩, hb⟩
  rcases hr with ⟨h1, rfl⟩ | ⟨h1, h2⟩
  · have H1 := Lib.hid h1
    clear h1
    go_wp2
    go_ret
    exact ⟨by rw [H1.out]; rfl, hb⟩
  · have H1 := Lib.hid h1
    clear h1
    go_wp2
    go_ret
    exact ⟨by rw [H1.out]; rfl, hb⟩
end Go.Proofs.YtnfiomccgakooaaDoor
