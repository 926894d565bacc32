/-
  The library contract of math/bits.Len laid at this seat's translation, in plain words, with the numbers named.
-/
import Derived.Shelf.Small.Bits
import Derived.Lib.ItoaNum
import Derived.Test.YtnfiomccgakooaaDoorProg
namespace Go.Proofs.YtnfiomccgakooaaDoor
open Go.Shelf
def lays125_ren : Go.Shelf.Ren := ⟨fun | 125 => 28 | 128 => 54 | 129 => 55 | n => n, fun | 3 => 3 | 4 => 4 | 5 => 5 | 9 => 9 | 46 => 48 | 51 => 64 | 53 => 25 | n => n, fun n => n⟩
theorem lays125 : Go.Proofs.Lays.n125 Tryd.prog lays125_ren := {
  mixed := by kernel_rfl
  f125 := Tryd.func28.trans (congrArg some (by kernel_rfl))
  f128 := Tryd.func54.trans (congrArg some (by kernel_rfl))
  f129 := Tryd.func55.trans (congrArg some (by kernel_rfl))
  t3 := Tryd.underlying3
  a3 := Tryd.isAgg3
  z3 := Tryd.sizeOf3
  v3 := Tryd.zeroValue3
  t4 := Tryd.underlying4
  a4 := Tryd.isAgg4
  z4 := Tryd.sizeOf4
  v4 := Tryd.zeroValue4
  t5 := Tryd.underlying5
  a5 := Tryd.isAgg5
  z5 := Tryd.sizeOf5
  v5 := Tryd.zeroValue5
  t9 := Tryd.underlying9
  a9 := Tryd.isAgg9
  z9 := Tryd.sizeOf9
  v9 := Tryd.zeroValue9
  t46 := Tryd.underlying48
  a46 := Tryd.isAgg48
  z46 := Tryd.sizeOf48
  v46 := Tryd.zeroValue48
  t51 := Tryd.underlying64
  a51 := Tryd.isAgg64
  z51 := Tryd.sizeOf64
  v51 := Tryd.zeroValue64
  t53 := Tryd.underlying25
  a53 := Tryd.isAgg25
  z53 := Tryd.sizeOf25
  v53 := Tryd.zeroValue25 }
theorem bits_Len (x : Nat) (h1 : x < 18446744073709551616) (w : World) : Calls Tryd.prog 28 #[.int .u64 x] w fun e w' => e = .returned (.int .i64 (Lib.bitLen x)) ∧ w = w' :=
  (Any.bits_Len lays125 (x : Int) w (by omega) (by omega)).mono fun e w' h => ⟨by rw [h.1, Int.toNat_natCast], h.2.symm⟩
/-- A length's bits: one more than the logarithm. -/
theorem bitLen_log (x : Nat) (h0 : x ≠ 0) (h : x < 18446744073709551616) : ∃ k, Lib.bitLen x = k + 1 ∧ 2 ^ k ≤ x ∧ x < 2 ^ (k + 1) := by
  obtain ⟨h1, h2, h3⟩ := Lib.bitLenAux_bounds 64 x h h0
  refine ⟨Lib.bitLen x - 1, ?_, h2, ?_⟩
  · show Lib.bitLenAux 64 x = Lib.bitLenAux 64 x - 1 + 1
    omega
  · rw [show Lib.bitLen x - 1 + 1 = Lib.bitLenAux 64 x by show Lib.bitLenAux 64 x - 1 + 1 = _; omega]
    exact h3
end Go.Proofs.YtnfiomccgakooaaDoor
