/-
  MaskChecksMatchReference: for every input the law returns true and leaves its arguments as they were.
-/
import Derived.Test.YtnddfeidggcplaaGreatLaw0
import Derived.Test.YtnddfeidggcplaaGreatQy32
import Derived.Test.YtnddfeidggcplaaGreatQs32
import Derived.Test.YtnddfeidggcplaaGreatLCm32
import Derived.ProofKit
import Derived.SevenTiedAt
import Derived.LaidMore
import Derived.OpenShut
import Derived.JoinedOf
import Derived.Stop.Joined
namespace Go.Proofs.YtnddfeidggcplaaGreat.maskChecksMatchReference
open Go.ChangeShapes Go.WideShapes Go.RowKit

theorem own : ownKnob Tryz.prog.godebug = none := by kernel_rfl
theorem bool_row : Tryz.prog.underlying 4 = some .bool := by kernel_rfl
theorem params_are : Tryz.f4.params = #[55, 27, 30] := by kernel_rfl
set_option maxRecDepth 100000 in
theorem walk (W : World) (base : Nat) (args : Array Value) (hval : ∀ (j : Nat) t v, Tryz.f4.params[j]? = some t → args[j]? = some v → Value.okWide Tryz.prog W .any base t v)
    (hA : ArgsOk Tryz.prog W Tryz.f4.params.toList args.toList) : Calls Tryz.prog 4 args W (Ret (.bool true) W) := by
  rw [params_are] at hA hval
  obtain ⟨hlen, hA⟩ := hA
  obtain ⟨l⟩ := args
  simp only [List.length_cons, List.length_nil] at hlen
  match l, hlen, hval, hA with
  | [v0, v1, v2], _, hval, hA =>
    obtain ⟨cs0, rfl, _⟩ := okWide_struct Tryz.underlying55 (hval 0 _ _ rfl rfl)
    obtain ⟨n0, ho0⟩ := hA 0 _ _ rfl rfl
    obtain ⟨x, xC, xR, hcs0, hx⟩ := okd_sc32 ho0
    obtain rfl : cs0 = #[.int .u64 x.V.1, .int .u64 x.V.2, xC, xR, .int .u64 x.F.1, .int .u64 x.F.2, .int .u8 (x.N : Int), .int .u8 (x.D : Int)] := Array.ext' hcs0
    obtain ⟨a1, l1, c1, rfl⟩ := okWide_slice Tryz.underlying27 (hval 1 _ _ rfl rfl)
    obtain ⟨n1, ho1⟩ := hA 1 _ _ rfl rfl
    obtain ⟨v1, hv1, R1, hR1⟩ := okd_rtabs ho1
    obtain rfl : Value.slice a1 l1 c1 = v1 := by simpa [Value.cells] using hv1
    obtain ⟨cs2, rfl, _⟩ := okWide_struct Tryz.underlying30 (hval 2 _ _ rfl rfl)
    obtain ⟨n2, ho2⟩ := hA 2 _ _ rfl rfl
    obtain ⟨r2, hr2, hcs2⟩ := okd_raw ho2
    obtain rfl : cs2 = #[.int .u64 r2.1, .int .u64 r2.2] := Array.ext' hcs2
    exact wkMaskChecksMatchReference x xC xR R1 _ r2 hr2 W hx hR1
theorem lifted (os : Os) (started : os.Started) (H : Type) (enc : TypeId × Value → H) :
    ReturnsInHanded {} Tryz.checked os 4 .any (fun w args => Rows.maskChecksMatchReferenceSpec.pre enc Tryz.prog Tryz.f4 [] false w args ∧ sizedMet enc Tryz.prog Tryz.f4 (OpenSpec.ofChange Rows.maskChecksMatchReferenceSpec) false w args)
      (Rows.maskChecksMatchReferenceSpec.post enc Tryz.prog Tryz.f4 false true false false) :=
  law_lifted0 (C := Tryz.checked) own (by kernel_rfl) Tryz.func4 (by kernel_rfl) rfl (by kernel_rfl) (tb := 4) (by kernel_rfl) bool_row
    (fun H ds h => by
      rw [params_are] at h
      match ds, h with
      | [_, _, _], _ => rfl)
    walk os started H enc
    (ChangeSpec.witness_shaped (enc := enc) (C := Tryz.checked) (os := os) (X := fun _ _ => True) false (World.doorLaid Tryz.prog 400 os) #[.agg #[.int .u64 0, .int .u64 0, .slice none 0 0, .slice none 0 0, .int .u64 0, .int .u64 0, .int .u8 0, .int .u8 0], .slice none 0 0, .agg #[.int .u64 0, .int .u64 0]] 8 rfl (World.shaped_of_RefB (by kernel_rfl) (by kernel_rfl)) (by kernel_rfl) (by kernel_rfl) (by kernel_rfl)
      trivial)
theorem said : Rows.MaskChecksMatchReferenceSaid :=
  OpenClaim.holds_of_wide 4 Tryz.f4 rfl rfl rfl rfl rfl rfl rfl ⟨rfl, rfl, rfl, rfl, rfl⟩ rfl rfl rfl rfl rfl (by kernel_rfl) Tryz.func4 (by kernel_rfl)
    (of_decide_eq_true (by kernel_rfl)) (by unfold Func.isWrapper; first | (rw [if_pos (by decide +kernel)]; kernel_rfl) | (rw [if_neg (by decide +kernel)]; exact ⟨rfl, rfl⟩))
    (fun os started H enc _ => lifted os started H enc)
end Go.Proofs.YtnddfeidggcplaaGreat.maskChecksMatchReference
