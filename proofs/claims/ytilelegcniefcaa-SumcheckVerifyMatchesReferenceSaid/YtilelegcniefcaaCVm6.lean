/-
  SumcheckVerifyMatchesReference: for every input the law returns true and leaves its arguments as they were.
-/
import Derived.Test.YtilelegcniefcaaLaw0
import Derived.Test.YtilelegcniefcaaQy6
import Derived.Test.YtilelegcniefcaaQy7
import Derived.Test.YtilelegcniefcaaLVm6
import Derived.ProofKit
import Derived.SevenTiedAt
import Derived.LaidMore
import Derived.OpenShut
import Derived.JoinedOf
import Derived.Stop.Joined
namespace Go.Proofs.Ytilelegcniefcaa.sumcheckVerifyMatchesReference
open Go.ChangeShapes Go.WideShapes Go.RowKit

theorem own : ownKnob Try.prog.godebug = none := by kernel_rfl
theorem bool_row : Try.prog.underlying 4 = some .bool := by kernel_rfl
theorem params_are : Try.f4.params = #[43, 27, 51] := by kernel_rfl
set_option maxRecDepth 100000 in
theorem walk (W : World) (base : Nat) (args : Array Value) (hval : ∀ (j : Nat) t v, Try.f4.params[j]? = some t → args[j]? = some v → Value.okWide Try.prog W .any base t v)
    (hA : ArgsOk Try.prog W Try.f4.params.toList args.toList) : Calls Try.prog 4 args W (Ret (.bool true) W) := by
  rw [params_are] at hA hval
  obtain ⟨hlen, hA⟩ := hA
  obtain ⟨l⟩ := args
  simp only [List.length_cons, List.length_nil] at hlen
  match l, hlen, hval, hA with
  | [v0, v1, v2], _, hval, hA =>
    obtain ⟨cs0, rfl, _⟩ := okWide_struct Try.underlying43 (hval 0 _ _ rfl rfl)
    obtain ⟨n0, ho0⟩ := hA 0 _ _ rfl rfl
    obtain ⟨r0, hr0, hcs0⟩ := okd_raw ho0
    obtain rfl : cs0 = #[.int .u64 r0.1, .int .u64 r0.2] := Array.ext' hcs0
    obtain ⟨a1, l1, c1, rfl⟩ := okWide_slice Try.underlying27 (hval 1 _ _ rfl rfl)
    obtain ⟨n1, ho1⟩ := hA 1 _ _ rfl rfl
    obtain ⟨v1, hv1, R1, hR1⟩ := okd_rtabs ho1
    obtain rfl : Value.slice a1 l1 c1 = v1 := by simpa [Value.cells] using hv1
    obtain ⟨cs2, rfl, _⟩ := okWide_struct Try.underlying51 (hval 2 _ _ rfl rfl)
    obtain ⟨n2, ho2⟩ := hA 2 _ _ rfl rfl
    obtain ⟨v2, d2, hcs2, hd2, R2, hR2⟩ := okd_coins ho2
    obtain rfl : cs2 = #[v2, .int .i64 d2] := Array.ext' hcs2
    exact wkSumcheckVerifyMatches r0 hr0 R1 _ R2 _ d2 hd2 _ hR1 hR2
theorem lifted (os : Os) (started : os.Started) (H : Type) (enc : TypeId × Value → H) :
    ReturnsInHanded {} Try.checked os 4 .any (fun w args => Rows.sumcheckVerifyMatchesReferenceSpec.pre enc Try.prog Try.f4 [] false w args ∧ sizedMet enc Try.prog Try.f4 (OpenSpec.ofChange Rows.sumcheckVerifyMatchesReferenceSpec) false w args)
      (Rows.sumcheckVerifyMatchesReferenceSpec.post enc Try.prog Try.f4 false true false false) :=
  law_lifted0 (C := Try.checked) own (by kernel_rfl) Try.func4 (by kernel_rfl) rfl (by kernel_rfl) (tb := 4) (by kernel_rfl) bool_row
    (fun H ds h => by
      rw [params_are] at h
      match ds, h with
      | [_, _, _], _ => rfl)
    walk os started H enc
    (ChangeSpec.witness_shaped (enc := enc) (C := Try.checked) (os := os) (X := fun _ _ => True) false (World.doorLaid Try.prog 400 os) #[.agg #[.int .u64 0, .int .u64 0], .slice none 0 0, .agg #[.slice none 0 0, .int .i64 0]] 8 rfl (World.shaped_of_RefB (by kernel_rfl) (by kernel_rfl)) (by kernel_rfl) (by kernel_rfl) (by kernel_rfl)
      trivial)
theorem said : Rows.SumcheckVerifyMatchesReferenceSaid :=
  OpenClaim.holds_of_wide 4 Try.f4 rfl rfl rfl rfl rfl rfl rfl ⟨rfl, rfl, rfl, rfl, rfl⟩ rfl rfl rfl rfl rfl (by kernel_rfl) Try.func4 (by kernel_rfl)
    (of_decide_eq_true (by kernel_rfl)) (by unfold Func.isWrapper; first | (rw [if_pos (by decide +kernel)]; kernel_rfl) | (rw [if_neg (by decide +kernel)]; exact ⟨rfl, rfl⟩))
    (fun os started H enc _ => lifted os started H enc)
end Go.Proofs.Ytilelegcniefcaa.sumcheckVerifyMatchesReference
