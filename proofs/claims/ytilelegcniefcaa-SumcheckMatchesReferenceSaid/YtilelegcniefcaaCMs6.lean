/-
  SumcheckMatchesReference: for every input the law returns true and leaves its arguments as they were.
-/
import Derived.Test.YtilelegcniefcaaLaw0
import Derived.Test.YtilelegcniefcaaQy6
import Derived.Test.YtilelegcniefcaaQy7
import Derived.Test.YtilelegcniefcaaLMs6
import Derived.ProofKit
import Derived.SevenTiedAt
import Derived.LaidMore
import Derived.OpenShut
import Derived.JoinedOf
import Derived.Stop.Joined
namespace Go.Proofs.Ytilelegcniefcaa.sumcheckMatchesReference
open Go.ChangeShapes Go.WideShapes Go.RowKit

theorem own : ownKnob Try.prog.godebug = none := by kernel_rfl
theorem bool_row : Try.prog.underlying 4 = some .bool := by kernel_rfl
theorem params_are : Try.f3.params = #[26, 30, 22] := by kernel_rfl
set_option maxRecDepth 100000 in
theorem walk (W : World) (base : Nat) (args : Array Value) (hval : ∀ (j : Nat) t v, Try.f3.params[j]? = some t → args[j]? = some v → Value.okWide Try.prog W .any base t v)
    (hA : ArgsOk Try.prog W Try.f3.params.toList args.toList) : Calls Try.prog 3 args W (Ret (.bool true) W) := by
  rw [params_are] at hA hval
  obtain ⟨hlen, hA⟩ := hA
  obtain ⟨l⟩ := args
  simp only [List.length_cons, List.length_nil] at hlen
  match l, hlen, hval, hA with
  | [v0, v1, v2], _, hval, hA =>
    obtain ⟨cs0, rfl, _⟩ := okWide_struct Try.underlying26 (hval 0 _ _ rfl rfl)
    obtain ⟨n0, ho0⟩ := hA 0 _ _ rfl rfl
    obtain ⟨q, A, cc, AL, cL, hcs0, hq⟩ := okd_raw6 ho0
    obtain rfl : cs0 = #[.slice (A 0) (q.T 0).length (cc 0), .slice (A 1) (q.T 1).length (cc 1), .slice (A 2) (q.T 2).length (cc 2), .slice AL q.L.length cL, .int .u8 q.N] := Array.ext' hcs0
    obtain ⟨cs1, rfl, _⟩ := okWide_struct Try.underlying30 (hval 1 _ _ rfl rfl)
    obtain ⟨n1, ho1⟩ := hA 1 _ _ rfl rfl
    obtain ⟨vt1, vp1, hcs1, ⟨ts1, hts1⟩, ps1, hps1, hw1⟩ := okd_sum ho1
    obtain rfl : cs1 = #[vt1, vp1] := Array.ext' hcs1
    obtain ⟨a2, l2, c2, rfl⟩ := okWide_slice Try.underlying22 (hval 2 _ _ rfl rfl)
    obtain ⟨n2, ho2⟩ := hA 2 _ _ rfl rfl
    obtain ⟨v2, hv2, R2, hR2⟩ := okd_raws ho2
    obtain rfl : Value.slice a2 l2 c2 = v2 := by simpa [Value.cells] using hv2
    exact wkSumcheckMatches q A cc AL cL ts1 ps1 vt1 vp1 R2 _ _ hq hts1 hps1 hR2
theorem lifted (os : Os) (started : os.Started) (H : Type) (enc : TypeId × Value → H) :
    ReturnsInHanded {} Try.checked os 3 .any (fun w args => Rows.sumcheckMatchesReferenceSpec.pre enc Try.prog Try.f3 [] false w args ∧ sizedMet enc Try.prog Try.f3 (OpenSpec.ofChange Rows.sumcheckMatchesReferenceSpec) false w args)
      (Rows.sumcheckMatchesReferenceSpec.post enc Try.prog Try.f3 false true false false) :=
  law_lifted0 (C := Try.checked) own (by kernel_rfl) Try.func3 (by kernel_rfl) rfl (by kernel_rfl) (tb := 4) (by kernel_rfl) bool_row
    (fun H ds h => by
      rw [params_are] at h
      match ds, h with
      | [_, _, _], _ => rfl)
    walk os started H enc
    (ChangeSpec.witness_shaped (enc := enc) (C := Try.checked) (os := os) (X := fun _ _ => True) false (World.doorLaid Try.prog 400 os) #[.agg #[.slice none 0 0, .slice none 0 0, .slice none 0 0, .slice none 0 0, .int .u8 0], .agg #[.slice none 0 0, .slice none 0 0], .slice none 0 0] 8 rfl (World.shaped_of_RefB (by kernel_rfl) (by kernel_rfl)) (by kernel_rfl) (by kernel_rfl) (by kernel_rfl)
      trivial)
theorem said : Rows.SumcheckMatchesReferenceSaid :=
  OpenClaim.holds_of_wide 3 Try.f3 rfl rfl rfl rfl rfl rfl rfl ⟨rfl, rfl, rfl, rfl, rfl⟩ rfl rfl rfl rfl rfl (by kernel_rfl) Try.func3 (by kernel_rfl)
    (of_decide_eq_true (by kernel_rfl)) (by unfold Func.isWrapper; first | (rw [if_pos (by decide +kernel)]; kernel_rfl) | (rw [if_neg (by decide +kernel)]; exact ⟨rfl, rfl⟩))
    (fun os started H enc _ => lifted os started H enc)
end Go.Proofs.Ytilelegcniefcaa.sumcheckMatchesReference
