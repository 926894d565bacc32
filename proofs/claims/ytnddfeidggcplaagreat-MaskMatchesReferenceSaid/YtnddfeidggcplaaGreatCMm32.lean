/-
  MaskMatchesReference: for every input the law returns true and leaves its arguments as they were.
-/
import Derived.Test.YtnddfeidggcplaaGreatLaw0
import Derived.Test.YtnddfeidggcplaaGreatQy32
import Derived.Test.YtnddfeidggcplaaGreatLMm32
import Derived.ProofKit
import Derived.SevenTiedAt
import Derived.LaidMore
import Derived.OpenShut
import Derived.JoinedOf
import Derived.Stop.Joined
namespace Go.Proofs.YtnddfeidggcplaaGreat.maskMatchesReference
open Go.ChangeShapes Go.WideShapes Go.RowKit

theorem own : ownKnob Tryz.prog.godebug = none := by kernel_rfl
theorem bool_row : Tryz.prog.underlying 4 = some .bool := by kernel_rfl
theorem params_are : Tryz.f3.params = #[32, 27, 5] := by kernel_rfl
set_option maxRecDepth 100000 in
theorem walk (W : World) (base : Nat) (args : Array Value) (hval : ∀ (j : Nat) t v, Tryz.f3.params[j]? = some t → args[j]? = some v → Value.okWide Tryz.prog W .any base t v)
    (hA : ArgsOk Tryz.prog W Tryz.f3.params.toList args.toList) : Calls Tryz.prog 3 args W (Ret (.bool true) W) := by
  rw [params_are] at hA hval
  obtain ⟨hlen, hA⟩ := hA
  obtain ⟨l⟩ := args
  simp only [List.length_cons, List.length_nil] at hlen
  match l, hlen, hval, hA with
  | [v0, v1, v2], _, hval, hA =>
    obtain ⟨cs0, rfl, _⟩ := okWide_struct Tryz.underlying32 (hval 0 _ _ rfl rfl)
    obtain ⟨n0, ho0⟩ := hA 0 _ _ rfl rfl
    obtain ⟨q, A, cc, AL, cL, vM, vC, hcs0, hq⟩ := okd_q32 ho0
    obtain rfl : cs0 = #[.slice (A 0) (q.S.T 0).length (cc 0), .slice (A 1) (q.S.T 1).length (cc 1), .slice (A 2) (q.S.T 2).length (cc 2), .slice AL q.S.L.length cL, .int .u8 q.S.N, vM, .int .u64 q.R.1, .int .u64 q.R.2, vC] := Array.ext' hcs0
    obtain ⟨a1, l1, c1, rfl⟩ := okWide_slice Tryz.underlying27 (hval 1 _ _ rfl rfl)
    obtain ⟨n1, ho1⟩ := hA 1 _ _ rfl rfl
    obtain ⟨v1, hv1, R1, hR1⟩ := okd_rtabs ho1
    obtain rfl : Value.slice a1 l1 c1 = v1 := by simpa [Value.cells] using hv1
    obtain ⟨z2, rfl⟩ := okWide_int Tryz.underlying5 (hval 2 _ _ rfl rfl)
    obtain ⟨n2, ho2⟩ := hA 2 _ _ rfl rfl
    obtain ⟨y2, hy2, hz2⟩ := okd_int Tryz.underlying5 ho2
    obtain rfl : z2 = y2 := by simpa [Value.cells] using hy2
    obtain ⟨hz2a, hz2b⟩ := wf_u8 hz2
    exact (by obtain ⟨nz, rfl⟩ := Int.eq_ofNat_of_zero_le hz2a; exact wkMaskMatchesReference q A cc AL cL vM vC R1 _ nz (by omega) W hq hR1)
theorem lifted (os : Os) (started : os.Started) (H : Type) (enc : TypeId × Value → H) :
    ReturnsInHanded {} Tryz.checked os 3 .any (fun w args => Rows.maskMatchesReferenceSpec.pre enc Tryz.prog Tryz.f3 [] false w args ∧ sizedMet enc Tryz.prog Tryz.f3 (OpenSpec.ofChange Rows.maskMatchesReferenceSpec) false w args)
      (Rows.maskMatchesReferenceSpec.post enc Tryz.prog Tryz.f3 false true false false) :=
  law_lifted0 (C := Tryz.checked) own (by kernel_rfl) Tryz.func3 (by kernel_rfl) rfl (by kernel_rfl) (tb := 4) (by kernel_rfl) bool_row
    (fun H ds h => by
      rw [params_are] at h
      match ds, h with
      | [_, _, _], _ => rfl)
    walk os started H enc
    (ChangeSpec.witness_shaped (enc := enc) (C := Tryz.checked) (os := os) (X := fun _ _ => True) false (World.doorLaid Tryz.prog 400 os) #[.agg #[.slice none 0 0, .slice none 0 0, .slice none 0 0, .slice none 0 0, .int .u8 0, .slice none 0 0, .int .u64 0, .int .u64 0, .slice none 0 0], .slice none 0 0, .int .u8 0] 8 rfl (World.shaped_of_RefB (by kernel_rfl) (by kernel_rfl)) (by kernel_rfl) (by kernel_rfl) (by kernel_rfl)
      trivial)
theorem said : Rows.MaskMatchesReferenceSaid :=
  OpenClaim.holds_of_wide 3 Tryz.f3 rfl rfl rfl rfl rfl rfl rfl ⟨rfl, rfl, rfl, rfl, rfl⟩ rfl rfl rfl rfl rfl (by kernel_rfl) Tryz.func3 (by kernel_rfl)
    (of_decide_eq_true (by kernel_rfl)) (by unfold Func.isWrapper; first | (rw [if_pos (by decide +kernel)]; kernel_rfl) | (rw [if_neg (by decide +kernel)]; exact ⟨rfl, rfl⟩))
    (fun os started H enc _ => lifted os started H enc)
end Go.Proofs.YtnddfeidggcplaaGreat.maskMatchesReference
