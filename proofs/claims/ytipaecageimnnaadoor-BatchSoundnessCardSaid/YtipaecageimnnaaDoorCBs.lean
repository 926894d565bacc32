/-
  BatchSoundness: for every input the law returns true and leaves its arguments as they were; the one variable that it lists holds what the program's text lays (the tied card).
-/
import Derived.Test.YtipaecageimnnaaDoorCards
import Derived.Test.YtipaecageimnnaaDoorTie
import Derived.Test.YtipaecageimnnaaDoorLaw
import Derived.Test.YtipaecageimnnaaDoorQy8
import Derived.Test.YtipaecageimnnaaDoorLBs
import Derived.Test.YtipaecageimnnaaDoorQy9
import Derived.ProofKit
import Derived.SevenTiedAt
import Derived.LaidMore
import Derived.OpenShut
import Derived.JoinedOf
import Derived.Stop.Joined
namespace Go.Proofs.YtipaecageimnnaaDoor.batchSoundness
open Go.ChangeShapes Go.WideShapes Go.RowKit

theorem own : ownKnob Tryd.prog.godebug = none := by kernel_rfl
theorem bool_row : Tryd.prog.underlying 4 = some .bool := by kernel_rfl
theorem params_are : Tryd.f4.params = #[30, 35] := by kernel_rfl
set_option maxRecDepth 100000 in
theorem walk (W : World) (base : Nat) (args : Array Value) (hval : ∀ (j : Nat) t v, Tryd.f4.params[j]? = some t → args[j]? = some v → Value.okWide Tryd.prog W .any base t v)
    (hA : ArgsOk Tryd.prog W Tryd.f4.params.toList args.toList) (hL : laidMetH Tryd.prog [("attestor/mle.one", Rows.laid_attestor_mle_one)] W) : Calls Tryd.prog 4 args W (Ret (.bool true) W) := by
  rw [params_are] at hA hval
  obtain ⟨hlen, hA⟩ := hA
  obtain ⟨l⟩ := args
  simp only [List.length_cons, List.length_nil] at hlen
  match l, hlen, hval, hA with
  | [v0, v1], _, hval, hA =>
    obtain ⟨cs0, rfl, _⟩ := okWide_struct Tryd.underlying30 (hval 0 _ _ rfl rfl)
    obtain ⟨n0, ho0⟩ := hA 0 _ _ rfl rfl
    obtain ⟨q, vT, vL, vC, hcs0, hq⟩ := okd_in21 ho0
    obtain rfl : cs0 = #[vT, vL, .int .u64 q.R.1, .int .u64 q.R.2, vC, .int .u8 (q.N : Int)] := Array.ext' hcs0
    obtain ⟨a1, l1, c1, rfl⟩ := okWide_slice Tryd.underlying35 (hval 1 _ _ rfl rfl)
    obtain ⟨n1, ho1⟩ := hA 1 _ _ rfl rfl
    obtain ⟨v1, hv1, R1, hR1⟩ := okd_rtabs ho1
    obtain rfl : Value.slice a1 l1 c1 = v1 := by simpa [Value.cells] using hv1
    exact wkBatchSoundness q vT vL vC R1 _ W hq hR1 (laid_of hL)
theorem lifted (os : Os) (started : os.Started) (H : Type) (enc : TypeId × Value → H) :
    ReturnsInHanded {} Tryd.checked os 4 .any (fun w args => (Rows.batchSoundnessSpec.pre enc Tryd.prog Tryd.f4 [] false w args ∧ laidMetH Tryd.prog [("attestor/mle.one", Rows.laid_attestor_mle_one)] w) ∧ sizedMet enc Tryd.prog Tryd.f4 (OpenSpec.ofChange Rows.batchSoundnessSpec) false w args)
      (Rows.batchSoundnessSpec.post enc Tryd.prog Tryd.f4 false true false false) :=
  law_lifted (C := Tryd.checked) own (by kernel_rfl) Tryd.func4 (by kernel_rfl) rfl (by kernel_rfl) (tb := 4) (by kernel_rfl) bool_row
    (fun H ds h => by
      rw [params_are] at h
      match ds, h with
      | [_, _], _ => rfl)
    walk os started H enc
    (ChangeSpec.witness_shaped (enc := enc) (C := Tryd.checked) (os := os) (X := fun w _ => laidMetH Tryd.prog [("attestor/mle.one", Rows.laid_attestor_mle_one)] w) false (World.doorLaid Tryd.prog 400 os) #[.agg #[.slice none 0 0, .slice none 0 0, .int .u64 0, .int .u64 0, .slice none 0 0, .int .u8 0], .slice none 0 0] 8 rfl (World.shaped_of_RefB (by kernel_rfl) (by kernel_rfl)) (by kernel_rfl) (by kernel_rfl) (by kernel_rfl)
      (laidMetH_of_parts3 (fuel := 8) (laidMet_of_run' 8 (by kernel_rfl) (by kernel_rfl)) (by kernel_rfl) (by kernel_rfl)))
theorem said : Rows.BatchSoundnessSaid :=
  OpenClaim.holds_of_wide 4 Tryd.f4 rfl rfl rfl rfl rfl rfl rfl ⟨rfl, rfl, rfl, rfl, rfl⟩ rfl rfl rfl rfl rfl (by kernel_rfl) Tryd.func4 (by kernel_rfl)
    (of_decide_eq_true (by kernel_rfl)) (by unfold Func.isWrapper; first | (rw [if_pos (by decide +kernel)]; kernel_rfl) | (rw [if_neg (by decide +kernel)]; exact ⟨rfl, rfl⟩))
    (fun os started H enc _ => lifted os started H enc)
theorem plain (f : FuncId) (fn : Func) (hf : Tryd.pinned.checked.prog.funcNamed "attestor/attestorlaw21.BatchSoundness" = some f) (hfn : Tryd.pinned.checked.prog.funcs[f]? = some fn) :
    false = Tryd.pinned.checked.prog.looks [] ∧ ∀ (j : Nat) t, fn.params[j]? = some t → Tryd.pinned.checked.prog.wantsStandIn t = false := by
  obtain rfl : f = 4 := Option.some.inj ((show Tryd.prog.funcNamed "attestor/attestorlaw21.BatchSoundness" = some 4 by kernel_rfl).symm.trans hf) |>.symm
  obtain rfl : fn = Tryd.f4 := (Option.some.inj (Tryd.func4.symm.trans hfn)).symm
  refine ⟨by kernel_rfl, fun j t ht => ?_⟩
  rw [params_are] at ht
  have hm : t ∈ [30, 35] := by simpa using Array.mem_of_getElem? ht
  have hall : ([30, 35].all fun u => !Tryd.prog.wantsStandIn u) = true := by kernel_rfl
  exact (show Tryd.prog.wantsStandIn t = false by simpa using List.all_eq_true.1 hall t hm)
/-- The tied card. -/
theorem card_holds : Rows.BatchSoundnessCardSaid :=
  Claim7.holds_tied_plain_at .later [] _ _ _ _ said (fun _ h => by cases h) (by kernel_rfl) (fun _ h => by cases h) batchSoundness_row_tie rfl ⟨rfl, rfl⟩ (by kernel_rfl) rfl plain (by kernel_rfl)
end Go.Proofs.YtipaecageimnnaaDoor.batchSoundness
