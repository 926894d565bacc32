/-
  BatchRejectsFalseClaims: for every input the law returns true and leaves its arguments as they were; the one variable that it lists holds what the program's text lays (the tied card).
-/
import Derived.Test.YtipaecageimnnaaDoorCards
import Derived.Test.YtipaecageimnnaaDoorTie
import Derived.Test.YtipaecageimnnaaDoorLaw
import Derived.Test.YtipaecageimnnaaDoorQy8
import Derived.Test.YtipaecageimnnaaDoorLBr
import Derived.ProofKit
import Derived.SevenTiedAt
import Derived.LaidMore
import Derived.OpenShut
import Derived.JoinedOf
import Derived.Stop.Joined
namespace Go.Proofs.YtipaecageimnnaaDoor.batchRejectsFalseClaims
open Go.ChangeShapes Go.WideShapes Go.RowKit

theorem own : ownKnob Tryd.prog.godebug = none := by kernel_rfl
theorem bool_row : Tryd.prog.underlying 4 = some .bool := by kernel_rfl
theorem params_are : Tryd.f5.params = #[30, 5, 26] := by kernel_rfl
set_option maxRecDepth 100000 in
theorem walk (W : World) (base : Nat) (args : Array Value) (hval : ∀ (j : Nat) t v, Tryd.f5.params[j]? = some t → args[j]? = some v → Value.okWide Tryd.prog W .any base t v)
    (hA : ArgsOk Tryd.prog W Tryd.f5.params.toList args.toList) (hL : laidMetH Tryd.prog [("attestor/mle.one", Rows.laid_attestor_mle_one)] W) : Calls Tryd.prog 5 args W (Ret (.bool true) W) := by
  rw [params_are] at hA hval
  obtain ⟨hlen, hA⟩ := hA
  obtain ⟨l⟩ := args
  simp only [List.length_cons, List.length_nil] at hlen
  match l, hlen, hval, hA with
  | [v0, v1, v2], _, hval, hA =>
    obtain ⟨cs0, rfl, _⟩ := okWide_struct Tryd.underlying30 (hval 0 _ _ rfl rfl)
    obtain ⟨n0, ho0⟩ := hA 0 _ _ rfl rfl
    obtain ⟨q, vT, vL, vC, hcs0, hq⟩ := okd_in21 ho0
    obtain rfl : cs0 = #[vT, vL, .int .u64 q.R.1, .int .u64 q.R.2, vC, .int .u8 (q.N : Int)] := Array.ext' hcs0
    obtain ⟨z1, rfl⟩ := okWide_int Tryd.underlying5 (hval 1 _ _ rfl rfl)
    obtain ⟨n1, ho1⟩ := hA 1 _ _ rfl rfl
    obtain ⟨y1, hy1, hz1⟩ := okd_int Tryd.underlying5 ho1
    obtain rfl : z1 = y1 := by simpa [Value.cells] using hy1
    obtain ⟨hz1a, hz1b⟩ := wf_u8 hz1
    obtain ⟨cs2, rfl, _⟩ := okWide_struct Tryd.underlying26 (hval 2 _ _ rfl rfl)
    obtain ⟨n2, ho2⟩ := hA 2 _ _ rfl rfl
    obtain ⟨r2, hr2, hcs2⟩ := okd_raw ho2
    obtain rfl : cs2 = #[.int .u64 r2.1, .int .u64 r2.2] := Array.ext' hcs2
    exact (by obtain ⟨m1, rfl⟩ : ∃ m : Nat, z1 = (m : Int) := ⟨z1.toNat, (Int.toNat_of_nonneg hz1a).symm⟩; exact wkBatchRejects q vT vL vC m1 (by omega) r2 hr2 W hq (laid_of hL))
theorem lifted (os : Os) (started : os.Started) (H : Type) (enc : TypeId × Value → H) :
    ReturnsInHanded {} Tryd.checked os 5 .any (fun w args => (Rows.batchRejectsFalseClaimsSpec.pre enc Tryd.prog Tryd.f5 [] false w args ∧ laidMetH Tryd.prog [("attestor/mle.one", Rows.laid_attestor_mle_one)] w) ∧ sizedMet enc Tryd.prog Tryd.f5 (OpenSpec.ofChange Rows.batchRejectsFalseClaimsSpec) false w args)
      (Rows.batchRejectsFalseClaimsSpec.post enc Tryd.prog Tryd.f5 false true false false) :=
  law_lifted (C := Tryd.checked) own (by kernel_rfl) Tryd.func5 (by kernel_rfl) rfl (by kernel_rfl) (tb := 4) (by kernel_rfl) bool_row
    (fun H ds h => by
      rw [params_are] at h
      match ds, h with
      | [_, _, _], _ => rfl)
    walk os started H enc
    (ChangeSpec.witness_shaped (enc := enc) (C := Tryd.checked) (os := os) (X := fun w _ => laidMetH Tryd.prog [("attestor/mle.one", Rows.laid_attestor_mle_one)] w) false (World.doorLaid Tryd.prog 400 os) #[.agg #[.slice none 0 0, .slice none 0 0, .int .u64 0, .int .u64 0, .slice none 0 0, .int .u8 0], .int .u8 0, .agg #[.int .u64 0, .int .u64 0]] 8 rfl (World.shaped_of_RefB (by kernel_rfl) (by kernel_rfl)) (by kernel_rfl) (by kernel_rfl) (by kernel_rfl)
      (laidMetH_of_parts3 (fuel := 8) (laidMet_of_run' 8 (by kernel_rfl) (by kernel_rfl)) (by kernel_rfl) (by kernel_rfl)))
theorem said : Rows.BatchRejectsFalseClaimsSaid :=
  OpenClaim.holds_of_wide 5 Tryd.f5 rfl rfl rfl rfl rfl rfl rfl ⟨rfl, rfl, rfl, rfl, rfl⟩ rfl rfl rfl rfl rfl (by kernel_rfl) Tryd.func5 (by kernel_rfl)
    (of_decide_eq_true (by kernel_rfl)) (by unfold Func.isWrapper; first | (rw [if_pos (by decide +kernel)]; kernel_rfl) | (rw [if_neg (by decide +kernel)]; exact ⟨rfl, rfl⟩))
    (fun os started H enc _ => lifted os started H enc)
theorem plain (f : FuncId) (fn : Func) (hf : Tryd.pinned.checked.prog.funcNamed "attestor/attestorlaw21.BatchRejectsFalseClaims" = some f) (hfn : Tryd.pinned.checked.prog.funcs[f]? = some fn) :
    false = Tryd.pinned.checked.prog.looks [] ∧ ∀ (j : Nat) t, fn.params[j]? = some t → Tryd.pinned.checked.prog.wantsStandIn t = false := by
  obtain rfl : f = 5 := Option.some.inj ((show Tryd.prog.funcNamed "attestor/attestorlaw21.BatchRejectsFalseClaims" = some 5 by kernel_rfl).symm.trans hf) |>.symm
  obtain rfl : fn = Tryd.f5 := (Option.some.inj (Tryd.func5.symm.trans hfn)).symm
  refine ⟨by kernel_rfl, fun j t ht => ?_⟩
  rw [params_are] at ht
  have hm : t ∈ [30, 5, 26] := by simpa using Array.mem_of_getElem? ht
  have hall : ([30, 5, 26].all fun u => !Tryd.prog.wantsStandIn u) = true := by kernel_rfl
  exact (show Tryd.prog.wantsStandIn t = false by simpa using List.all_eq_true.1 hall t hm)
/-- The tied card. -/
theorem card_holds : Rows.BatchRejectsFalseClaimsCardSaid :=
  Claim7.holds_tied_plain_at .later [] _ _ _ _ said (fun _ h => by cases h) (by kernel_rfl) (fun _ h => by cases h) batchRejectsFalseClaims_row_tie rfl ⟨rfl, rfl⟩ (by kernel_rfl) rfl plain (by kernel_rfl)
end Go.Proofs.YtipaecageimnnaaDoor.batchRejectsFalseClaims
