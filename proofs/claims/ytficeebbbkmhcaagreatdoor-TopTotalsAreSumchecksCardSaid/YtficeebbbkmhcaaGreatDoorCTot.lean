/-
  TopTotalsAreSumchecks: for every input the law returns true and leaves its arguments as they were; the one variable that it lists holds what the program's text lays (the tied card).
-/
import Derived.Test.YtficeebbbkmhcaaGreatDoorCards
import Derived.Test.YtficeebbbkmhcaaGreatDoorTie
import Derived.Test.YtficeebbbkmhcaaGreatDoorEn
import Derived.Test.YtficeebbbkmhcaaGreatDoorQy15
import Derived.ProofKit
import Derived.SevenTiedAt
import Derived.LaidMore
import Derived.OpenShut
import Derived.JoinedOf
import Derived.Stop.Joined
namespace Go.Proofs.YtficeebbbkmhcaaGreatDoor.topTotalsAreSumchecks
open Go.ChangeShapes Go.WideShapes Go.RowKit

theorem own : ownKnob Tryz.prog.godebug = none := by kernel_rfl
theorem bool_row : Tryz.prog.underlying 4 = some .bool := by kernel_rfl
theorem params_are : Tryz.f3.params = #[22, 5, 23] := by kernel_rfl
set_option maxRecDepth 100000 in
theorem walk (W : World) (base : Nat) (args : Array Value) (hval : ∀ (j : Nat) t v, Tryz.f3.params[j]? = some t → args[j]? = some v → Value.okWide Tryz.prog W .any base t v)
    (hA : ArgsOk Tryz.prog W Tryz.f3.params.toList args.toList) (hL : laidMetH Tryz.prog [("math/bits.deBruijn32tab", Rows.laid_math_bits_deBruijn32tab), ("math/bits.deBruijn64tab", Rows.laid_math_bits_deBruijn64tab), ("internal/strconv.uint64pow10", Rows.laid_internal_strconv_uint64pow10), ("strconv.ErrRange", Rows.laid_strconv_ErrRange), ("strconv.ErrSyntax", Rows.laid_strconv_ErrSyntax), ("attestor/typecheck.widths", Rows.laid_attestor_typecheck_widths)] W) : Calls Tryz.prog 3 args W (Ret (.bool true) W) := by
  rw [params_are] at hA hval
  obtain ⟨hlen, hA⟩ := hA
  obtain ⟨l⟩ := args
  simp only [List.length_cons, List.length_nil] at hlen
  match l, hlen, hval, hA with
  | [v0, v1, v2], _, hval, hA =>
    obtain ⟨a0, l0, c0, rfl⟩ := okWide_slice Tryz.underlying22 (hval 0 _ _ rfl rfl)
    obtain ⟨n0, ho0⟩ := hA 0 _ _ rfl rfl
    obtain ⟨v0, hv0, R0, hR0⟩ := okd_ops15 ho0
    obtain rfl : Value.slice a0 l0 c0 = v0 := by simpa [Value.cells] using hv0
    obtain ⟨z1, rfl⟩ := okWide_int Tryz.underlying5 (hval 1 _ _ rfl rfl)
    obtain ⟨n1, ho1⟩ := hA 1 _ _ rfl rfl
    obtain ⟨y1, hy1, hz1⟩ := okd_int Tryz.underlying5 ho1
    obtain rfl : z1 = y1 := by simpa [Value.cells] using hy1
    obtain ⟨hz1a, hz1b⟩ := wf_u8 hz1
    obtain ⟨a2, l2, c2, rfl⟩ := okWide_slice Tryz.underlying23 (hval 2 _ _ rfl rfl)
    obtain ⟨n2, ho2⟩ := hA 2 _ _ rfl rfl
    obtain ⟨v2, hv2, R2, hR2⟩ := okd_raws ho2
    obtain rfl : Value.slice a2 l2 c2 = v2 := by simpa [Value.cells] using hv2
    exact (by obtain ⟨col, rfl⟩ : ∃ n : Nat, z1 = (n : Int) := ⟨z1.toNat, by omega⟩; exact wkTopTotals R0 hR0.1.2.1 hR0.2 (.slice a0 l0 c0) col (by omega) R2 (.slice a2 l2 c2) W hR0.1 hR2 (lwd_of hL))
theorem lifted (os : Os) (started : os.Started) (H : Type) (enc : TypeId × Value → H) :
    ReturnsInHanded {} Tryz.checked os 3 .any (fun w args => (Rows.topTotalsAreSumchecksSpec.pre enc Tryz.prog Tryz.f3 [] false w args ∧ laidMetH Tryz.prog [("math/bits.deBruijn32tab", Rows.laid_math_bits_deBruijn32tab), ("math/bits.deBruijn64tab", Rows.laid_math_bits_deBruijn64tab), ("internal/strconv.uint64pow10", Rows.laid_internal_strconv_uint64pow10), ("strconv.ErrRange", Rows.laid_strconv_ErrRange), ("strconv.ErrSyntax", Rows.laid_strconv_ErrSyntax), ("attestor/typecheck.widths", Rows.laid_attestor_typecheck_widths)] w) ∧ sizedMet enc Tryz.prog Tryz.f3 (OpenSpec.ofChange Rows.topTotalsAreSumchecksSpec) false w args)
      (Rows.topTotalsAreSumchecksSpec.post enc Tryz.prog Tryz.f3 false true false false) :=
  law_lifted (C := Tryz.checked) own (by kernel_rfl) Tryz.func3 (by kernel_rfl) rfl (by kernel_rfl) (tb := 4) (by kernel_rfl) bool_row
    (fun H ds h => by
      rw [params_are] at h
      match ds, h with
      | [_, _, _], _ => rfl)
    walk os started H enc
    (ChangeSpec.witness_shaped (enc := enc) (C := Tryz.checked) (os := os) (X := fun w _ => laidMetH Tryz.prog [("math/bits.deBruijn32tab", Rows.laid_math_bits_deBruijn32tab), ("math/bits.deBruijn64tab", Rows.laid_math_bits_deBruijn64tab), ("internal/strconv.uint64pow10", Rows.laid_internal_strconv_uint64pow10), ("strconv.ErrRange", Rows.laid_strconv_ErrRange), ("strconv.ErrSyntax", Rows.laid_strconv_ErrSyntax), ("attestor/typecheck.widths", Rows.laid_attestor_typecheck_widths)] w) false (World.doorLaid Tryz.prog 400 os) #[.slice none 0 0, .int .u8 0, .slice none 0 0] 8 rfl (World.shaped_of_RefB (by kernel_rfl) (by kernel_rfl)) (by kernel_rfl) (by kernel_rfl) (by kernel_rfl)
      (laidMetH_of_parts3 (fuel := 8) (laidMet_of_run' 8 (by kernel_rfl) (by kernel_rfl)) (by kernel_rfl) (by kernel_rfl)))
theorem said : Rows.TopTotalsAreSumchecksSaid :=
  OpenClaim.holds_of_wide 3 Tryz.f3 rfl rfl rfl rfl rfl rfl rfl ⟨rfl, rfl, rfl, rfl, rfl⟩ rfl rfl rfl rfl rfl (by kernel_rfl) Tryz.func3 (by kernel_rfl)
    (of_decide_eq_true (by kernel_rfl)) (by unfold Func.isWrapper; first | (rw [if_pos (by decide +kernel)]; kernel_rfl) | (rw [if_neg (by decide +kernel)]; exact ⟨rfl, rfl⟩))
    (fun os started H enc _ => lifted os started H enc)
theorem plain (f : FuncId) (fn : Func) (hf : Tryz.pinned.checked.prog.funcNamed "attestor/attestortop.TopTotalsAreSumchecks" = some f) (hfn : Tryz.pinned.checked.prog.funcs[f]? = some fn) :
    true = Tryz.pinned.checked.prog.looks [] ∧ ∀ (j : Nat) t, fn.params[j]? = some t → Tryz.pinned.checked.prog.wantsStandIn t = false := by
  obtain rfl : f = 3 := Option.some.inj ((show Tryz.prog.funcNamed "attestor/attestortop.TopTotalsAreSumchecks" = some 3 by kernel_rfl).symm.trans hf) |>.symm
  obtain rfl : fn = Tryz.f3 := (Option.some.inj (Tryz.func3.symm.trans hfn)).symm
  refine ⟨by kernel_rfl, fun j t ht => ?_⟩
  rw [params_are] at ht
  have hm : t ∈ [22, 5, 23] := by simpa using Array.mem_of_getElem? ht
  have hall : ([22, 5, 23].all fun u => !Tryz.prog.wantsStandIn u) = true := by kernel_rfl
  exact (show Tryz.prog.wantsStandIn t = false by simpa using List.all_eq_true.1 hall t hm)
/-- The tied card. -/
theorem card_holds : Rows.TopTotalsAreSumchecksCardSaid :=
  Claim7.holds_tied_plain_at .later [] _ _ _ _ said (fun _ h => by cases h) (by kernel_rfl) (fun _ h => by cases h) topTotalsAreSumchecks_row_tie rfl ⟨rfl, rfl⟩ (by kernel_rfl) rfl plain (by kernel_rfl)
end Go.Proofs.YtficeebbbkmhcaaGreatDoor.topTotalsAreSumchecks
