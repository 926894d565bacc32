/-
  No cell of these rows narrows 'for every input' (looked for: loops, veiled, ifaces, maps, wideKeys, modest, calm, conditions, laid).
  DERIVED. THE GIVEN ROWS OF THIS SEAT. 6 by the template 'for every input the law returns true; each argument reads behind the call as it read before'; 0 by the template 'total and deterministic' (their statements: YtilelegcniefcaaTotals.lean).
  GIVEN WITH THE SEED: the statements are not yours to turn. If you find one false, say at which input.
  Laid BY PROGRAM, IN A SANDBOX (cutbox-rows.mjs): the forced cells as the released guide's own fill.sh prints them over the translation 885d4652e596df31… (all of the seat's roots in one cut). By AI agents, Wed Nov 11 2026. No macro, syntax, notation, axiom, sorry.
-/
import Derived.Test.YtilelegcniefcaaChecked
import GoSem.Claim
import GoSem.ClaimJoined
import GoSem.ClaimMapViews
import Derived.JoinedTies
import Derived.KernelRfl
namespace Go.Proofs.Ytilelegcniefcaa
/- THE CELL 'sum', in the pinned program and in every row, IS THE sha256 OF THE DUMP (.gsa) THAT YtilelegcniefcaaProg.lean LOADS. Nothing in Lean hashes anything: it is a label: what it is worth is what the hold of that sum in a sandbox is worth. -/
noncomputable def Try.pinned : Pinned := { name := "ytilelegcniefcaa", sum := "885d4652e596df314bae8db338e0bff4198223e7c7c3df8c93ded0bf1cc6ccda", checked := Try.checked }
namespace Rows
def none {H : Type} : Left H := { results := [], args := [] }

/-- 'attestorlaw06.SumcheckMatchesReference': WHATEVER THE INPUT: true; the input reads as it did. -/
def sumcheckMatchesReferenceSpec : ChangeSpec := { name := "sumcheckMatchesReference", fn := fun _ => fun
  | [d1, d2, d3] => { results := [.lit (.bool true)], args := [d1, d2, d3] }
  | _ => none }
def sumcheckMatchesReferenceRow : OpenClaim := { program := "ytilelegcniefcaa", sum := "885d4652e596df314bae8db338e0bff4198223e7c7c3df8c93ded0bf1cc6ccda", func := "attestor/attestorlaw06.SumcheckMatchesReference", spec := "sumcheckMatchesReference", inPlace := ["math/bits.Sub64", "math/bits.Add64"], unfollowed := true, recurses := true, apart := false }
def SumcheckMatchesReferenceSaid : Prop := sumcheckMatchesReferenceRow.holds Try.pinned (OpenSpec.ofChange sumcheckMatchesReferenceSpec)

/-- ITS FALSE NEIGHBOUR: 'it returns false'. Refute it at one input. -/
def sumcheckMatchesReferenceWrong : ChangeSpec := { name := "sumcheckMatchesReference", fn := fun _ => fun
  | [d1, d2, d3] => { results := [.lit (.bool false)], args := [d1, d2, d3] }
  | _ => none }
def SumcheckMatchesReferenceWrongFalsely : Prop := sumcheckMatchesReferenceRow.holds Try.pinned (OpenSpec.ofChange sumcheckMatchesReferenceWrong)

/-- 'attestorlaw06.SumcheckVerifyMatchesReference': WHATEVER THE INPUT: true; the input reads as it did. -/
def sumcheckVerifyMatchesReferenceSpec : ChangeSpec := { name := "sumcheckVerifyMatchesReference", fn := fun _ => fun
  | [d1, d2, d3] => { results := [.lit (.bool true)], args := [d1, d2, d3] }
  | _ => none }
def sumcheckVerifyMatchesReferenceRow : OpenClaim := { program := "ytilelegcniefcaa", sum := "885d4652e596df314bae8db338e0bff4198223e7c7c3df8c93ded0bf1cc6ccda", func := "attestor/attestorlaw06.SumcheckVerifyMatchesReference", spec := "sumcheckVerifyMatchesReference", inPlace := ["math/bits.Sub64", "math/bits.Add64"], unfollowed := true, recurses := true, apart := false }
def SumcheckVerifyMatchesReferenceSaid : Prop := sumcheckVerifyMatchesReferenceRow.holds Try.pinned (OpenSpec.ofChange sumcheckVerifyMatchesReferenceSpec)

/-- ITS FALSE NEIGHBOUR: 'it returns false'. Refute it at one input. -/
def sumcheckVerifyMatchesReferenceWrong : ChangeSpec := { name := "sumcheckVerifyMatchesReference", fn := fun _ => fun
  | [d1, d2, d3] => { results := [.lit (.bool false)], args := [d1, d2, d3] }
  | _ => none }
def SumcheckVerifyMatchesReferenceWrongFalsely : Prop := sumcheckVerifyMatchesReferenceRow.holds Try.pinned (OpenSpec.ofChange sumcheckVerifyMatchesReferenceWrong)

/-- 'attestorlaw06.SumcheckCompleteness': WHATEVER THE INPUT: true; the input reads as it did. -/
def sumcheckCompletenessSpec : ChangeSpec := { name := "sumcheckCompleteness", fn := fun _ => fun
  | [d1, d2] => { results := [.lit (.bool true)], args := [d1, d2] }
  | _ => none }
def sumcheckCompletenessRow : OpenClaim := { program := "ytilelegcniefcaa", sum := "885d4652e596df314bae8db338e0bff4198223e7c7c3df8c93ded0bf1cc6ccda", func := "attestor/attestorlaw06.SumcheckCompleteness", spec := "sumcheckCompleteness", inPlace := ["math/bits.Sub64", "math/bits.Add64"], unfollowed := true, recurses := true, apart := false }
def SumcheckCompletenessSaid : Prop := sumcheckCompletenessRow.holds Try.pinned (OpenSpec.ofChange sumcheckCompletenessSpec)

/-- ITS FALSE NEIGHBOUR: 'it returns false'. Refute it at one input. -/
def sumcheckCompletenessWrong : ChangeSpec := { name := "sumcheckCompleteness", fn := fun _ => fun
  | [d1, d2] => { results := [.lit (.bool false)], args := [d1, d2] }
  | _ => none }
def SumcheckCompletenessWrongFalsely : Prop := sumcheckCompletenessRow.holds Try.pinned (OpenSpec.ofChange sumcheckCompletenessWrong)

/-- 'attestorlaw06.SumcheckRoundPolynomial': WHATEVER THE INPUT: true; the input reads as it did. -/
def sumcheckRoundPolynomialSpec : ChangeSpec := { name := "sumcheckRoundPolynomial", fn := fun _ => fun
  | [d1, d2] => { results := [.lit (.bool true)], args := [d1, d2] }
  | _ => none }
def sumcheckRoundPolynomialRow : OpenClaim := { program := "ytilelegcniefcaa", sum := "885d4652e596df314bae8db338e0bff4198223e7c7c3df8c93ded0bf1cc6ccda", func := "attestor/attestorlaw06.SumcheckRoundPolynomial", spec := "sumcheckRoundPolynomial", inPlace := ["math/bits.Sub64", "math/bits.Add64"], unfollowed := true, recurses := true, apart := false }
def SumcheckRoundPolynomialSaid : Prop := sumcheckRoundPolynomialRow.holds Try.pinned (OpenSpec.ofChange sumcheckRoundPolynomialSpec)

/-- ITS FALSE NEIGHBOUR: 'it returns false'. Refute it at one input. -/
def sumcheckRoundPolynomialWrong : ChangeSpec := { name := "sumcheckRoundPolynomial", fn := fun _ => fun
  | [d1, d2] => { results := [.lit (.bool false)], args := [d1, d2] }
  | _ => none }
def SumcheckRoundPolynomialWrongFalsely : Prop := sumcheckRoundPolynomialRow.holds Try.pinned (OpenSpec.ofChange sumcheckRoundPolynomialWrong)

/-- 'attestorlaw06.SumcheckRejectsWrongClaims': WHATEVER THE INPUT: true; the input reads as it did. -/
def sumcheckRejectsWrongClaimsSpec : ChangeSpec := { name := "sumcheckRejectsWrongClaims", fn := fun _ => fun
  | [d1, d2, d3] => { results := [.lit (.bool true)], args := [d1, d2, d3] }
  | _ => none }
def sumcheckRejectsWrongClaimsRow : OpenClaim := { program := "ytilelegcniefcaa", sum := "885d4652e596df314bae8db338e0bff4198223e7c7c3df8c93ded0bf1cc6ccda", func := "attestor/attestorlaw06.SumcheckRejectsWrongClaims", spec := "sumcheckRejectsWrongClaims", inPlace := ["math/bits.Sub64", "math/bits.Add64"], unfollowed := true, recurses := true, apart := false }
def SumcheckRejectsWrongClaimsSaid : Prop := sumcheckRejectsWrongClaimsRow.holds Try.pinned (OpenSpec.ofChange sumcheckRejectsWrongClaimsSpec)

/-- ITS FALSE NEIGHBOUR: 'it returns false'. Refute it at one input. -/
def sumcheckRejectsWrongClaimsWrong : ChangeSpec := { name := "sumcheckRejectsWrongClaims", fn := fun _ => fun
  | [d1, d2, d3] => { results := [.lit (.bool false)], args := [d1, d2, d3] }
  | _ => none }
def SumcheckRejectsWrongClaimsWrongFalsely : Prop := sumcheckRejectsWrongClaimsRow.holds Try.pinned (OpenSpec.ofChange sumcheckRejectsWrongClaimsWrong)

/-- 'attestorlaw06.SumcheckLinearity': WHATEVER THE INPUT: true; the input reads as it did. -/
def sumcheckLinearitySpec : ChangeSpec := { name := "sumcheckLinearity", fn := fun _ => fun
  | [d1, d2, d3] => { results := [.lit (.bool true)], args := [d1, d2, d3] }
  | _ => none }
def sumcheckLinearityRow : OpenClaim := { program := "ytilelegcniefcaa", sum := "885d4652e596df314bae8db338e0bff4198223e7c7c3df8c93ded0bf1cc6ccda", func := "attestor/attestorlaw06.SumcheckLinearity", spec := "sumcheckLinearity", inPlace := ["math/bits.Sub64", "math/bits.Add64"], unfollowed := true, recurses := true, apart := false }
def SumcheckLinearitySaid : Prop := sumcheckLinearityRow.holds Try.pinned (OpenSpec.ofChange sumcheckLinearitySpec)

/-- ITS FALSE NEIGHBOUR: 'it returns false'. Refute it at one input. -/
def sumcheckLinearityWrong : ChangeSpec := { name := "sumcheckLinearity", fn := fun _ => fun
  | [d1, d2, d3] => { results := [.lit (.bool false)], args := [d1, d2, d3] }
  | _ => none }
def SumcheckLinearityWrongFalsely : Prop := sumcheckLinearityRow.holds Try.pinned (OpenSpec.ofChange sumcheckLinearityWrong)

/- THE SECOND FORM. 'bulk': how many values and letters a reading holds, each counted each time it is reached (what is shared counts as often as it is met; a slice's spare places count too). A statement '..UptoSaid' is the law's where the arguments, and the package variables that the reading takes, are together of bulk at most 1048576: NARROWER than '..Said'. Prove '..Said' where nothing that the law and all that it calls make is longer than what came in: it says more and counts as full. Else prove '..UptoSaid'. A law counts once. -/
mutual
def uptoBulk {H : Type} : DataW H → Nat
  | .lit (.string bytes) => bytes.length + 1
  | .lit _ => 1
  | .nil => 1
  | .ptr d => uptoBulk d + 1
  | .slice elems spare => uptoBulkAll elems + uptoBulkAll spare + 1
  | .agg parts => uptoBulkAll parts + 1
  | .iface _ d => uptoBulk d + 1
  | .map entries => uptoBulkEntries entries + 1
  | .held _ => 1
def uptoBulkAll {H : Type} : List (DataW H) → Nat
  | [] => 0
  | d :: r => uptoBulk d + uptoBulkAll r
def uptoBulkEntries {H : Type} : List (Lit × DataW H) → Nat
  | [] => 0
  | x :: r => uptoBulkEntry x + uptoBulkEntries r
def uptoBulkEntry {H : Type} : Lit × DataW H → Nat
  | (.string bytes, d) => bytes.length + uptoBulk d + 1
  | (_, d) => uptoBulk d + 1
 end
def uptoSmall : (H : Type) → List (DataW H) → Bool := fun _ ds => decide (uptoBulkAll ds ≤ 1048576)
def OpenSpec.upto (s : _root_.Go.ChangeSpec) : _root_.Go.OpenSpec := { _root_.Go.OpenSpec.ofChange s with cond := some uptoSmall }

/-- 'attestorlaw06.SumcheckMatchesReference', WHERE WHAT IT READS IS OF BULK AT MOST 1048576: true; the input reads as it did. -/
def sumcheckMatchesReferenceUptoRow : OpenClaim := { program := "ytilelegcniefcaa", sum := "885d4652e596df314bae8db338e0bff4198223e7c7c3df8c93ded0bf1cc6ccda", func := "attestor/attestorlaw06.SumcheckMatchesReference", spec := "sumcheckMatchesReference", inPlace := ["math/bits.Sub64", "math/bits.Add64"], unfollowed := true, recurses := true, apart := false, narrowed := true }
def SumcheckMatchesReferenceUptoSaid : Prop := sumcheckMatchesReferenceUptoRow.holds Try.pinned (OpenSpec.upto sumcheckMatchesReferenceSpec)

/-- 'attestorlaw06.SumcheckVerifyMatchesReference', WHERE WHAT IT READS IS OF BULK AT MOST 1048576: true; the input reads as it did. -/
def sumcheckVerifyMatchesReferenceUptoRow : OpenClaim := { program := "ytilelegcniefcaa", sum := "885d4652e596df314bae8db338e0bff4198223e7c7c3df8c93ded0bf1cc6ccda", func := "attestor/attestorlaw06.SumcheckVerifyMatchesReference", spec := "sumcheckVerifyMatchesReference", inPlace := ["math/bits.Sub64", "math/bits.Add64"], unfollowed := true, recurses := true, apart := false, narrowed := true }
def SumcheckVerifyMatchesReferenceUptoSaid : Prop := sumcheckVerifyMatchesReferenceUptoRow.holds Try.pinned (OpenSpec.upto sumcheckVerifyMatchesReferenceSpec)

/-- 'attestorlaw06.SumcheckCompleteness', WHERE WHAT IT READS IS OF BULK AT MOST 1048576: true; the input reads as it did. -/
def sumcheckCompletenessUptoRow : OpenClaim := { program := "ytilelegcniefcaa", sum := "885d4652e596df314bae8db338e0bff4198223e7c7c3df8c93ded0bf1cc6ccda", func := "attestor/attestorlaw06.SumcheckCompleteness", spec := "sumcheckCompleteness", inPlace := ["math/bits.Sub64", "math/bits.Add64"], unfollowed := true, recurses := true, apart := false, narrowed := true }
def SumcheckCompletenessUptoSaid : Prop := sumcheckCompletenessUptoRow.holds Try.pinned (OpenSpec.upto sumcheckCompletenessSpec)

/-- 'attestorlaw06.SumcheckRoundPolynomial', WHERE WHAT IT READS IS OF BULK AT MOST 1048576: true; the input reads as it did. -/
def sumcheckRoundPolynomialUptoRow : OpenClaim := { program := "ytilelegcniefcaa", sum := "885d4652e596df314bae8db338e0bff4198223e7c7c3df8c93ded0bf1cc6ccda", func := "attestor/attestorlaw06.SumcheckRoundPolynomial", spec := "sumcheckRoundPolynomial", inPlace := ["math/bits.Sub64", "math/bits.Add64"], unfollowed := true, recurses := true, apart := false, narrowed := true }
def SumcheckRoundPolynomialUptoSaid : Prop := sumcheckRoundPolynomialUptoRow.holds Try.pinned (OpenSpec.upto sumcheckRoundPolynomialSpec)

/-- 'attestorlaw06.SumcheckRejectsWrongClaims', WHERE WHAT IT READS IS OF BULK AT MOST 1048576: true; the input reads as it did. -/
def sumcheckRejectsWrongClaimsUptoRow : OpenClaim := { program := "ytilelegcniefcaa", sum := "885d4652e596df314bae8db338e0bff4198223e7c7c3df8c93ded0bf1cc6ccda", func := "attestor/attestorlaw06.SumcheckRejectsWrongClaims", spec := "sumcheckRejectsWrongClaims", inPlace := ["math/bits.Sub64", "math/bits.Add64"], unfollowed := true, recurses := true, apart := false, narrowed := true }
def SumcheckRejectsWrongClaimsUptoSaid : Prop := sumcheckRejectsWrongClaimsUptoRow.holds Try.pinned (OpenSpec.upto sumcheckRejectsWrongClaimsSpec)

/-- 'attestorlaw06.SumcheckLinearity', WHERE WHAT IT READS IS OF BULK AT MOST 1048576: true; the input reads as it did. -/
def sumcheckLinearityUptoRow : OpenClaim := { program := "ytilelegcniefcaa", sum := "885d4652e596df314bae8db338e0bff4198223e7c7c3df8c93ded0bf1cc6ccda", func := "attestor/attestorlaw06.SumcheckLinearity", spec := "sumcheckLinearity", inPlace := ["math/bits.Sub64", "math/bits.Add64"], unfollowed := true, recurses := true, apart := false, narrowed := true }
def SumcheckLinearityUptoSaid : Prop := sumcheckLinearityUptoRow.holds Try.pinned (OpenSpec.upto sumcheckLinearitySpec)

end Rows
end Go.Proofs.Ytilelegcniefcaa
