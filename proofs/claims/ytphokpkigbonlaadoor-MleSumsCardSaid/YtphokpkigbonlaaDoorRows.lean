/-
  NARROWER THAN 'FOR EVERY INPUT', by the rows' own cells (each row's printed sentence says how): MleMatchesReference: laid · MleExtension: laid · MleBinding: laid · MleLinear: laid · MleWeights: laid · MleEquality: laid · MleStreaming: laid · MleLines: laid · MleSums: laid.
  DERIVED. THE GIVEN ROWS OF THIS SEAT. 9 by the template 'for every input the law returns true; each argument reads behind the call as it read before'; 0 by the template 'total and deterministic' (their statements: YtphokpkigbonlaaDoorTotals.lean).
  GIVEN WITH THE SEED: the statements are not yours to turn. If you find one false, say at which input.
  Laid BY PROGRAM, IN A SANDBOX (cutbox-rows.mjs): the forced cells as the released guide's own fill.sh prints them over the translation 2d844e3428c44c6d… (all of the seat's roots in one cut). By AI agents, Wed Nov 11 2026. No macro, syntax, notation, axiom, sorry.
-/
import Derived.Test.YtphokpkigbonlaaDoorChecked
import GoSem.Claim
import GoSem.ClaimJoined
import GoSem.ClaimMapViews
import Derived.JoinedTies
import Derived.KernelRfl
namespace Go.Proofs.YtphokpkigbonlaaDoor
/- THE CELL 'sum', in the pinned program and in every row, IS THE sha256 OF THE DUMP (.gsa) THAT YtphokpkigbonlaaDoorProg.lean LOADS. Nothing in Lean hashes anything: it is a label: what it is worth is what the hold of that sum in a sandbox is worth. -/
noncomputable def Tryd.pinned : Pinned := { name := "ytphokpkigbonlaadoor", sum := "2d844e3428c44c6d1be552c86b728e2df5c0a68f6bb8afc6e3fa2a58ee303f30", checked := Tryd.checked }
namespace Rows
def none {H : Type} : Left H := { results := [], args := [] }

/- WHAT THE LISTED PACKAGE-LEVEL VARIABLES READ AS WHEN THE CALL BEGINS. Each datum BY PROGRAM (the guide's laid-datum.mjs) off the statement by which the dump's own 'gosem.cut.vars' lays the variable. In a bare row this is a premise. The card (YtphokpkigbonlaaDoorCards.lean) ties it to the program's text. -/
def laid_attestor_mle_one {H : Type} : DataW H := .agg [.lit (.int .u64 1), .lit (.int .u64 0)]

/-- 'attestorlaw05.MleMatchesReference': WHATEVER THE INPUT: true; the input reads as it did. -/
def mleMatchesReferenceSpec : ChangeSpec := { name := "mleMatchesReference", fn := fun _ => fun
  | [d1, d2, d3] => { results := [.lit (.bool true)], args := [d1, d2, d3] }
  | _ => none }
def mleMatchesReferenceRow : OpenClaim := { program := "ytphokpkigbonlaadoor", sum := "2d844e3428c44c6d1be552c86b728e2df5c0a68f6bb8afc6e3fa2a58ee303f30", func := "attestor/attestorlaw05.MleMatchesReference", spec := "mleMatchesReference", inPlace := ["math/bits.Sub64", "math/bits.Add64"], unfollowed := true, recurses := true, named := ["attestor/mle.one"], apart := false, laid := [("attestor/mle.one", laid_attestor_mle_one)] }
def MleMatchesReferenceSaid : Prop := mleMatchesReferenceRow.holds Tryd.pinned (OpenSpec.ofChange mleMatchesReferenceSpec)

/-- ITS FALSE NEIGHBOUR: 'it returns false'. Refute it at one input. -/
def mleMatchesReferenceWrong : ChangeSpec := { name := "mleMatchesReference", fn := fun _ => fun
  | [d1, d2, d3] => { results := [.lit (.bool false)], args := [d1, d2, d3] }
  | _ => none }
def MleMatchesReferenceWrongFalsely : Prop := mleMatchesReferenceRow.holds Tryd.pinned (OpenSpec.ofChange mleMatchesReferenceWrong)

/-- 'attestorlaw05.MleExtension': WHATEVER THE INPUT: true; the input reads as it did. -/
def mleExtensionSpec : ChangeSpec := { name := "mleExtension", fn := fun _ => fun
  | [d1, d2, d3] => { results := [.lit (.bool true)], args := [d1, d2, d3] }
  | _ => none }
def mleExtensionRow : OpenClaim := { program := "ytphokpkigbonlaadoor", sum := "2d844e3428c44c6d1be552c86b728e2df5c0a68f6bb8afc6e3fa2a58ee303f30", func := "attestor/attestorlaw05.MleExtension", spec := "mleExtension", inPlace := ["math/bits.Sub64", "math/bits.Add64"], unfollowed := true, recurses := true, named := ["attestor/mle.one"], apart := false, laid := [("attestor/mle.one", laid_attestor_mle_one)] }
def MleExtensionSaid : Prop := mleExtensionRow.holds Tryd.pinned (OpenSpec.ofChange mleExtensionSpec)

/-- ITS FALSE NEIGHBOUR: 'it returns false'. Refute it at one input. -/
def mleExtensionWrong : ChangeSpec := { name := "mleExtension", fn := fun _ => fun
  | [d1, d2, d3] => { results := [.lit (.bool false)], args := [d1, d2, d3] }
  | _ => none }
def MleExtensionWrongFalsely : Prop := mleExtensionRow.holds Tryd.pinned (OpenSpec.ofChange mleExtensionWrong)

/-- 'attestorlaw05.MleBinding': WHATEVER THE INPUT: true; the input reads as it did. -/
def mleBindingSpec : ChangeSpec := { name := "mleBinding", fn := fun _ => fun
  | [d] => { results := [.lit (.bool true)], args := [d] }
  | _ => none }
def mleBindingRow : OpenClaim := { program := "ytphokpkigbonlaadoor", sum := "2d844e3428c44c6d1be552c86b728e2df5c0a68f6bb8afc6e3fa2a58ee303f30", func := "attestor/attestorlaw05.MleBinding", spec := "mleBinding", inPlace := ["math/bits.Sub64", "math/bits.Add64"], unfollowed := true, recurses := true, named := ["attestor/mle.one"], apart := false, laid := [("attestor/mle.one", laid_attestor_mle_one)] }
def MleBindingSaid : Prop := mleBindingRow.holds Tryd.pinned (OpenSpec.ofChange mleBindingSpec)

/-- ITS FALSE NEIGHBOUR: 'it returns false'. Refute it at one input. -/
def mleBindingWrong : ChangeSpec := { name := "mleBinding", fn := fun _ => fun
  | [d] => { results := [.lit (.bool false)], args := [d] }
  | _ => none }
def MleBindingWrongFalsely : Prop := mleBindingRow.holds Tryd.pinned (OpenSpec.ofChange mleBindingWrong)

/-- 'attestorlaw05.MleLinear': WHATEVER THE INPUT: true; the input reads as it did. -/
def mleLinearSpec : ChangeSpec := { name := "mleLinear", fn := fun _ => fun
  | [d1, d2, d3] => { results := [.lit (.bool true)], args := [d1, d2, d3] }
  | _ => none }
def mleLinearRow : OpenClaim := { program := "ytphokpkigbonlaadoor", sum := "2d844e3428c44c6d1be552c86b728e2df5c0a68f6bb8afc6e3fa2a58ee303f30", func := "attestor/attestorlaw05.MleLinear", spec := "mleLinear", inPlace := ["math/bits.Sub64", "math/bits.Add64"], unfollowed := true, recurses := true, named := ["attestor/mle.one"], apart := false, laid := [("attestor/mle.one", laid_attestor_mle_one)] }
def MleLinearSaid : Prop := mleLinearRow.holds Tryd.pinned (OpenSpec.ofChange mleLinearSpec)

/-- ITS FALSE NEIGHBOUR: 'it returns false'. Refute it at one input. -/
def mleLinearWrong : ChangeSpec := { name := "mleLinear", fn := fun _ => fun
  | [d1, d2, d3] => { results := [.lit (.bool false)], args := [d1, d2, d3] }
  | _ => none }
def MleLinearWrongFalsely : Prop := mleLinearRow.holds Tryd.pinned (OpenSpec.ofChange mleLinearWrong)

/-- 'attestorlaw05.MleWeights': WHATEVER THE INPUT: true; the input reads as it did. -/
def mleWeightsSpec : ChangeSpec := { name := "mleWeights", fn := fun _ => fun
  | [d] => { results := [.lit (.bool true)], args := [d] }
  | _ => none }
def mleWeightsRow : OpenClaim := { program := "ytphokpkigbonlaadoor", sum := "2d844e3428c44c6d1be552c86b728e2df5c0a68f6bb8afc6e3fa2a58ee303f30", func := "attestor/attestorlaw05.MleWeights", spec := "mleWeights", inPlace := ["math/bits.Sub64", "math/bits.Add64"], unfollowed := true, recurses := true, named := ["attestor/mle.one"], apart := false, laid := [("attestor/mle.one", laid_attestor_mle_one)] }
def MleWeightsSaid : Prop := mleWeightsRow.holds Tryd.pinned (OpenSpec.ofChange mleWeightsSpec)

/-- ITS FALSE NEIGHBOUR: 'it returns false'. Refute it at one input. -/
def mleWeightsWrong : ChangeSpec := { name := "mleWeights", fn := fun _ => fun
  | [d] => { results := [.lit (.bool false)], args := [d] }
  | _ => none }
def MleWeightsWrongFalsely : Prop := mleWeightsRow.holds Tryd.pinned (OpenSpec.ofChange mleWeightsWrong)

/-- 'attestorlaw05.MleEquality': WHATEVER THE INPUT: true; the input reads as it did. -/
def mleEqualitySpec : ChangeSpec := { name := "mleEquality", fn := fun _ => fun
  | [d1, d2, d3] => { results := [.lit (.bool true)], args := [d1, d2, d3] }
  | _ => none }
def mleEqualityRow : OpenClaim := { program := "ytphokpkigbonlaadoor", sum := "2d844e3428c44c6d1be552c86b728e2df5c0a68f6bb8afc6e3fa2a58ee303f30", func := "attestor/attestorlaw05.MleEquality", spec := "mleEquality", inPlace := ["math/bits.Sub64", "math/bits.Add64"], unfollowed := true, recurses := true, named := ["attestor/mle.one"], apart := false, laid := [("attestor/mle.one", laid_attestor_mle_one)] }
def MleEqualitySaid : Prop := mleEqualityRow.holds Tryd.pinned (OpenSpec.ofChange mleEqualitySpec)

/-- ITS FALSE NEIGHBOUR: 'it returns false'. Refute it at one input. -/
def mleEqualityWrong : ChangeSpec := { name := "mleEquality", fn := fun _ => fun
  | [d1, d2, d3] => { results := [.lit (.bool false)], args := [d1, d2, d3] }
  | _ => none }
def MleEqualityWrongFalsely : Prop := mleEqualityRow.holds Tryd.pinned (OpenSpec.ofChange mleEqualityWrong)

/-- 'attestorlaw05.MleStreaming': WHATEVER THE INPUT: true; the input reads as it did. -/
def mleStreamingSpec : ChangeSpec := { name := "mleStreaming", fn := fun _ => fun
  | [d1, d2] => { results := [.lit (.bool true)], args := [d1, d2] }
  | _ => none }
def mleStreamingRow : OpenClaim := { program := "ytphokpkigbonlaadoor", sum := "2d844e3428c44c6d1be552c86b728e2df5c0a68f6bb8afc6e3fa2a58ee303f30", func := "attestor/attestorlaw05.MleStreaming", spec := "mleStreaming", inPlace := ["math/bits.Sub64", "math/bits.Add64"], unfollowed := true, recurses := true, named := ["attestor/mle.one"], apart := false, laid := [("attestor/mle.one", laid_attestor_mle_one)] }
def MleStreamingSaid : Prop := mleStreamingRow.holds Tryd.pinned (OpenSpec.ofChange mleStreamingSpec)

/-- ITS FALSE NEIGHBOUR: 'it returns false'. Refute it at one input. -/
def mleStreamingWrong : ChangeSpec := { name := "mleStreaming", fn := fun _ => fun
  | [d1, d2] => { results := [.lit (.bool false)], args := [d1, d2] }
  | _ => none }
def MleStreamingWrongFalsely : Prop := mleStreamingRow.holds Tryd.pinned (OpenSpec.ofChange mleStreamingWrong)

/-- 'attestorlaw05.MleLines': WHATEVER THE INPUT: true; the input reads as it did. -/
def mleLinesSpec : ChangeSpec := { name := "mleLines", fn := fun _ => fun
  | [d1, d2] => { results := [.lit (.bool true)], args := [d1, d2] }
  | _ => none }
def mleLinesRow : OpenClaim := { program := "ytphokpkigbonlaadoor", sum := "2d844e3428c44c6d1be552c86b728e2df5c0a68f6bb8afc6e3fa2a58ee303f30", func := "attestor/attestorlaw05.MleLines", spec := "mleLines", inPlace := ["math/bits.Sub64", "math/bits.Add64"], unfollowed := true, recurses := true, named := ["attestor/mle.one"], apart := false, laid := [("attestor/mle.one", laid_attestor_mle_one)] }
def MleLinesSaid : Prop := mleLinesRow.holds Tryd.pinned (OpenSpec.ofChange mleLinesSpec)

/-- ITS FALSE NEIGHBOUR: 'it returns false'. Refute it at one input. -/
def mleLinesWrong : ChangeSpec := { name := "mleLines", fn := fun _ => fun
  | [d1, d2] => { results := [.lit (.bool false)], args := [d1, d2] }
  | _ => none }
def MleLinesWrongFalsely : Prop := mleLinesRow.holds Tryd.pinned (OpenSpec.ofChange mleLinesWrong)

/-- 'attestorlaw05.MleSums': WHATEVER THE INPUT: true; the input reads as it did. -/
def mleSumsSpec : ChangeSpec := { name := "mleSums", fn := fun _ => fun
  | [d] => { results := [.lit (.bool true)], args := [d] }
  | _ => none }
def mleSumsRow : OpenClaim := { program := "ytphokpkigbonlaadoor", sum := "2d844e3428c44c6d1be552c86b728e2df5c0a68f6bb8afc6e3fa2a58ee303f30", func := "attestor/attestorlaw05.MleSums", spec := "mleSums", inPlace := ["math/bits.Sub64", "math/bits.Add64"], unfollowed := true, recurses := true, named := ["attestor/mle.one"], apart := false, laid := [("attestor/mle.one", laid_attestor_mle_one)] }
def MleSumsSaid : Prop := mleSumsRow.holds Tryd.pinned (OpenSpec.ofChange mleSumsSpec)

/-- ITS FALSE NEIGHBOUR: 'it returns false'. Refute it at one input. -/
def mleSumsWrong : ChangeSpec := { name := "mleSums", fn := fun _ => fun
  | [d] => { results := [.lit (.bool false)], args := [d] }
  | _ => none }
def MleSumsWrongFalsely : Prop := mleSumsRow.holds Tryd.pinned (OpenSpec.ofChange mleSumsWrong)

/- THE SECOND FORM. 'bulk': how many values and letters a reading holds, each counted each time it is reached (what is shared counts as often as it is met; a slice's spare places count too). A statement '..UptoSaid' is the law's where the arguments, and the package variables that the reading takes, are together of bulk at most 1048576: NARROWER than '..Said'. Prove '..Said' where nothing that the law and all that it calls make is longer than what came in: it says more and counts as full. Else prove '..UptoSaid'. A law counts once. -/
mutual
def uptoBulk {H : Type} : DataW H → Nat
  | .lit (.string bytes) => bytes.length + 1
  | .lit _ => 1
  | .nil => 1
  | .ptr d => uptoBulk d + 1
  | .slice elems spare => uptoBulkAll elems + uptoBulkAll spare + 1
  | .agg parts => uptoBulkAll parts + 1
  | .iface _ d => uptoBulk d + 1
  | .map entries => uptoBulkEntries entries + 1
  | .held _ => 1
def uptoBulkAll {H : Type} : List (DataW H) → Nat
  | [] => 0
  | d :: r => uptoBulk d + uptoBulkAll r
def uptoBulkEntries {H : Type} : List (Lit × DataW H) → Nat
  | [] => 0
  | x :: r => uptoBulkEntry x + uptoBulkEntries r
def uptoBulkEntry {H : Type} : Lit × DataW H → Nat
  | (.string bytes, d) => bytes.length + uptoBulk d + 1
  | (_, d) => uptoBulk d + 1
 end
def uptoSmall : (H : Type) → List (DataW H) → Bool := fun _ ds => decide (uptoBulkAll ds ≤ 1048576)
def OpenSpec.upto (s : _root_.Go.ChangeSpec) : _root_.Go.OpenSpec := { _root_.Go.OpenSpec.ofChange s with cond := some uptoSmall }

/-- 'attestorlaw05.MleMatchesReference', WHERE WHAT IT READS IS OF BULK AT MOST 1048576: true; the input reads as it did. -/
def mleMatchesReferenceUptoRow : OpenClaim := { program := "ytphokpkigbonlaadoor", sum := "2d844e3428c44c6d1be552c86b728e2df5c0a68f6bb8afc6e3fa2a58ee303f30", func := "attestor/attestorlaw05.MleMatchesReference", spec := "mleMatchesReference", inPlace := ["math/bits.Sub64", "math/bits.Add64"], unfollowed := true, recurses := true, named := ["attestor/mle.one"], apart := false, laid := [("attestor/mle.one", laid_attestor_mle_one)], narrowed := true }
def MleMatchesReferenceUptoSaid : Prop := mleMatchesReferenceUptoRow.holds Tryd.pinned (OpenSpec.upto mleMatchesReferenceSpec)

/-- 'attestorlaw05.MleExtension', WHERE WHAT IT READS IS OF BULK AT MOST 1048576: true; the input reads as it did. -/
def mleExtensionUptoRow : OpenClaim := { program := "ytphokpkigbonlaadoor", sum := "2d844e3428c44c6d1be552c86b728e2df5c0a68f6bb8afc6e3fa2a58ee303f30", func := "attestor/attestorlaw05.MleExtension", spec := "mleExtension", inPlace := ["math/bits.Sub64", "math/bits.Add64"], unfollowed := true, recurses := true, named := ["attestor/mle.one"], apart := false, laid := [("attestor/mle.one", laid_attestor_mle_one)], narrowed := true }
def MleExtensionUptoSaid : Prop := mleExtensionUptoRow.holds Tryd.pinned (OpenSpec.upto mleExtensionSpec)

/-- 'attestorlaw05.MleBinding', WHERE WHAT IT READS IS OF BULK AT MOST 1048576: true; the input reads as it did. -/
def mleBindingUptoRow : OpenClaim := { program := "ytphokpkigbonlaadoor", sum := "2d844e3428c44c6d1be552c86b728e2df5c0a68f6bb8afc6e3fa2a58ee303f30", func := "attestor/attestorlaw05.MleBinding", spec := "mleBinding", inPlace := ["math/bits.Sub64", "math/bits.Add64"], unfollowed := true, recurses := true, named := ["attestor/mle.one"], apart := false, laid := [("attestor/mle.one", laid_attestor_mle_one)], narrowed := true }
def MleBindingUptoSaid : Prop := mleBindingUptoRow.holds Tryd.pinned (OpenSpec.upto mleBindingSpec)

/-- 'attestorlaw05.MleLinear', WHERE WHAT IT READS IS OF BULK AT MOST 1048576: true; the input reads as it did. -/
def mleLinearUptoRow : OpenClaim := { program := "ytphokpkigbonlaadoor", sum := "2d844e3428c44c6d1be552c86b728e2df5c0a68f6bb8afc6e3fa2a58ee303f30", func := "attestor/attestorlaw05.MleLinear", spec := "mleLinear", inPlace := ["math/bits.Sub64", "math/bits.Add64"], unfollowed := true, recurses := true, named := ["attestor/mle.one"], apart := false, laid := [("attestor/mle.one", laid_attestor_mle_one)], narrowed := true }
def MleLinearUptoSaid : Prop := mleLinearUptoRow.holds Tryd.pinned (OpenSpec.upto mleLinearSpec)

/-- 'attestorlaw05.MleWeights', WHERE WHAT IT READS IS OF BULK AT MOST 1048576: true; the input reads as it did. -/
def mleWeightsUptoRow : OpenClaim := { program := "ytphokpkigbonlaadoor", sum := "2d844e3428c44c6d1be552c86b728e2df5c0a68f6bb8afc6e3fa2a58ee303f30", func := "attestor/attestorlaw05.MleWeights", spec := "mleWeights", inPlace := ["math/bits.Sub64", "math/bits.Add64"], unfollowed := true, recurses := true, named := ["attestor/mle.one"], apart := false, laid := [("attestor/mle.one", laid_attestor_mle_one)], narrowed := true }
def MleWeightsUptoSaid : Prop := mleWeightsUptoRow.holds Tryd.pinned (OpenSpec.upto mleWeightsSpec)

/-- 'attestorlaw05.MleEquality', WHERE WHAT IT READS IS OF BULK AT MOST 1048576: true; the input reads as it did. -/
def mleEqualityUptoRow : OpenClaim := { program := "ytphokpkigbonlaadoor", sum := "2d844e3428c44c6d1be552c86b728e2df5c0a68f6bb8afc6e3fa2a58ee303f30", func := "attestor/attestorlaw05.MleEquality", spec := "mleEquality", inPlace := ["math/bits.Sub64", "math/bits.Add64"], unfollowed := true, recurses := true, named := ["attestor/mle.one"], apart := false, laid := [("attestor/mle.one", laid_attestor_mle_one)], narrowed := true }
def MleEqualityUptoSaid : Prop := mleEqualityUptoRow.holds Tryd.pinned (OpenSpec.upto mleEqualitySpec)

/-- 'attestorlaw05.MleStreaming', WHERE WHAT IT READS IS OF BULK AT MOST 1048576: true; the input reads as it did. -/
def mleStreamingUptoRow : OpenClaim := { program := "ytphokpkigbonlaadoor", sum := "2d844e3428c44c6d1be552c86b728e2df5c0a68f6bb8afc6e3fa2a58ee303f30", func := "attestor/attestorlaw05.MleStreaming", spec := "mleStreaming", inPlace := ["math/bits.Sub64", "math/bits.Add64"], unfollowed := true, recurses := true, named := ["attestor/mle.one"], apart := false, laid := [("attestor/mle.one", laid_attestor_mle_one)], narrowed := true }
def MleStreamingUptoSaid : Prop := mleStreamingUptoRow.holds Tryd.pinned (OpenSpec.upto mleStreamingSpec)

/-- 'attestorlaw05.MleLines', WHERE WHAT IT READS IS OF BULK AT MOST 1048576: true; the input reads as it did. -/
def mleLinesUptoRow : OpenClaim := { program := "ytphokpkigbonlaadoor", sum := "2d844e3428c44c6d1be552c86b728e2df5c0a68f6bb8afc6e3fa2a58ee303f30", func := "attestor/attestorlaw05.MleLines", spec := "mleLines", inPlace := ["math/bits.Sub64", "math/bits.Add64"], unfollowed := true, recurses := true, named := ["attestor/mle.one"], apart := false, laid := [("attestor/mle.one", laid_attestor_mle_one)], narrowed := true }
def MleLinesUptoSaid : Prop := mleLinesUptoRow.holds Tryd.pinned (OpenSpec.upto mleLinesSpec)

/-- 'attestorlaw05.MleSums', WHERE WHAT IT READS IS OF BULK AT MOST 1048576: true; the input reads as it did. -/
def mleSumsUptoRow : OpenClaim := { program := "ytphokpkigbonlaadoor", sum := "2d844e3428c44c6d1be552c86b728e2df5c0a68f6bb8afc6e3fa2a58ee303f30", func := "attestor/attestorlaw05.MleSums", spec := "mleSums", inPlace := ["math/bits.Sub64", "math/bits.Add64"], unfollowed := true, recurses := true, named := ["attestor/mle.one"], apart := false, laid := [("attestor/mle.one", laid_attestor_mle_one)], narrowed := true }
def MleSumsUptoSaid : Prop := mleSumsUptoRow.holds Tryd.pinned (OpenSpec.upto mleSumsSpec)

end Rows
end Go.Proofs.YtphokpkigbonlaaDoor
