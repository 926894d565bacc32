/-
  NARROWER THAN 'FOR EVERY INPUT', by the rows' own cells (each row's printed sentence says how): BatchCompleteness: laid · BatchSoundness: laid · BatchRejectsFalseClaims: laid · BatchWeights: laid.
  DERIVED. THE GIVEN ROWS OF THIS SEAT. 4 by the template 'for every input the law returns true; each argument reads behind the call as it read before'; 0 by the template 'total and deterministic' (their statements: YtipaecageimnnaaDoorTotals.lean).
  GIVEN WITH THE SEED: the statements are not yours to turn. If you find one false, say at which input.
  Laid BY PROGRAM, IN A SANDBOX (cutbox-rows.mjs): the forced cells as the released guide's own fill.sh prints them over the translation f12dce96c6a62b66… (all of the seat's roots in one cut). By AI agents, Wed Nov 11 2026. No macro, syntax, notation, axiom, sorry.
-/
import Derived.Test.YtipaecageimnnaaDoorChecked
import GoSem.Claim
import GoSem.ClaimJoined
import GoSem.ClaimMapViews
import Derived.JoinedTies
import Derived.KernelRfl
namespace Go.Proofs.YtipaecageimnnaaDoor
/- THE CELL 'sum', in the pinned program and in every row, IS THE sha256 OF THE DUMP (.gsa) THAT YtipaecageimnnaaDoorProg.lean LOADS. Nothing in Lean hashes anything: it is a label: what it is worth is what the hold of that sum in a sandbox is worth. -/
noncomputable def Tryd.pinned : Pinned := { name := "ytipaecageimnnaadoor", sum := "f12dce96c6a62b667efe8f369428784a130fa483524cb333726d5ad9000ceb56", checked := Tryd.checked }
namespace Rows
def none {H : Type} : Left H := { results := [], args := [] }

/- WHAT THE LISTED PACKAGE-LEVEL VARIABLES READ AS WHEN THE CALL BEGINS. Each datum BY PROGRAM (the guide's laid-datum.mjs) off the statement by which the dump's own 'gosem.cut.vars' lays the variable. In a bare row this is a premise. The card (YtipaecageimnnaaDoorCards.lean) ties it to the program's text. -/
def laid_attestor_mle_one {H : Type} : DataW H := .agg [.lit (.int .u64 1), .lit (.int .u64 0)]

/-- 'attestorlaw21.BatchCompleteness': WHATEVER THE INPUT: true; the input reads as it did. -/
def batchCompletenessSpec : ChangeSpec := { name := "batchCompleteness", fn := fun _ => fun
  | [d] => { results := [.lit (.bool true)], args := [d] }
  | _ => none }
def batchCompletenessRow : OpenClaim := { program := "ytipaecageimnnaadoor", sum := "f12dce96c6a62b667efe8f369428784a130fa483524cb333726d5ad9000ceb56", func := "attestor/attestorlaw21.BatchCompleteness", spec := "batchCompleteness", inPlace := ["math/bits.Sub64", "math/bits.Add64"], unfollowed := true, recurses := true, named := ["attestor/mle.one"], apart := false, laid := [("attestor/mle.one", laid_attestor_mle_one)] }
def BatchCompletenessSaid : Prop := batchCompletenessRow.holds Tryd.pinned (OpenSpec.ofChange batchCompletenessSpec)

/-- ITS FALSE NEIGHBOUR: 'it returns false'. Refute it at one input. -/
def batchCompletenessWrong : ChangeSpec := { name := "batchCompleteness", fn := fun _ => fun
  | [d] => { results := [.lit (.bool false)], args := [d] }
  | _ => none }
def BatchCompletenessWrongFalsely : Prop := batchCompletenessRow.holds Tryd.pinned (OpenSpec.ofChange batchCompletenessWrong)

/-- 'attestorlaw21.BatchSoundness': WHATEVER THE INPUT: true; the input reads as it did. -/
def batchSoundnessSpec : ChangeSpec := { name := "batchSoundness", fn := fun _ => fun
  | [d1, d2] => { results := [.lit (.bool true)], args := [d1, d2] }
  | _ => none }
def batchSoundnessRow : OpenClaim := { program := "ytipaecageimnnaadoor", sum := "f12dce96c6a62b667efe8f369428784a130fa483524cb333726d5ad9000ceb56", func := "attestor/attestorlaw21.BatchSoundness", spec := "batchSoundness", inPlace := ["math/bits.Sub64", "math/bits.Add64"], unfollowed := true, recurses := true, named := ["attestor/mle.one"], apart := false, laid := [("attestor/mle.one", laid_attestor_mle_one)] }
def BatchSoundnessSaid : Prop := batchSoundnessRow.holds Tryd.pinned (OpenSpec.ofChange batchSoundnessSpec)

/-- ITS FALSE NEIGHBOUR: 'it returns false'. Refute it at one input. -/
def batchSoundnessWrong : ChangeSpec := { name := "batchSoundness", fn := fun _ => fun
  | [d1, d2] => { results := [.lit (.bool false)], args := [d1, d2] }
  | _ => none }
def BatchSoundnessWrongFalsely : Prop := batchSoundnessRow.holds Tryd.pinned (OpenSpec.ofChange batchSoundnessWrong)

/-- 'attestorlaw21.BatchRejectsFalseClaims': WHATEVER THE INPUT: true; the input reads as it did. -/
def batchRejectsFalseClaimsSpec : ChangeSpec := { name := "batchRejectsFalseClaims", fn := fun _ => fun
  | [d1, d2, d3] => { results := [.lit (.bool true)], args := [d1, d2, d3] }
  | _ => none }
def batchRejectsFalseClaimsRow : OpenClaim := { program := "ytipaecageimnnaadoor", sum := "f12dce96c6a62b667efe8f369428784a130fa483524cb333726d5ad9000ceb56", func := "attestor/attestorlaw21.BatchRejectsFalseClaims", spec := "batchRejectsFalseClaims", inPlace := ["math/bits.Sub64", "math/bits.Add64"], unfollowed := true, recurses := true, named := ["attestor/mle.one"], apart := false, laid := [("attestor/mle.one", laid_attestor_mle_one)] }
def BatchRejectsFalseClaimsSaid : Prop := batchRejectsFalseClaimsRow.holds Tryd.pinned (OpenSpec.ofChange batchRejectsFalseClaimsSpec)

/-- ITS FALSE NEIGHBOUR: 'it returns false'. Refute it at one input. -/
def batchRejectsFalseClaimsWrong : ChangeSpec := { name := "batchRejectsFalseClaims", fn := fun _ => fun
  | [d1, d2, d3] => { results := [.lit (.bool false)], args := [d1, d2, d3] }
  | _ => none }
def BatchRejectsFalseClaimsWrongFalsely : Prop := batchRejectsFalseClaimsRow.holds Tryd.pinned (OpenSpec.ofChange batchRejectsFalseClaimsWrong)

/-- 'attestorlaw21.BatchWeights': WHATEVER THE INPUT: true; the input reads as it did. -/
def batchWeightsSpec : ChangeSpec := { name := "batchWeights", fn := fun _ => fun
  | [d] => { results := [.lit (.bool true)], args := [d] }
  | _ => none }
def batchWeightsRow : OpenClaim := { program := "ytipaecageimnnaadoor", sum := "f12dce96c6a62b667efe8f369428784a130fa483524cb333726d5ad9000ceb56", func := "attestor/attestorlaw21.BatchWeights", spec := "batchWeights", inPlace := ["math/bits.Sub64", "math/bits.Add64"], unfollowed := true, recurses := true, named := ["attestor/mle.one"], apart := false, laid := [("attestor/mle.one", laid_attestor_mle_one)] }
def BatchWeightsSaid : Prop := batchWeightsRow.holds Tryd.pinned (OpenSpec.ofChange batchWeightsSpec)

/-- ITS FALSE NEIGHBOUR: 'it returns false'. Refute it at one input. -/
def batchWeightsWrong : ChangeSpec := { name := "batchWeights", fn := fun _ => fun
  | [d] => { results := [.lit (.bool false)], args := [d] }
  | _ => none }
def BatchWeightsWrongFalsely : Prop := batchWeightsRow.holds Tryd.pinned (OpenSpec.ofChange batchWeightsWrong)

/- THE SECOND FORM. 'bulk': how many values and letters a reading holds, each counted each time it is reached (what is shared counts as often as it is met; a slice's spare places count too). A statement '..UptoSaid' is the law's where the arguments, and the package variables that the reading takes, are together of bulk at most 1048576: NARROWER than '..Said'. Prove '..Said' where nothing that the law and all that it calls make is longer than what came in: it says more and counts as full. Else prove '..UptoSaid'. A law counts once. -/
mutual
def uptoBulk {H : Type} : DataW H → Nat
  | .lit (.string bytes) => bytes.length + 1
  | .lit _ => 1
  | .nil => 1
  | .ptr d => uptoBulk d + 1
  | .slice elems spare => uptoBulkAll elems + uptoBulkAll spare + 1
  | .agg parts => uptoBulkAll parts + 1
  | .iface _ d => uptoBulk d + 1
  | .map entries => uptoBulkEntries entries + 1
  | .held _ => 1
def uptoBulkAll {H : Type} : List (DataW H) → Nat
  | [] => 0
  | d :: r => uptoBulk d + uptoBulkAll r
def uptoBulkEntries {H : Type} : List (Lit × DataW H) → Nat
  | [] => 0
  | x :: r => uptoBulkEntry x + uptoBulkEntries r
def uptoBulkEntry {H : Type} : Lit × DataW H → Nat
  | (.string bytes, d) => bytes.length + uptoBulk d + 1
  | (_, d) => uptoBulk d + 1
 end
def uptoSmall : (H : Type) → List (DataW H) → Bool := fun _ ds => decide (uptoBulkAll ds ≤ 1048576)
def OpenSpec.upto (s : _root_.Go.ChangeSpec) : _root_.Go.OpenSpec := { _root_.Go.OpenSpec.ofChange s with cond := some uptoSmall }

/-- 'attestorlaw21.BatchCompleteness', WHERE WHAT IT READS IS OF BULK AT MOST 1048576: true; the input reads as it did. -/
def batchCompletenessUptoRow : OpenClaim := { program := "ytipaecageimnnaadoor", sum := "f12dce96c6a62b667efe8f369428784a130fa483524cb333726d5ad9000ceb56", func := "attestor/attestorlaw21.BatchCompleteness", spec := "batchCompleteness", inPlace := ["math/bits.Sub64", "math/bits.Add64"], unfollowed := true, recurses := true, named := ["attestor/mle.one"], apart := false, laid := [("attestor/mle.one", laid_attestor_mle_one)], narrowed := true }
def BatchCompletenessUptoSaid : Prop := batchCompletenessUptoRow.holds Tryd.pinned (OpenSpec.upto batchCompletenessSpec)

/-- 'attestorlaw21.BatchSoundness', WHERE WHAT IT READS IS OF BULK AT MOST 1048576: true; the input reads as it did. -/
def batchSoundnessUptoRow : OpenClaim := { program := "ytipaecageimnnaadoor", sum := "f12dce96c6a62b667efe8f369428784a130fa483524cb333726d5ad9000ceb56", func := "attestor/attestorlaw21.BatchSoundness", spec := "batchSoundness", inPlace := ["math/bits.Sub64", "math/bits.Add64"], unfollowed := true, recurses := true, named := ["attestor/mle.one"], apart := false, laid := [("attestor/mle.one", laid_attestor_mle_one)], narrowed := true }
def BatchSoundnessUptoSaid : Prop := batchSoundnessUptoRow.holds Tryd.pinned (OpenSpec.upto batchSoundnessSpec)

/-- 'attestorlaw21.BatchRejectsFalseClaims', WHERE WHAT IT READS IS OF BULK AT MOST 1048576: true; the input reads as it did. -/
def batchRejectsFalseClaimsUptoRow : OpenClaim := { program := "ytipaecageimnnaadoor", sum := "f12dce96c6a62b667efe8f369428784a130fa483524cb333726d5ad9000ceb56", func := "attestor/attestorlaw21.BatchRejectsFalseClaims", spec := "batchRejectsFalseClaims", inPlace := ["math/bits.Sub64", "math/bits.Add64"], unfollowed := true, recurses := true, named := ["attestor/mle.one"], apart := false, laid := [("attestor/mle.one", laid_attestor_mle_one)], narrowed := true }
def BatchRejectsFalseClaimsUptoSaid : Prop := batchRejectsFalseClaimsUptoRow.holds Tryd.pinned (OpenSpec.upto batchRejectsFalseClaimsSpec)

/-- 'attestorlaw21.BatchWeights', WHERE WHAT IT READS IS OF BULK AT MOST 1048576: true; the input reads as it did. -/
def batchWeightsUptoRow : OpenClaim := { program := "ytipaecageimnnaadoor", sum := "f12dce96c6a62b667efe8f369428784a130fa483524cb333726d5ad9000ceb56", func := "attestor/attestorlaw21.BatchWeights", spec := "batchWeights", inPlace := ["math/bits.Sub64", "math/bits.Add64"], unfollowed := true, recurses := true, named := ["attestor/mle.one"], apart := false, laid := [("attestor/mle.one", laid_attestor_mle_one)], narrowed := true }
def BatchWeightsUptoSaid : Prop := batchWeightsUptoRow.holds Tryd.pinned (OpenSpec.upto batchWeightsSpec)

end Rows
end Go.Proofs.YtipaecageimnnaaDoor
