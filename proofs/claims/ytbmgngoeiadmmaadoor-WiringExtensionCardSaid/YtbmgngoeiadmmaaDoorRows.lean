/-
  NARROWER THAN 'FOR EVERY INPUT', by the rows' own cells (each row's printed sentence says how): WiringMatchesReference: laid · WiringLayers: laid · WiringPoint: laid · WiringLinear: laid · WiringOrder: laid · WiringMerge: laid · WiringSwap: laid · WiringExtension: laid.
  DERIVED. THE GIVEN ROWS OF THIS SEAT. 8 by the template 'for every input the law returns true; each argument reads behind the call as it read before'; 0 by the template 'total and deterministic' (their statements: YtbmgngoeiadmmaaDoorTotals.lean).
  GIVEN WITH THE SEED: the statements are not yours to turn. If you find one false, say at which input.
  Laid BY PROGRAM, IN A SANDBOX (cutbox-rows.mjs): the forced cells as the released guide's own fill.sh prints them over the translation c789f9334f8b5a6b… (all of the seat's roots in one cut). By AI agents, Wed Nov 11 2026. No macro, syntax, notation, axiom, sorry.
-/
import Derived.Test.YtbmgngoeiadmmaaDoorChecked
import GoSem.Claim
import GoSem.ClaimJoined
import GoSem.ClaimMapViews
import Derived.JoinedTies
import Derived.KernelRfl
namespace Go.Proofs.YtbmgngoeiadmmaaDoor
/- THE CELL 'sum', in the pinned program and in every row, IS THE sha256 OF THE DUMP (.gsa) THAT YtbmgngoeiadmmaaDoorProg.lean LOADS. Nothing in Lean hashes anything: it is a label: what it is worth is what the hold of that sum in a sandbox is worth. -/
noncomputable def Tryd.pinned : Pinned := { name := "ytbmgngoeiadmmaadoor", sum := "c789f9334f8b5a6b79d5f91ccb3c879de299d86f4d5cb6e78371bb852c9b2a86", checked := Tryd.checked }
namespace Rows
def none {H : Type} : Left H := { results := [], args := [] }

/- WHAT THE LISTED PACKAGE-LEVEL VARIABLES READ AS WHEN THE CALL BEGINS. Each datum BY PROGRAM (the guide's laid-datum.mjs) off the statement by which the dump's own 'gosem.cut.vars' lays the variable. In a bare row this is a premise. The card (YtbmgngoeiadmmaaDoorCards.lean) ties it to the program's text. -/
def laid_attestor_mle_one {H : Type} : DataW H := .agg [.lit (.int .u64 1), .lit (.int .u64 0)]

/-- 'attestorlaw17.WiringMatchesReference': WHATEVER THE INPUT: true; the input reads as it did. -/
def wiringMatchesReferenceSpec : ChangeSpec := { name := "wiringMatchesReference", fn := fun _ => fun
  | [d] => { results := [.lit (.bool true)], args := [d] }
  | _ => none }
def wiringMatchesReferenceRow : OpenClaim := { program := "ytbmgngoeiadmmaadoor", sum := "c789f9334f8b5a6b79d5f91ccb3c879de299d86f4d5cb6e78371bb852c9b2a86", func := "attestor/attestorlaw17.WiringMatchesReference", spec := "wiringMatchesReference", inPlace := ["math/bits.Sub64", "math/bits.Add64"], unfollowed := true, recurses := true, named := ["attestor/mle.one"], apart := false, laid := [("attestor/mle.one", laid_attestor_mle_one)] }
def WiringMatchesReferenceSaid : Prop := wiringMatchesReferenceRow.holds Tryd.pinned (OpenSpec.ofChange wiringMatchesReferenceSpec)

/-- ITS FALSE NEIGHBOUR: 'it returns false'. Refute it at one input. -/
def wiringMatchesReferenceWrong : ChangeSpec := { name := "wiringMatchesReference", fn := fun _ => fun
  | [d] => { results := [.lit (.bool false)], args := [d] }
  | _ => none }
def WiringMatchesReferenceWrongFalsely : Prop := wiringMatchesReferenceRow.holds Tryd.pinned (OpenSpec.ofChange wiringMatchesReferenceWrong)

/-- 'attestorlaw17.WiringLayers': WHATEVER THE INPUT: true; the input reads as it did. -/
def wiringLayersSpec : ChangeSpec := { name := "wiringLayers", fn := fun _ => fun
  | [d1, d2] => { results := [.lit (.bool true)], args := [d1, d2] }
  | _ => none }
def wiringLayersRow : OpenClaim := { program := "ytbmgngoeiadmmaadoor", sum := "c789f9334f8b5a6b79d5f91ccb3c879de299d86f4d5cb6e78371bb852c9b2a86", func := "attestor/attestorlaw17.WiringLayers", spec := "wiringLayers", inPlace := ["math/bits.Sub64", "math/bits.Add64"], unfollowed := true, recurses := true, named := ["attestor/mle.one"], apart := false, laid := [("attestor/mle.one", laid_attestor_mle_one)] }
def WiringLayersSaid : Prop := wiringLayersRow.holds Tryd.pinned (OpenSpec.ofChange wiringLayersSpec)

/-- ITS FALSE NEIGHBOUR: 'it returns false'. Refute it at one input. -/
def wiringLayersWrong : ChangeSpec := { name := "wiringLayers", fn := fun _ => fun
  | [d1, d2] => { results := [.lit (.bool false)], args := [d1, d2] }
  | _ => none }
def WiringLayersWrongFalsely : Prop := wiringLayersRow.holds Tryd.pinned (OpenSpec.ofChange wiringLayersWrong)

/-- 'attestorlaw17.WiringPoint': WHATEVER THE INPUT: true; the input reads as it did. -/
def wiringPointSpec : ChangeSpec := { name := "wiringPoint", fn := fun _ => fun
  | [d1, d2] => { results := [.lit (.bool true)], args := [d1, d2] }
  | _ => none }
def wiringPointRow : OpenClaim := { program := "ytbmgngoeiadmmaadoor", sum := "c789f9334f8b5a6b79d5f91ccb3c879de299d86f4d5cb6e78371bb852c9b2a86", func := "attestor/attestorlaw17.WiringPoint", spec := "wiringPoint", inPlace := ["math/bits.Sub64", "math/bits.Add64"], unfollowed := true, recurses := true, named := ["attestor/mle.one"], apart := false, laid := [("attestor/mle.one", laid_attestor_mle_one)] }
def WiringPointSaid : Prop := wiringPointRow.holds Tryd.pinned (OpenSpec.ofChange wiringPointSpec)

/-- ITS FALSE NEIGHBOUR: 'it returns false'. Refute it at one input. -/
def wiringPointWrong : ChangeSpec := { name := "wiringPoint", fn := fun _ => fun
  | [d1, d2] => { results := [.lit (.bool false)], args := [d1, d2] }
  | _ => none }
def WiringPointWrongFalsely : Prop := wiringPointRow.holds Tryd.pinned (OpenSpec.ofChange wiringPointWrong)

/-- 'attestorlaw17.WiringLinear': WHATEVER THE INPUT: true; the input reads as it did. -/
def wiringLinearSpec : ChangeSpec := { name := "wiringLinear", fn := fun _ => fun
  | [d1, d2, d3] => { results := [.lit (.bool true)], args := [d1, d2, d3] }
  | _ => none }
def wiringLinearRow : OpenClaim := { program := "ytbmgngoeiadmmaadoor", sum := "c789f9334f8b5a6b79d5f91ccb3c879de299d86f4d5cb6e78371bb852c9b2a86", func := "attestor/attestorlaw17.WiringLinear", spec := "wiringLinear", inPlace := ["math/bits.Sub64", "math/bits.Add64"], unfollowed := true, recurses := true, named := ["attestor/mle.one"], apart := false, laid := [("attestor/mle.one", laid_attestor_mle_one)] }
def WiringLinearSaid : Prop := wiringLinearRow.holds Tryd.pinned (OpenSpec.ofChange wiringLinearSpec)

/-- ITS FALSE NEIGHBOUR: 'it returns false'. Refute it at one input. -/
def wiringLinearWrong : ChangeSpec := { name := "wiringLinear", fn := fun _ => fun
  | [d1, d2, d3] => { results := [.lit (.bool false)], args := [d1, d2, d3] }
  | _ => none }
def WiringLinearWrongFalsely : Prop := wiringLinearRow.holds Tryd.pinned (OpenSpec.ofChange wiringLinearWrong)

/-- 'attestorlaw17.WiringOrder': WHATEVER THE INPUT: true; the input reads as it did. -/
def wiringOrderSpec : ChangeSpec := { name := "wiringOrder", fn := fun _ => fun
  | [d1, d2, d3] => { results := [.lit (.bool true)], args := [d1, d2, d3] }
  | _ => none }
def wiringOrderRow : OpenClaim := { program := "ytbmgngoeiadmmaadoor", sum := "c789f9334f8b5a6b79d5f91ccb3c879de299d86f4d5cb6e78371bb852c9b2a86", func := "attestor/attestorlaw17.WiringOrder", spec := "wiringOrder", inPlace := ["math/bits.Sub64", "math/bits.Add64"], unfollowed := true, recurses := true, named := ["attestor/mle.one"], apart := false, laid := [("attestor/mle.one", laid_attestor_mle_one)] }
def WiringOrderSaid : Prop := wiringOrderRow.holds Tryd.pinned (OpenSpec.ofChange wiringOrderSpec)

/-- ITS FALSE NEIGHBOUR: 'it returns false'. Refute it at one input. -/
def wiringOrderWrong : ChangeSpec := { name := "wiringOrder", fn := fun _ => fun
  | [d1, d2, d3] => { results := [.lit (.bool false)], args := [d1, d2, d3] }
  | _ => none }
def WiringOrderWrongFalsely : Prop := wiringOrderRow.holds Tryd.pinned (OpenSpec.ofChange wiringOrderWrong)

/-- 'attestorlaw17.WiringMerge': WHATEVER THE INPUT: true; the input reads as it did. -/
def wiringMergeSpec : ChangeSpec := { name := "wiringMerge", fn := fun _ => fun
  | [d1, d2, d3] => { results := [.lit (.bool true)], args := [d1, d2, d3] }
  | _ => none }
def wiringMergeRow : OpenClaim := { program := "ytbmgngoeiadmmaadoor", sum := "c789f9334f8b5a6b79d5f91ccb3c879de299d86f4d5cb6e78371bb852c9b2a86", func := "attestor/attestorlaw17.WiringMerge", spec := "wiringMerge", inPlace := ["math/bits.Sub64", "math/bits.Add64"], unfollowed := true, recurses := true, named := ["attestor/mle.one"], apart := false, laid := [("attestor/mle.one", laid_attestor_mle_one)] }
def WiringMergeSaid : Prop := wiringMergeRow.holds Tryd.pinned (OpenSpec.ofChange wiringMergeSpec)

/-- ITS FALSE NEIGHBOUR: 'it returns false'. Refute it at one input. -/
def wiringMergeWrong : ChangeSpec := { name := "wiringMerge", fn := fun _ => fun
  | [d1, d2, d3] => { results := [.lit (.bool false)], args := [d1, d2, d3] }
  | _ => none }
def WiringMergeWrongFalsely : Prop := wiringMergeRow.holds Tryd.pinned (OpenSpec.ofChange wiringMergeWrong)

/-- 'attestorlaw17.WiringSwap': WHATEVER THE INPUT: true; the input reads as it did. -/
def wiringSwapSpec : ChangeSpec := { name := "wiringSwap", fn := fun _ => fun
  | [d] => { results := [.lit (.bool true)], args := [d] }
  | _ => none }
def wiringSwapRow : OpenClaim := { program := "ytbmgngoeiadmmaadoor", sum := "c789f9334f8b5a6b79d5f91ccb3c879de299d86f4d5cb6e78371bb852c9b2a86", func := "attestor/attestorlaw17.WiringSwap", spec := "wiringSwap", inPlace := ["math/bits.Sub64", "math/bits.Add64"], unfollowed := true, recurses := true, named := ["attestor/mle.one"], apart := false, laid := [("attestor/mle.one", laid_attestor_mle_one)] }
def WiringSwapSaid : Prop := wiringSwapRow.holds Tryd.pinned (OpenSpec.ofChange wiringSwapSpec)

/-- ITS FALSE NEIGHBOUR: 'it returns false'. Refute it at one input. -/
def wiringSwapWrong : ChangeSpec := { name := "wiringSwap", fn := fun _ => fun
  | [d] => { results := [.lit (.bool false)], args := [d] }
  | _ => none }
def WiringSwapWrongFalsely : Prop := wiringSwapRow.holds Tryd.pinned (OpenSpec.ofChange wiringSwapWrong)

/-- 'attestorlaw17.WiringExtension': WHATEVER THE INPUT: true; the input reads as it did. -/
def wiringExtensionSpec : ChangeSpec := { name := "wiringExtension", fn := fun _ => fun
  | [d1, d2, d3] => { results := [.lit (.bool true)], args := [d1, d2, d3] }
  | _ => none }
def wiringExtensionRow : OpenClaim := { program := "ytbmgngoeiadmmaadoor", sum := "c789f9334f8b5a6b79d5f91ccb3c879de299d86f4d5cb6e78371bb852c9b2a86", func := "attestor/attestorlaw17.WiringExtension", spec := "wiringExtension", inPlace := ["math/bits.Sub64", "math/bits.Add64"], unfollowed := true, recurses := true, named := ["attestor/mle.one"], apart := false, laid := [("attestor/mle.one", laid_attestor_mle_one)] }
def WiringExtensionSaid : Prop := wiringExtensionRow.holds Tryd.pinned (OpenSpec.ofChange wiringExtensionSpec)

/-- ITS FALSE NEIGHBOUR: 'it returns false'. Refute it at one input. -/
def wiringExtensionWrong : ChangeSpec := { name := "wiringExtension", fn := fun _ => fun
  | [d1, d2, d3] => { results := [.lit (.bool false)], args := [d1, d2, d3] }
  | _ => none }
def WiringExtensionWrongFalsely : Prop := wiringExtensionRow.holds Tryd.pinned (OpenSpec.ofChange wiringExtensionWrong)

/- THE SECOND FORM. 'bulk': how many values and letters a reading holds, each counted each time it is reached (what is shared counts as often as it is met; a slice's spare places count too). A statement '..UptoSaid' is the law's where the arguments, and the package variables that the reading takes, are together of bulk at most 1048576: NARROWER than '..Said'. Prove '..Said' where nothing that the law and all that it calls make is longer than what came in: it says more and counts as full. Else prove '..UptoSaid'. A law counts once. -/
mutual
def uptoBulk {H : Type} : DataW H → Nat
  | .lit (.string bytes) => bytes.length + 1
  | .lit _ => 1
  | .nil => 1
  | .ptr d => uptoBulk d + 1
  | .slice elems spare => uptoBulkAll elems + uptoBulkAll spare + 1
  | .agg parts => uptoBulkAll parts + 1
  | .iface _ d => uptoBulk d + 1
  | .map entries => uptoBulkEntries entries + 1
  | .held _ => 1
def uptoBulkAll {H : Type} : List (DataW H) → Nat
  | [] => 0
  | d :: r => uptoBulk d + uptoBulkAll r
def uptoBulkEntries {H : Type} : List (Lit × DataW H) → Nat
  | [] => 0
  | x :: r => uptoBulkEntry x + uptoBulkEntries r
def uptoBulkEntry {H : Type} : Lit × DataW H → Nat
  | (.string bytes, d) => bytes.length + uptoBulk d + 1
  | (_, d) => uptoBulk d + 1
 end
def uptoSmall : (H : Type) → List (DataW H) → Bool := fun _ ds => decide (uptoBulkAll ds ≤ 1048576)
def OpenSpec.upto (s : _root_.Go.ChangeSpec) : _root_.Go.OpenSpec := { _root_.Go.OpenSpec.ofChange s with cond := some uptoSmall }

/-- 'attestorlaw17.WiringMatchesReference', WHERE WHAT IT READS IS OF BULK AT MOST 1048576: true; the input reads as it did. -/
def wiringMatchesReferenceUptoRow : OpenClaim := { program := "ytbmgngoeiadmmaadoor", sum := "c789f9334f8b5a6b79d5f91ccb3c879de299d86f4d5cb6e78371bb852c9b2a86", func := "attestor/attestorlaw17.WiringMatchesReference", spec := "wiringMatchesReference", inPlace := ["math/bits.Sub64", "math/bits.Add64"], unfollowed := true, recurses := true, named := ["attestor/mle.one"], apart := false, laid := [("attestor/mle.one", laid_attestor_mle_one)], narrowed := true }
def WiringMatchesReferenceUptoSaid : Prop := wiringMatchesReferenceUptoRow.holds Tryd.pinned (OpenSpec.upto wiringMatchesReferenceSpec)

/-- 'attestorlaw17.WiringLayers', WHERE WHAT IT READS IS OF BULK AT MOST 1048576: true; the input reads as it did. -/
def wiringLayersUptoRow : OpenClaim := { program := "ytbmgngoeiadmmaadoor", sum := "c789f9334f8b5a6b79d5f91ccb3c879de299d86f4d5cb6e78371bb852c9b2a86", func := "attestor/attestorlaw17.WiringLayers", spec := "wiringLayers", inPlace := ["math/bits.Sub64", "math/bits.Add64"], unfollowed := true, recurses := true, named := ["attestor/mle.one"], apart := false, laid := [("attestor/mle.one", laid_attestor_mle_one)], narrowed := true }
def WiringLayersUptoSaid : Prop := wiringLayersUptoRow.holds Tryd.pinned (OpenSpec.upto wiringLayersSpec)

/-- 'attestorlaw17.WiringPoint', WHERE WHAT IT READS IS OF BULK AT MOST 1048576: true; the input reads as it did. -/
def wiringPointUptoRow : OpenClaim := { program := "ytbmgngoeiadmmaadoor", sum := "c789f9334f8b5a6b79d5f91ccb3c879de299d86f4d5cb6e78371bb852c9b2a86", func := "attestor/attestorlaw17.WiringPoint", spec := "wiringPoint", inPlace := ["math/bits.Sub64", "math/bits.Add64"], unfollowed := true, recurses := true, named := ["attestor/mle.one"], apart := false, laid := [("attestor/mle.one", laid_attestor_mle_one)], narrowed := true }
def WiringPointUptoSaid : Prop := wiringPointUptoRow.holds Tryd.pinned (OpenSpec.upto wiringPointSpec)

/-- 'attestorlaw17.WiringLinear', WHERE WHAT IT READS IS OF BULK AT MOST 1048576: true; the input reads as it did. -/
def wiringLinearUptoRow : OpenClaim := { program := "ytbmgngoeiadmmaadoor", sum := "c789f9334f8b5a6b79d5f91ccb3c879de299d86f4d5cb6e78371bb852c9b2a86", func := "attestor/attestorlaw17.WiringLinear", spec := "wiringLinear", inPlace := ["math/bits.Sub64", "math/bits.Add64"], unfollowed := true, recurses := true, named := ["attestor/mle.one"], apart := false, laid := [("attestor/mle.one", laid_attestor_mle_one)], narrowed := true }
def WiringLinearUptoSaid : Prop := wiringLinearUptoRow.holds Tryd.pinned (OpenSpec.upto wiringLinearSpec)

/-- 'attestorlaw17.WiringOrder', WHERE WHAT IT READS IS OF BULK AT MOST 1048576: true; the input reads as it did. -/
def wiringOrderUptoRow : OpenClaim := { program := "ytbmgngoeiadmmaadoor", sum := "c789f9334f8b5a6b79d5f91ccb3c879de299d86f4d5cb6e78371bb852c9b2a86", func := "attestor/attestorlaw17.WiringOrder", spec := "wiringOrder", inPlace := ["math/bits.Sub64", "math/bits.Add64"], unfollowed := true, recurses := true, named := ["attestor/mle.one"], apart := false, laid := [("attestor/mle.one", laid_attestor_mle_one)], narrowed := true }
def WiringOrderUptoSaid : Prop := wiringOrderUptoRow.holds Tryd.pinned (OpenSpec.upto wiringOrderSpec)

/-- 'attestorlaw17.WiringMerge', WHERE WHAT IT READS IS OF BULK AT MOST 1048576: true; the input reads as it did. -/
def wiringMergeUptoRow : OpenClaim := { program := "ytbmgngoeiadmmaadoor", sum := "c789f9334f8b5a6b79d5f91ccb3c879de299d86f4d5cb6e78371bb852c9b2a86", func := "attestor/attestorlaw17.WiringMerge", spec := "wiringMerge", inPlace := ["math/bits.Sub64", "math/bits.Add64"], unfollowed := true, recurses := true, named := ["attestor/mle.one"], apart := false, laid := [("attestor/mle.one", laid_attestor_mle_one)], narrowed := true }
def WiringMergeUptoSaid : Prop := wiringMergeUptoRow.holds Tryd.pinned (OpenSpec.upto wiringMergeSpec)

/-- 'attestorlaw17.WiringSwap', WHERE WHAT IT READS IS OF BULK AT MOST 1048576: true; the input reads as it did. -/
def wiringSwapUptoRow : OpenClaim := { program := "ytbmgngoeiadmmaadoor", sum := "c789f9334f8b5a6b79d5f91ccb3c879de299d86f4d5cb6e78371bb852c9b2a86", func := "attestor/attestorlaw17.WiringSwap", spec := "wiringSwap", inPlace := ["math/bits.Sub64", "math/bits.Add64"], unfollowed := true, recurses := true, named := ["attestor/mle.one"], apart := false, laid := [("attestor/mle.one", laid_attestor_mle_one)], narrowed := true }
def WiringSwapUptoSaid : Prop := wiringSwapUptoRow.holds Tryd.pinned (OpenSpec.upto wiringSwapSpec)

/-- 'attestorlaw17.WiringExtension', WHERE WHAT IT READS IS OF BULK AT MOST 1048576: true; the input reads as it did. -/
def wiringExtensionUptoRow : OpenClaim := { program := "ytbmgngoeiadmmaadoor", sum := "c789f9334f8b5a6b79d5f91ccb3c879de299d86f4d5cb6e78371bb852c9b2a86", func := "attestor/attestorlaw17.WiringExtension", spec := "wiringExtension", inPlace := ["math/bits.Sub64", "math/bits.Add64"], unfollowed := true, recurses := true, named := ["attestor/mle.one"], apart := false, laid := [("attestor/mle.one", laid_attestor_mle_one)], narrowed := true }
def WiringExtensionUptoSaid : Prop := wiringExtensionUptoRow.holds Tryd.pinned (OpenSpec.upto wiringExtensionSpec)

end Rows
end Go.Proofs.YtbmgngoeiadmmaaDoor
