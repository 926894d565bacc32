/-
  No cell of these rows narrows 'for every input' (looked for: loops, veiled, ifaces, maps, wideKeys, modest, calm, conditions, laid).
  DERIVED. THE GIVEN ROWS OF THIS SEAT. 9 by the template 'for every input the law returns true; each argument reads behind the call as it read before'; 0 by the template 'total and deterministic' (their statements: YtnddfeidggcplaaGreatTotals.lean).
  GIVEN WITH THE SEED: the statements are not yours to turn. If you find one false, say at which input.
  Laid BY PROGRAM, IN A SANDBOX (cutbox-rows.mjs): the forced cells as the released guide's own fill.sh prints them over the translation 52e2215b9275ae17… (all of the seat's roots in one cut). By AI agents, Wed Nov 11 2026. No macro, syntax, notation, axiom, sorry.
-/
import Derived.Test.YtnddfeidggcplaaGreatChecked
import GoSem.Claim
import GoSem.ClaimJoined
import GoSem.ClaimMapViews
import Derived.JoinedTies
import Derived.KernelRfl
namespace Go.Proofs.YtnddfeidggcplaaGreat
/- THE CELL 'sum', in the pinned program and in every row, IS THE sha256 OF THE DUMP (.gsa) THAT YtnddfeidggcplaaGreatProg.lean LOADS. Nothing in Lean hashes anything: it is a label: what it is worth is what the hold of that sum in a sandbox is worth. -/
noncomputable def Tryz.pinned : Pinned := { name := "ytnddfeidggcplaagreat", sum := "52e2215b9275ae176bf240fc5c27f1c6b09fed0d1833ae4d192f3d563ea726d3", checked := Tryz.checked }
namespace Rows
def none {H : Type} : Left H := { results := [], args := [] }

/-- 'attestorlaw32.MaskMatchesReference': WHATEVER THE INPUT: true; the input reads as it did. -/
def maskMatchesReferenceSpec : ChangeSpec := { name := "maskMatchesReference", fn := fun _ => fun
  | [d1, d2, d3] => { results := [.lit (.bool true)], args := [d1, d2, d3] }
  | _ => none }
def maskMatchesReferenceRow : OpenClaim := { program := "ytnddfeidggcplaagreat", sum := "52e2215b9275ae176bf240fc5c27f1c6b09fed0d1833ae4d192f3d563ea726d3", func := "attestor/attestorlaw32.MaskMatchesReference", spec := "maskMatchesReference", inPlace := ["math/bits.Sub64", "math/bits.Add64", "internal/reflectlite.TypeOf"], unfollowed := true, recurses := true, apart := false }
def MaskMatchesReferenceSaid : Prop := maskMatchesReferenceRow.holds Tryz.pinned (OpenSpec.ofChange maskMatchesReferenceSpec)

/-- ITS FALSE NEIGHBOUR: 'it returns false'. Refute it at one input. -/
def maskMatchesReferenceWrong : ChangeSpec := { name := "maskMatchesReference", fn := fun _ => fun
  | [d1, d2, d3] => { results := [.lit (.bool false)], args := [d1, d2, d3] }
  | _ => none }
def MaskMatchesReferenceWrongFalsely : Prop := maskMatchesReferenceRow.holds Tryz.pinned (OpenSpec.ofChange maskMatchesReferenceWrong)

/-- 'attestorlaw32.MaskChecksMatchReference': WHATEVER THE INPUT: true; the input reads as it did. -/
def maskChecksMatchReferenceSpec : ChangeSpec := { name := "maskChecksMatchReference", fn := fun _ => fun
  | [d1, d2, d3] => { results := [.lit (.bool true)], args := [d1, d2, d3] }
  | _ => none }
def maskChecksMatchReferenceRow : OpenClaim := { program := "ytnddfeidggcplaagreat", sum := "52e2215b9275ae176bf240fc5c27f1c6b09fed0d1833ae4d192f3d563ea726d3", func := "attestor/attestorlaw32.MaskChecksMatchReference", spec := "maskChecksMatchReference", inPlace := ["math/bits.Sub64", "math/bits.Add64", "internal/reflectlite.TypeOf"], unfollowed := true, recurses := true, apart := false }
def MaskChecksMatchReferenceSaid : Prop := maskChecksMatchReferenceRow.holds Tryz.pinned (OpenSpec.ofChange maskChecksMatchReferenceSpec)

/-- ITS FALSE NEIGHBOUR: 'it returns false'. Refute it at one input. -/
def maskChecksMatchReferenceWrong : ChangeSpec := { name := "maskChecksMatchReference", fn := fun _ => fun
  | [d1, d2, d3] => { results := [.lit (.bool false)], args := [d1, d2, d3] }
  | _ => none }
def MaskChecksMatchReferenceWrongFalsely : Prop := maskChecksMatchReferenceRow.holds Tryz.pinned (OpenSpec.ofChange maskChecksMatchReferenceWrong)

/-- 'attestorlaw32.MaskTotals': WHATEVER THE INPUT: true; the input reads as it did. -/
def maskTotalsSpec : ChangeSpec := { name := "maskTotals", fn := fun _ => fun
  | [d1, d2, d3] => { results := [.lit (.bool true)], args := [d1, d2, d3] }
  | _ => none }
def maskTotalsRow : OpenClaim := { program := "ytnddfeidggcplaagreat", sum := "52e2215b9275ae176bf240fc5c27f1c6b09fed0d1833ae4d192f3d563ea726d3", func := "attestor/attestorlaw32.MaskTotals", spec := "maskTotals", inPlace := ["math/bits.Sub64", "math/bits.Add64", "internal/reflectlite.TypeOf"], unfollowed := true, recurses := true, apart := false }
def MaskTotalsSaid : Prop := maskTotalsRow.holds Tryz.pinned (OpenSpec.ofChange maskTotalsSpec)

/-- ITS FALSE NEIGHBOUR: 'it returns false'. Refute it at one input. -/
def maskTotalsWrong : ChangeSpec := { name := "maskTotals", fn := fun _ => fun
  | [d1, d2, d3] => { results := [.lit (.bool false)], args := [d1, d2, d3] }
  | _ => none }
def MaskTotalsWrongFalsely : Prop := maskTotalsRow.holds Tryz.pinned (OpenSpec.ofChange maskTotalsWrong)

/-- 'attestorlaw32.MaskLinear': WHATEVER THE INPUT: true; the input reads as it did. -/
def maskLinearSpec : ChangeSpec := { name := "maskLinear", fn := fun _ => fun
  | [d] => { results := [.lit (.bool true)], args := [d] }
  | _ => none }
def maskLinearRow : OpenClaim := { program := "ytnddfeidggcplaagreat", sum := "52e2215b9275ae176bf240fc5c27f1c6b09fed0d1833ae4d192f3d563ea726d3", func := "attestor/attestorlaw32.MaskLinear", spec := "maskLinear", inPlace := ["math/bits.Sub64", "math/bits.Add64", "internal/reflectlite.TypeOf"], unfollowed := true, recurses := true, apart := false }
def MaskLinearSaid : Prop := maskLinearRow.holds Tryz.pinned (OpenSpec.ofChange maskLinearSpec)

/-- ITS FALSE NEIGHBOUR: 'it returns false'. Refute it at one input. -/
def maskLinearWrong : ChangeSpec := { name := "maskLinear", fn := fun _ => fun
  | [d] => { results := [.lit (.bool false)], args := [d] }
  | _ => none }
def MaskLinearWrongFalsely : Prop := maskLinearRow.holds Tryz.pinned (OpenSpec.ofChange maskLinearWrong)

/-- 'attestorlaw32.MaskSimulation': WHATEVER THE INPUT: true; the input reads as it did. -/
def maskSimulationSpec : ChangeSpec := { name := "maskSimulation", fn := fun _ => fun
  | [d] => { results := [.lit (.bool true)], args := [d] }
  | _ => none }
def maskSimulationRow : OpenClaim := { program := "ytnddfeidggcplaagreat", sum := "52e2215b9275ae176bf240fc5c27f1c6b09fed0d1833ae4d192f3d563ea726d3", func := "attestor/attestorlaw32.MaskSimulation", spec := "maskSimulation", inPlace := ["math/bits.Sub64", "math/bits.Add64", "internal/reflectlite.TypeOf"], unfollowed := true, recurses := true, apart := false }
def MaskSimulationSaid : Prop := maskSimulationRow.holds Tryz.pinned (OpenSpec.ofChange maskSimulationSpec)

/-- ITS FALSE NEIGHBOUR: 'it returns false'. Refute it at one input. -/
def maskSimulationWrong : ChangeSpec := { name := "maskSimulation", fn := fun _ => fun
  | [d] => { results := [.lit (.bool false)], args := [d] }
  | _ => none }
def MaskSimulationWrongFalsely : Prop := maskSimulationRow.holds Tryz.pinned (OpenSpec.ofChange maskSimulationWrong)

/-- 'attestorlaw32.MaskHiding': WHATEVER THE INPUT: true; the input reads as it did. -/
def maskHidingSpec : ChangeSpec := { name := "maskHiding", fn := fun _ => fun
  | [d1, d2, d3] => { results := [.lit (.bool true)], args := [d1, d2, d3] }
  | _ => none }
def maskHidingRow : OpenClaim := { program := "ytnddfeidggcplaagreat", sum := "52e2215b9275ae176bf240fc5c27f1c6b09fed0d1833ae4d192f3d563ea726d3", func := "attestor/attestorlaw32.MaskHiding", spec := "maskHiding", inPlace := ["math/bits.Sub64", "math/bits.Add64", "internal/reflectlite.TypeOf"], unfollowed := true, recurses := true, apart := false }
def MaskHidingSaid : Prop := maskHidingRow.holds Tryz.pinned (OpenSpec.ofChange maskHidingSpec)

/-- ITS FALSE NEIGHBOUR: 'it returns false'. Refute it at one input. -/
def maskHidingWrong : ChangeSpec := { name := "maskHiding", fn := fun _ => fun
  | [d1, d2, d3] => { results := [.lit (.bool false)], args := [d1, d2, d3] }
  | _ => none }
def MaskHidingWrongFalsely : Prop := maskHidingRow.holds Tryz.pinned (OpenSpec.ofChange maskHidingWrong)

/-- 'attestorlaw32.MaskNormalized': WHATEVER THE INPUT: true; the input reads as it did. -/
def maskNormalizedSpec : ChangeSpec := { name := "maskNormalized", fn := fun _ => fun
  | [d1, d2, d3] => { results := [.lit (.bool true)], args := [d1, d2, d3] }
  | _ => none }
def maskNormalizedRow : OpenClaim := { program := "ytnddfeidggcplaagreat", sum := "52e2215b9275ae176bf240fc5c27f1c6b09fed0d1833ae4d192f3d563ea726d3", func := "attestor/attestorlaw32.MaskNormalized", spec := "maskNormalized", inPlace := ["math/bits.Sub64", "math/bits.Add64", "internal/reflectlite.TypeOf"], unfollowed := true, recurses := true, apart := false }
def MaskNormalizedSaid : Prop := maskNormalizedRow.holds Tryz.pinned (OpenSpec.ofChange maskNormalizedSpec)

/-- ITS FALSE NEIGHBOUR: 'it returns false'. Refute it at one input. -/
def maskNormalizedWrong : ChangeSpec := { name := "maskNormalized", fn := fun _ => fun
  | [d1, d2, d3] => { results := [.lit (.bool false)], args := [d1, d2, d3] }
  | _ => none }
def MaskNormalizedWrongFalsely : Prop := maskNormalizedRow.holds Tryz.pinned (OpenSpec.ofChange maskNormalizedWrong)

/-- 'attestorlaw32.MaskErrors': WHATEVER THE INPUT: true; the input reads as it did. -/
def maskErrorsSpec : ChangeSpec := { name := "maskErrors", fn := fun _ => fun
  | [d1, d2, d3] => { results := [.lit (.bool true)], args := [d1, d2, d3] }
  | _ => none }
def maskErrorsRow : OpenClaim := { program := "ytnddfeidggcplaagreat", sum := "52e2215b9275ae176bf240fc5c27f1c6b09fed0d1833ae4d192f3d563ea726d3", func := "attestor/attestorlaw32.MaskErrors", spec := "maskErrors", inPlace := ["math/bits.Sub64", "math/bits.Add64", "internal/reflectlite.TypeOf"], unfollowed := true, recurses := true, apart := false }
def MaskErrorsSaid : Prop := maskErrorsRow.holds Tryz.pinned (OpenSpec.ofChange maskErrorsSpec)

/-- ITS FALSE NEIGHBOUR: 'it returns false'. Refute it at one input. -/
def maskErrorsWrong : ChangeSpec := { name := "maskErrors", fn := fun _ => fun
  | [d1, d2, d3] => { results := [.lit (.bool false)], args := [d1, d2, d3] }
  | _ => none }
def MaskErrorsWrongFalsely : Prop := maskErrorsRow.holds Tryz.pinned (OpenSpec.ofChange maskErrorsWrong)

/-- 'attestorlaw32.MaskComplete': WHATEVER THE INPUT: true; the input reads as it did. -/
def maskCompleteSpec : ChangeSpec := { name := "maskComplete", fn := fun _ => fun
  | [d] => { results := [.lit (.bool true)], args := [d] }
  | _ => none }
def maskCompleteRow : OpenClaim := { program := "ytnddfeidggcplaagreat", sum := "52e2215b9275ae176bf240fc5c27f1c6b09fed0d1833ae4d192f3d563ea726d3", func := "attestor/attestorlaw32.MaskComplete", spec := "maskComplete", inPlace := ["math/bits.Sub64", "math/bits.Add64", "internal/reflectlite.TypeOf"], unfollowed := true, recurses := true, apart := false }
def MaskCompleteSaid : Prop := maskCompleteRow.holds Tryz.pinned (OpenSpec.ofChange maskCompleteSpec)

/-- ITS FALSE NEIGHBOUR: 'it returns false'. Refute it at one input. -/
def maskCompleteWrong : ChangeSpec := { name := "maskComplete", fn := fun _ => fun
  | [d] => { results := [.lit (.bool false)], args := [d] }
  | _ => none }
def MaskCompleteWrongFalsely : Prop := maskCompleteRow.holds Tryz.pinned (OpenSpec.ofChange maskCompleteWrong)

/- THE SECOND FORM. 'bulk': how many values and letters a reading holds, each counted each time it is reached (what is shared counts as often as it is met; a slice's spare places count too). A statement '..UptoSaid' is the law's where the arguments, and the package variables that the reading takes, are together of bulk at most 1048576: NARROWER than '..Said'. Prove '..Said' where nothing that the law and all that it calls make is longer than what came in: it says more and counts as full. Else prove '..UptoSaid'. A law counts once. -/
mutual
def uptoBulk {H : Type} : DataW H → Nat
  | .lit (.string bytes) => bytes.length + 1
  | .lit _ => 1
  | .nil => 1
  | .ptr d => uptoBulk d + 1
  | .slice elems spare => uptoBulkAll elems + uptoBulkAll spare + 1
  | .agg parts => uptoBulkAll parts + 1
  | .iface _ d => uptoBulk d + 1
  | .map entries => uptoBulkEntries entries + 1
  | .held _ => 1
def uptoBulkAll {H : Type} : List (DataW H) → Nat
  | [] => 0
  | d :: r => uptoBulk d + uptoBulkAll r
def uptoBulkEntries {H : Type} : List (Lit × DataW H) → Nat
  | [] => 0
  | x :: r => uptoBulkEntry x + uptoBulkEntries r
def uptoBulkEntry {H : Type} : Lit × DataW H → Nat
  | (.string bytes, d) => bytes.length + uptoBulk d + 1
  | (_, d) => uptoBulk d + 1
 end
def uptoSmall : (H : Type) → List (DataW H) → Bool := fun _ ds => decide (uptoBulkAll ds ≤ 1048576)
def OpenSpec.upto (s : _root_.Go.ChangeSpec) : _root_.Go.OpenSpec := { _root_.Go.OpenSpec.ofChange s with cond := some uptoSmall }

/-- 'attestorlaw32.MaskMatchesReference', WHERE WHAT IT READS IS OF BULK AT MOST 1048576: true; the input reads as it did. -/
def maskMatchesReferenceUptoRow : OpenClaim := { program := "ytnddfeidggcplaagreat", sum := "52e2215b9275ae176bf240fc5c27f1c6b09fed0d1833ae4d192f3d563ea726d3", func := "attestor/attestorlaw32.MaskMatchesReference", spec := "maskMatchesReference", inPlace := ["math/bits.Sub64", "math/bits.Add64", "internal/reflectlite.TypeOf"], unfollowed := true, recurses := true, apart := false, narrowed := true }
def MaskMatchesReferenceUptoSaid : Prop := maskMatchesReferenceUptoRow.holds Tryz.pinned (OpenSpec.upto maskMatchesReferenceSpec)

/-- 'attestorlaw32.MaskChecksMatchReference', WHERE WHAT IT READS IS OF BULK AT MOST 1048576: true; the input reads as it did. -/
def maskChecksMatchReferenceUptoRow : OpenClaim := { program := "ytnddfeidggcplaagreat", sum := "52e2215b9275ae176bf240fc5c27f1c6b09fed0d1833ae4d192f3d563ea726d3", func := "attestor/attestorlaw32.MaskChecksMatchReference", spec := "maskChecksMatchReference", inPlace := ["math/bits.Sub64", "math/bits.Add64", "internal/reflectlite.TypeOf"], unfollowed := true, recurses := true, apart := false, narrowed := true }
def MaskChecksMatchReferenceUptoSaid : Prop := maskChecksMatchReferenceUptoRow.holds Tryz.pinned (OpenSpec.upto maskChecksMatchReferenceSpec)

/-- 'attestorlaw32.MaskTotals', WHERE WHAT IT READS IS OF BULK AT MOST 1048576: true; the input reads as it did. -/
def maskTotalsUptoRow : OpenClaim := { program := "ytnddfeidggcplaagreat", sum := "52e2215b9275ae176bf240fc5c27f1c6b09fed0d1833ae4d192f3d563ea726d3", func := "attestor/attestorlaw32.MaskTotals", spec := "maskTotals", inPlace := ["math/bits.Sub64", "math/bits.Add64", "internal/reflectlite.TypeOf"], unfollowed := true, recurses := true, apart := false, narrowed := true }
def MaskTotalsUptoSaid : Prop := maskTotalsUptoRow.holds Tryz.pinned (OpenSpec.upto maskTotalsSpec)

/-- 'attestorlaw32.MaskLinear', WHERE WHAT IT READS IS OF BULK AT MOST 1048576: true; the input reads as it did. -/
def maskLinearUptoRow : OpenClaim := { program := "ytnddfeidggcplaagreat", sum := "52e2215b9275ae176bf240fc5c27f1c6b09fed0d1833ae4d192f3d563ea726d3", func := "attestor/attestorlaw32.MaskLinear", spec := "maskLinear", inPlace := ["math/bits.Sub64", "math/bits.Add64", "internal/reflectlite.TypeOf"], unfollowed := true, recurses := true, apart := false, narrowed := true }
def MaskLinearUptoSaid : Prop := maskLinearUptoRow.holds Tryz.pinned (OpenSpec.upto maskLinearSpec)

/-- 'attestorlaw32.MaskSimulation', WHERE WHAT IT READS IS OF BULK AT MOST 1048576: true; the input reads as it did. -/
def maskSimulationUptoRow : OpenClaim := { program := "ytnddfeidggcplaagreat", sum := "52e2215b9275ae176bf240fc5c27f1c6b09fed0d1833ae4d192f3d563ea726d3", func := "attestor/attestorlaw32.MaskSimulation", spec := "maskSimulation", inPlace := ["math/bits.Sub64", "math/bits.Add64", "internal/reflectlite.TypeOf"], unfollowed := true, recurses := true, apart := false, narrowed := true }
def MaskSimulationUptoSaid : Prop := maskSimulationUptoRow.holds Tryz.pinned (OpenSpec.upto maskSimulationSpec)

/-- 'attestorlaw32.MaskHiding', WHERE WHAT IT READS IS OF BULK AT MOST 1048576: true; the input reads as it did. -/
def maskHidingUptoRow : OpenClaim := { program := "ytnddfeidggcplaagreat", sum := "52e2215b9275ae176bf240fc5c27f1c6b09fed0d1833ae4d192f3d563ea726d3", func := "attestor/attestorlaw32.MaskHiding", spec := "maskHiding", inPlace := ["math/bits.Sub64", "math/bits.Add64", "internal/reflectlite.TypeOf"], unfollowed := true, recurses := true, apart := false, narrowed := true }
def MaskHidingUptoSaid : Prop := maskHidingUptoRow.holds Tryz.pinned (OpenSpec.upto maskHidingSpec)

/-- 'attestorlaw32.MaskNormalized', WHERE WHAT IT READS IS OF BULK AT MOST 1048576: true; the input reads as it did. -/
def maskNormalizedUptoRow : OpenClaim := { program := "ytnddfeidggcplaagreat", sum := "52e2215b9275ae176bf240fc5c27f1c6b09fed0d1833ae4d192f3d563ea726d3", func := "attestor/attestorlaw32.MaskNormalized", spec := "maskNormalized", inPlace := ["math/bits.Sub64", "math/bits.Add64", "internal/reflectlite.TypeOf"], unfollowed := true, recurses := true, apart := false, narrowed := true }
def MaskNormalizedUptoSaid : Prop := maskNormalizedUptoRow.holds Tryz.pinned (OpenSpec.upto maskNormalizedSpec)

/-- 'attestorlaw32.MaskErrors', WHERE WHAT IT READS IS OF BULK AT MOST 1048576: true; the input reads as it did. -/
def maskErrorsUptoRow : OpenClaim := { program := "ytnddfeidggcplaagreat", sum := "52e2215b9275ae176bf240fc5c27f1c6b09fed0d1833ae4d192f3d563ea726d3", func := "attestor/attestorlaw32.MaskErrors", spec := "maskErrors", inPlace := ["math/bits.Sub64", "math/bits.Add64", "internal/reflectlite.TypeOf"], unfollowed := true, recurses := true, apart := false, narrowed := true }
def MaskErrorsUptoSaid : Prop := maskErrorsUptoRow.holds Tryz.pinned (OpenSpec.upto maskErrorsSpec)

/-- 'attestorlaw32.MaskComplete', WHERE WHAT IT READS IS OF BULK AT MOST 1048576: true; the input reads as it did. -/
def maskCompleteUptoRow : OpenClaim := { program := "ytnddfeidggcplaagreat", sum := "52e2215b9275ae176bf240fc5c27f1c6b09fed0d1833ae4d192f3d563ea726d3", func := "attestor/attestorlaw32.MaskComplete", spec := "maskComplete", inPlace := ["math/bits.Sub64", "math/bits.Add64", "internal/reflectlite.TypeOf"], unfollowed := true, recurses := true, apart := false, narrowed := true }
def MaskCompleteUptoSaid : Prop := maskCompleteUptoRow.holds Tryz.pinned (OpenSpec.upto maskCompleteSpec)

end Rows
end Go.Proofs.YtnddfeidggcplaaGreat
