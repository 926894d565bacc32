/-
  DERIVED. GIVEN WITH THE SEED: THE CARDS: each row of YtipaecageimnnaaDoorRows.lean that lists a variable, with what it lists TIED to the program's text (the seventh form; the later family's looks); each row that meets fmt, with fmt's text TOLD by the authors' own Lean function (tested against real Go, not proved from fmt's source: count such statements apart). THE CARD IS WHAT COUNTS. Prove the row's statement (the work); the ties are given (YtipaecageimnnaaDoorTie.lean); close each card by the builder's one call (the guide's Derived/Test/ToyasCard.lean, 'card_holds'). Laid BY PROGRAM, IN A SANDBOX (cutbox-door.mjs). By AI agents, Wed Nov 11 2026. No macro, syntax, notation, axiom, sorry.
-/
import Derived.Test.YtipaecageimnnaaDoorRows
import GoSem.ClaimSeven
namespace Go.Proofs.YtipaecageimnnaaDoor
namespace Rows

/-- THE TIED CARD OF 'attestorlaw21.BatchCompleteness'. -/
def batchCompletenessCard : Claim7 := { stood := { row := batchCompletenessRow, standIns := [], harness := (true, "36e87fbc88b9ecff2e402abcf2e3b94ca23ae1bd41ef27f94b409ca0aede293b"), looks := false }, kinds := [], alts := [], laidByText := true, laidKinds := [.data], laidTests := true, laidLooks := .later }
def BatchCompletenessCardSaid : Prop := Claim7.holds Tryd.pinned (.plain (OpenSpec.ofChange batchCompletenessSpec)) batchCompletenessCard

/-- THE TIED CARD OF 'attestorlaw21.BatchSoundness'. -/
def batchSoundnessCard : Claim7 := { stood := { row := batchSoundnessRow, standIns := [], harness := (true, "36e87fbc88b9ecff2e402abcf2e3b94ca23ae1bd41ef27f94b409ca0aede293b"), looks := false }, kinds := [], alts := [], laidByText := true, laidKinds := [.data], laidTests := true, laidLooks := .later }
def BatchSoundnessCardSaid : Prop := Claim7.holds Tryd.pinned (.plain (OpenSpec.ofChange batchSoundnessSpec)) batchSoundnessCard

/-- THE TIED CARD OF 'attestorlaw21.BatchRejectsFalseClaims'. -/
def batchRejectsFalseClaimsCard : Claim7 := { stood := { row := batchRejectsFalseClaimsRow, standIns := [], harness := (true, "36e87fbc88b9ecff2e402abcf2e3b94ca23ae1bd41ef27f94b409ca0aede293b"), looks := false }, kinds := [], alts := [], laidByText := true, laidKinds := [.data], laidTests := true, laidLooks := .later }
def BatchRejectsFalseClaimsCardSaid : Prop := Claim7.holds Tryd.pinned (.plain (OpenSpec.ofChange batchRejectsFalseClaimsSpec)) batchRejectsFalseClaimsCard

/-- THE TIED CARD OF 'attestorlaw21.BatchWeights'. -/
def batchWeightsCard : Claim7 := { stood := { row := batchWeightsRow, standIns := [], harness := (true, "36e87fbc88b9ecff2e402abcf2e3b94ca23ae1bd41ef27f94b409ca0aede293b"), looks := false }, kinds := [], alts := [], laidByText := true, laidKinds := [.data], laidTests := true, laidLooks := .later }
def BatchWeightsCardSaid : Prop := Claim7.holds Tryd.pinned (.plain (OpenSpec.ofChange batchWeightsSpec)) batchWeightsCard

/-- THE SECOND FORM's CARD OF 'attestorlaw21.BatchCompleteness'. -/
def batchCompletenessUptoCard : Claim7 := { stood := { row := batchCompletenessUptoRow, standIns := [], harness := (true, "36e87fbc88b9ecff2e402abcf2e3b94ca23ae1bd41ef27f94b409ca0aede293b"), looks := false }, kinds := [], alts := [], laidByText := true, laidKinds := [.data], laidTests := true, laidLooks := .later }
def BatchCompletenessUptoCardSaid : Prop := Claim7.holds Tryd.pinned (.plain (OpenSpec.upto batchCompletenessSpec)) batchCompletenessUptoCard

/-- THE SECOND FORM's CARD OF 'attestorlaw21.BatchSoundness'. -/
def batchSoundnessUptoCard : Claim7 := { stood := { row := batchSoundnessUptoRow, standIns := [], harness := (true, "36e87fbc88b9ecff2e402abcf2e3b94ca23ae1bd41ef27f94b409ca0aede293b"), looks := false }, kinds := [], alts := [], laidByText := true, laidKinds := [.data], laidTests := true, laidLooks := .later }
def BatchSoundnessUptoCardSaid : Prop := Claim7.holds Tryd.pinned (.plain (OpenSpec.upto batchSoundnessSpec)) batchSoundnessUptoCard

/-- THE SECOND FORM's CARD OF 'attestorlaw21.BatchRejectsFalseClaims'. -/
def batchRejectsFalseClaimsUptoCard : Claim7 := { stood := { row := batchRejectsFalseClaimsUptoRow, standIns := [], harness := (true, "36e87fbc88b9ecff2e402abcf2e3b94ca23ae1bd41ef27f94b409ca0aede293b"), looks := false }, kinds := [], alts := [], laidByText := true, laidKinds := [.data], laidTests := true, laidLooks := .later }
def BatchRejectsFalseClaimsUptoCardSaid : Prop := Claim7.holds Tryd.pinned (.plain (OpenSpec.upto batchRejectsFalseClaimsSpec)) batchRejectsFalseClaimsUptoCard

/-- THE SECOND FORM's CARD OF 'attestorlaw21.BatchWeights'. -/
def batchWeightsUptoCard : Claim7 := { stood := { row := batchWeightsUptoRow, standIns := [], harness := (true, "36e87fbc88b9ecff2e402abcf2e3b94ca23ae1bd41ef27f94b409ca0aede293b"), looks := false }, kinds := [], alts := [], laidByText := true, laidKinds := [.data], laidTests := true, laidLooks := .later }
def BatchWeightsUptoCardSaid : Prop := Claim7.holds Tryd.pinned (.plain (OpenSpec.upto batchWeightsSpec)) batchWeightsUptoCard
end Rows
end Go.Proofs.YtipaecageimnnaaDoor
