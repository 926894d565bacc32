/-
  DERIVED. GIVEN WITH THE SEED: THE CARDS: each row of YtphokpkigbonlaaDoorRows.lean that lists a variable, with what it lists TIED to the program's text (the seventh form; the later family's looks); each row that meets fmt, with fmt's text TOLD by the authors' own Lean function (tested against real Go, not proved from fmt's source: count such statements apart). THE CARD IS WHAT COUNTS. Prove the row's statement (the work); the ties are given (YtphokpkigbonlaaDoorTie.lean); close each card by the builder's one call (the guide's Derived/Test/ToyasCard.lean, 'card_holds'). Laid BY PROGRAM, IN A SANDBOX (cutbox-door.mjs). By AI agents, Wed Nov 11 2026. No macro, syntax, notation, axiom, sorry.
-/
import Derived.Test.YtphokpkigbonlaaDoorRows
import GoSem.ClaimSeven
namespace Go.Proofs.YtphokpkigbonlaaDoor
namespace Rows

/-- THE TIED CARD OF 'attestorlaw05.MleMatchesReference'. -/
def mleMatchesReferenceCard : Claim7 := { stood := { row := mleMatchesReferenceRow, standIns := [], harness := (true, "fcf13f6db35e11ab7524a251c582a36c05b2a10d7b90e6d8692a837d673cbc60"), looks := false }, kinds := [], alts := [], laidByText := true, laidKinds := [.data], laidTests := true, laidLooks := .later }
def MleMatchesReferenceCardSaid : Prop := Claim7.holds Tryd.pinned (.plain (OpenSpec.ofChange mleMatchesReferenceSpec)) mleMatchesReferenceCard

/-- THE TIED CARD OF 'attestorlaw05.MleExtension'. -/
def mleExtensionCard : Claim7 := { stood := { row := mleExtensionRow, standIns := [], harness := (true, "fcf13f6db35e11ab7524a251c582a36c05b2a10d7b90e6d8692a837d673cbc60"), looks := false }, kinds := [], alts := [], laidByText := true, laidKinds := [.data], laidTests := true, laidLooks := .later }
def MleExtensionCardSaid : Prop := Claim7.holds Tryd.pinned (.plain (OpenSpec.ofChange mleExtensionSpec)) mleExtensionCard

/-- THE TIED CARD OF 'attestorlaw05.MleBinding'. -/
def mleBindingCard : Claim7 := { stood := { row := mleBindingRow, standIns := [], harness := (true, "fcf13f6db35e11ab7524a251c582a36c05b2a10d7b90e6d8692a837d673cbc60"), looks := false }, kinds := [], alts := [], laidByText := true, laidKinds := [.data], laidTests := true, laidLooks := .later }
def MleBindingCardSaid : Prop := Claim7.holds Tryd.pinned (.plain (OpenSpec.ofChange mleBindingSpec)) mleBindingCard

/-- THE TIED CARD OF 'attestorlaw05.MleLinear'. -/
def mleLinearCard : Claim7 := { stood := { row := mleLinearRow, standIns := [], harness := (true, "fcf13f6db35e11ab7524a251c582a36c05b2a10d7b90e6d8692a837d673cbc60"), looks := false }, kinds := [], alts := [], laidByText := true, laidKinds := [.data], laidTests := true, laidLooks := .later }
def MleLinearCardSaid : Prop := Claim7.holds Tryd.pinned (.plain (OpenSpec.ofChange mleLinearSpec)) mleLinearCard

/-- THE TIED CARD OF 'attestorlaw05.MleWeights'. -/
def mleWeightsCard : Claim7 := { stood := { row := mleWeightsRow, standIns := [], harness := (true, "fcf13f6db35e11ab7524a251c582a36c05b2a10d7b90e6d8692a837d673cbc60"), looks := false }, kinds := [], alts := [], laidByText := true, laidKinds := [.data], laidTests := true, laidLooks := .later }
def MleWeightsCardSaid : Prop := Claim7.holds Tryd.pinned (.plain (OpenSpec.ofChange mleWeightsSpec)) mleWeightsCard

/-- THE TIED CARD OF 'attestorlaw05.MleEquality'. -/
def mleEqualityCard : Claim7 := { stood := { row := mleEqualityRow, standIns := [], harness := (true, "fcf13f6db35e11ab7524a251c582a36c05b2a10d7b90e6d8692a837d673cbc60"), looks := false }, kinds := [], alts := [], laidByText := true, laidKinds := [.data], laidTests := true, laidLooks := .later }
def MleEqualityCardSaid : Prop := Claim7.holds Tryd.pinned (.plain (OpenSpec.ofChange mleEqualitySpec)) mleEqualityCard

/-- THE TIED CARD OF 'attestorlaw05.MleStreaming'. -/
def mleStreamingCard : Claim7 := { stood := { row := mleStreamingRow, standIns := [], harness := (true, "fcf13f6db35e11ab7524a251c582a36c05b2a10d7b90e6d8692a837d673cbc60"), looks := false }, kinds := [], alts := [], laidByText := true, laidKinds := [.data], laidTests := true, laidLooks := .later }
def MleStreamingCardSaid : Prop := Claim7.holds Tryd.pinned (.plain (OpenSpec.ofChange mleStreamingSpec)) mleStreamingCard

/-- THE TIED CARD OF 'attestorlaw05.MleLines'. -/
def mleLinesCard : Claim7 := { stood := { row := mleLinesRow, standIns := [], harness := (true, "fcf13f6db35e11ab7524a251c582a36c05b2a10d7b90e6d8692a837d673cbc60"), looks := false }, kinds := [], alts := [], laidByText := true, laidKinds := [.data], laidTests := true, laidLooks := .later }
def MleLinesCardSaid : Prop := Claim7.holds Tryd.pinned (.plain (OpenSpec.ofChange mleLinesSpec)) mleLinesCard

/-- THE TIED CARD OF 'attestorlaw05.MleSums'. -/
def mleSumsCard : Claim7 := { stood := { row := mleSumsRow, standIns := [], harness := (true, "fcf13f6db35e11ab7524a251c582a36c05b2a10d7b90e6d8692a837d673cbc60"), looks := false }, kinds := [], alts := [], laidByText := true, laidKinds := [.data], laidTests := true, laidLooks := .later }
def MleSumsCardSaid : Prop := Claim7.holds Tryd.pinned (.plain (OpenSpec.ofChange mleSumsSpec)) mleSumsCard

/-- THE SECOND FORM's CARD OF 'attestorlaw05.MleMatchesReference'. -/
def mleMatchesReferenceUptoCard : Claim7 := { stood := { row := mleMatchesReferenceUptoRow, standIns := [], harness := (true, "fcf13f6db35e11ab7524a251c582a36c05b2a10d7b90e6d8692a837d673cbc60"), looks := false }, kinds := [], alts := [], laidByText := true, laidKinds := [.data], laidTests := true, laidLooks := .later }
def MleMatchesReferenceUptoCardSaid : Prop := Claim7.holds Tryd.pinned (.plain (OpenSpec.upto mleMatchesReferenceSpec)) mleMatchesReferenceUptoCard

/-- THE SECOND FORM's CARD OF 'attestorlaw05.MleExtension'. -/
def mleExtensionUptoCard : Claim7 := { stood := { row := mleExtensionUptoRow, standIns := [], harness := (true, "fcf13f6db35e11ab7524a251c582a36c05b2a10d7b90e6d8692a837d673cbc60"), looks := false }, kinds := [], alts := [], laidByText := true, laidKinds := [.data], laidTests := true, laidLooks := .later }
def MleExtensionUptoCardSaid : Prop := Claim7.holds Tryd.pinned (.plain (OpenSpec.upto mleExtensionSpec)) mleExtensionUptoCard

/-- THE SECOND FORM's CARD OF 'attestorlaw05.MleBinding'. -/
def mleBindingUptoCard : Claim7 := { stood := { row := mleBindingUptoRow, standIns := [], harness := (true, "fcf13f6db35e11ab7524a251c582a36c05b2a10d7b90e6d8692a837d673cbc60"), looks := false }, kinds := [], alts := [], laidByText := true, laidKinds := [.data], laidTests := true, laidLooks := .later }
def MleBindingUptoCardSaid : Prop := Claim7.holds Tryd.pinned (.plain (OpenSpec.upto mleBindingSpec)) mleBindingUptoCard

/-- THE SECOND FORM's CARD OF 'attestorlaw05.MleLinear'. -/
def mleLinearUptoCard : Claim7 := { stood := { row := mleLinearUptoRow, standIns := [], harness := (true, "fcf13f6db35e11ab7524a251c582a36c05b2a10d7b90e6d8692a837d673cbc60"), looks := false }, kinds := [], alts := [], laidByText := true, laidKinds := [.data], laidTests := true, laidLooks := .later }
def MleLinearUptoCardSaid : Prop := Claim7.holds Tryd.pinned (.plain (OpenSpec.upto mleLinearSpec)) mleLinearUptoCard

/-- THE SECOND FORM's CARD OF 'attestorlaw05.MleWeights'. -/
def mleWeightsUptoCard : Claim7 := { stood := { row := mleWeightsUptoRow, standIns := [], harness := (true, "fcf13f6db35e11ab7524a251c582a36c05b2a10d7b90e6d8692a837d673cbc60"), looks := false }, kinds := [], alts := [], laidByText := true, laidKinds := [.data], laidTests := true, laidLooks := .later }
def MleWeightsUptoCardSaid : Prop := Claim7.holds Tryd.pinned (.plain (OpenSpec.upto mleWeightsSpec)) mleWeightsUptoCard

/-- THE SECOND FORM's CARD OF 'attestorlaw05.MleEquality'. -/
def mleEqualityUptoCard : Claim7 := { stood := { row := mleEqualityUptoRow, standIns := [], harness := (true, "fcf13f6db35e11ab7524a251c582a36c05b2a10d7b90e6d8692a837d673cbc60"), looks := false }, kinds := [], alts := [], laidByText := true, laidKinds := [.data], laidTests := true, laidLooks := .later }
def MleEqualityUptoCardSaid : Prop := Claim7.holds Tryd.pinned (.plain (OpenSpec.upto mleEqualitySpec)) mleEqualityUptoCard

/-- THE SECOND FORM's CARD OF 'attestorlaw05.MleStreaming'. -/
def mleStreamingUptoCard : Claim7 := { stood := { row := mleStreamingUptoRow, standIns := [], harness := (true, "fcf13f6db35e11ab7524a251c582a36c05b2a10d7b90e6d8692a837d673cbc60"), looks := false }, kinds := [], alts := [], laidByText := true, laidKinds := [.data], laidTests := true, laidLooks := .later }
def MleStreamingUptoCardSaid : Prop := Claim7.holds Tryd.pinned (.plain (OpenSpec.upto mleStreamingSpec)) mleStreamingUptoCard

/-- THE SECOND FORM's CARD OF 'attestorlaw05.MleLines'. -/
def mleLinesUptoCard : Claim7 := { stood := { row := mleLinesUptoRow, standIns := [], harness := (true, "fcf13f6db35e11ab7524a251c582a36c05b2a10d7b90e6d8692a837d673cbc60"), looks := false }, kinds := [], alts := [], laidByText := true, laidKinds := [.data], laidTests := true, laidLooks := .later }
def MleLinesUptoCardSaid : Prop := Claim7.holds Tryd.pinned (.plain (OpenSpec.upto mleLinesSpec)) mleLinesUptoCard

/-- THE SECOND FORM's CARD OF 'attestorlaw05.MleSums'. -/
def mleSumsUptoCard : Claim7 := { stood := { row := mleSumsUptoRow, standIns := [], harness := (true, "fcf13f6db35e11ab7524a251c582a36c05b2a10d7b90e6d8692a837d673cbc60"), looks := false }, kinds := [], alts := [], laidByText := true, laidKinds := [.data], laidTests := true, laidLooks := .later }
def MleSumsUptoCardSaid : Prop := Claim7.holds Tryd.pinned (.plain (OpenSpec.upto mleSumsSpec)) mleSumsUptoCard
end Rows
end Go.Proofs.YtphokpkigbonlaaDoor
