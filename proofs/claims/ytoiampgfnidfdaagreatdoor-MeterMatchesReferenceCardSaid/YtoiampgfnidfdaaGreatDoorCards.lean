/-
  DERIVED. GIVEN WITH THE SEED: THE CARDS: each row of YtoiampgfnidfdaaGreatDoorRows.lean that lists a variable, with what it lists TIED to the program's text (the seventh form; the later family's looks); each row that meets fmt, with fmt's text TOLD by the authors' own Lean function (tested against real Go, not proved from fmt's source: count such statements apart). THE CARD IS WHAT COUNTS. Prove the row's statement (the work); the ties are given (YtoiampgfnidfdaaGreatDoorTie.lean); close each card by the builder's one call (the guide's Derived/Test/ToyasCard.lean, 'card_holds'). Laid BY PROGRAM, IN A SANDBOX (cutbox-door.mjs). By AI agents, Wed Nov 11 2026. No macro, syntax, notation, axiom, sorry.
-/
import Derived.Test.YtoiampgfnidfdaaGreatDoorRows
import GoSem.ClaimSeven
namespace Go.Proofs.YtoiampgfnidfdaaGreatDoor
namespace Rows

/-- THE TIED CARD OF 'attestorlaw26.MeterMatchesReference'. -/
def meterMatchesReferenceCard : Claim7 := { stood := { row := meterMatchesReferenceRow, standIns := [], harness := (true, "a8fa8e43e76df3618a7219ddafe0bc1d015069b233e7bbcbadea8b6b7f743b80"), looks := false }, kinds := [], alts := [], laidByText := true, laidKinds := [.data, .data, .data, .data, .data], laidTests := true, laidLooks := .later }
def MeterMatchesReferenceCardSaid : Prop := Claim7.holds Tryz.pinned (.plain (OpenSpec.ofChange meterMatchesReferenceSpec)) meterMatchesReferenceCard

/-- THE TIED CARD OF 'attestorlaw26.MeterTrees'. -/
def meterTreesCard : Claim7 := { stood := { row := meterTreesRow, standIns := [], harness := (true, "a8fa8e43e76df3618a7219ddafe0bc1d015069b233e7bbcbadea8b6b7f743b80"), looks := false }, kinds := [], alts := [], laidByText := true, laidKinds := [.data, .data, .data, .data, .data], laidTests := true, laidLooks := .later }
def MeterTreesCardSaid : Prop := Claim7.holds Tryz.pinned (.plain (OpenSpec.ofChange meterTreesSpec)) meterTreesCard

/-- THE TIED CARD OF 'attestorlaw26.MeterVersions'. -/
def meterVersionsCard : Claim7 := { stood := { row := meterVersionsRow, standIns := [], harness := (true, "a8fa8e43e76df3618a7219ddafe0bc1d015069b233e7bbcbadea8b6b7f743b80"), looks := false }, kinds := [], alts := [], laidByText := true, laidKinds := [.data, .data, .data, .data, .data], laidTests := true, laidLooks := .later }
def MeterVersionsCardSaid : Prop := Claim7.holds Tryz.pinned (.plain (OpenSpec.ofChange meterVersionsSpec)) meterVersionsCard

/-- THE TIED CARD OF 'attestorlaw26.MeterSmall'. -/
def meterSmallCard : Claim7 := { stood := { row := meterSmallRow, standIns := [], harness := (true, "a8fa8e43e76df3618a7219ddafe0bc1d015069b233e7bbcbadea8b6b7f743b80"), looks := false }, kinds := [], alts := [], laidByText := true, laidKinds := [.data, .data, .data, .data, .data], laidTests := true, laidLooks := .later }
def MeterSmallCardSaid : Prop := Claim7.holds Tryz.pinned (.plain (OpenSpec.ofChange meterSmallSpec)) meterSmallCard

/-- THE TIED CARD OF 'attestorlaw26.MeterStreams'. -/
def meterStreamsCard : Claim7 := { stood := { row := meterStreamsRow, standIns := [], harness := (true, "a8fa8e43e76df3618a7219ddafe0bc1d015069b233e7bbcbadea8b6b7f743b80"), looks := false }, kinds := [], alts := [], laidByText := true, laidKinds := [.data, .data, .data, .data, .data], laidTests := true, laidLooks := .later }
def MeterStreamsCardSaid : Prop := Claim7.holds Tryz.pinned (.plain (OpenSpec.ofChange meterStreamsSpec)) meterStreamsCard

/-- THE SECOND FORM's CARD OF 'attestorlaw26.MeterMatchesReference'. -/
def meterMatchesReferenceUptoCard : Claim7 := { stood := { row := meterMatchesReferenceUptoRow, standIns := [], harness := (true, "a8fa8e43e76df3618a7219ddafe0bc1d015069b233e7bbcbadea8b6b7f743b80"), looks := false }, kinds := [], alts := [], laidByText := true, laidKinds := [.data, .data, .data, .data, .data], laidTests := true, laidLooks := .later }
def MeterMatchesReferenceUptoCardSaid : Prop := Claim7.holds Tryz.pinned (.plain (OpenSpec.upto meterMatchesReferenceSpec)) meterMatchesReferenceUptoCard

/-- THE SECOND FORM's CARD OF 'attestorlaw26.MeterTrees'. -/
def meterTreesUptoCard : Claim7 := { stood := { row := meterTreesUptoRow, standIns := [], harness := (true, "a8fa8e43e76df3618a7219ddafe0bc1d015069b233e7bbcbadea8b6b7f743b80"), looks := false }, kinds := [], alts := [], laidByText := true, laidKinds := [.data, .data, .data, .data, .data], laidTests := true, laidLooks := .later }
def MeterTreesUptoCardSaid : Prop := Claim7.holds Tryz.pinned (.plain (OpenSpec.upto meterTreesSpec)) meterTreesUptoCard

/-- THE SECOND FORM's CARD OF 'attestorlaw26.MeterVersions'. -/
def meterVersionsUptoCard : Claim7 := { stood := { row := meterVersionsUptoRow, standIns := [], harness := (true, "a8fa8e43e76df3618a7219ddafe0bc1d015069b233e7bbcbadea8b6b7f743b80"), looks := false }, kinds := [], alts := [], laidByText := true, laidKinds := [.data, .data, .data, .data, .data], laidTests := true, laidLooks := .later }
def MeterVersionsUptoCardSaid : Prop := Claim7.holds Tryz.pinned (.plain (OpenSpec.upto meterVersionsSpec)) meterVersionsUptoCard

/-- THE SECOND FORM's CARD OF 'attestorlaw26.MeterSmall'. -/
def meterSmallUptoCard : Claim7 := { stood := { row := meterSmallUptoRow, standIns := [], harness := (true, "a8fa8e43e76df3618a7219ddafe0bc1d015069b233e7bbcbadea8b6b7f743b80"), looks := false }, kinds := [], alts := [], laidByText := true, laidKinds := [.data, .data, .data, .data, .data], laidTests := true, laidLooks := .later }
def MeterSmallUptoCardSaid : Prop := Claim7.holds Tryz.pinned (.plain (OpenSpec.upto meterSmallSpec)) meterSmallUptoCard

/-- THE SECOND FORM's CARD OF 'attestorlaw26.MeterStreams'. -/
def meterStreamsUptoCard : Claim7 := { stood := { row := meterStreamsUptoRow, standIns := [], harness := (true, "a8fa8e43e76df3618a7219ddafe0bc1d015069b233e7bbcbadea8b6b7f743b80"), looks := false }, kinds := [], alts := [], laidByText := true, laidKinds := [.data, .data, .data, .data, .data], laidTests := true, laidLooks := .later }
def MeterStreamsUptoCardSaid : Prop := Claim7.holds Tryz.pinned (.plain (OpenSpec.upto meterStreamsSpec)) meterStreamsUptoCard
end Rows
end Go.Proofs.YtoiampgfnidfdaaGreatDoor
