/-
  DERIVED. GIVEN WITH THE SEED: THE CARDS: each row of YtbmgngoeiadmmaaDoorRows.lean that lists a variable, with what it lists TIED to the program's text (the seventh form; the later family's looks); each row that meets fmt, with fmt's text TOLD by the authors' own Lean function (tested against real Go, not proved from fmt's source: count such statements apart). THE CARD IS WHAT COUNTS. Prove the row's statement (the work); the ties are given (YtbmgngoeiadmmaaDoorTie.lean); close each card by the builder's one call (the guide's Derived/Test/ToyasCard.lean, 'card_holds'). Laid BY PROGRAM, IN A SANDBOX (cutbox-door.mjs). By AI agents, Wed Nov 11 2026. No macro, syntax, notation, axiom, sorry.
-/
import Derived.Test.YtbmgngoeiadmmaaDoorRows
import GoSem.ClaimSeven
namespace Go.Proofs.YtbmgngoeiadmmaaDoor
namespace Rows

/-- THE TIED CARD OF 'attestorlaw17.WiringMatchesReference'. -/
def wiringMatchesReferenceCard : Claim7 := { stood := { row := wiringMatchesReferenceRow, standIns := [], harness := (true, "b58a6c5cdcdf5ef8921117997de41935d23158930a79f8aac9f627ce2c7af81e"), looks := false }, kinds := [], alts := [], laidByText := true, laidKinds := [.data], laidTests := true, laidLooks := .later }
def WiringMatchesReferenceCardSaid : Prop := Claim7.holds Tryd.pinned (.plain (OpenSpec.ofChange wiringMatchesReferenceSpec)) wiringMatchesReferenceCard

/-- THE TIED CARD OF 'attestorlaw17.WiringLayers'. -/
def wiringLayersCard : Claim7 := { stood := { row := wiringLayersRow, standIns := [], harness := (true, "b58a6c5cdcdf5ef8921117997de41935d23158930a79f8aac9f627ce2c7af81e"), looks := false }, kinds := [], alts := [], laidByText := true, laidKinds := [.data], laidTests := true, laidLooks := .later }
def WiringLayersCardSaid : Prop := Claim7.holds Tryd.pinned (.plain (OpenSpec.ofChange wiringLayersSpec)) wiringLayersCard

/-- THE TIED CARD OF 'attestorlaw17.WiringPoint'. -/
def wiringPointCard : Claim7 := { stood := { row := wiringPointRow, standIns := [], harness := (true, "b58a6c5cdcdf5ef8921117997de41935d23158930a79f8aac9f627ce2c7af81e"), looks := false }, kinds := [], alts := [], laidByText := true, laidKinds := [.data], laidTests := true, laidLooks := .later }
def WiringPointCardSaid : Prop := Claim7.holds Tryd.pinned (.plain (OpenSpec.ofChange wiringPointSpec)) wiringPointCard

/-- THE TIED CARD OF 'attestorlaw17.WiringLinear'. -/
def wiringLinearCard : Claim7 := { stood := { row := wiringLinearRow, standIns := [], harness := (true, "b58a6c5cdcdf5ef8921117997de41935d23158930a79f8aac9f627ce2c7af81e"), looks := false }, kinds := [], alts := [], laidByText := true, laidKinds := [.data], laidTests := true, laidLooks := .later }
def WiringLinearCardSaid : Prop := Claim7.holds Tryd.pinned (.plain (OpenSpec.ofChange wiringLinearSpec)) wiringLinearCard

/-- THE TIED CARD OF 'attestorlaw17.WiringOrder'. -/
def wiringOrderCard : Claim7 := { stood := { row := wiringOrderRow, standIns := [], harness := (true, "b58a6c5cdcdf5ef8921117997de41935d23158930a79f8aac9f627ce2c7af81e"), looks := false }, kinds := [], alts := [], laidByText := true, laidKinds := [.data], laidTests := true, laidLooks := .later }
def WiringOrderCardSaid : Prop := Claim7.holds Tryd.pinned (.plain (OpenSpec.ofChange wiringOrderSpec)) wiringOrderCard

/-- THE TIED CARD OF 'attestorlaw17.WiringMerge'. -/
def wiringMergeCard : Claim7 := { stood := { row := wiringMergeRow, standIns := [], harness := (true, "b58a6c5cdcdf5ef8921117997de41935d23158930a79f8aac9f627ce2c7af81e"), looks := false }, kinds := [], alts := [], laidByText := true, laidKinds := [.data], laidTests := true, laidLooks := .later }
def WiringMergeCardSaid : Prop := Claim7.holds Tryd.pinned (.plain (OpenSpec.ofChange wiringMergeSpec)) wiringMergeCard

/-- THE TIED CARD OF 'attestorlaw17.WiringSwap'. -/
def wiringSwapCard : Claim7 := { stood := { row := wiringSwapRow, standIns := [], harness := (true, "b58a6c5cdcdf5ef8921117997de41935d23158930a79f8aac9f627ce2c7af81e"), looks := false }, kinds := [], alts := [], laidByText := true, laidKinds := [.data], laidTests := true, laidLooks := .later }
def WiringSwapCardSaid : Prop := Claim7.holds Tryd.pinned (.plain (OpenSpec.ofChange wiringSwapSpec)) wiringSwapCard

/-- THE TIED CARD OF 'attestorlaw17.WiringExtension'. -/
def wiringExtensionCard : Claim7 := { stood := { row := wiringExtensionRow, standIns := [], harness := (true, "b58a6c5cdcdf5ef8921117997de41935d23158930a79f8aac9f627ce2c7af81e"), looks := false }, kinds := [], alts := [], laidByText := true, laidKinds := [.data], laidTests := true, laidLooks := .later }
def WiringExtensionCardSaid : Prop := Claim7.holds Tryd.pinned (.plain (OpenSpec.ofChange wiringExtensionSpec)) wiringExtensionCard

/-- THE SECOND FORM's CARD OF 'attestorlaw17.WiringMatchesReference'. -/
def wiringMatchesReferenceUptoCard : Claim7 := { stood := { row := wiringMatchesReferenceUptoRow, standIns := [], harness := (true, "b58a6c5cdcdf5ef8921117997de41935d23158930a79f8aac9f627ce2c7af81e"), looks := false }, kinds := [], alts := [], laidByText := true, laidKinds := [.data], laidTests := true, laidLooks := .later }
def WiringMatchesReferenceUptoCardSaid : Prop := Claim7.holds Tryd.pinned (.plain (OpenSpec.upto wiringMatchesReferenceSpec)) wiringMatchesReferenceUptoCard

/-- THE SECOND FORM's CARD OF 'attestorlaw17.WiringLayers'. -/
def wiringLayersUptoCard : Claim7 := { stood := { row := wiringLayersUptoRow, standIns := [], harness := (true, "b58a6c5cdcdf5ef8921117997de41935d23158930a79f8aac9f627ce2c7af81e"), looks := false }, kinds := [], alts := [], laidByText := true, laidKinds := [.data], laidTests := true, laidLooks := .later }
def WiringLayersUptoCardSaid : Prop := Claim7.holds Tryd.pinned (.plain (OpenSpec.upto wiringLayersSpec)) wiringLayersUptoCard

/-- THE SECOND FORM's CARD OF 'attestorlaw17.WiringPoint'. -/
def wiringPointUptoCard : Claim7 := { stood := { row := wiringPointUptoRow, standIns := [], harness := (true, "b58a6c5cdcdf5ef8921117997de41935d23158930a79f8aac9f627ce2c7af81e"), looks := false }, kinds := [], alts := [], laidByText := true, laidKinds := [.data], laidTests := true, laidLooks := .later }
def WiringPointUptoCardSaid : Prop := Claim7.holds Tryd.pinned (.plain (OpenSpec.upto wiringPointSpec)) wiringPointUptoCard

/-- THE SECOND FORM's CARD OF 'attestorlaw17.WiringLinear'. -/
def wiringLinearUptoCard : Claim7 := { stood := { row := wiringLinearUptoRow, standIns := [], harness := (true, "b58a6c5cdcdf5ef8921117997de41935d23158930a79f8aac9f627ce2c7af81e"), looks := false }, kinds := [], alts := [], laidByText := true, laidKinds := [.data], laidTests := true, laidLooks := .later }
def WiringLinearUptoCardSaid : Prop := Claim7.holds Tryd.pinned (.plain (OpenSpec.upto wiringLinearSpec)) wiringLinearUptoCard

/-- THE SECOND FORM's CARD OF 'attestorlaw17.WiringOrder'. -/
def wiringOrderUptoCard : Claim7 := { stood := { row := wiringOrderUptoRow, standIns := [], harness := (true, "b58a6c5cdcdf5ef8921117997de41935d23158930a79f8aac9f627ce2c7af81e"), looks := false }, kinds := [], alts := [], laidByText := true, laidKinds := [.data], laidTests := true, laidLooks := .later }
def WiringOrderUptoCardSaid : Prop := Claim7.holds Tryd.pinned (.plain (OpenSpec.upto wiringOrderSpec)) wiringOrderUptoCard

/-- THE SECOND FORM's CARD OF 'attestorlaw17.WiringMerge'. -/
def wiringMergeUptoCard : Claim7 := { stood := { row := wiringMergeUptoRow, standIns := [], harness := (true, "b58a6c5cdcdf5ef8921117997de41935d23158930a79f8aac9f627ce2c7af81e"), looks := false }, kinds := [], alts := [], laidByText := true, laidKinds := [.data], laidTests := true, laidLooks := .later }
def WiringMergeUptoCardSaid : Prop := Claim7.holds Tryd.pinned (.plain (OpenSpec.upto wiringMergeSpec)) wiringMergeUptoCard

/-- THE SECOND FORM's CARD OF 'attestorlaw17.WiringSwap'. -/
def wiringSwapUptoCard : Claim7 := { stood := { row := wiringSwapUptoRow, standIns := [], harness := (true, "b58a6c5cdcdf5ef8921117997de41935d23158930a79f8aac9f627ce2c7af81e"), looks := false }, kinds := [], alts := [], laidByText := true, laidKinds := [.data], laidTests := true, laidLooks := .later }
def WiringSwapUptoCardSaid : Prop := Claim7.holds Tryd.pinned (.plain (OpenSpec.upto wiringSwapSpec)) wiringSwapUptoCard

/-- THE SECOND FORM's CARD OF 'attestorlaw17.WiringExtension'. -/
def wiringExtensionUptoCard : Claim7 := { stood := { row := wiringExtensionUptoRow, standIns := [], harness := (true, "b58a6c5cdcdf5ef8921117997de41935d23158930a79f8aac9f627ce2c7af81e"), looks := false }, kinds := [], alts := [], laidByText := true, laidKinds := [.data], laidTests := true, laidLooks := .later }
def WiringExtensionUptoCardSaid : Prop := Claim7.holds Tryd.pinned (.plain (OpenSpec.upto wiringExtensionSpec)) wiringExtensionUptoCard
end Rows
end Go.Proofs.YtbmgngoeiadmmaaDoor
