/-
  DERIVED. GIVEN WITH THE SEED: THE CARDS: each row of YtkgglhakimkkhaaGreatDoorRows.lean that lists a variable, with what it lists TIED to the program's text (the seventh form; the later family's looks); each row that meets fmt, with fmt's text TOLD by the authors' own Lean function (tested against real Go, not proved from fmt's source: count such statements apart). THE CARD IS WHAT COUNTS. Prove the row's statement (the work); the ties are given (YtkgglhakimkkhaaGreatDoorTie.lean); close each card by the builder's one call (the guide's Derived/Test/ToyasCard.lean, 'card_holds'). Laid BY PROGRAM, IN A SANDBOX (cutbox-door.mjs). By AI agents, Wed Nov 11 2026. No macro, syntax, notation, axiom, sorry.
-/
import Derived.Test.YtkgglhakimkkhaaGreatDoorRows
import GoSem.ClaimSeven
namespace Go.Proofs.YtkgglhakimkkhaaGreatDoor
namespace Rows

/-- THE TIED CARD OF 'attestorlaw21.BatchMatchesReference'. -/
def batchMatchesReferenceCard : Claim7 := { stood := { row := batchMatchesReferenceRow, standIns := [], harness := (true, "0b279b513817d1325ca5a8a98306dd163978ee552ce48859e01ed97f7221a2c5"), looks := false }, kinds := [], alts := [], laidByText := true, laidKinds := [.data, .data, .data], laidTests := true, laidLooks := .later }
def BatchMatchesReferenceCardSaid : Prop := Claim7.holds Tryz.pinned (.plain (OpenSpec.ofChange batchMatchesReferenceSpec)) batchMatchesReferenceCard

/-- THE SECOND FORM's CARD OF 'attestorlaw21.BatchMatchesReference'. -/
def batchMatchesReferenceUptoCard : Claim7 := { stood := { row := batchMatchesReferenceUptoRow, standIns := [], harness := (true, "0b279b513817d1325ca5a8a98306dd163978ee552ce48859e01ed97f7221a2c5"), looks := false }, kinds := [], alts := [], laidByText := true, laidKinds := [.data, .data, .data], laidTests := true, laidLooks := .later }
def BatchMatchesReferenceUptoCardSaid : Prop := Claim7.holds Tryz.pinned (.plain (OpenSpec.upto batchMatchesReferenceSpec)) batchMatchesReferenceUptoCard
end Rows
end Go.Proofs.YtkgglhakimkkhaaGreatDoor
