/-
  DERIVED. GIVEN WITH THE SEED: THE CARDS: each row of YtnfiomccgakooaaDoorRows.lean that lists a variable, with what it lists TIED to the program's text (the seventh form; the later family's looks); each row that meets fmt, with fmt's text TOLD by the authors' own Lean function (tested against real Go, not proved from fmt's source: count such statements apart). THE CARD IS WHAT COUNTS. Prove the row's statement (the work); the ties are given (YtnfiomccgakooaaDoorTie.lean); close each card by the builder's one call (the guide's Derived/Test/ToyasCard.lean, 'card_holds'). Laid BY PROGRAM, IN A SANDBOX (cutbox-door.mjs). By AI agents, Wed Nov 11 2026. No macro, syntax, notation, axiom, sorry.
-/
import Derived.Test.YtnfiomccgakooaaDoorRows
import GoSem.ClaimSeven
namespace Go.Proofs.YtnfiomccgakooaaDoor
namespace Rows

/-- THE TIED CARD OF 'attestorlaw05.MleMatchesReference'. -/
def mleMatchesReferenceCard : Claim7 := { stood := { row := mleMatchesReferenceRow, standIns := [], harness := (true, "2b4ca90722f380ddc24e2c120acb4f1250b65f505664cbe7114a0087009ac0c2"), looks := false }, kinds := [], alts := [], laidByText := true, laidKinds := [.data], laidTests := true, laidLooks := .later }
def MleMatchesReferenceCardSaid : Prop := Claim7.holds Tryd.pinned (.plain (OpenSpec.ofChange mleMatchesReferenceSpec)) mleMatchesReferenceCard

/-- THE SECOND FORM's CARD OF 'attestorlaw05.MleMatchesReference'. -/
def mleMatchesReferenceUptoCard : Claim7 := { stood := { row := mleMatchesReferenceUptoRow, standIns := [], harness := (true, "2b4ca90722f380ddc24e2c120acb4f1250b65f505664cbe7114a0087009ac0c2"), looks := false }, kinds := [], alts := [], laidByText := true, laidKinds := [.data], laidTests := true, laidLooks := .later }
def MleMatchesReferenceUptoCardSaid : Prop := Claim7.holds Tryd.pinned (.plain (OpenSpec.upto mleMatchesReferenceSpec)) mleMatchesReferenceUptoCard
end Rows
end Go.Proofs.YtnfiomccgakooaaDoor
