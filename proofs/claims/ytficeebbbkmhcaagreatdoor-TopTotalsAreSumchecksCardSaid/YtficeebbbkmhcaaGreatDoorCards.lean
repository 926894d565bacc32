/-
  DERIVED. GIVEN WITH THE SEED: THE CARDS: each row of YtficeebbbkmhcaaGreatDoorRows.lean that lists a variable, with what it lists TIED to the program's text (the seventh form; the later family's looks); each row that meets fmt, with fmt's text TOLD by the authors' own Lean function (tested against real Go, not proved from fmt's source: count such statements apart). THE CARD IS WHAT COUNTS. Prove the row's statement (the work); the ties are given (YtficeebbbkmhcaaGreatDoorTie.lean); close each card by the builder's one call (the guide's Derived/Test/ToyasCard.lean, 'card_holds'). Laid BY PROGRAM, IN A SANDBOX (cutbox-door.mjs). By AI agents, Wed Nov 11 2026. No macro, syntax, notation, axiom, sorry.
-/
import Derived.Test.YtficeebbbkmhcaaGreatDoorRows
import GoSem.ClaimSeven
namespace Go.Proofs.YtficeebbbkmhcaaGreatDoor
namespace Rows

/-- THE TIED CARD OF 'attestortop.TopTotalsAreSumchecks'. -/
def topTotalsAreSumchecksCard : Claim7 := { stood := { row := topTotalsAreSumchecksRow, standIns := [], harness := (true, "13c460c52cef1fa375490e0045f2463459ccc850cbd911ba775bd82b145813ca"), looks := true }, kinds := [], alts := [], laidByText := true, laidKinds := [.data, .data, .data, .sentinel, .sentinel, .mapped], laidTests := true, laidLooks := .later }
def TopTotalsAreSumchecksCardSaid : Prop := Claim7.holds Tryz.pinned (.plain (OpenSpec.ofChange topTotalsAreSumchecksSpec)) topTotalsAreSumchecksCard

/-- THE SECOND FORM's CARD OF 'attestortop.TopTotalsAreSumchecks'. -/
def topTotalsAreSumchecksUptoCard : Claim7 := { stood := { row := topTotalsAreSumchecksUptoRow, standIns := [], harness := (true, "13c460c52cef1fa375490e0045f2463459ccc850cbd911ba775bd82b145813ca"), looks := true }, kinds := [], alts := [], laidByText := true, laidKinds := [.data, .data, .data, .sentinel, .sentinel, .mapped], laidTests := true, laidLooks := .later }
def TopTotalsAreSumchecksUptoCardSaid : Prop := Claim7.holds Tryz.pinned (.plain (OpenSpec.upto topTotalsAreSumchecksSpec)) topTotalsAreSumchecksUptoCard
end Rows
end Go.Proofs.YtficeebbbkmhcaaGreatDoor
