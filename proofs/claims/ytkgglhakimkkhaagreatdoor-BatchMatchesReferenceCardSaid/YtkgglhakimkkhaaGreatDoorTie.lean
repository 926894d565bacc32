/-
  DERIVED. GIVEN WITH THE SEED: THE PROGRAM's TIES (one call each: nine closed facts by the kernel) AND EACH ROW's TIE, after the 31st guide's Derived/Test/Toyas{Tie, Card}.lean. No idea stands in it: it is a product of the set-up. Laid BY PROGRAM, IN A SANDBOX (cutbox-door.mjs). By AI agents, Wed Nov 11 2026. No macro, syntax, notation, axiom, sorry.
-/
import Derived.Test.YtkgglhakimkkhaaGreatDoorRows
import Derived.LaidByTextLater
import Derived.SevenTiedAt
import Derived.LaidSub
import Derived.LaidOnce
namespace Go.Proofs.YtkgglhakimkkhaaGreatDoor
open Go
set_option maxRecDepth 100000
theorem seatTie1 : Tryz.prog.laidByTextLater [("attestor/mle.one", Rows.laid_attestor_mle_one), ("attestor/sha256.constants", Rows.laid_attestor_sha256_constants), ("attestor/sha256.initial", Rows.laid_attestor_sha256_initial)] [.data, .data, .data] true :=
  Program.laidByTextLater_by_one 24 8 65 (by kernel_rfl) (by kernel_rfl) (by kernel_rfl) (by kernel_rfl) (by kernel_rfl) (by kernel_rfl) (fun _ _ => by kernel_rfl)
theorem noOwnUnsafe : Tryz.pinned.checked.prog.headLifts.contains "ownunsafe" = false := by kernel_rfl
theorem tie : Tryz.prog.laidByTextLater [("attestor/mle.one", Rows.laid_attestor_mle_one), ("attestor/sha256.constants", Rows.laid_attestor_sha256_constants), ("attestor/sha256.initial", Rows.laid_attestor_sha256_initial)] [.data, .data, .data] true :=
  Program.laidByTextLater.sub seatTie1 ["attestor/mle.one", "attestor/sha256.constants", "attestor/sha256.initial"] (by kernel_rfl) (by kernel_rfl)
theorem batchMatchesReference_row_tie : Rows.batchMatchesReferenceRow.laidByTextAt .later Tryz.pinned [.data, .data, .data] true :=
  OpenClaim.laidByTextAt_later rfl rfl tie noOwnUnsafe
theorem batchMatchesReferenceUpto_row_tie : Rows.batchMatchesReferenceUptoRow.laidByTextAt .later Tryz.pinned [.data, .data, .data] true :=
  OpenClaim.laidByTextAt_later rfl rfl tie noOwnUnsafe
end Go.Proofs.YtkgglhakimkkhaaGreatDoor
