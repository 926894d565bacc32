/-
  The iterator over weighted gates; the functions that yield the two iterators.
-/
import Derived.Test.YtipaecageimnnaaDoorWt
namespace Go.Proofs.YtipaecageimnnaaDoor
open Go.RowKit
attribute [local go_sem] Oper.semAt_some

set_option maxRecDepth 100000 in
set_option maxHeartbeats 1000000 in
theorem wWeights (A : Option Addr) (k cap : Nat) (w : World) : Calls Tryd.prog 69 #[.slice A k cap] w fun e w' => e = .returned (.func (.func 87) #[] #[.pointer (some ⟨w.heap.size, 0, none⟩)]) ∧ w' = w.alloc (.cells #[.slice A k cap] 22) := by
  go_enter Tryd.func69, Tryd.ntmps69
  go_wp2
  go_ret
  exact ⟨rfl, rfl⟩
end Go.Proofs.YtipaecageimnnaaDoor
