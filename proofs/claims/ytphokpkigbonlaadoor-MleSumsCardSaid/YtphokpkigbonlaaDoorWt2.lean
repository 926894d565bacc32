/-
  The iterator over weighted gates; the functions that yield the two iterators.
-/
import Derived.Test.YtphokpkigbonlaaDoorWt
namespace Go.Proofs.YtphokpkigbonlaaDoor
open Go.RowKit
attribute [local go_sem] Oper.semAt_some

set_option maxHeartbeats 1000000 in
theorem wWeights (A : Option Addr) (k cap : Nat) (w : World) : Calls Tryd.prog 58 #[.slice A k cap] w fun e w' => e = .returned (.func (.func 81) #[] #[.pointer (some ⟨w.heap.size, 0, none⟩)]) ∧ w' = w.alloc (.cells #[.slice A k cap] 22) := by
  go_enter Tryd.func58, Tryd.ntmps58
  go_wp2
  go_ret
  exact ⟨rfl, rfl⟩
end Go.Proofs.YtphokpkigbonlaaDoor
