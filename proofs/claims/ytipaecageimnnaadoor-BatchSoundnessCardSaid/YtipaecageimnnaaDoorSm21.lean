/-
  The reference's Same of claims.
-/
import Derived.Test.YtipaecageimnnaaDoorPb21
import Derived.Test.YtipaecageimnnaaDoorSame
namespace Go.Proofs.YtipaecageimnnaaDoor
open Go.RowKit

attribute [local irreducible] wpRg
set_option maxRecDepth 100000 in
set_option maxHeartbeats 2000000 in
theorem rSame21 (p : List E) (y : E) (A1 A2 : Option Addr) (c1 c2 lo hi lo2 hi2 : Nat) (w : World) (h1 : ExtS lo hi w (.slice A1 p.length c1) p) (h2 : ExtS lo2 hi2 w (.slice A2 p.length c2) p) :
    Calls Tryd.prog 13 #[clV (⟨p, y⟩, (A1, c1)), clV (⟨p, y⟩, (A2, c2))] w (Ret (.bool true) w) := by
  have HS := Lib.hid (fun W (hW : Below w.heap.size w W) => xSame p _ _ _ _ _ _ W (Rd.keep h1 hW) (Rd.keep h2 hW))
  clear h1 h2
  unfold clV clc ptV
  dsimp only
  generalize p.length = n at *
  go_enter Tryd.func13, Tryd.ntmps13
  go_upto_region 1 with (fail)
  refine wp_stk2 fun W hB hz b1 b2 => ?_
  have e1 := b1.cell
  have e2 := b2.cell
  clear hz
  go_wp2_with fail
  refine (HS.out W hB).mono ?_
  rintro e w2 ⟨rfl, hb2⟩
  clear e1 e2
  go_wp2_with fail
  go_ret
  exact ⟨rfl, hB.trans (hb2.mono hB.size)⟩
end Go.Proofs.YtipaecageimnnaaDoor
