/-
  The iterator over weighted gates; the functions that yield the two iterators.
-/
import Derived.Test.YtilelegcniefcaaWt
namespace Go.Proofs.Ytilelegcniefcaa
open Go.RowKit
attribute [local go_sem] Oper.semAt_some

end Go.Proofs.Ytilelegcniefcaa
