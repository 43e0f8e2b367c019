/-
  The example by which each statement of layer term begins, and the contracts with Bool results.
-/
import Derived.Test.YtofkeipfkglljaaDoorTermWalk
namespace Go.Proofs.YtofkeipfkglljaaDoor
open Go.RowKit
set_option linter.unusedVariables false
set_option linter.unusedSimpArgs false

def isB (t : Int) : Bool := decide (0 ≤ t) && decide (t ≤ 7)
end Go.Proofs.YtofkeipfkglljaaDoor
