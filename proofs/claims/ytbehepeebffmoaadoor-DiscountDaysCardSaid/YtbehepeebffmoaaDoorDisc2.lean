/-
  discount.Rebate, the document's Discount, Rebate.
-/
import Derived.Test.YtbehepeebffmoaaDoorDisc
import Derived.Deep.RegionHeld3
namespace Go.Proofs.YtbehepeebffmoaaDoor
open Go Go.RowKit
set_option linter.unusedVariables false
set_option linter.unusedSimpArgs false

end Go.Proofs.YtbehepeebffmoaaDoor
