/-
  The document's Interest, where there is none; Near.
-/
import Derived.Test.YtbehepeebffmoaaDoorRInt
namespace Go.Proofs.YtbehepeebffmoaaDoor
open Go Go.RowKit
set_option linter.unusedVariables false
set_option linter.unusedSimpArgs false

end Go.Proofs.YtbehepeebffmoaaDoor
