/-
  Go's stable sort: symMerge, of a last run of one.
-/
import Derived.Test.YtofkeipfkglljaaDoorSymA
namespace Go.Proofs.YtofkeipfkglljaaDoor
open Go Go.RowKit
set_option linter.unusedVariables false
set_option linter.unusedSimpArgs false

end Go.Proofs.YtofkeipfkglljaaDoor
