/-
  Go's stable sort: symMerge, of a first run of one.
-/
import Derived.Test.YtofkeipfkglljaaDoorSortI
namespace Go.Proofs.YtofkeipfkglljaaDoor
open Go Go.RowKit
set_option linter.unusedVariables false
set_option linter.unusedSimpArgs false

end Go.Proofs.YtofkeipfkglljaaDoor
