/-
  Go's stable sort: symMerge.
-/
import Derived.Test.YtofkeipfkglljaaDoorSymB
import Derived.Deep.DeepCutAuto
namespace Go.Proofs.YtofkeipfkglljaaDoor
open Go Go.RowKit
set_option linter.unusedVariables false
set_option linter.unusedSimpArgs false

end Go.Proofs.YtofkeipfkglljaaDoor
