/-
  A slice of int64s that came in.
-/
import Derived.Test.YtofkeipfkglljaaDoorKit
import Derived.Test.YtofkeipfkglljaaDoorRows
namespace Go.Proofs.YtofkeipfkglljaaDoor
open Go Go.RowKit
set_option linter.unusedVariables false
set_option linter.unusedSimpArgs false

theorem cellsInt64 : Tryd.prog.cellsOf 2 = 1 := by kernel_rfl
end Go.Proofs.YtofkeipfkglljaaDoor
