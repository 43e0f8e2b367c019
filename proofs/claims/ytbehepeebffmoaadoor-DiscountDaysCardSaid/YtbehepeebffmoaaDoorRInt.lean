/-
  The document's right, Fits, Interest.
-/
import Derived.Test.YtbehepeebffmoaaDoorInt2
namespace Go.Proofs.YtbehepeebffmoaaDoor
open Go Go.RowKit
set_option linter.unusedVariables false
set_option linter.unusedSimpArgs false

instance (S N D T B : Int) : Decidable (okI S N D T B) := by unfold okI; infer_instance

end Go.Proofs.YtbehepeebffmoaaDoor
