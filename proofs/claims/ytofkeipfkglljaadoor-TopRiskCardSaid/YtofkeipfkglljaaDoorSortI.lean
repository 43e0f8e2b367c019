/-
  Go's stable sort: insertionSort.
-/
import Derived.Test.YtofkeipfkglljaaDoorSortX
namespace Go.Proofs.YtofkeipfkglljaaDoor
open Go Go.RowKit
set_option linter.unusedVariables false
set_option linter.unusedSimpArgs false

theorem cv_lt {rs : List Nat} {x y : Nat} (h : keyOf rs y < keyOf rs x) : decide (cv rs x y < 0) = true := by unfold cv; rw [if_pos h]; rfl
theorem cv_ge {rs : List Nat} {x y : Nat} (h : ¬ keyOf rs y < keyOf rs x) : decide (cv rs x y < 0) = false := by
  unfold cv; rw [if_neg h]; split <;> rfl

end Go.Proofs.YtofkeipfkglljaaDoor
