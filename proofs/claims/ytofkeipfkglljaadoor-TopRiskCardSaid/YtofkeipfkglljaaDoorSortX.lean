/-
  Go's stable sort: swapRange, rotate, insertionSort.
-/
import Derived.Test.YtofkeipfkglljaaDoorSortW
namespace Go.Proofs.YtofkeipfkglljaaDoor
open Go Go.RowKit
set_option linter.unusedVariables false
set_option linter.unusedSimpArgs false

theorem get_some {xs : List Nat} {i : Nat} (h : i < xs.length) : ∃ x, xs[i]? = some x := ⟨xs[i], List.getElem?_eq_getElem h⟩
theorem i64_eq {z : Int} {n : Nat} (h : z = (n : Int)) (hb : n ≤ 9223372036854775807) : IntKind.i64.wrap z = (n : Int) := by subst h; exact IntWalk.i64_in _ (by omega)

end Go.Proofs.YtofkeipfkglljaaDoor
