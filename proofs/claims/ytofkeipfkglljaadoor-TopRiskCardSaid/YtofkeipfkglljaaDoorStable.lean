/-
  Go's stable sort: stableCmpFunc, SortStableFunc.
-/
import Derived.Test.YtofkeipfkglljaaDoorSymC
import Derived.Test.YtofkeipfkglljaaDoorSortQ
namespace Go.Proofs.YtofkeipfkglljaaDoor
open Go Go.RowKit
set_option linter.unusedVariables false
set_option linter.unusedSimpArgs false

theorem up_range {U V : List Nat} {a s t : Nat} (hU : U.Perm (List.range' a s)) (hV : V.Perm (List.range' (a + s) t)) : Up U V := fun x hx y hy => by
  have h1 := List.mem_range'_1.1 (hU.mem_iff.1 hx)
  have h2 := List.mem_range'_1.1 (hV.mem_iff.1 hy)
  omega

end Go.Proofs.YtofkeipfkglljaaDoor
