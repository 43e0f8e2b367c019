/-
  AverageSums.
-/
import Derived.Test.YtofkeipfkglljaaAwake
import Derived.Test.YtofkeipfkglljaaTimes
import Derived.Test.YtofkeipfkglljaaSums
import Derived.BigQuiet
namespace Go.Proofs.Ytofkeipfkglljaa
open Go Go.RowKit
set_option linter.unusedVariables false
set_option linter.unusedSimpArgs false

theorem natI_getD (W : List Nat) (k : Nat) : (natI W).getD k 0 = ((W.getD k 0 : Nat) : Int) := nat_get
theorem val_nat {l : List In1} {W : List Nat} (h : valsL l = natI W) (k : Nat) : (l.getD k default).z = ((W.getD k 0 : Nat) : Int) := by
  rw [← vals_get, h, natI_getD]
/-- Where a block of numbers is read. -/
theorem Blk.at {w : World} {b n k : Nat} {xs : List Int} (h : Blk w b xs) (hn : xs.length = n) (hk : k < n) : w.cell? ⟨b, k, none⟩ = some (.int .i64 (xs.getD k 0)) := by
  refine h.cell ?_
  rw [List.getD_eq_getElem?_getD, List.getElem?_eq_getElem (by omega)]; rfl

namespace averageSums
end averageSums
end Go.Proofs.Ytofkeipfkglljaa
