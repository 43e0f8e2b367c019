/-
  The document's right, Whole, Pays.
-/
import Derived.Test.YtofkeipfkglljaaRef43
import Derived.Deep.RegionLaw
namespace Go.Proofs.Ytofkeipfkglljaa
open Go Go.RowKit
set_option linter.unusedVariables false
set_option linter.unusedSimpArgs false

def RWPost (T : Nat) (W : List Nat) (g : List Int) (n : Nat) (w : World) (e : Ending) (w' : World) : Prop :=
  ∃ b1 v2 out base, e = .returned (.tuple #[.slice (some ⟨b1, 0, none⟩) n n, v2, .int .i64 0]) ∧ IsSplit T W out ∧ w'.ownsRow base 2 1 v2 n ((getsL g out).map (Value.int .i64)) ∧ w.heap.size ≤ base ∧ Below w.heap.size w w'

end Go.Proofs.Ytofkeipfkglljaa
