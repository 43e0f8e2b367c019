/-
  share.wrong: what of a total and its weights is wrong.
-/
import Derived.Test.YtofkeipfkglljaaDoorRows
import Derived.Test.YtofkeipfkglljaaDoorKit
namespace Go.Proofs.YtofkeipfkglljaaDoor
open Go Go.RowKit
set_option linter.unusedVariables false
set_option linter.unusedSimpArgs false

theorem any_take {p : Int → Bool} {ws : List Int} {k : Nat} (hk : k < ws.length) (h : (ws.take k).any p = false) (hp : p ws[k] = false) : (ws.take (k + 1)).any p = false := by
  rw [List.take_succ_eq_append_getElem hk, List.any_append, h]
  simp [hp]

def is_neg (z : Int) : Bool := decide (z < 0)
def is_over (z : Int) : Bool := decide (1099511627776 < z)
def is_pos (z : Int) : Bool := decide (0 < z)
/-- What is wrong, by number. -/
def wrongN (T : Int) (ws : List Int) : Int :=
  if T < 0 ∨ ws = [] ∨ ws.any is_neg = true then 1 else if 1099511627776 < T ∨ 4096 < ws.length ∨ ws.any is_over = true then 3 else if 0 < T ∧ ws.any is_pos = false then 4 else 0

end Go.Proofs.YtofkeipfkglljaaDoor
