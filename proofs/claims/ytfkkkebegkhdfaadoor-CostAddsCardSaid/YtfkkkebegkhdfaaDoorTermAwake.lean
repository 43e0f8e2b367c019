/-
  The example by which each statement of layer term begins, and the contracts with Bool results.
-/
import Derived.Test.YtfkkkebegkhdfaaDoorTermWalk
namespace Go.Proofs.YtfkkkebegkhdfaaDoor
open Go.RowKit
set_option linter.unusedVariables false
set_option linter.unusedSimpArgs false

def isB (t : Int) : Bool := decide (0 ≤ t) && decide (t ≤ 7)
theorem is_any (t : Int) (w : World) :
    Calls Tryd.prog 30 #[.int .i64 t] w fun e w' => e = .returned (.bool (isB t)) ∧ w = w' := by
  by_cases a : 0 ≤ t
  · by_cases b : t ≤ 7
    · have e : isB t = true := by simp [isB]; omega
      rw [e]
      have a' : decide (0 ≤ t) = true := by simpa using a
      have b' : decide (t ≤ 7) = true := by simpa using b
      go_enter Tryd.func30, Tryd.ntmps30
      go_wp2
      go_ret
      exact ⟨rfl, rfl⟩
    · have e : isB t = false := by simp [isB]; omega
      rw [e]
      have a' : decide (0 ≤ t) = true := by simpa using a
      have b' : decide (t ≤ 7) = false := by simpa using b
      go_enter Tryd.func30, Tryd.ntmps30
      go_wp2
      go_ret
      exact ⟨rfl, rfl⟩
  · have e : isB t = false := by simp [isB]; omega
    rw [e]
    have a' : decide (0 ≤ t) = false := by simpa using a
    go_enter Tryd.func30, Tryd.ntmps30
    go_wp2
    go_ret
    exact ⟨rfl, rfl⟩
end Go.Proofs.YtfkkkebegkhdfaaDoor
