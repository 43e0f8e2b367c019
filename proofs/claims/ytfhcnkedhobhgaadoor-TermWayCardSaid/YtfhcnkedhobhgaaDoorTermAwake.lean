/-
  The example by which each statement of layer term begins, and the contracts with Bool results.
-/
import Derived.Test.YtfhcnkedhobhgaaDoorTermWalk
namespace Go.Proofs.YtfhcnkedhobhgaaDoor
open Go.RowKit
set_option linter.unusedVariables false
set_option linter.unusedSimpArgs false

set_option maxHeartbeats 400000 in
theorem awake_any (w : World) (hw : Terms w) :
    Calls Tryd.prog 10 #[] w fun e w' => e = .returned (.bool true) ∧ ∃ n, w' = w.drewN n := by
  have h1 := Lib.hid (show Calls Tryd.prog 12 #[.int .i64 4, .int .i64 4] w fun e w' => e = .returned (.string ⟨#[115, 101, 108, 108, 101, 114]⟩) ∧ ∃ n, w' = w.drewN n from pays_any 4 4 w hw)
  have h2 := Lib.hid (fun n => show Calls Tryd.prog 13 #[.int .i64 4, .int .i64 2] (w.drewN n) fun e w' => e = .returned (.string ⟨#[115, 101, 108, 108, 101, 114]⟩) ∧ ∃ m, w' = (w.drewN n).drewN m from risk_any 4 2 _ (hw.drewN n))
  have h3 := Lib.hid (fun n => show Calls Tryd.prog 13 #[.int .i64 4, .int .i64 3] (w.drewN n) fun e w' => e = .returned (.string ⟨#[98, 117, 121, 101, 114]⟩) ∧ ∃ m, w' = (w.drewN n).drewN m from risk_any 4 3 _ (hw.drewN n))
  clear hw
  go_enter Tryd.func10, Tryd.ntmps10
  go_wp2_with fail
  refine h1.out.mono ?_
  rintro e w' ⟨rfl, n, rfl⟩
  go_wp2_with fail
  refine (h2.out _).mono ?_
  rintro e w' ⟨rfl, m, rfl⟩
  rw [World.drewN_drewN]
  go_wp2_with fail
  refine (h3.out _).mono ?_
  rintro e w' ⟨rfl, k, rfl⟩
  go_wp2
  go_ret
  exact ⟨rfl, n + m + k, rfl⟩

def isB (t : Int) : Bool := decide (0 ≤ t) && decide (t ≤ 7)
theorem is_any (t : Int) (w : World) :
    Calls Tryd.prog 11 #[.int .i64 t] w fun e w' => e = .returned (.bool (isB t)) ∧ w = w' := by
  by_cases a : 0 ≤ t
  · by_cases b : t ≤ 7
    · have e : isB t = true := by simp [isB]; omega
      rw [e]
      have a' : decide (0 ≤ t) = true := by simpa using a
      have b' : decide (t ≤ 7) = true := by simpa using b
      go_enter Tryd.func11, Tryd.ntmps11
      go_wp2
      go_ret
      exact ⟨rfl, rfl⟩
    · have e : isB t = false := by simp [isB]; omega
      rw [e]
      have a' : decide (0 ≤ t) = true := by simpa using a
      have b' : decide (t ≤ 7) = false := by simpa using b
      go_enter Tryd.func11, Tryd.ntmps11
      go_wp2
      go_ret
      exact ⟨rfl, rfl⟩
  · have e : isB t = false := by simp [isB]; omega
    rw [e]
    have a' : decide (0 ≤ t) = false := by simpa using a
    go_enter Tryd.func11, Tryd.ntmps11
    go_wp2
    go_ret
    exact ⟨rfl, rfl⟩
end Go.Proofs.YtfhcnkedhobhgaaDoor
