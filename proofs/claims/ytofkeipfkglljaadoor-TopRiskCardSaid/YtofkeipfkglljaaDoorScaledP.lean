/-
  The document's Scaled: plain: a times b over c, rounded down, by two parts of b.
-/
import Derived.Test.YtofkeipfkglljaaDoorTimes
namespace Go.Proofs.YtofkeipfkglljaaDoor
open Go Go.RowKit
set_option linter.unusedVariables false
set_option linter.unusedSimpArgs false

theorem scaled_step {c q r y : Nat} (h : c * q + r = y) (hr : r < c) : (c ≤ 2 * r → c * (2 * q + 1) + (2 * r - c) = 2 * y ∧ 2 * r - c < c) ∧ (2 * r < c → c * (2 * q) + 2 * r = 2 * y) := by
  have e : c * (2 * q) + 2 * r = 2 * y := by rw [Nat.mul_left_comm]; omega
  refine ⟨fun h1 => ⟨?_, by omega⟩, fun _ => e⟩
  rw [Nat.mul_add]; omega
theorem scaled_end {c q r low x : Nat} (hc : 0 < c) (hr : r < c) (h : c * q + r + low = x) : (c ≤ r + low % c → q + low / c + 1 = x / c) ∧ (r + low % c < c → q + low / c = x / c) := by
  have e1 := Nat.div_add_mod low c
  have e2 := Nat.mod_lt low hc
  have e3 : c * (q + low / c) + (r + low % c) = x := by rw [Nat.mul_add]; omega
  refine ⟨fun h1 => ?_, fun h1 => ?_⟩
  · exact (dm_unique (q := q + low / c + 1) (r := r + low % c - c) (by omega) (by rw [Nat.mul_add]; omega)).1
  · exact (dm_unique (q := q + low / c) (r := r + low % c) h1 e3).1
theorem scaled_parts (a b : Nat) : a * (b / 1048576) * 1048576 + a * (b % 1048576) = a * b := by
  rw [Nat.mul_assoc, ← Nat.mul_add, Nat.mul_comm (b / 1048576)]
  rw [Nat.div_add_mod]
/-- What a policy pays, of what is insured. -/
def paysN (loss value sum own share : Nat) : Nat := (min loss value * min value sum / value - own) * share / 1000
theorem pays_le {loss value sum own share : Nat} (hv : 0 < value) (hs : share ≤ 1000) : paysN loss value sum own share ≤ loss ∧ paysN loss value sum own share ≤ sum := by
  have h1 : min loss value * min value sum / value ≤ min loss value := Nat.div_le_of_le_mul (by rw [Nat.mul_comm value]; exact Nat.mul_le_mul_left _ (by omega))
  have h2 : min loss value * min value sum / value ≤ min value sum := Nat.div_le_of_le_mul (Nat.mul_le_mul_right _ (by omega))
  unfold paysN
  generalize min loss value * min value sum / value = m at *
  obtain ⟨x, hx⟩ : ∃ x, x = m - own := ⟨_, rfl⟩
  rw [← hx]
  have h3 : x * share / 1000 ≤ x := Nat.div_le_of_le_mul (by rw [Nat.mul_comm 1000]; exact Nat.mul_le_mul_left _ hs)
  omega
end Go.Proofs.YtofkeipfkglljaaDoor
