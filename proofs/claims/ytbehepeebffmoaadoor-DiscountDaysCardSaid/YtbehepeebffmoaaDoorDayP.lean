/-
  Days, plain: leap years, the days ahead of a year, the month of a day.
-/
import Derived.Test.YtbehepeebffmoaaDoorKit
namespace Go.Proofs.YtbehepeebffmoaaDoor
open Go Go.RowKit
set_option linter.unusedVariables false

def leapB (y : Nat) : Bool := decide (y % 4 = 0 ∧ y % 100 ≠ 0 ∨ y % 400 = 0)
def ydN (y : Nat) : Nat := if leapB y = true then 366 else 365
/-- The days of the k years behind 2000. -/
def ahead (k : Nat) : Nat := 365 * k + (k + 3) / 4 + (k + 399) / 400 - (k + 99) / 100
theorem leap_iff (y : Nat) : leapB y = true ↔ (y % 4 = 0 ∧ y % 100 ≠ 0 ∨ y % 400 = 0) := by unfold leapB; rw [decide_eq_true_iff]
theorem ahead_succ (k : Nat) : ahead (k + 1) = ahead k + ydN (2000 + k) := by
  unfold ahead ydN
  have h := leap_iff (2000 + k)
  by_cases hl : leapB (2000 + k) = true
  · rw [if_pos hl]
    have := h.1 hl
    omega
  · rw [if_neg hl]
    have : ¬ ((2000 + k) % 4 = 0 ∧ (2000 + k) % 100 ≠ 0 ∨ (2000 + k) % 400 = 0) := fun e => hl (h.2 e)
    omega
theorem ahead_cycle (j : Nat) : ahead (400 * j) = 146097 * j := by unfold ahead; omega
theorem yd_pos (y : Nat) : 365 ≤ ydN y ∧ ydN y ≤ 366 := by unfold ydN; split <;> omega
theorem ahead_mono {a b : Nat} (h : a < b) : ahead a + ydN (2000 + a) ≤ ahead b := by
  obtain ⟨n, rfl⟩ : ∃ n, b = a + 1 + n := ⟨b - a - 1, by omega⟩
  clear h
  induction n with
  | zero => rw [Nat.add_zero, ahead_succ]; exact Nat.le_refl _
  | succ n ih =>
    have h1 := ahead_succ (a + 1 + n)
    rw [show a + 1 + (n + 1) = a + 1 + n + 1 by omega, h1]
    omega
/-- The year of a day: one alone. -/
theorem year_one {d k1 r1 k2 r2 : Nat} (h1 : ahead k1 + r1 = d) (h2 : r1 < ydN (2000 + k1)) (h3 : ahead k2 + r2 = d) (h4 : r2 < ydN (2000 + k2)) : k1 = k2 ∧ r1 = r2 := by
  rcases Nat.lt_trichotomy k1 k2 with g | g | g
  · have := ahead_mono g; omega
  · subst g; omega
  · have := ahead_mono g; omega
theorem year_some (d : Nat) : ∃ k r, ahead k + r = d ∧ r < ydN (2000 + k) := by
  induction d with
  | zero => exact ⟨0, 0, rfl, by have := yd_pos (2000 + 0); omega⟩
  | succ d ih =>
    obtain ⟨k, r, h1, h2⟩ := ih
    by_cases h : r + 1 < ydN (2000 + k)
    · exact ⟨k, r + 1, by omega, h⟩
    · exact ⟨k + 1, 0, by have := ahead_succ k; omega, by have := yd_pos (2000 + (k + 1)); omega⟩
theorem ahead_ge (k : Nat) : 365 * k ≤ ahead k := by
  induction k with
  | zero => exact Nat.zero_le _
  | succ k ih => rw [ahead_succ]; have := yd_pos (2000 + k); omega
theorem year_le {d k r : Nat} (h : ahead k + r = d) : 365 * k ≤ d := by have := ahead_ge k; omega

def mtab : List Nat := [31, 28, 31, 30, 31, 30, 31, 31, 30, 31, 30, 31]
def mlN (y m : Nat) : Nat := if m = 2 ∧ leapB y = true then 29 else mtab.getD (m - 1) 0
def cumN (y m : Nat) : Nat := [0, 31, 59, 90, 120, 151, 181, 212, 243, 273, 304, 334].getD (m - 1) 0 + if 2 < m ∧ leapB y = true then 1 else 0
theorem cum_succ (y m : Nat) (h0 : 1 ≤ m) (h1 : m < 12) : cumN y (m + 1) = cumN y m + mlN y m := by
  unfold cumN mlN
  have : m = 1 ∨ m = 2 ∨ m = 3 ∨ m = 4 ∨ m = 5 ∨ m = 6 ∨ m = 7 ∨ m = 8 ∨ m = 9 ∨ m = 10 ∨ m = 11 := by omega
  cases leapB y <;> rcases this with rfl | rfl | rfl | rfl | rfl | rfl | rfl | rfl | rfl | rfl | rfl <;> rfl
theorem cum_last (y : Nat) : cumN y 12 + mlN y 12 = ydN y := by
  unfold cumN mlN ydN
  cases leapB y <;> rfl
theorem ml_pos (y m : Nat) (h0 : 1 ≤ m) (h1 : m ≤ 12) : 28 ≤ mlN y m ∧ mlN y m ≤ 31 := by
  unfold mlN
  have : m = 1 ∨ m = 2 ∨ m = 3 ∨ m = 4 ∨ m = 5 ∨ m = 6 ∨ m = 7 ∨ m = 8 ∨ m = 9 ∨ m = 10 ∨ m = 11 ∨ m = 12 := by omega
  cases leapB y <;> rcases this with rfl | rfl | rfl | rfl | rfl | rfl | rfl | rfl | rfl | rfl | rfl | rfl <;> decide
/-- The month of a day of the year, and the day of the month from 0. -/
def monN (y : Nat) : Nat → Nat → Nat → Nat × Nat
  | 0, m, r => (m, r)
  | f + 1, m, r => if r < mlN y m then (m, r) else monN y f (m + 1) (r - mlN y m)
theorem mon_stop {y f m r : Nat} (h : r < mlN y m) : monN y (f + 1) m r = (m, r) := by rw [monN, if_pos h]
theorem mon_go {y f m r : Nat} (h : ¬ r < mlN y m) : monN y (f + 1) m r = monN y f (m + 1) (r - mlN y m) := by rw [monN, if_neg h]
theorem mon_in {y : Nat} : ∀ {f m r : Nat}, f + m = 13 → 1 ≤ m → 0 < f → cumN y m + r < ydN y → 1 ≤ (monN y f m r).1 ∧ (monN y f m r).1 ≤ 12 ∧ (monN y f m r).2 < mlN y (monN y f m r).1
  | f + 1, m, r, h1, h2, _, h3 => by
    by_cases h : r < mlN y m
    · rw [mon_stop h]; exact ⟨h2, by show m ≤ 12; omega, h⟩
    · rw [mon_go h]
      by_cases hm : m = 12
      · exfalso
        subst hm
        have := cum_last y
        omega
      · have hc := cum_succ y m h2 (by omega)
        exact mon_in (by omega) (by omega) (by omega) (by omega)
end Go.Proofs.YtbehepeebffmoaaDoor
