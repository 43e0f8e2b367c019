/-
  The document's Times: a times b over c, bit by bit.
-/
import Derived.Test.YtofkeipfkglljaaDoorMost
namespace Go.Proofs.YtofkeipfkglljaaDoor
open Go Go.RowKit
set_option linter.unusedVariables false
set_option linter.unusedSimpArgs false

theorem dm_unique {c q r x : Nat} (hr : r < c) (h : c * q + r = x) : q = x / c ∧ r = x % c := by
  subst h
  have hc : 0 < c := by omega
  constructor
  · rw [Nat.mul_add_div hc, Nat.div_eq_of_lt hr, Nat.add_zero]
  · rw [Nat.mul_add_mod, Nat.mod_eq_of_lt hr]
theorem tm_le {c q r A a b j : Nat} (h : c * q + r = A * b) (hc : 0 < c) (hA : A ≤ a) : q ≤ a * b / c := by
  rw [Nat.le_div_iff_mul_le hc, Nat.mul_comm]
  have := Nat.mul_le_mul_right b hA
  omega
theorem tm_two {c q r A b : Nat} (h : c * q + r = A * b) : c * (2 * q) + 2 * r = 2 * A * b := by
  rw [Nat.mul_left_comm, Nat.mul_assoc]; omega
theorem tm_sub {c q r x : Nat} (h : c * q + r = x) (hr : c ≤ r) : c * (q + 1) + (r - c) = x := by rw [Nat.mul_add]; omega
theorem tm_add {c q r A b : Nat} (h : c * q + r = A * b) : c * (q + b / c) + (r + b % c) = (A + 1) * b := by
  have := Nat.div_add_mod b c
  rw [Nat.mul_add, Nat.add_mul]; omega
theorem and_one (x : Nat) (hx : x < 9223372036854775808) : bits .and .i64 (x : Int) 1 = ((x % 2 : Nat) : Int) := by
  have h1 : (BitVec.ofInt 64 (x : Int)).toNat = x := by
    rw [BitVec.ofInt_natCast, BitVec.toNat_ofNat]; exact Nat.mod_eq_of_lt (by omega)
  have h2 : (BitVec.ofInt 64 (1 : Int)).toNat = 1 := by decide
  have e : x &&& 1 = x % 2 := Nat.and_one_is_mod x
  show IntKind.i64.wrap ((BitVec.ofInt 64 (x : Int) &&& BitVec.ofInt 64 (1 : Int)).toNat : Int) = _
  rw [BitVec.toNat_and, h1, h2, e]
  exact IntWalk.i64_in _ (by omega)
theorem half_bit (a k : Nat) : a / 2 ^ k = 2 * (a / 2 ^ (k + 1)) + a / 2 ^ k % 2 := by
  have h : a / 2 ^ (k + 1) = a / 2 ^ k / 2 := by rw [Nat.pow_succ, Nat.div_div_eq_div_mul]
  rw [h]; omega

end Go.Proofs.YtofkeipfkglljaaDoor
