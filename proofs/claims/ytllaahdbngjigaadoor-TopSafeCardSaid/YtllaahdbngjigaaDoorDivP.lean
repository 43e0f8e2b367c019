/-
  Long division by two half-words, one digit at a time: plain numbers.
-/
import Derived.Test.YtllaahdbngjigaaDoorKit
namespace Go.Proofs.YtllaahdbngjigaaDoor
set_option linter.unusedVariables false
set_option linter.unusedSimpArgs false

/-- The digit q guessed out of the upper half; r is left. -/
structure Dig (u a b c q r : Nat) : Prop where
  sum : q * a + r = u
  up : (u * 4294967296 + c) / (a * 4294967296 + b) ≤ q

section
variable {u a b c q r : Nat}
theorem dig_den (ha : 2147483648 ≤ a) : 0 < a * 4294967296 + b := by omega
theorem dig_lt (hu : u < a * 4294967296 + b) (hc : c < 4294967296) (ha : 2147483648 ≤ a) : (u * 4294967296 + c) / (a * 4294967296 + b) < 4294967296 := by
  rw [Nat.div_lt_iff_lt_mul (dig_den ha)]
  have : (u + 1) * 4294967296 ≤ (a * 4294967296 + b) * 4294967296 := Nat.mul_le_mul_right _ (by omega)
  omega
theorem dig_start (ha : 2147483648 ≤ a) (hb : b < 4294967296) (hc : c < 4294967296) (hu : u < a * 4294967296 + b) : Dig u a b c (u / a) (u % a) ∧ u / a ≤ 4294967297 := by
  have ha0 : 0 < a := by omega
  refine ⟨⟨by rw [Nat.mul_comm]; exact Nat.div_add_mod u a, ?_⟩, ?_⟩
  · rw [Nat.le_iff_lt_add_one, Nat.div_lt_iff_lt_mul (dig_den ha)]
    have h1 : u < (u / a + 1) * a := by
      have := Nat.div_add_mod u a
      have h2 := Nat.mod_lt u ha0
      rw [Nat.add_mul, Nat.one_mul, Nat.mul_comm (u / a)]; omega
    have h2 : (u + 1) * 4294967296 ≤ (u / a + 1) * a * 4294967296 := Nat.mul_le_mul_right _ h1
    have h3 : (u / a + 1) * (a * 4294967296 + b) = (u / a + 1) * a * 4294967296 + (u / a + 1) * b := by rw [Nat.mul_add, Nat.mul_assoc]
    omega
  · rw [Nat.le_iff_lt_add_one, Nat.div_lt_iff_lt_mul ha0]
    omega
/-- The guess fits: it is the digit. -/
theorem dig_fits (ha : 2147483648 ≤ a) (h : Dig u a b c q r) (hf : q * b ≤ 4294967296 * r + c) : q = (u * 4294967296 + c) / (a * 4294967296 + b) := by
  refine Nat.le_antisymm ?_ h.up
  rw [Nat.le_div_iff_mul_le (dig_den ha)]
  have h1 : (q * a + r) * 4294967296 = u * 4294967296 := by rw [h.sum]
  rw [Nat.add_mul] at h1
  rw [Nat.mul_add, ← Nat.mul_assoc]
  omega
/-- It doesn't: one less. -/
theorem dig_less (ha : 2147483648 ≤ a) (hu : u < a * 4294967296 + b) (hc : c < 4294967296) (h : Dig u a b c q r) (hf : 4294967296 ≤ q ∨ 4294967296 * r + c < q * b) : 1 ≤ q ∧ Dig u a b c (q - 1) (r + a) := by
  have hq : (u * 4294967296 + c) / (a * 4294967296 + b) < q := by
    rcases hf with hf | hf
    · exact Nat.lt_of_lt_of_le (dig_lt hu hc ha) hf
    · rw [Nat.div_lt_iff_lt_mul (dig_den ha), Nat.mul_add, ← Nat.mul_assoc]
      have h1 : (q * a + r) * 4294967296 = u * 4294967296 := by rw [h.sum]
      rw [Nat.add_mul] at h1
      omega
  have hup := Nat.le_of_lt_succ (show _ < (q - 1) + 1 by rw [Nat.sub_add_cancel (Nat.lt_of_le_of_lt (Nat.zero_le _) hq)]; exact hq)
  refine ⟨Nat.lt_of_le_of_lt (Nat.zero_le _) hq, ⟨?_, hup⟩⟩
  clear hup
  have := h.sum
  have hq1 : 1 ≤ q := Nat.lt_of_le_of_lt (Nat.zero_le _) hq
  clear hq
  obtain ⟨p, rfl⟩ : ∃ p, q = p + 1 := ⟨q - 1, by omega⟩
  rw [Nat.add_mul] at this
  simp only [Nat.add_sub_cancel]; omega
/-- What is left has grown too great: it fits. -/
theorem dig_break (ha : 2147483648 ≤ a) (hb : b < 4294967296) (h : Dig u a b c q r) (hq : q ≤ 4294967296) (hr : 4294967296 ≤ r) : q = (u * 4294967296 + c) / (a * 4294967296 + b) := by
  refine dig_fits ha h ?_
  have h1 : q * b ≤ 4294967296 * b := Nat.mul_le_mul_right _ hq
  have h2 : 4294967296 * b ≤ 4294967296 * r := Nat.mul_le_mul_left _ (by omega)
  omega
end

theorem td_aux {u u1 u0 x z r1 r0 : Nat} (e1 : x + r1 = u * 4294967296 + u1) (e0 : z + r0 = r1 * 4294967296 + u0) : u * 18446744073709551616 + (u1 * 4294967296 + u0) = x * 4294967296 + z + r0 := by omega
/-- Two digits make the quotient. -/
theorem two_digits {H y S u l D u1 u0 q1 r1 q0 r0 : Nat} (hS : 0 < S) (hD : D = y * S) (hD0 : 0 < D) (hl : l = u1 * 4294967296 + u0) (hH : H * S = u * 18446744073709551616 + l)
    (h1 : q1 = (u * 4294967296 + u1) / D) (h1r : r1 = (u * 4294967296 + u1) % D) (h0 : q0 = (r1 * 4294967296 + u0) / D) (h0r : r0 = (r1 * 4294967296 + u0) % D) : q1 * 4294967296 + q0 = H / y ∧ r0 / S = H % y := by
  have e1 : D * q1 + r1 = u * 4294967296 + u1 := by rw [h1, h1r]; exact Nat.div_add_mod _ _
  have e0 : D * q0 + r0 = r1 * 4294967296 + u0 := by rw [h0, h0r]; exact Nat.div_add_mod _ _
  have lr : r0 < D := by rw [h0r]; exact Nat.mod_lt _ hD0
  have e : H * S = D * (q1 * 4294967296 + q0) + r0 := by
    rw [Nat.mul_add, ← Nat.mul_assoc, hH, hl]
    exact td_aux e1 e0
  have e2 : H * S = S * (y * (q1 * 4294967296 + q0)) + r0 := by rw [e, hD, Nat.mul_comm y S, Nat.mul_assoc]
  have hy : 0 < y := by
    rcases Nat.eq_zero_or_pos y with h | h
    · rw [h, Nat.zero_mul] at hD; omega
    · exact h
  have e3 : H = y * (q1 * 4294967296 + q0) + r0 / S := by
    have h2 := congrArg (· / S) e2
    simp only [Nat.mul_div_cancel _ hS] at h2
    rwa [Nat.mul_add_div hS] at h2
  have lr2 : r0 / S < y := by rw [Nat.div_lt_iff_lt_mul hS, ← hD]; exact lr
  constructor
  · rw [e3, Nat.mul_add_div hy, Nat.div_eq_of_lt lr2, Nat.add_zero]
  · conv => rhs; rw [e3]
    rw [Nat.mul_add_mod, Nat.mod_eq_of_lt lr2]

/-- A shift of two words. -/
theorem shift_two {hi lo y s : Nat} (hlo : lo < 18446744073709551616) (hh : hi < y) (hs : s < 64) (hy : y * 2 ^ s < 18446744073709551616) :
    (hi * 18446744073709551616 + lo) * 2 ^ s = (hi * 2 ^ s + lo / 2 ^ (64 - s)) * 18446744073709551616 + lo * 2 ^ s % 18446744073709551616 ∧ lo / 2 ^ (64 - s) < 2 ^ s ∧ hi * 2 ^ s + lo / 2 ^ (64 - s) < y * 2 ^ s := by
  have h64 : 2 ^ s * 2 ^ (64 - s) = 18446744073709551616 := by rw [← Nat.pow_add, show s + (64 - s) = 64 by omega]
  have hp : 0 < 2 ^ (64 - s) := Nat.two_pow_pos _
  have h1 : lo / 2 ^ (64 - s) < 2 ^ s := by rw [Nat.div_lt_iff_lt_mul hp, h64]; exact hlo
  have h2 : lo * 2 ^ s = lo / 2 ^ (64 - s) * 18446744073709551616 + lo * 2 ^ s % 18446744073709551616 := by
    have e : lo * 2 ^ s / 18446744073709551616 = lo / 2 ^ (64 - s) := by
      rw [← h64, Nat.mul_comm lo, Nat.mul_div_mul_left _ _ (Nat.two_pow_pos s)]
    have := Nat.div_add_mod (lo * 2 ^ s) 18446744073709551616
    rw [e] at this; omega
  refine ⟨?_, h1, ?_⟩
  · rw [Nat.add_mul, h2, Nat.add_mul, Nat.mul_right_comm hi]
    have := Nat.mod_mod (lo * 2 ^ s) 18446744073709551616
    omega
  · have := Nat.mul_le_mul_right (2 ^ s) (show hi + 1 ≤ y from hh)
    rw [Nat.add_mul] at this; omega
end Go.Proofs.YtllaahdbngjigaaDoor
