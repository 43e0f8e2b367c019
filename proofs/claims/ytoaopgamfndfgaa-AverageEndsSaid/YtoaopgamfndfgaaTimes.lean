/-
  The document's Times: a times b over c, bit by bit.
-/
import Derived.Test.YtoaopgamfndfgaaMost
namespace Go.Proofs.Ytoaopgamfndfgaa
open Go Go.RowKit
set_option linter.unusedVariables false
set_option linter.unusedSimpArgs false

theorem dm_unique {c q r x : Nat} (hr : r < c) (h : c * q + r = x) : q = x / c ∧ r = x % c := by
  subst h
  have hc : 0 < c := by omega
  constructor
  · rw [Nat.mul_add_div hc, Nat.div_eq_of_lt hr, Nat.add_zero]
  · rw [Nat.mul_add_mod, Nat.mod_eq_of_lt hr]
theorem tm_le {c q r A a b j : Nat} (h : c * q + r = A * b) (hc : 0 < c) (hA : A ≤ a) : q ≤ a * b / c := by
  rw [Nat.le_div_iff_mul_le hc, Nat.mul_comm]
  have := Nat.mul_le_mul_right b hA
  omega
theorem tm_two {c q r A b : Nat} (h : c * q + r = A * b) : c * (2 * q) + 2 * r = 2 * A * b := by
  rw [Nat.mul_left_comm, Nat.mul_assoc]; omega
theorem tm_sub {c q r x : Nat} (h : c * q + r = x) (hr : c ≤ r) : c * (q + 1) + (r - c) = x := by rw [Nat.mul_add]; omega
theorem tm_add {c q r A b : Nat} (h : c * q + r = A * b) : c * (q + b / c) + (r + b % c) = (A + 1) * b := by
  have := Nat.div_add_mod b c
  rw [Nat.mul_add, Nat.add_mul]; omega
theorem and_one (x : Nat) (hx : x < 9223372036854775808) : bits .and .i64 (x : Int) 1 = ((x % 2 : Nat) : Int) := by
  have h1 : (BitVec.ofInt 64 (x : Int)).toNat = x := by
    rw [BitVec.ofInt_natCast, BitVec.toNat_ofNat]; exact Nat.mod_eq_of_lt (by omega)
  have h2 : (BitVec.ofInt 64 (1 : Int)).toNat = 1 := by decide
  have e : x &&& 1 = x % 2 := Nat.and_one_is_mod x
  show IntKind.i64.wrap ((BitVec.ofInt 64 (x : Int) &&& BitVec.ofInt 64 (1 : Int)).toNat : Int) = _
  rw [BitVec.toNat_and, h1, h2, e]
  exact IntWalk.i64_in _ (by omega)
theorem half_bit (a k : Nat) : a / 2 ^ k = 2 * (a / 2 ^ (k + 1)) + a / 2 ^ k % 2 := by
  have h : a / 2 ^ (k + 1) = a / 2 ^ k / 2 := by rw [Nat.pow_succ, Nat.div_div_eq_div_mul]
  rw [h]; omega

set_option maxHeartbeats 2000000 in
theorem times_any (a b c : Nat) (ha : a < 9223372036854775808) (hb : b < 9223372036854775808) (hc0 : 0 < c) (hc : c ≤ 4611686018427387904) (hq : a * b / c < 9223372036854775807) (w : World) :
    Calls Try.prog 16 #[.int .i64 (a : Int), .int .i64 (b : Int), .int .i64 (c : Int)] w fun e w' => e = .returned (.tuple #[.int .i64 (a * b / c : Nat), .int .i64 (a * b % c : Nat)]) ∧ w' = w := by
  obtain ⟨Q, hQ⟩ : ∃ Q, Q = a * b / c := ⟨_, rfl⟩
  obtain ⟨R, hR⟩ : ∃ R, R = a * b % c := ⟨_, rfl⟩
  rw [← hQ] at hq ⊢
  rw [← hR]
  have HQR := Lib.hid (And.intro hQ hR)
  have HB := Lib.hid (And.intro ha (And.intro hb (And.intro hc hq)))
  have c0 : (0 : Int) < (c : Int) := by omega
  have b0 : (0 : Int) ≤ (b : Int) := by omega
  have HC0 := Lib.hid hc0
  obtain ⟨bq, hbq⟩ : ∃ x, x = b / c := ⟨_, rfl⟩
  obtain ⟨br, hbr⟩ : ∃ x, x = b % c := ⟨_, rfl⟩
  have HBQ := Lib.hid (And.intro hbq hbr)
  have bql : bq ≤ b := by rw [hbq]; exact Nat.div_le_self _ _
  have brl : br < c := by rw [hbr]; exact Nat.mod_lt _ hc0
  have G1 : (b : Int) / (c : Int) = (bq : Int) := by rw [← Int.natCast_ediv, ← hbq]
  have G2 : (b : Int) % (c : Int) = (br : Int) := by rw [← Int.natCast_emod, ← hbr]
  have G3 : (b : Int).tdiv (c : Int) = (bq : Int) := by rw [← Int.ofNat_tdiv, ← hbq]
  have G4 : (b : Int).tmod (c : Int) = (br : Int) := by rw [← Int.ofNat_tmod, ← hbr]
  have G5 : IntKind.i64.wrap (bq : Int) = (bq : Int) := IntWalk.i64_in _ (by omega)
  have G6 : IntKind.i64.wrap (br : Int) = (br : Int) := IntWalk.i64_in _ (by omega)
  have HBB := Lib.hid (And.intro bql brl)
  clear ha hb hc hq hQ hR hbq hbr hc0 bql brl
  go_enter Try.func16, Try.ntmps16
  go_wp2
  go_loop [8, 9, 10] (fun vq vr vi => ∃ (j : Nat) (z : Int) (q r : Nat), vi = .int .i64 z ∧ vq = .int .i64 (q : Int) ∧ vr = .int .i64 (r : Int) ∧ Hid (z = (j : Int) - 1) ∧ Hid (j ≤ 63) ∧ Hid (c * q + r = a / 2 ^ j * b) ∧ Hid (r < c)) (fun _ _ vi => (intOf vi + 1).toNat)
  case atStart => exact ⟨63, 62, 0, 0, rfl, rfl, rfl, Lib.hid (by decide), Lib.hid (by decide), Lib.hid (by
    have : a / 2 ^ 63 = 0 := Nat.div_eq_of_lt HB.out.1
    rw [this]; simp), HC0⟩
  case round =>
    obtain ⟨j, z, q, r, rfl, rfl, rfl, hz, hj, hcq, hr⟩ := hrel
    by_cases h0 : j = 0
    · obtain rfl : z = -1 := by have := hz.out; omega
      have HE := Lib.hid (show q = Q ∧ r = R by
        have h1 := hcq.out
        rw [h0, Nat.pow_zero, Nat.div_one] at h1
        have := dm_unique hr.out h1
        rw [HQR.out.1, HQR.out.2]; exact this)
      clear h0 hz hj hcq hr
      go_wp2
      go_ret2
      exact ⟨by rw [← HE.out.1, ← HE.out.2]; rfl, rfl⟩
    · obtain ⟨k, rfl⟩ : ∃ k, j = k + 1 := ⟨j - 1, by omega⟩
      obtain rfl : z = (k : Int) := by have := hz.out; omega
      have hk := hj.out
      have hqQ : q ≤ Q := by rw [HQR.out.1]; exact tm_le (j := 0) hcq.out HC0.out (Nat.div_le_self _ _)
      obtain ⟨ha, hb, hc, hq⟩ := HB.out
      obtain ⟨bql, brl⟩ := HBB.out
      have hrr := hr.out
      have dz : decide ((0 : Int) ≤ (k : Int)) = true := by rw [decide_eq_true_iff]; omega
      obtain ⟨q2, hq2⟩ : ∃ x, x = 2 * q := ⟨_, rfl⟩
      obtain ⟨r2, hr2⟩ : ∃ x, x = 2 * r := ⟨_, rfl⟩
      have T2 : c * q2 + r2 = 2 * (a / 2 ^ (k + 1)) * b := by rw [hq2, hr2]; exact tm_two hcq.out
      have hA2 : 2 * (a / 2 ^ (k + 1)) ≤ a := by rw [Nat.pow_succ]; have := half_bit a k; have h3 := Nat.div_le_self a (2 ^ k); rw [Nat.pow_succ] at this; omega
      have q2Q : q2 ≤ Q := by rw [HQR.out.1]; exact tm_le (j := 0) T2 HC0.out hA2
      have E1 : IntKind.i64.wrap (2 * (q : Int)) = (q2 : Int) := i64_eq (by omega) (by omega)
      have E2 : IntKind.i64.wrap (2 * (r : Int)) = (r2 : Int) := i64_eq (by omega) (by omega)
      have key : ∃ q3 r3 : Nat, c * q3 + r3 = 2 * (a / 2 ^ (k + 1)) * b ∧ r3 < c ∧ q3 ≤ Q ∧ ((c ≤ r2 ∧ q3 = q2 + 1 ∧ r3 = r2 - c) ∨ (r2 < c ∧ q3 = q2 ∧ r3 = r2)) := by
        by_cases h1 : c ≤ r2
        · have h2 := tm_sub T2 h1
          exact ⟨q2 + 1, r2 - c, h2, by omega, by rw [HQR.out.1]; exact tm_le (j := 0) h2 HC0.out hA2, .inl ⟨h1, rfl, rfl⟩⟩
        · exact ⟨q2, r2, T2, by omega, q2Q, .inr ⟨by omega, rfl, rfl⟩⟩
      obtain ⟨q3, r3, T3, r3c, q3Q, hcase⟩ := key
      have HT3 := Lib.hid T3
      have hak : a / 2 ^ k < 9223372036854775808 := Nat.lt_of_le_of_lt (Nat.div_le_self _ _) ha
      have hmn : min k 64 = k := by omega
      have hpk : (a : Int) / 2 ^ k = ((a / 2 ^ k : Nat) : Int) := by simp
      obtain ⟨zz, hzz⟩ : ∃ zz : Int, zz = (k : Int) - 1 := ⟨_, rfl⟩
      have E5 : IntKind.i64.wrap ((k : Int) - 1) = zz := by rw [hzz]; exact IntWalk.i64_in _ (by omega)
      have HZZ := Lib.hid hzz
      have HKK := Lib.hid (show k ≤ 63 by omega)
      clear hzz
      rcases hcase with ⟨h1, hq3, hr3⟩ | ⟨h1, hq3, hr3⟩
      · have d1 : decide (c ≤ r2) = true := by rw [decide_eq_true_iff]; exact h1
        have E3 : IntKind.i64.wrap ((q2 : Int) + 1) = (q3 : Int) := i64_eq (by omega) (by omega)
        have E4 : IntKind.i64.wrap ((r2 : Int) - (c : Int)) = (r3 : Int) := i64_eq (by omega) (by omega)
        by_cases hbit : a / 2 ^ k % 2 = 1
        · have BT : (bits .and .i64 ((a : Int) / 2 ^ min k 64) 1 == 1) = true := by rw [hmn, hpk, and_one _ hak, hbit]; rfl
          have T4 : c * (q3 + bq) + (r3 + br) = a / 2 ^ k * b := by
            rw [HBQ.out.1, HBQ.out.2]
            have := tm_add T3 (b := b)
            have h2 := half_bit a k
            rw [hbit] at h2
            rw [h2]; exact this
          have q4Q : q3 + bq ≤ Q := by rw [HQR.out.1]; exact tm_le (j := 0) T4 HC0.out (Nat.div_le_self _ _)
          obtain ⟨q4, hq4⟩ : ∃ x, x = q3 + bq := ⟨_, rfl⟩
          obtain ⟨r4, hr4⟩ : ∃ x, x = r3 + br := ⟨_, rfl⟩
          have E6 : IntKind.i64.wrap ((q3 : Int) + (bq : Int)) = (q4 : Int) := i64_eq (by omega) (by omega)
          have E7 : IntKind.i64.wrap ((r3 : Int) + (br : Int)) = (r4 : Int) := i64_eq (by omega) (by omega)
          rw [← hq4, ← hr4] at T4
          by_cases h2 : c ≤ r4
          · have d2 : decide (c ≤ r4) = true := by rw [decide_eq_true_iff]; exact h2
            have T5 := tm_sub T4 h2
            have q5Q : q4 + 1 ≤ Q := by rw [HQR.out.1]; exact tm_le (j := 0) T5 HC0.out (Nat.div_le_self _ _)
            obtain ⟨q5, hq5⟩ : ∃ x, x = q4 + 1 := ⟨_, rfl⟩
            obtain ⟨r5, hr5⟩ : ∃ x, x = r4 - c := ⟨_, rfl⟩
            have E8 : IntKind.i64.wrap ((q4 : Int) + 1) = (q5 : Int) := i64_eq (by omega) (by omega)
            have E9 : IntKind.i64.wrap ((r4 : Int) - (c : Int)) = (r5 : Int) := i64_eq (by omega) (by omega)
            have HREL := Lib.hid (show c * q5 + r5 = a / 2 ^ k * b ∧ r5 < c by rw [hq5, hr5]; exact ⟨T5, by omega⟩)
            clear hz hj hcq hr hk hqQ ha hb hc hq bql brl hrr hq2 hr2 T2 hA2 q2Q T3 r3c q3Q h1 hq3 hr3 h0 hak hmn hpk hbit T4 q4Q hq4 hr4 h2 T5 q5Q hq5 hr5
            go_wp2
            refine ⟨⟨k, zz, q5, r5, rfl, rfl, rfl, HZZ, HKK, Lib.hid HREL.out.1, Lib.hid HREL.out.2⟩, ?_⟩
            have := HZZ.out; simp [intOf]; omega
          · have d2 : decide (c ≤ r4) = false := by rw [decide_eq_false_iff_not]; exact h2
            have HREL := Lib.hid (show c * q4 + r4 = a / 2 ^ k * b ∧ r4 < c from ⟨T4, by omega⟩)
            clear hz hj hcq hr hk hqQ ha hb hc hq bql brl hrr hq2 hr2 T2 hA2 q2Q T3 r3c q3Q h1 hq3 hr3 h0 hak hmn hpk hbit T4 q4Q hq4 hr4 h2
            go_wp2
            refine ⟨⟨k, zz, q4, r4, rfl, rfl, rfl, HZZ, HKK, Lib.hid HREL.out.1, Lib.hid HREL.out.2⟩, ?_⟩
            have := HZZ.out; simp [intOf]; omega
        · have BT : (bits .and .i64 ((a : Int) / 2 ^ min k 64) 1 == 1) = false := by rw [hmn, hpk, and_one _ hak, show a / 2 ^ k % 2 = 0 by omega]; rfl
          have HREL := Lib.hid (show c * q3 + r3 = a / 2 ^ k * b ∧ r3 < c from ⟨by
            have h2 := half_bit a k
            rw [show a / 2 ^ k % 2 = 0 by omega, Nat.add_zero] at h2
            rw [h2]; exact T3, r3c⟩)
          clear hz hj hcq hr hk hqQ ha hb hc hq bql brl hrr hq2 hr2 T2 hA2 q2Q T3 r3c q3Q h1 hq3 hr3 h0 hak hmn hpk hbit
          go_wp2
          refine ⟨⟨k, zz, q3, r3, rfl, rfl, rfl, HZZ, HKK, Lib.hid HREL.out.1, Lib.hid HREL.out.2⟩, ?_⟩
          have := HZZ.out; simp [intOf]; omega
      · have d1 : decide (c ≤ r2) = false := by rw [decide_eq_false_iff_not]; omega
        obtain rfl : q2 = q3 := hq3.symm
        obtain rfl : r2 = r3 := hr3.symm
        by_cases hbit : a / 2 ^ k % 2 = 1
        · have BT : (bits .and .i64 ((a : Int) / 2 ^ min k 64) 1 == 1) = true := by rw [hmn, hpk, and_one _ hak, hbit]; rfl
          have T4 : c * (q2 + bq) + (r2 + br) = a / 2 ^ k * b := by
            rw [HBQ.out.1, HBQ.out.2]
            have := tm_add T3 (b := b)
            have h2 := half_bit a k
            rw [hbit] at h2
            rw [h2]; exact this
          have q4Q : q2 + bq ≤ Q := by rw [HQR.out.1]; exact tm_le (j := 0) T4 HC0.out (Nat.div_le_self _ _)
          obtain ⟨q4, hq4⟩ : ∃ x, x = q2 + bq := ⟨_, rfl⟩
          obtain ⟨r4, hr4⟩ : ∃ x, x = r2 + br := ⟨_, rfl⟩
          have E6 : IntKind.i64.wrap ((q2 : Int) + (bq : Int)) = (q4 : Int) := i64_eq (by omega) (by omega)
          have E7 : IntKind.i64.wrap ((r2 : Int) + (br : Int)) = (r4 : Int) := i64_eq (by omega) (by omega)
          rw [← hq4, ← hr4] at T4
          by_cases h2 : c ≤ r4
          · have d2 : decide (c ≤ r4) = true := by rw [decide_eq_true_iff]; exact h2
            have T5 := tm_sub T4 h2
            have q5Q : q4 + 1 ≤ Q := by rw [HQR.out.1]; exact tm_le (j := 0) T5 HC0.out (Nat.div_le_self _ _)
            obtain ⟨q5, hq5⟩ : ∃ x, x = q4 + 1 := ⟨_, rfl⟩
            obtain ⟨r5, hr5⟩ : ∃ x, x = r4 - c := ⟨_, rfl⟩
            have E8 : IntKind.i64.wrap ((q4 : Int) + 1) = (q5 : Int) := i64_eq (by omega) (by omega)
            have E9 : IntKind.i64.wrap ((r4 : Int) - (c : Int)) = (r5 : Int) := i64_eq (by omega) (by omega)
            have HREL := Lib.hid (show c * q5 + r5 = a / 2 ^ k * b ∧ r5 < c by rw [hq5, hr5]; exact ⟨T5, by omega⟩)
            clear hz hj hcq hr hk hqQ ha hb hc hq bql brl hrr hq2 hr2 T2 hA2 q2Q T3 r3c q3Q h1 hq3 hr3 h0 hak hmn hpk hbit T4 q4Q hq4 hr4 h2 T5 q5Q hq5 hr5
            go_wp2
            refine ⟨⟨k, zz, q5, r5, rfl, rfl, rfl, HZZ, HKK, Lib.hid HREL.out.1, Lib.hid HREL.out.2⟩, ?_⟩
            have := HZZ.out; simp [intOf]; omega
          · have d2 : decide (c ≤ r4) = false := by rw [decide_eq_false_iff_not]; exact h2
            have HREL := Lib.hid (show c * q4 + r4 = a / 2 ^ k * b ∧ r4 < c from ⟨T4, by omega⟩)
            clear hz hj hcq hr hk hqQ ha hb hc hq bql brl hrr hq2 hr2 T2 hA2 q2Q T3 r3c q3Q h1 hq3 hr3 h0 hak hmn hpk hbit T4 q4Q hq4 hr4 h2
            go_wp2
            refine ⟨⟨k, zz, q4, r4, rfl, rfl, rfl, HZZ, HKK, Lib.hid HREL.out.1, Lib.hid HREL.out.2⟩, ?_⟩
            have := HZZ.out; simp [intOf]; omega
        · have BT : (bits .and .i64 ((a : Int) / 2 ^ min k 64) 1 == 1) = false := by rw [hmn, hpk, and_one _ hak, show a / 2 ^ k % 2 = 0 by omega]; rfl
          have HREL := Lib.hid (show c * q2 + r2 = a / 2 ^ k * b ∧ r2 < c from ⟨by
            have h2 := half_bit a k
            rw [show a / 2 ^ k % 2 = 0 by omega, Nat.add_zero] at h2
            rw [h2]; exact T3, r3c⟩)
          clear hz hj hcq hr hk hqQ ha hb hc hq bql brl hrr hq2 hr2 T2 hA2 q2Q T3 r3c q3Q h1 hq3 hr3 h0 hak hmn hpk hbit
          go_wp2
          refine ⟨⟨k, zz, q2, r2, rfl, rfl, rfl, HZZ, HKK, Lib.hid HREL.out.1, Lib.hid HREL.out.2⟩, ?_⟩
          have := HZZ.out; simp [intOf]; omega
end Go.Proofs.Ytoaopgamfndfgaa
