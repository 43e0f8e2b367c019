/-
  DiscountSums.
-/
import Derived.Test.YtbehepeebffmoaaLawF
namespace Go.Proofs.Ytbehepeebffmoaa
open Go Go.RowKit
set_option linter.unusedVariables false
set_option linter.unusedSimpArgs false

theorem near_over {P Q S : Nat} (hQ : 1 ≤ Q) (h : S < nearN P Q) : cmpI P Q S 1 = 1 := by
  have h1 := Nat.div_add_mod P Q
  have h2 := Nat.mod_lt P (show Q > 0 from hQ)
  unfold nearN at h
  unfold cmpI
  rw [Nat.mul_one]
  generalize P / Q = m at *
  generalize P % Q = r at *
  subst h1
  have e : Q * m = m * Q := Nat.mul_comm _ _
  have key : S * Q < Q * m + r := by
    split at h
    · have : S * Q ≤ m * Q := Nat.mul_le_mul_right _ (by omega)
      omega
    · have : (S + 1) * Q ≤ m * Q := Nat.mul_le_mul_right _ (by omega)
      rw [Nat.succ_mul] at this
      omega
  rw [if_neg (by omega), if_neg (by omega)]
theorem near_up {P Q : Nat} (hQ : 1 ≤ Q) : cmpI P Q (2 * nearN P Q + 1) 2 = -1 := by
  have h1 := Nat.div_add_mod P Q
  have h2 := Nat.mod_lt P (show Q > 0 from hQ)
  unfold nearN cmpI
  generalize P / Q = m at *
  generalize P % Q = r at *
  subst h1
  have e : Q * m = m * Q := Nat.mul_comm _ _
  rw [if_pos]
  by_cases hc : Q - r ≤ r
  · rw [if_pos hc, show 2 * (m + 1) + 1 = 2 * m + 3 by omega, Nat.add_mul (2 * m), Nat.mul_assoc]; omega
  · rw [if_neg hc, show 2 * (m + 0) + 1 = 2 * m + 1 by omega, Nat.add_mul (2 * m), Nat.mul_assoc]; omega
theorem near_down {P Q : Nat} (hQ : 1 ≤ Q) (h0 : 0 < nearN P Q) : 0 ≤ cmpI P Q (2 * nearN P Q - 1) 2 := by
  have h1 := Nat.div_add_mod P Q
  have h2 := Nat.mod_lt P (show Q > 0 from hQ)
  unfold nearN at h0
  unfold nearN cmpI
  generalize P / Q = m at *
  generalize P % Q = r at *
  subst h1
  have e : Q * m = m * Q := Nat.mul_comm _ _
  rw [if_neg]
  · by_cases hc : (Q * m + r) * 2 = (2 * (m + if Q - r ≤ r then 1 else 0) - 1) * Q
    · rw [if_pos hc]; decide
    · rw [if_neg hc]; decide
  · by_cases hc : Q - r ≤ r
    · rw [if_pos hc, show 2 * (m + 1) - 1 = 2 * m + 1 by omega, Nat.add_mul (2 * m), Nat.mul_assoc]; omega
    · rw [if_neg hc] at h0
      obtain ⟨k, rfl⟩ : ∃ k, m = k + 1 := ⟨m - 1, by omega⟩
      rw [if_neg hc, show 2 * (k + 1 + 0) - 1 = 2 * k + 1 by omega, Nat.add_mul (2 * k), Nat.mul_assoc]
      rw [Nat.add_mul k 1 Q] at e
      omega

namespace discountSums
set_option maxRecDepth 100000 in
set_option maxHeartbeats 4000000 in
theorem body (S N D T B : Int) (w : World) :
    Calls Try.prog 4 #[.int .i64 S, .agg #[.int .i64 N, .int .i64 D], .int .i64 T, .int .i64 B] w fun e w' => e = .returned (.bool true) ∧ Below w.heap.size w w' := by
  have HD := Lib.hid (fun w => discount_any S N D T B w)
  have HI := Lib.hid (fun w => interest_any S N D T B w)
  obtain ⟨x, hx⟩ : ∃ x, x = discP S N D T B := ⟨_, rfl⟩
  rw [← hx] at HD
  unfold discP at hx
  obtain ⟨p, q, ok, hi⟩ : ∃ p q ok, intP S N D T B = (p, q, ok) := ⟨_, _, _, rfl⟩
  rw [hi] at hx HI
  unfold vR at HI
  unfold v3 at HD
  cases ok with
  | false =>
    rw [if_neg (by simp)] at hx
    subst hx
    clear hi
    go_enter Try.func4, Try.ntmps4
    go_wp2_with fail
    refine (awake39_any _).mono ?_
    rintro e w1 ⟨rfl, hb⟩
    have HS := Lib.hid (bx_new hb)
    obtain ⟨b, hb0⟩ : ∃ b, b = w.heap.size := ⟨_, rfl⟩
    rw [← hb0] at HS ⊢
    clear hb hb0
    obtain ⟨c1, c2, -, -⟩ := HS.out
    go_wp2_with fail
    refine (HD.out _).mono ?_
    rintro e w2 ⟨rfl, hb⟩
    have HS2 := Lib.hid (HS.out.below hb)
    clear hb c1 c2
    obtain ⟨c1, c2, -, -⟩ := HS2.out
    go_wp2_with fail
    refine (HI.out _).mono ?_
    rintro e w3 ⟨rfl, hb⟩
    have HS3 := Lib.hid ((HS2.out.below hb).alloc (.cells #[.int .i64 p, .int .i64 q] 23))
    clear hb c1 c2
    go_wp2
    go_ret
    exact ⟨rfl, HS3.out.2.2.2⟩
  | true =>
    obtain ⟨P, Q, rfl, rfl, hf⟩ := fine_of hi
    simp only [Int.toNat_natCast] at hx
    obtain ⟨n, hn⟩ : ∃ n, n = nearN P Q := ⟨_, rfl⟩
    have HU := Lib.hid (near_up (P := P) hf.pos)
    have HDn := Lib.hid (near_down (P := P) hf.pos)
    have HOv := Lib.hid (fun S => near_over (P := P) (S := S) hf.pos)
    rw [← hn] at hx HU HDn HOv
    have HC := Lib.hid (fun n d (h1 : n < 9223372036854775808) (h2 : d < 9223372036854775808) (h3 : 1 ≤ d) w => compare_ok P Q n d hf.lt (by have := hf.le; omega) h1 h2 hf.pos h3 w)
    have hS1 := hf.ok.1
    have hS2 := hf.ok.2.1
    obtain ⟨s, rfl⟩ : ∃ s : Nat, S = (s : Int) := ⟨S.toNat, by omega⟩
    clear hi hf hn
    by_cases hle : (n : Int) ≤ (s : Int)
    · rw [if_pos ⟨trivial, hle⟩] at hx
      subst hx
      have HC1 := Lib.hid (fun w => HC.out (2 * n + 1) 2 (by omega) (by omega) (by omega) w)
      rw [HU.out] at HC1
      have v1 : IntKind.i64.wrap ((s : Int) - (n : Int) + (n : Int)) = (s : Int) := by rw [IntWalk.i64_in _ (by omega)]; omega
      have v2 : IntKind.i64.wrap (2 * (n : Int)) = 2 * (n : Int) := IntWalk.i64_in _ (by omega)
      have v3' : IntKind.i64.wrap (2 * (n : Int) + 1) = ((2 * n + 1 : Nat) : Int) := i64d (by omega) (by omega)
      have d1 : decide ((s : Int) - (n : Int) < 0) = false := by rw [decide_eq_false_iff_not]; omega
      have d2 : decide (1099511627776 < (n : Int)) = false := by rw [decide_eq_false_iff_not]; omega
      have d3 : decide ((n : Int) < 0) = false := by rw [decide_eq_false_iff_not]; omega
      have d1b : decide (s < n) = false := by rw [decide_eq_false_iff_not]; omega
      have v1b : IntKind.i64.wrap (s : Int) = (s : Int) := i64d rfl (by omega)
      by_cases hn0 : n = 0
      · subst hn0
        clear hle hS1 hS2 HC HOv HU HDn
        go_enter Try.func4, Try.ntmps4
        go_wp2_with fail
        refine (awake39_any _).mono ?_
        rintro e w1 ⟨rfl, hb⟩
        have HS := Lib.hid (bx_new hb)
        obtain ⟨b, hb0⟩ : ∃ b, b = w.heap.size := ⟨_, rfl⟩
        rw [← hb0] at HS ⊢
        clear hb hb0
        obtain ⟨c1, c2, -, -⟩ := HS.out
        go_wp2_with fail
        refine (HD.out _).mono ?_
        rintro e w2 ⟨rfl, hb⟩
        have HS2 := Lib.hid (HS.out.below hb)
        clear hb c1 c2
        obtain ⟨c1, c2, -, -⟩ := HS2.out
        go_wp2_with fail
        refine (HI.out _).mono ?_
        rintro e w3 ⟨rfl, hb⟩
        have HI3 := Lib.hid (two_cells (w1 := w3) (t := 23) (u := .int .i64 (P : Int)) (v := .int .i64 (Q : Int)) (Below.refl _ _))
        have HS3 := Lib.hid ((HS2.out.below hb).alloc (.cells #[.int .i64 (P : Int), .int .i64 (Q : Int)] 23))
        clear hb c1 c2
        go_wp2_with fail
        refine (HC1.out _).mono ?_
        rintro e w4 ⟨rfl, hb⟩
        have HS4 := Lib.hid (HS3.out.below hb)
        obtain ⟨c3, c4, -⟩ := two_cells hb
        clear hb
        go_wp2
        go_ret
        exact ⟨rfl, HS4.out.2.2.2⟩
      · have HC2 := Lib.hid (fun w => HC.out (2 * n - 1) 2 (by omega) (by omega) (by omega) w)
        have h0 := HDn.out (by omega)
        generalize cmpI P Q (2 * n - 1) 2 = c at *
        have v4 : IntKind.i64.wrap (2 * (n : Int) - 1) = ((2 * n - 1 : Nat) : Int) := i64d (by omega) (by omega)
        have d4 : ((n : Int) == 0) = false := by rw [beq_eq_false_iff_ne]; omega
        have d5 : decide (0 ≤ c) = true := by rw [decide_eq_true_iff]; exact h0
        clear hle hS1 hS2 HC HOv HU HDn hn0 h0
        go_enter Try.func4, Try.ntmps4
        go_wp2_with fail
        refine (awake39_any _).mono ?_
        rintro e w1 ⟨rfl, hb⟩
        have HS := Lib.hid (bx_new hb)
        obtain ⟨b, hb0⟩ : ∃ b, b = w.heap.size := ⟨_, rfl⟩
        rw [← hb0] at HS ⊢
        clear hb hb0
        obtain ⟨c1, c2, -, -⟩ := HS.out
        go_wp2_with fail
        refine (HD.out _).mono ?_
        rintro e w2 ⟨rfl, hb⟩
        have HS2 := Lib.hid (HS.out.below hb)
        clear hb c1 c2
        obtain ⟨c1, c2, -, -⟩ := HS2.out
        go_wp2_with fail
        refine (HI.out _).mono ?_
        rintro e w3 ⟨rfl, hb⟩
        have HI3 := Lib.hid (two_cells (w1 := w3) (t := 23) (u := .int .i64 (P : Int)) (v := .int .i64 (Q : Int)) (Below.refl _ _))
        have HS3 := Lib.hid ((HS2.out.below hb).alloc (.cells #[.int .i64 (P : Int), .int .i64 (Q : Int)] 23))
        clear hb c1 c2
        go_wp2_with fail
        refine (HC1.out _).mono ?_
        rintro e w4 ⟨rfl, hb⟩
        have HS4 := Lib.hid (HS3.out.below hb)
        obtain ⟨c3, c4, -⟩ := two_cells hb
        clear hb
        go_wp2_with fail
        refine (HC2.out _).mono ?_
        rintro e w5 ⟨rfl, hb⟩
        have HS5 := Lib.hid (HS4.out.below hb)
        clear hb c3 c4
        go_wp2
        go_ret
        exact ⟨rfl, HS5.out.2.2.2⟩
    · rw [if_neg (fun h => hle h.2)] at hx
      subst hx
      have HC1 := Lib.hid (fun w => HC.out s 1 (by omega) (by omega) (by omega) w)
      rw [HOv.out s (by omega)] at HC1
      clear hle hS1 hS2 HC HOv HU HDn
      go_enter Try.func4, Try.ntmps4
      go_wp2_with fail
      refine (awake39_any _).mono ?_
      rintro e w1 ⟨rfl, hb⟩
      have HS := Lib.hid (bx_new hb)
      obtain ⟨b, hb0⟩ : ∃ b, b = w.heap.size := ⟨_, rfl⟩
      rw [← hb0] at HS ⊢
      clear hb hb0
      obtain ⟨c1, c2, -, -⟩ := HS.out
      go_wp2_with fail
      refine (HD.out _).mono ?_
      rintro e w2 ⟨rfl, hb⟩
      have HS2 := Lib.hid (HS.out.below hb)
      clear hb c1 c2
      obtain ⟨c1, c2, -, -⟩ := HS2.out
      go_wp2_with fail
      refine (HI.out _).mono ?_
      rintro e w3 ⟨rfl, hb⟩
      have HS3 := Lib.hid ((HS2.out.below hb).alloc (.cells #[.int .i64 (P : Int), .int .i64 (Q : Int)] 23))
      clear hb c1 c2
      go_wp2_with fail
      refine (HC1.out _).mono ?_
      rintro e w4 ⟨rfl, hb⟩
      have HS4 := Lib.hid (HS3.out.below hb)
      clear hb
      go_wp2
      go_ret
      exact ⟨rfl, HS4.out.2.2.2⟩
theorem walk (S : Int) (v : Value) (T B : Int) (w : World) (_ : (Lit.int .i64 S).wf = true) (hv : Is23 w v) (_ : (Lit.int .i64 T).wf = true) (_ : (Lit.int .i64 B).wf = true) :
    Calls Try.prog 4 #[.int .i64 S, v, .int .i64 T, .int .i64 B] w fun e w' => e = .returned (.bool true) ∧ Below w.heap.size w w' := by
  obtain ⟨N, D, rfl, _⟩ := hv
  exact body S N D T B w
end discountSums
end Go.Proofs.Ytbehepeebffmoaa
