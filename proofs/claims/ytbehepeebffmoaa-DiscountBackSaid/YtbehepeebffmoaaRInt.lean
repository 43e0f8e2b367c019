/-
  The document's right, Fits, Interest.
-/
import Derived.Test.YtbehepeebffmoaaInt2
namespace Go.Proofs.Ytbehepeebffmoaa
open Go Go.RowKit
set_option linter.unusedVariables false
set_option linter.unusedSimpArgs false

instance (S N D T B : Int) : Decidable (okI S N D T B) := by unfold okI; infer_instance

theorem fits_any (a b : Nat) (hb : b < 9223372036854775808) (ha : a < 9223372036854775808) (w : World) (x : Bool) (hx : x = decide (a * b < 9223372036854775808)) :
    Calls Try.prog 31 #[.int .i64 (a : Int), .int .i64 (b : Int)] w fun e w' => e = .returned (.bool x) ∧ w' = w := by
  by_cases h0 : a = 0
  · subst h0
    obtain rfl : x = true := by rw [hx, decide_eq_true_iff]; omega
    clear hx
    go_enter Try.func31, Try.ntmps31
    go_wp2
    go_ret
    exact ⟨rfl, rfl⟩
  · have d1 : ((a : Int) == 0) = false := by rw [beq_eq_false_iff_ne]; omega
    have d1b : ((a : Int) = 0) = False := by simp; omega
    obtain ⟨q, hq⟩ : ∃ q, q = 9223372036854775807 / a := ⟨_, rfl⟩
    have t1 : (9223372036854775807 : Int).tdiv (a : Int) = (q : Int) := by rw [hq]; exact (Int.ofNat_tdiv 9223372036854775807 a).symm
    have t1b : (9223372036854775807 : Int) / (a : Int) = (q : Int) := by rw [hq]; exact (Int.natCast_ediv 9223372036854775807 a).symm
    have v1 : IntKind.i64.wrap (q : Int) = (q : Int) := i64d rfl (by rw [hq]; exact Nat.div_le_self _ _)
    have hiff : b ≤ q ↔ a * b < 9223372036854775808 := by
      rw [hq, Nat.le_div_iff_mul_le (by omega), Nat.mul_comm]; omega
    have d2 : decide (b ≤ q) = x := by rw [hx]; exact decide_eq_decide.2 hiff
    clear hx hq hiff hb ha
    go_enter Try.func31, Try.ntmps31
    go_wp2
    go_ret
    exact ⟨rfl, rfl⟩

set_option maxHeartbeats 4000000 in
theorem right_any (S N D T B : Int) (w : World) (x : Bool) (hx : x = decide (okI S N D T B)) :
    Calls Try.prog 29 #[.int .i64 S, .agg #[.int .i64 N, .int .i64 D], .int .i64 T, .int .i64 B] w fun e w' => e = .returned (.bool x) ∧ Below w.heap.size w w' := by
  have HD := Lib.hid (fun w => day_any T w _ rfl)
  have HA := Lib.hid ((Below.refl w.heap.size w).alloc (Nat.le_refl _) (.cells #[.int .i64 N, .int .i64 D] 23))
  have HX := Lib.hid hx
  clear hx
  by_cases c0 : 0 ≤ S
  rotate_left
  · have hxf : x = false := by
      rw [HX.out, decide_eq_false_iff_not]; unfold okI; omega
    have h := decide_eq_false c0
    subst hxf
    clear HX c0
    go_enter Try.func29, Try.ntmps29
    go_wp2
    go_ret
    exact ⟨rfl, HA.out⟩
  have h0 := decide_eq_true c0
  by_cases c1 : S ≤ 1099511627776
  rotate_left
  · have hxf : x = false := by
      rw [HX.out, decide_eq_false_iff_not]; unfold okI; omega
    have h := decide_eq_false c1
    subst hxf
    clear HX c1
    go_enter Try.func29, Try.ntmps29
    go_wp2
    go_ret
    exact ⟨rfl, HA.out⟩
  have h1 := decide_eq_true c1
  by_cases c2 : 0 ≤ N
  rotate_left
  · have hxf : x = false := by
      rw [HX.out, decide_eq_false_iff_not]; unfold okI; omega
    have h := decide_eq_false c2
    subst hxf
    clear HX c2
    go_enter Try.func29, Try.ntmps29
    go_wp2
    go_ret
    exact ⟨rfl, HA.out⟩
  have h2 := decide_eq_true c2
  by_cases c3 : N ≤ 1048576
  rotate_left
  · have hxf : x = false := by
      rw [HX.out, decide_eq_false_iff_not]; unfold okI; omega
    have h := decide_eq_false c3
    subst hxf
    clear HX c3
    go_enter Try.func29, Try.ntmps29
    go_wp2
    go_ret
    exact ⟨rfl, HA.out⟩
  have h3 := decide_eq_true c3
  by_cases c4 : 1 ≤ D
  rotate_left
  · have hxf : x = false := by
      rw [HX.out, decide_eq_false_iff_not]; unfold okI; omega
    have h := decide_eq_false c4
    subst hxf
    clear HX c4
    go_enter Try.func29, Try.ntmps29
    go_wp2
    go_ret
    exact ⟨rfl, HA.out⟩
  have h4 := decide_eq_true c4
  by_cases c5 : D ≤ 1048576
  rotate_left
  · have hxf : x = false := by
      rw [HX.out, decide_eq_false_iff_not]; unfold okI; omega
    have h := decide_eq_false c5
    subst hxf
    clear HX c5
    go_enter Try.func29, Try.ntmps29
    go_wp2
    go_ret
    exact ⟨rfl, HA.out⟩
  have h5 := decide_eq_true c5
  by_cases c6 : 0 ≤ T ∧ T ≤ 1048576
  rotate_left
  · have hxf : x = false := by
      rw [HX.out, decide_eq_false_iff_not]; unfold okI; omega
    rw [decide_eq_false c6] at HD
    subst hxf
    clear HX c0 c1 c2 c3 c4 c5 c6
    go_enter Try.func29, Try.ntmps29
    go_wp2_with fail
    refine (HD.out _).mono ?_
    rintro e w1 ⟨rfl, rfl⟩
    go_wp2
    go_ret
    exact ⟨rfl, HA.out⟩
  rw [decide_eq_true c6] at HD
  by_cases c7 : B = 360
  · have hxf : x = true := by
      rw [HX.out, decide_eq_true_iff]; unfold okI; omega
    subst hxf c7
    clear HX c0 c1 c2 c3 c4 c5 c6
    go_enter Try.func29, Try.ntmps29
    go_wp2_with fail
    refine (HD.out _).mono ?_
    rintro e w1 ⟨rfl, rfl⟩
    go_wp2
    go_ret
    exact ⟨rfl, HA.out⟩
  have b1 : (B == 360) = false := by rw [beq_eq_false_iff_ne]; exact c7
  by_cases c8 : B = 365
  · have hxf : x = true := by
      rw [HX.out, decide_eq_true_iff]; unfold okI; omega
    subst hxf c8
    clear HX c0 c1 c2 c3 c4 c5 c6 c7
    go_enter Try.func29, Try.ntmps29
    go_wp2_with fail
    refine (HD.out _).mono ?_
    rintro e w1 ⟨rfl, rfl⟩
    go_wp2
    go_ret
    exact ⟨rfl, HA.out⟩
  have b2 : (B == 365) = false := by rw [beq_eq_false_iff_ne]; exact c8
  have hxf : x = false := by
    rw [HX.out, decide_eq_false_iff_not]; unfold okI; omega
  subst hxf
  clear HX c0 c1 c2 c3 c4 c5 c6 c7 c8
  go_enter Try.func29, Try.ntmps29
  go_wp2_with fail
  refine (HD.out _).mono ?_
  rintro e w1 ⟨rfl, rfl⟩
  go_wp2
  go_ret
  exact ⟨rfl, HA.out⟩
end Go.Proofs.Ytbehepeebffmoaa
