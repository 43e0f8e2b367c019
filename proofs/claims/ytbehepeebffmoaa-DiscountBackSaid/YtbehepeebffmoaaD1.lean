/-
  discount: small contracts: divisor, Divisor, isRatio, Reduce.
-/
import Derived.Test.YtbehepeebffmoaaBits
import Derived.Test.YtbehepeebffmoaaSep
import Derived.BigQuiet
import Derived.Deep.QuietTactic
namespace Go.Proofs.Ytbehepeebffmoaa
open Go Go.RowKit
set_option linter.unusedVariables false
set_option linter.unusedSimpArgs false

theorem i64d {z : Int} {n : Nat} (h : z = (n : Int)) (hb : n ≤ 9223372036854775807) : IntKind.i64.wrap z = (n : Int) := by subst h; exact IntWalk.i64_in _ (by omega)
theorem btd {W w w' : World} (h1 : Below W.heap.size W w) (h2 : Below w.heap.size w w') : Below W.heap.size W w' := h1.trans (h2.mono h1.size)
theorem dgcd_step (a b : Nat) : Nat.gcd b (a % b) = Nat.gcd a b := by rw [Nat.gcd_comm b, ← Nat.gcd_rec, Nat.gcd_comm]

set_option maxHeartbeats 1000000 in
theorem ddiv_any (a b : Nat) (ha : a < 9223372036854775808) (hb : b < 9223372036854775808) (w : World) :
    Calls Try.prog 27 #[.int .i64 (a : Int), .int .i64 (b : Int)] w fun e w' => e = .returned (.int .i64 (Nat.gcd a b : Nat)) ∧ ∃ m, w' = w.drewN m := by
  obtain ⟨G, hG⟩ : ∃ G, G = Nat.gcd a b := ⟨_, rfl⟩
  rw [← hG]
  have HG := Lib.hid hG
  have HA := Lib.hid ha
  have HB := Lib.hid hb
  clear ha hb hG
  go_enter Try.func27, Try.ntmps27
  go_wp2
  go_loopw [0, 1] (fun i j wr => ∃ p q : Nat, i = .int .i64 (p : Int) ∧ j = .int .i64 (q : Int) ∧ Hid (p < 9223372036854775808) ∧ Hid (q < 9223372036854775808) ∧ Hid (Nat.gcd p q = G) ∧ Hid (∃ m, wr = w.drewN m)) (fun _ j _ => (intOf j).toNat)
  case atStart => exact ⟨a, b, rfl, rfl, HA, HB, Lib.hid HG.out.symm, Lib.hid ⟨0, rfl⟩⟩
  case round =>
    obtain ⟨p, q, rfl, rfl, hp, hq, hg, hw⟩ := hrel
    by_cases h0 : q = 0
    · subst h0
      have HP := Lib.hid (show p = G by have := hg.out; rwa [Nat.gcd_zero_right] at this)
      go_wp2
      go_ret
      exact ⟨by rw [← HP.out]; rfl, hw.out⟩
    · have d1 : ((q : Int) == 0) = false := by rw [beq_eq_false_iff_ne]; omega
      have d2 : ((q : Int) != 0) = true := by simp [bne, d1]
      obtain ⟨r, hr⟩ : ∃ r, r = p % q := ⟨_, rfl⟩
      have hrq : r < q := by rw [hr]; exact Nat.mod_lt _ (by omega)
      have e1 : (p : Int).tmod (q : Int) = (r : Int) := by rw [hr]; exact (Int.ofNat_tmod p q).symm
      have e1b : (p : Int) % (q : Int) = (r : Int) := by rw [hr]; exact (Int.natCast_emod p q).symm
      have e2 : IntKind.i64.wrap (r : Int) = (r : Int) := i64d rfl (by have := hq.out; omega)
      have HR := Lib.hid (show Nat.gcd q r = G by rw [hr, dgcd_step, hg.out])
      have HRQ := Lib.hid hrq
      clear hr hrq
      go_wp2_with fail
      go_quiet (fail)
      go_wp2
      go_roundw
      case rel => exact ⟨q, r, rfl, rfl, hq, Lib.hid (by have := HRQ.out; have := hq.out; omega), HR, Lib.hid (by obtain ⟨m, e⟩ := hw.out; exact ⟨m + nq, by rw [e, World.drewN_drewN]⟩)⟩
      case measure => have := HRQ.out; simp [intOf]; omega

set_option maxHeartbeats 1000000 in
theorem drdiv_any (a b : Nat) (ha : a < 9223372036854775808) (hb : b < 9223372036854775808) (w : World) :
    Calls Try.prog 30 #[.int .i64 (a : Int), .int .i64 (b : Int)] w fun e w' => e = .returned (.int .i64 (Nat.gcd a b : Nat)) ∧ w' = w := by
  obtain ⟨G, hG⟩ : ∃ G, G = Nat.gcd a b := ⟨_, rfl⟩
  rw [← hG]
  have HG := Lib.hid hG
  have HA := Lib.hid ha
  have HB := Lib.hid hb
  clear ha hb hG
  go_enter Try.func30, Try.ntmps30
  go_wp2
  go_loop [0, 1] (fun i j => ∃ p q : Nat, i = .int .i64 (p : Int) ∧ j = .int .i64 (q : Int) ∧ Hid (p < 9223372036854775808) ∧ Hid (q < 9223372036854775808) ∧ Hid (Nat.gcd p q = G)) (fun _ j => (intOf j).toNat)
  case atStart => exact ⟨a, b, rfl, rfl, HA, HB, Lib.hid HG.out.symm⟩
  case round =>
    obtain ⟨p, q, rfl, rfl, hp, hq, hg⟩ := hrel
    by_cases h0 : q = 0
    · subst h0
      have HP := Lib.hid (show p = G by have := hg.out; rwa [Nat.gcd_zero_right] at this)
      go_wp2
      go_ret
      exact ⟨by rw [← HP.out]; rfl, rfl⟩
    · have d1 : ((q : Int) == 0) = false := by rw [beq_eq_false_iff_ne]; omega
      have d2 : ((q : Int) != 0) = true := by simp [bne, d1]
      obtain ⟨r, hr⟩ : ∃ r, r = p % q := ⟨_, rfl⟩
      have hrq : r < q := by rw [hr]; exact Nat.mod_lt _ (by omega)
      have e1 : (p : Int).tmod (q : Int) = (r : Int) := by rw [hr]; exact (Int.ofNat_tmod p q).symm
      have e1b : (p : Int) % (q : Int) = (r : Int) := by rw [hr]; exact (Int.natCast_emod p q).symm
      have e2 : IntKind.i64.wrap (r : Int) = (r : Int) := i64d rfl (by have := hq.out; omega)
      have HR := Lib.hid (show Nat.gcd q r = G by rw [hr, dgcd_step, hg.out])
      have HRQ := Lib.hid hrq
      clear hr hrq
      go_wp2
      go_round
      case rel => exact ⟨q, r, rfl, rfl, hq, Lib.hid (by have := HRQ.out; have := hq.out; omega), HR⟩
      case measure => have := HRQ.out; simp [intOf]; omega

theorem misratio_any (N D : Int) (w : World) (x : Bool) (hx : x = decide (0 ≤ N ∧ 1 ≤ D)) :
    Calls Try.prog 43 #[.agg #[.int .i64 N, .int .i64 D]] w fun e w' => e = .returned (.bool x) ∧ Below w.heap.size w w' := by
  by_cases h1 : 0 ≤ N
  · by_cases h2 : 1 ≤ D
    · have d1 : decide (0 ≤ N) = true := by rw [decide_eq_true_iff]; omega
      have d2 : decide (1 ≤ D) = true := by rw [decide_eq_true_iff]; omega
      obtain rfl : x = true := by rw [hx, decide_eq_true_iff]; exact ⟨h1, h2⟩
      clear hx
      go_enter Try.func43, Try.ntmps43
      go_wp2
      go_ret
      exact ⟨rfl, (Below.refl _ _).alloc (Nat.le_refl _) _⟩
    · have d1 : decide (0 ≤ N) = true := by rw [decide_eq_true_iff]; omega
      have d2 : decide (1 ≤ D) = false := by rw [decide_eq_false_iff_not]; omega
      obtain rfl : x = false := by rw [hx, decide_eq_false_iff_not]; omega
      clear hx
      go_enter Try.func43, Try.ntmps43
      go_wp2
      go_ret
      exact ⟨rfl, (Below.refl _ _).alloc (Nat.le_refl _) _⟩
  · have d1 : decide (0 ≤ N) = false := by rw [decide_eq_false_iff_not]; omega
    obtain rfl : x = false := by rw [hx, decide_eq_false_iff_not]; omega
    clear hx
    go_enter Try.func43, Try.ntmps43
    go_wp2
    go_ret
    exact ⟨rfl, (Below.refl _ _).alloc (Nat.le_refl _) _⟩

theorem isbase_any (B : Int) (w : World) (x : Bool) (hx : x = decide (B = 360 ∨ B = 365)) :
    Calls Try.prog 25 #[.int .i64 B] w fun e w' => e = .returned (.bool x) ∧ w' = w := by
  by_cases h1 : B = 360
  · subst h1
    obtain rfl : x = true := by rw [hx]; decide
    clear hx
    go_enter Try.func25, Try.ntmps25
    go_wp2
    go_ret
    exact ⟨rfl, rfl⟩
  · by_cases h2 : B = 365
    · subst h2
      obtain rfl : x = true := by rw [hx]; decide
      clear hx
      go_enter Try.func25, Try.ntmps25
      go_wp2
      go_ret
      exact ⟨rfl, rfl⟩
    · have d1 : (B == 360) = false := by rw [beq_eq_false_iff_ne]; exact h1
      have d2 : (B == 365) = false := by rw [beq_eq_false_iff_ne]; exact h2
      obtain rfl : x = false := by rw [hx, decide_eq_false_iff_not]; omega
      clear hx
      go_enter Try.func25, Try.ntmps25
      go_wp2
      go_ret
      exact ⟨rfl, rfl⟩

theorem day_any (d : Int) (w : World) (x : Bool) (hx : x = decide (0 ≤ d ∧ d ≤ 1048576)) :
    Calls Try.prog 44 #[.int .i64 d] w fun e w' => e = .returned (.bool x) ∧ w' = w := by
  by_cases h1 : 0 ≤ d
  · have d1 : decide (0 ≤ d) = true := by rw [decide_eq_true_iff]; exact h1
    by_cases h2 : d ≤ 1048576
    · have d2 : decide (d ≤ 1048576) = true := by rw [decide_eq_true_iff]; exact h2
      obtain rfl : x = true := by rw [hx, decide_eq_true_iff]; exact ⟨h1, h2⟩
      clear hx
      go_enter Try.func44, Try.ntmps44
      go_wp2
      go_ret
      exact ⟨rfl, rfl⟩
    · have d2 : decide (d ≤ 1048576) = false := by rw [decide_eq_false_iff_not]; exact h2
      obtain rfl : x = false := by rw [hx, decide_eq_false_iff_not]; omega
      clear hx
      go_enter Try.func44, Try.ntmps44
      go_wp2
      go_ret
      exact ⟨rfl, rfl⟩
  · have d1 : decide (0 ≤ d) = false := by rw [decide_eq_false_iff_not]; exact h1
    obtain rfl : x = false := by rw [hx, decide_eq_false_iff_not]; omega
    clear hx
    go_enter Try.func44, Try.ntmps44
    go_wp2
    go_ret
    exact ⟨rfl, rfl⟩
end Go.Proofs.Ytbehepeebffmoaa
