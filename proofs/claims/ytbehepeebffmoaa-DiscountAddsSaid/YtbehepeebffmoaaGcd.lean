/-
  share.divisor, the document's Divisor, math/bits.Rem64.
-/
import Derived.Test.YtbehepeebffmoaaRefSplit
import Derived.Shelf.Spec.BitsCarry
namespace Go.Proofs.Ytbehepeebffmoaa
open Go Go.RowKit
set_option linter.unusedVariables false
set_option linter.unusedSimpArgs false

theorem gcd_step (a b : Nat) : Nat.gcd b (a % b) = Nat.gcd a b := by rw [Nat.gcd_comm b, ← Nat.gcd_rec, Nat.gcd_comm]

set_option maxHeartbeats 1000000 in
theorem divisor_any (a b : Nat) (ha : a < 18446744073709551616) (hb : b < 18446744073709551616) (w : World) :
    Calls Try.prog 36 #[.int .u64 (a : Int), .int .u64 (b : Int)] w fun e w' => e = .returned (.int .u64 (Nat.gcd a b : Nat)) ∧ ∃ m, w' = w.drewN m := by
  obtain ⟨G, hG⟩ : ∃ G, G = Nat.gcd a b := ⟨_, rfl⟩
  rw [← hG]
  have HG := Lib.hid hG
  have HA := Lib.hid ha
  have HB := Lib.hid hb
  clear ha hb hG
  go_enter Try.func36, Try.ntmps36
  go_wp2
  go_loopw [0, 1] (fun i j wr => ∃ p q : Nat, i = .int .u64 (p : Int) ∧ j = .int .u64 (q : Int) ∧ Hid (p < 18446744073709551616) ∧ Hid (q < 18446744073709551616) ∧ Hid (Nat.gcd p q = G) ∧ Hid (∃ m, wr = w.drewN m)) (fun _ j _ => (intOf j).toNat)
  case atStart => exact ⟨a, b, rfl, rfl, HA, HB, Lib.hid HG.out.symm, Lib.hid ⟨0, rfl⟩⟩
  case round =>
    obtain ⟨p, q, rfl, rfl, hp, hq, hg, hw⟩ := hrel
    by_cases h0 : q = 0
    · subst h0
      have HP := Lib.hid (show p = G by have := hg.out; rwa [Nat.gcd_zero_right] at this)
      go_wp2
      go_ret
      exact ⟨by rw [← HP.out]; rfl, hw.out⟩
    · have d1 : ((q : Int) == 0) = false := by rw [beq_eq_false_iff_ne]; omega
      have d2 : ((q : Int) != 0) = true := by simp [bne, d1]
      obtain ⟨r, hr⟩ : ∃ r, r = p % q := ⟨_, rfl⟩
      have hrq : r < q := by rw [hr]; exact Nat.mod_lt _ (by omega)
      have e1 : (p : Int).tmod (q : Int) = (r : Int) := by rw [hr]; exact (Int.ofNat_tmod p q).symm
      have e1b : (p : Int) % (q : Int) = (r : Int) := by rw [hr]; exact (Int.natCast_emod p q).symm
      have e2 : IntKind.u64.wrap (r : Int) = (r : Int) := wrapN r (by have := hq.out; omega)
      have HR := Lib.hid (show Nat.gcd q r = G by rw [hr, gcd_step, hg.out])
      have HRQ := Lib.hid hrq
      clear hr hrq
      go_wp2_with fail
      go_quiet (fail)
      go_wp2
      go_roundw
      case rel => exact ⟨q, r, rfl, rfl, hq, Lib.hid (by have := HRQ.out; have := hq.out; omega), HR, Lib.hid (by obtain ⟨m, e⟩ := hw.out; exact ⟨m + nq, by rw [e, World.drewN_drewN]⟩)⟩
      case measure => have := HRQ.out; simp [intOf]; omega

set_option maxHeartbeats 1000000 in
theorem rdivisor_any (a b : Nat) (ha : a < 9223372036854775808) (hb : b < 9223372036854775808) (w : World) :
    Calls Try.prog 30 #[.int .i64 (a : Int), .int .i64 (b : Int)] w fun e w' => e = .returned (.int .i64 (Nat.gcd a b : Nat)) ∧ w' = w := by
  obtain ⟨G, hG⟩ : ∃ G, G = Nat.gcd a b := ⟨_, rfl⟩
  rw [← hG]
  have HG := Lib.hid hG
  have HA := Lib.hid ha
  have HB := Lib.hid hb
  clear ha hb hG
  go_enter Try.func30, Try.ntmps30
  go_wp2
  go_loop [0, 1] (fun i j => ∃ p q : Nat, i = .int .i64 (p : Int) ∧ j = .int .i64 (q : Int) ∧ Hid (p < 9223372036854775808) ∧ Hid (q < 9223372036854775808) ∧ Hid (Nat.gcd p q = G)) (fun _ j => (intOf j).toNat)
  case atStart => exact ⟨a, b, rfl, rfl, HA, HB, Lib.hid HG.out.symm⟩
  case round =>
    obtain ⟨p, q, rfl, rfl, hp, hq, hg⟩ := hrel
    by_cases h0 : q = 0
    · subst h0
      have HP := Lib.hid (show p = G by have := hg.out; rwa [Nat.gcd_zero_right] at this)
      go_wp2
      go_ret
      exact ⟨by rw [← HP.out]; rfl, rfl⟩
    · have d1 : ((q : Int) == 0) = false := by rw [beq_eq_false_iff_ne]; omega
      have d2 : ((q : Int) != 0) = true := by simp [bne, d1]
      obtain ⟨r, hr⟩ : ∃ r, r = p % q := ⟨_, rfl⟩
      have hrq : r < q := by rw [hr]; exact Nat.mod_lt _ (by omega)
      have e1 : (p : Int).tmod (q : Int) = (r : Int) := by rw [hr]; exact (Int.ofNat_tmod p q).symm
      have e1b : (p : Int) % (q : Int) = (r : Int) := by rw [hr]; exact (Int.natCast_emod p q).symm
      have e2 : IntKind.i64.wrap (r : Int) = (r : Int) := i64_eq rfl (by have := hq.out; omega)
      have HR := Lib.hid (show Nat.gcd q r = G by rw [hr, gcd_step, hg.out])
      have HRQ := Lib.hid hrq
      clear hr hrq
      go_wp2
      go_round
      case rel => exact ⟨q, r, rfl, rfl, hq, Lib.hid (by have := HRQ.out; have := hq.out; omega), HR⟩
      case measure => have := HRQ.out; simp [intOf]; omega

theorem rem_aux {hi lo y t k : Nat} (h : t + y * k = hi) : (hi * 18446744073709551616 + lo) % y = (t * 18446744073709551616 + lo) % y := by
  subst h
  rw [show (t + y * k) * 18446744073709551616 + lo = t * 18446744073709551616 + lo + y * (k * 18446744073709551616) by rw [Nat.add_mul, Nat.mul_assoc]; omega, Nat.add_mul_mod_self_left]

theorem rem_any (hi lo y : Nat) (w : World) (h0 : 0 < y) (h1 : hi < 18446744073709551616) (hlo : lo < 18446744073709551616) (h3 : y < 18446744073709551616) :
    Calls Try.prog 38 #[.int .u64 (hi : Int), .int .u64 (lo : Int), .int .u64 (y : Int)] w fun e w' => e = .returned (.int .u64 ((hi * 18446744073709551616 + lo) % y : Nat)) ∧ ∃ m, w' = w.drewN m := by
  obtain ⟨t, ht⟩ : ∃ t, t = hi % y := ⟨_, rfl⟩
  have htl : t < y := by rw [ht]; exact Nat.mod_lt _ h0
  have HV := Lib.hid (fun w => div_any t lo y w htl h3 hlo)
  obtain ⟨Q, hQ⟩ : ∃ Q, Q = (t * 18446744073709551616 + lo) / y := ⟨_, rfl⟩
  obtain ⟨R, hR⟩ : ∃ R, R = (t * 18446744073709551616 + lo) % y := ⟨_, rfl⟩
  have hRe : (hi * 18446744073709551616 + lo) % y = R := by
    rw [hR, ht]
    exact rem_aux (Nat.mod_add_div hi y)
  rw [← hQ, ← hR] at HV
  rw [hRe]
  have e1 : (hi : Int).tmod (y : Int) = (t : Int) := by rw [ht]; exact (Int.ofNat_tmod hi y).symm
  have e1b : (hi : Int) % (y : Int) = (t : Int) := by rw [ht]; exact (Int.natCast_emod hi y).symm
  have e2 : IntKind.u64.wrap (t : Int) = (t : Int) := wrapN t (by omega)
  have d1 : ((y : Int) == 0) = false := by rw [beq_eq_false_iff_ne]; omega
  clear hQ hR hRe ht htl h1 hlo h3
  go_enter Try.func38, Try.ntmps38
  go_wp2_with fail
  refine (HV.out _).mono ?_
  rintro e w1 ⟨rfl, m, rfl⟩
  go_wp2
  go_ret
  exact ⟨rfl, m, rfl⟩
end Go.Proofs.Ytbehepeebffmoaa
