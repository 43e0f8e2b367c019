/-
  discount.Interest, Discount, Rebate and the document's: one value for both.
-/
import Derived.Test.YtbehepeebffmoaaRInt2
import Derived.Test.YtbehepeebffmoaaNear
import Derived.OwnWalk
namespace Go.Proofs.Ytbehepeebffmoaa
open Go Go.RowKit
set_option linter.unusedVariables false
set_option linter.unusedSimpArgs false

/-- What Interest tells: numerator, denominator, whether there is one. -/
def intP (S N D T B : Int) : Int × Int × Bool :=
  if okI S N D T B then
    if S.toNat * N.toNat * T.toNat / Nat.gcd (S.toNat * N.toNat * T.toNat) (D.toNat * B.toNat) < 9223372036854775808 then
      (((S.toNat * N.toNat * T.toNat / Nat.gcd (S.toNat * N.toNat * T.toNat) (D.toNat * B.toNat) : Nat) : Int), ((D.toNat * B.toNat / Nat.gcd (S.toNat * N.toNat * T.toNat) (D.toNat * B.toNat) : Nat) : Int), true)
    else (0, 0, false)
  else (0, 0, false)
def vR (x : Int × Int × Bool) : Value := .tuple #[.agg #[.int .i64 x.1, .int .i64 x.2.1], .bool x.2.2]
def v3 (x : Int × Int × Bool) : Value := .tuple #[.int .i64 x.1, .int .i64 x.2.1, .bool x.2.2]
def v2 (x : Int × Bool) : Value := .tuple #[.int .i64 x.1, .bool x.2]

theorem intP_ok {S N D T B : Int} (h : okI S N D T B) : vR (intP S N D T B) = intV S.toNat N.toNat D.toNat T.toNat B.toNat := by
  unfold intP intV
  rw [if_pos h]
  split <;> rfl
theorem intP_bad {S N D T B : Int} (h : ¬ okI S N D T B) : vR (intP S N D T B) = noR := by
  unfold intP
  rw [if_neg h]
  rfl
theorem interest_any (S N D T B : Int) (w : World) :
    Calls Try.prog 11 #[.int .i64 S, .agg #[.int .i64 N, .int .i64 D], .int .i64 T, .int .i64 B] w fun e w' =>
      e = .returned (vR (intP S N D T B)) ∧ Below w.heap.size w w' := by
  by_cases h : okI S N D T B
  · rw [intP_ok h]
    obtain ⟨h1, h2, h3, h4, h5, h6, h7, h8, h9⟩ := h
    have := interest_ok S.toNat N.toNat D.toNat T.toNat B.toNat w (by omega) (by omega) (by omega) (by omega) (by omega) (by omega)
    rwa [Int.toNat_of_nonneg h1, Int.toNat_of_nonneg h3, Int.toNat_of_nonneg (by omega : 0 ≤ D), Int.toNat_of_nonneg h7, Int.toNat_of_nonneg (by omega : 0 ≤ B)] at this
  · rw [intP_bad h]
    exact interest_bad S N D T B w h
theorem rinterest_any (S N D T B : Int) (w : World) :
    Calls Try.prog 12 #[.int .i64 S, .agg #[.int .i64 N, .int .i64 D], .int .i64 T, .int .i64 B] w fun e w' =>
      e = .returned (vR (intP S N D T B)) ∧ Below w.heap.size w w' := by
  by_cases h : okI S N D T B
  · rw [intP_ok h]
    obtain ⟨h1, h2, h3, h4, h5, h6, h7, h8, h9⟩ := h
    have := rinterest_ok S.toNat N.toNat D.toNat T.toNat B.toNat w (by omega) (by omega) (by omega) (by omega) (by omega) (by omega)
    rwa [Int.toNat_of_nonneg h1, Int.toNat_of_nonneg h3, Int.toNat_of_nonneg (by omega : 0 ≤ D), Int.toNat_of_nonneg h7, Int.toNat_of_nonneg (by omega : 0 ≤ B)] at this
  · rw [intP_bad h]
    exact rinterest_bad S N D T B w h

/-- Where there is an interest: what is known of it. -/
structure Fine (S N D T B : Int) (P Q : Nat) : Prop where
  ok : okI S N D T B
  lt : P < 9223372036854775808
  pos : 1 ≤ Q
  le : Q ≤ 382730240
  cross : P * (D.toNat * B.toNat) = S.toNat * N.toNat * T.toNat * Q
theorem fine_of {S N D T B p q : Int} (h : intP S N D T B = (p, q, true)) : ∃ P Q : Nat, p = P ∧ q = Q ∧ Fine S N D T B P Q := by
  unfold intP at h
  by_cases hk : okI S N D T B
  · rw [if_pos hk] at h
    by_cases hl : S.toNat * N.toNat * T.toNat / Nat.gcd (S.toNat * N.toNat * T.toNat) (D.toNat * B.toNat) < 9223372036854775808
    · rw [if_pos hl] at h
      simp only [Prod.mk.injEq] at h
      obtain ⟨h1, h2, -⟩ := h
      have hk2 := hk
      obtain ⟨a1, a2, a3, a4, a5, a6, a7, a8, a9⟩ := hk2
      have hb : 0 < D.toNat * B.toNat := Nat.mul_pos (by omega) (by omega)
      refine ⟨_, _, h1.symm, h2.symm, hk, hl, ?_, ?_, ?_⟩
      · exact Nat.div_pos (Nat.gcd_le_right _ hb) (Nat.gcd_pos_of_pos_right _ hb)
      · exact Nat.le_trans (Nat.div_le_self _ _) (Nat.le_trans (Nat.mul_le_mul (show D.toNat ≤ 1048576 by omega) (show B.toNat ≤ 365 by omega)) (by decide))
      · obtain ⟨g, x, y, g0, eg, en, ed, e1, e2, _⟩ := dgcd_cop (a := S.toNat * N.toNat * T.toNat) hb
        rw [← eg, e1, e2]
        rw [ed, en, Nat.mul_left_comm, Nat.mul_assoc]
    · rw [if_neg hl] at h; simp at h
  · rw [if_neg hk] at h; simp at h
theorem none_of {S N D T B p q : Int} (h : intP S N D T B = (p, q, false)) : p = 0 ∧ q = 0 := by
  unfold intP at h
  split at h
  · split at h
    · simp at h
    · simp only [Prod.mk.injEq] at h; exact ⟨h.1.symm, h.2.1.symm⟩
  · simp only [Prod.mk.injEq] at h; exact ⟨h.1.symm, h.2.1.symm⟩

def discP (S N D T B : Int) : Int × Int × Bool :=
  if (intP S N D T B).2.2 = true ∧ (nearN (intP S N D T B).1.toNat (intP S N D T B).2.1.toNat : Int) ≤ S then
    (S - (nearN (intP S N D T B).1.toNat (intP S N D T B).2.1.toNat : Int), (nearN (intP S N D T B).1.toNat (intP S N D T B).2.1.toNat : Int), true)
  else (0, 0, false)
def rebP (S N D T B : Int) : Int × Bool :=
  if (intP S N D T B).2.2 = true ∧ (intP S N D T B).1 / (intP S N D T B).2.1 ≤ 1099511627776 then
    ((intP S N D T B).1 / (intP S N D T B).2.1, true)
  else (0, false)

set_option maxHeartbeats 4000000 in
theorem discount_any (S N D T B : Int) (w : World) :
    Calls Try.prog 13 #[.int .i64 S, .agg #[.int .i64 N, .int .i64 D], .int .i64 T, .int .i64 B] w fun e w' =>
      e = .returned (v3 (discP S N D T B)) ∧ Below w.heap.size w w' := by
  have HI := Lib.hid (fun w => interest_any S N D T B w)
  obtain ⟨x, hx⟩ : ∃ x, x = discP S N D T B := ⟨_, rfl⟩
  rw [← hx]
  unfold discP at hx
  obtain ⟨p, q, ok, hi⟩ : ∃ p q ok, intP S N D T B = (p, q, ok) := ⟨_, _, _, rfl⟩
  rw [hi] at hx HI
  cases ok with
  | false =>
    obtain ⟨rfl, rfl⟩ := none_of hi
    rw [if_neg (by simp)] at hx
    subst hx
    unfold v3 vR at *
    clear hi
    go_enter Try.func13, Try.ntmps13
    go_wp2_with fail
    refine (HI.out _).mono ?_
    rintro e w1 ⟨rfl, hb⟩
    have HB := Lib.hid (btd ((Below.refl _ _).alloc (Nat.le_refl _) _) hb)
    clear hb
    go_wp2
    go_ret3
    exact ⟨rfl, (HB.out.alloc (by have := HB.out.size; omega) _)⟩
  | true =>
    obtain ⟨P, Q, rfl, rfl, hf⟩ := fine_of hi
    obtain ⟨n, hn⟩ : ∃ n, n = nearN P Q := ⟨_, rfl⟩
    have HN := Lib.hid (fun w => near_any P Q hf.lt (by have := hf.le; omega) hf.pos w)
    rw [← hn] at HN
    simp only [Int.toNat_natCast, ← hn] at hx
    obtain ⟨a1, a2, _⟩ := hf.ok
    have HA := Lib.hid (And.intro a1 a2)
    clear hi hf hn a1 a2
    by_cases hle : (n : Int) ≤ S
    · rw [if_pos ⟨trivial, hle⟩] at hx
      have d1 : decide (S < (n : Int)) = false := by rw [decide_eq_false_iff_not]; omega
      have t1 : IntKind.i64.wrap (S - (n : Int)) = S - (n : Int) := IntWalk.i64_in _ (by have := HA.out; omega)
      subst hx
      unfold v3 vR at *
      clear hle
      go_enter Try.func13, Try.ntmps13
      go_wp2_with fail
      refine (HI.out _).mono ?_
      rintro e w1 ⟨rfl, hb⟩
      have HB := Lib.hid (btd ((Below.refl _ _).alloc (Nat.le_refl _) _) hb)
      clear hb
      go_wp2_with fail
      refine (HN.out _).mono ?_
      rintro e w2 ⟨rfl, hb⟩
      have HB2 := Lib.hid (btd (HB.out.alloc (by have := HB.out.size; omega) _) hb)
      clear hb
      go_wp2
      go_ret3
      exact ⟨rfl, HB2.out⟩
    · rw [if_neg (fun h => hle h.2)] at hx
      have d1 : decide (S < (n : Int)) = true := by rw [decide_eq_true_iff]; omega
      subst hx
      unfold v3 vR at *
      clear hle
      go_enter Try.func13, Try.ntmps13
      go_wp2_with fail
      refine (HI.out _).mono ?_
      rintro e w1 ⟨rfl, hb⟩
      have HB := Lib.hid (btd ((Below.refl _ _).alloc (Nat.le_refl _) _) hb)
      clear hb
      go_wp2_with fail
      refine (HN.out _).mono ?_
      rintro e w2 ⟨rfl, hb⟩
      have HB2 := Lib.hid (btd (HB.out.alloc (by have := HB.out.size; omega) _) hb)
      clear hb
      go_wp2
      go_ret3
      exact ⟨rfl, HB2.out⟩
end Go.Proofs.Ytbehepeebffmoaa
