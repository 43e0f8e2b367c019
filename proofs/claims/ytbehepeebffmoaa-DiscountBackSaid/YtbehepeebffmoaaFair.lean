/-
  discount.Fair, the document's Fair.
-/
import Derived.Test.YtbehepeebffmoaaDisc2
import Derived.Test.YtbehepeebffmoaaCmp
namespace Go.Proofs.Ytbehepeebffmoaa
open Go Go.RowKit
set_option linter.unusedVariables false
set_option linter.unusedSimpArgs false

def fairP (a b N D T B : Int) : Int :=
  if (intP a N D T B).2.2 = true ∧ 0 ≤ b ∧ b ≤ 1099511627776 then
    if b < a then 1 else cmpI (intP a N D T B).1.toNat (intP a N D T B).2.1.toNat (b - a).toNat 1
  else 0

theorem fair_no {a b N D T B p q : Int} (h : intP a N D T B = (p, q, false)) : fairP a b N D T B = 0 := by
  unfold fairP; rw [h]; simp
theorem fair_out {a b N D T B : Int} (h : b < 0 ∨ 1099511627776 < b) : fairP a b N D T B = 0 := by
  unfold fairP; rw [if_neg (by omega)]
theorem fair_less {a b N D T B : Int} {p q : Int} (h : intP a N D T B = (p, q, true)) (h1 : 0 ≤ b) (h2 : b ≤ 1099511627776) (h3 : b < a) : fairP a b N D T B = 1 := by
  unfold fairP; rw [h, if_pos ⟨rfl, h1, h2⟩, if_pos h3]
theorem fair_cmp {a b N D T B : Int} {P Q : Nat} (h : intP a N D T B = ((P : Int), (Q : Int), true)) (h1 : 0 ≤ b) (h2 : b ≤ 1099511627776) (h3 : ¬ b < a) : fairP a b N D T B = cmpI P Q (b - a).toNat 1 := by
  unfold fairP; rw [h, if_pos ⟨rfl, h1, h2⟩, if_neg h3]; rfl

theorem cmp_one {P Q n : Nat} (hQ : 1 ≤ Q) : cmpI P Q n 1 = if n < P / Q ∨ n = P / Q ∧ 0 < P % Q then 1 else if n = P / Q then 0 else -1 := by
  have h1 := Nat.div_add_mod P Q
  have h2 := Nat.mod_lt P (show Q > 0 from hQ)
  unfold cmpI
  rw [Nat.mul_one]
  generalize P / Q = m at *
  generalize P % Q = r at *
  subst h1
  by_cases c1 : n < m
  · have : (n + 1) * Q ≤ m * Q := Nat.mul_le_mul_right _ c1
    rw [Nat.succ_mul] at this
    have e : Q * m = m * Q := Nat.mul_comm _ _
    rw [if_neg (by omega), if_neg (by omega), if_pos (Or.inl c1)]
  · by_cases c2 : n = m
    · subst c2
      have e : Q * n = n * Q := Nat.mul_comm _ _
      by_cases c3 : 0 < r
      · rw [if_neg (by omega), if_neg (by omega), if_pos (Or.inr ⟨rfl, c3⟩)]
      · rw [if_neg (by omega), if_pos (by omega), if_neg (by omega), if_pos rfl]
    · have : (m + 1) * Q ≤ n * Q := Nat.mul_le_mul_right _ (by omega)
      rw [Nat.succ_mul] at this
      have e : Q * m = m * Q := Nat.mul_comm _ _
      rw [if_pos (by omega), if_neg (by omega), if_neg c2]

set_option maxHeartbeats 4000000 in
theorem fair_any (a b N D T B : Int) (w : World) :
    Calls Try.prog 18 #[.int .i64 a, .int .i64 b, .agg #[.int .i64 N, .int .i64 D], .int .i64 T, .int .i64 B] w fun e w' =>
      e = .returned (.int .i64 (fairP a b N D T B)) ∧ Below w.heap.size w w' := by
  have HI := Lib.hid (fun w => interest_any a N D T B w)
  obtain ⟨x, hx⟩ : ∃ x, x = fairP a b N D T B := ⟨_, rfl⟩
  rw [← hx]
  obtain ⟨p, q, ok, hi⟩ : ∃ p q ok, intP a N D T B = (p, q, ok) := ⟨_, _, _, rfl⟩
  rw [hi] at HI
  unfold vR at HI
  cases ok with
  | false =>
    rw [fair_no hi] at hx
    subst hx
    clear hi
    go_enter Try.func18, Try.ntmps18
    go_wp2_with fail
    refine (HI.out _).mono ?_
    rintro e w1 ⟨rfl, hb⟩
    have HB := Lib.hid (btd ((Below.refl _ _).alloc (Nat.le_refl _) _) hb)
    clear hb
    go_wp2
    go_ret
    exact ⟨rfl, (HB.out.alloc HB.out.size _)⟩
  | true =>
    obtain ⟨P, Q, rfl, rfl, hf⟩ := fine_of hi
    by_cases b1 : b < 0
    · rw [fair_out (.inl b1)] at hx
      have d1 : decide (b < 0) = true := by rw [decide_eq_true_iff]; exact b1
      subst hx
      clear hi hf b1
      go_enter Try.func18, Try.ntmps18
      go_wp2_with fail
      refine (HI.out _).mono ?_
      rintro e w1 ⟨rfl, hb⟩
      have HB := Lib.hid (btd ((Below.refl _ _).alloc (Nat.le_refl _) _) hb)
      clear hb
      go_wp2
      go_ret
      exact ⟨rfl, (HB.out.alloc HB.out.size _)⟩
    have d1 : decide (b < 0) = false := by rw [decide_eq_false_iff_not]; exact b1
    by_cases b2 : 1099511627776 < b
    · rw [fair_out (.inr b2)] at hx
      have d2 : decide (1099511627776 < b) = true := by rw [decide_eq_true_iff]; exact b2
      subst hx
      clear hi hf b1 b2
      go_enter Try.func18, Try.ntmps18
      go_wp2_with fail
      refine (HI.out _).mono ?_
      rintro e w1 ⟨rfl, hb⟩
      have HB := Lib.hid (btd ((Below.refl _ _).alloc (Nat.le_refl _) _) hb)
      clear hb
      go_wp2
      go_ret
      exact ⟨rfl, (HB.out.alloc HB.out.size _)⟩
    have d2 : decide (1099511627776 < b) = false := by rw [decide_eq_false_iff_not]; exact b2
    by_cases b3 : b < a
    · rw [fair_less hi (by omega) (by omega) b3] at hx
      have d3 : decide (b < a) = true := by rw [decide_eq_true_iff]; exact b3
      subst hx
      clear hi hf b1 b2 b3
      go_enter Try.func18, Try.ntmps18
      go_wp2_with fail
      refine (HI.out _).mono ?_
      rintro e w1 ⟨rfl, hb⟩
      have HB := Lib.hid (btd ((Below.refl _ _).alloc (Nat.le_refl _) _) hb)
      clear hb
      go_wp2
      go_ret
      exact ⟨rfl, (HB.out.alloc HB.out.size _)⟩
    have d3 : decide (b < a) = false := by rw [decide_eq_false_iff_not]; exact b3
    rw [fair_cmp hi (by omega) (by omega) b3] at hx
    have ha := hf.ok.1
    obtain ⟨n, hn⟩ : ∃ n, n = (b - a).toNat := ⟨_, rfl⟩
    have v1 : IntKind.i64.wrap (b - a) = (n : Int) := by rw [IntWalk.i64_in _ (by omega)]; omega
    have HC := Lib.hid (fun w => compare_ok P Q n 1 hf.lt (by have := hf.le; omega) (by omega) (by omega) hf.pos (by omega) w)
    rw [← hn] at hx
    subst hx
    clear hi hf b1 b2 b3 ha hn
    go_enter Try.func18, Try.ntmps18
    go_wp2_with fail
    refine (HI.out _).mono ?_
    rintro e w1 ⟨rfl, hb⟩
    have HB := Lib.hid (btd ((Below.refl _ _).alloc (Nat.le_refl _) _) hb)
    clear hb
    go_wp2_with fail
    refine (HC.out _).mono ?_
    rintro e w2 ⟨rfl, hb⟩
    have HB2 := Lib.hid (btd (HB.out.alloc HB.out.size _) hb)
    clear hb
    go_wp2
    go_ret
    exact ⟨rfl, HB2.out⟩

set_option maxHeartbeats 4000000 in
theorem rfair_any (a b N D T B : Int) (w : World) :
    Calls Try.prog 19 #[.int .i64 a, .int .i64 b, .agg #[.int .i64 N, .int .i64 D], .int .i64 T, .int .i64 B] w fun e w' =>
      e = .returned (.int .i64 (fairP a b N D T B)) ∧ Below w.heap.size w w' := by
  have HI := Lib.hid (fun w => rinterest_any a N D T B w)
  obtain ⟨x, hx⟩ : ∃ x, x = fairP a b N D T B := ⟨_, rfl⟩
  rw [← hx]
  obtain ⟨p, q, ok, hi⟩ : ∃ p q ok, intP a N D T B = (p, q, ok) := ⟨_, _, _, rfl⟩
  rw [hi] at HI
  unfold vR at HI
  cases ok with
  | false =>
    rw [fair_no hi] at hx
    subst hx
    clear hi
    go_enter Try.func19, Try.ntmps19
    go_wp2_with fail
    refine (HI.out _).mono ?_
    rintro e w1 ⟨rfl, hb⟩
    have HB := Lib.hid (btd ((Below.refl _ _).alloc (Nat.le_refl _) _) hb)
    clear hb
    go_wp2
    go_ret
    exact ⟨rfl, (HB.out.alloc HB.out.size _)⟩
  | true =>
    obtain ⟨P, Q, rfl, rfl, hf⟩ := fine_of hi
    by_cases b1 : b < 0
    · rw [fair_out (.inl b1)] at hx
      have d1 : decide (b < 0) = true := by rw [decide_eq_true_iff]; exact b1
      subst hx
      clear hi hf b1
      go_enter Try.func19, Try.ntmps19
      go_wp2_with fail
      refine (HI.out _).mono ?_
      rintro e w1 ⟨rfl, hb⟩
      have HB := Lib.hid (btd ((Below.refl _ _).alloc (Nat.le_refl _) _) hb)
      clear hb
      go_wp2
      go_ret
      exact ⟨rfl, (HB.out.alloc HB.out.size _)⟩
    have d1 : decide (b < 0) = false := by rw [decide_eq_false_iff_not]; exact b1
    by_cases b2 : 1099511627776 < b
    · rw [fair_out (.inr b2)] at hx
      have d2 : decide (1099511627776 < b) = true := by rw [decide_eq_true_iff]; exact b2
      subst hx
      clear hi hf b1 b2
      go_enter Try.func19, Try.ntmps19
      go_wp2_with fail
      refine (HI.out _).mono ?_
      rintro e w1 ⟨rfl, hb⟩
      have HB := Lib.hid (btd ((Below.refl _ _).alloc (Nat.le_refl _) _) hb)
      clear hb
      go_wp2
      go_ret
      exact ⟨rfl, (HB.out.alloc HB.out.size _)⟩
    have d2 : decide (1099511627776 < b) = false := by rw [decide_eq_false_iff_not]; exact b2
    obtain ⟨m, hm⟩ : ∃ m, m = P / Q := ⟨_, rfl⟩
    obtain ⟨r, hr⟩ : ∃ m, m = P % Q := ⟨_, rfl⟩
    have t1 : (P : Int).tdiv (Q : Int) = (m : Int) := by rw [hm]; exact (Int.ofNat_tdiv _ _).symm
    have t1b : (P : Int) / (Q : Int) = (m : Int) := by rw [hm]; exact (Int.natCast_ediv _ _).symm
    have t2 : (P : Int).tmod (Q : Int) = (r : Int) := by rw [hr]; exact (Int.ofNat_tmod _ _).symm
    have t2b : (P : Int) % (Q : Int) = (r : Int) := by rw [hr]; exact (Int.natCast_emod _ _).symm
    have hmP : m ≤ P := by rw [hm]; exact Nat.div_le_self _ _
    have hrQ : r < Q := by rw [hr]; exact Nat.mod_lt _ hf.pos
    have w1 : IntKind.i64.wrap (m : Int) = (m : Int) := i64d rfl (by have := hf.lt; omega)
    have w2 : IntKind.i64.wrap (r : Int) = (r : Int) := i64d rfl (by have := hf.le; omega)
    have z0 : ((Q : Int) == 0) = false := by rw [beq_eq_false_iff_ne]; have := hf.pos; omega
    have z1 : (0 : Int) < (Q : Int) := by have := hf.pos; omega
    have hxx : (b - a < (m : Int) → x = 1) ∧ ((m : Int) = b - a → 0 < r → x = 1) ∧ ((m : Int) = b - a → r = 0 → x = 0) ∧ (¬ b - a < (m : Int) → ¬ (m : Int) = b - a → x = -1) := by
      by_cases b3 : b < a
      · rw [fair_less hi (by omega) (by omega) b3] at hx
        refine ⟨fun _ => hx, fun h => by omega, fun h => by omega, fun h => by omega⟩
      · rw [fair_cmp hi (by omega) (by omega) b3, cmp_one hf.pos, ← hm, ← hr] at hx
        refine ⟨fun h => ?_, fun h1 h2 => ?_, fun h1 h2 => ?_, fun h1 h2 => ?_⟩
        · rw [hx, if_pos (by omega)]
        · rw [hx, if_pos (by omega)]
        · rw [hx, if_neg (by omega), if_pos (by omega)]
        · rw [hx, if_neg (by omega), if_neg (by omega)]
    have ha := hf.ok.1
    have ha2 := hf.ok.2.1
    obtain ⟨c, hc⟩ : ∃ c, c = b - a := ⟨_, rfl⟩
    have v1 : IntKind.i64.wrap (b - a) = c := by rw [IntWalk.i64_in _ (by omega)]; omega
    rw [← hc] at hxx
    have HX := Lib.hid hxx
    clear hi hf b1 b2 ha ha2 hc hxx hx hm hr hmP hrQ
    by_cases g1 : c < (m : Int)
    · have e1 : decide (c < (m : Int)) = true := by rw [decide_eq_true_iff]; exact g1
      obtain rfl := HX.out.1 g1
      clear g1
      go_enter Try.func19, Try.ntmps19
      go_wp2_with fail
      refine (HI.out _).mono ?_
      rintro e w1 ⟨rfl, hb⟩
      have HB := Lib.hid (btd ((Below.refl _ _).alloc (Nat.le_refl _) _) hb)
      clear hb
      go_wp2_with fail
      go_quiet (fail)
      go_wp2
      go_ret
      exact ⟨rfl, below_drewN (HB.out.alloc HB.out.size _) _⟩
    · have e1 : decide (c < (m : Int)) = false := by rw [decide_eq_false_iff_not]; exact g1
      by_cases g2 : (m : Int) = c
      · have e2 : ((m : Int) == c) = true := by rw [beq_iff_eq]; exact g2
        by_cases g3 : 0 < r
        · have e3 : decide (0 < r) = true := by rw [decide_eq_true_iff]; exact g3
          obtain rfl := HX.out.2.1 g2 g3
          clear g1 g2 g3
          go_enter Try.func19, Try.ntmps19
          go_wp2_with fail
          refine (HI.out _).mono ?_
          rintro e w1 ⟨rfl, hb⟩
          have HB := Lib.hid (btd ((Below.refl _ _).alloc (Nat.le_refl _) _) hb)
          clear hb
          go_wp2_with fail
          go_quiet (fail)
          go_wp2
          go_ret
          exact ⟨rfl, below_drewN (HB.out.alloc HB.out.size _) _⟩
        · obtain rfl : r = 0 := by omega
          obtain rfl := HX.out.2.2.1 g2 rfl
          clear g1 g2 g3
          go_enter Try.func19, Try.ntmps19
          go_wp2_with fail
          refine (HI.out _).mono ?_
          rintro e w1 ⟨rfl, hb⟩
          have HB := Lib.hid (btd ((Below.refl _ _).alloc (Nat.le_refl _) _) hb)
          clear hb
          go_wp2_with fail
          go_quiet (fail)
          go_wp2
          go_ret
          exact ⟨rfl, below_drewN (HB.out.alloc HB.out.size _) _⟩
      · have e2 : ((m : Int) == c) = false := by rw [beq_eq_false_iff_ne]; exact g2
        obtain rfl := HX.out.2.2.2 g1 g2
        clear g1 g2
        go_enter Try.func19, Try.ntmps19
        go_wp2_with fail
        refine (HI.out _).mono ?_
        rintro e w1 ⟨rfl, hb⟩
        have HB := Lib.hid (btd ((Below.refl _ _).alloc (Nat.le_refl _) _) hb)
        clear hb
        go_wp2_with fail
        go_quiet (fail)
        go_wp2
        go_ret
        exact ⟨rfl, below_drewN (HB.out.alloc HB.out.size _) _⟩
end Go.Proofs.Ytbehepeebffmoaa
