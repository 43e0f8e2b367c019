/-
  discount.Rebate, the document's Discount, Rebate.
-/
import Derived.Test.YtbehepeebffmoaaDisc
import Derived.Deep.RegionHeld3
namespace Go.Proofs.Ytbehepeebffmoaa
open Go Go.RowKit
set_option linter.unusedVariables false
set_option linter.unusedSimpArgs false

set_option maxHeartbeats 4000000 in
theorem rebate_any (S N D T B : Int) (w : World) :
    Calls Try.prog 15 #[.int .i64 S, .agg #[.int .i64 N, .int .i64 D], .int .i64 T, .int .i64 B] w fun e w' =>
      e = .returned (v2 (rebP S N D T B)) ∧ Below w.heap.size w w' := by
  have HI := Lib.hid (fun w => interest_any S N D T B w)
  obtain ⟨x, hx⟩ : ∃ x, x = rebP S N D T B := ⟨_, rfl⟩
  rw [← hx]
  unfold rebP at hx
  obtain ⟨p, q, ok, hi⟩ : ∃ p q ok, intP S N D T B = (p, q, ok) := ⟨_, _, _, rfl⟩
  rw [hi] at hx HI
  cases ok with
  | false =>
    obtain ⟨rfl, rfl⟩ := none_of hi
    rw [if_neg (by simp)] at hx
    subst hx
    unfold v2 vR at *
    clear hi
    go_enter Try.func15, Try.ntmps15
    go_wp2_with fail
    refine (HI.out _).mono ?_
    rintro e w1 ⟨rfl, hb⟩
    have HB := Lib.hid (btd ((Below.refl _ _).alloc (Nat.le_refl _) _) hb)
    clear hb
    go_wp2
    go_ret2
    exact ⟨rfl, (HB.out.alloc (by have := HB.out.size; omega) _)⟩
  | true =>
    obtain ⟨P, Q, rfl, rfl, hf⟩ := fine_of hi
    obtain ⟨n, hn⟩ : ∃ n, n = P / Q := ⟨_, rfl⟩
    have t1 : (P : Int).tdiv (Q : Int) = (n : Int) := by rw [hn]; exact (Int.ofNat_tdiv _ _).symm
    have t1b : (P : Int) / (Q : Int) = (n : Int) := by rw [hn]; exact (Int.natCast_ediv _ _).symm
    have t2 : IntKind.i64.wrap (n : Int) = (n : Int) := i64d rfl (by have := hf.lt; have : n ≤ P := by rw [hn]; exact Nat.div_le_self _ _
                                                                     omega)
    have z0 : ((Q : Int) == 0) = false := by rw [beq_eq_false_iff_ne]; have := hf.pos; omega
    have z1 : (0 : Int) < (Q : Int) := by have := hf.pos; omega
    simp only [t1b] at hx
    clear hi hf hn
    by_cases hle : (n : Int) ≤ 1099511627776
    · rw [if_pos ⟨trivial, hle⟩] at hx
      have d1 : decide (1099511627776 < (n : Int)) = false := by rw [decide_eq_false_iff_not]; omega
      subst hx
      unfold v2 vR at *
      clear hle
      go_enter Try.func15, Try.ntmps15
      go_wp2_with fail
      refine (HI.out _).mono ?_
      rintro e w1 ⟨rfl, hb⟩
      have HB := Lib.hid (btd ((Below.refl _ _).alloc (Nat.le_refl _) _) hb)
      clear hb
      go_wp2
      go_ret2
      exact ⟨rfl, (HB.out.alloc (by have := HB.out.size; omega) _)⟩
    · rw [if_neg (fun h => hle h.2)] at hx
      have d1 : decide (1099511627776 < (n : Int)) = true := by rw [decide_eq_true_iff]; omega
      subst hx
      unfold v2 vR at *
      clear hle
      go_enter Try.func15, Try.ntmps15
      go_wp2_with fail
      refine (HI.out _).mono ?_
      rintro e w1 ⟨rfl, hb⟩
      have HB := Lib.hid (btd ((Below.refl _ _).alloc (Nat.le_refl _) _) hb)
      clear hb
      go_wp2
      go_ret2
      exact ⟨rfl, (HB.out.alloc (by have := HB.out.size; omega) _)⟩

set_option maxHeartbeats 4000000 in
theorem rrebate_any (S N D T B : Int) (w : World) :
    Calls Try.prog 16 #[.int .i64 S, .agg #[.int .i64 N, .int .i64 D], .int .i64 T, .int .i64 B] w fun e w' =>
      e = .returned (v2 (rebP S N D T B)) ∧ Below w.heap.size w w' := by
  have HI := Lib.hid (fun w => rinterest_any S N D T B w)
  obtain ⟨x, hx⟩ : ∃ x, x = rebP S N D T B := ⟨_, rfl⟩
  rw [← hx]
  unfold rebP at hx
  obtain ⟨p, q, ok, hi⟩ : ∃ p q ok, intP S N D T B = (p, q, ok) := ⟨_, _, _, rfl⟩
  rw [hi] at hx HI
  cases ok with
  | false =>
    obtain ⟨rfl, rfl⟩ := none_of hi
    rw [if_neg (by simp)] at hx
    subst hx
    unfold v2 vR at *
    clear hi
    go_enter Try.func16, Try.ntmps16
    go_wp2_with fail
    refine (HI.out _).mono ?_
    rintro e w1 ⟨rfl, hb⟩
    have HB := Lib.hid (btd ((Below.refl _ _).alloc (Nat.le_refl _) _) hb)
    clear hb
    go_wp2
    go_ret2
    exact ⟨rfl, (HB.out.alloc (by have := HB.out.size; omega) _)⟩
  | true =>
    obtain ⟨P, Q, rfl, rfl, hf⟩ := fine_of hi
    obtain ⟨n, hn⟩ : ∃ n, n = P / Q := ⟨_, rfl⟩
    have t1 : (P : Int).tdiv (Q : Int) = (n : Int) := by rw [hn]; exact (Int.ofNat_tdiv _ _).symm
    have t1b : (P : Int) / (Q : Int) = (n : Int) := by rw [hn]; exact (Int.natCast_ediv _ _).symm
    have t2 : IntKind.i64.wrap (n : Int) = (n : Int) := i64d rfl (by have := hf.lt; have : n ≤ P := by rw [hn]; exact Nat.div_le_self _ _
                                                                     omega)
    have z0 : ((Q : Int) == 0) = false := by rw [beq_eq_false_iff_ne]; have := hf.pos; omega
    have z1 : (0 : Int) < (Q : Int) := by have := hf.pos; omega
    simp only [t1b] at hx
    clear hi hf hn
    by_cases hle : (n : Int) ≤ 1099511627776
    · rw [if_pos ⟨trivial, hle⟩] at hx
      have d1 : decide (1099511627776 < (n : Int)) = false := by rw [decide_eq_false_iff_not]; omega
      subst hx
      unfold v2 vR at *
      clear hle
      go_enter Try.func16, Try.ntmps16
      go_wp2_with fail
      refine (HI.out _).mono ?_
      rintro e w1 ⟨rfl, hb⟩
      have HB := Lib.hid (btd ((Below.refl _ _).alloc (Nat.le_refl _) _) hb)
      clear hb
      go_wp2
      go_ret2
      exact ⟨rfl, (HB.out.alloc (by have := HB.out.size; omega) _)⟩
    · rw [if_neg (fun h => hle h.2)] at hx
      have d1 : decide (1099511627776 < (n : Int)) = true := by rw [decide_eq_true_iff]; omega
      subst hx
      unfold v2 vR at *
      clear hle
      go_enter Try.func16, Try.ntmps16
      go_wp2_with fail
      refine (HI.out _).mono ?_
      rintro e w1 ⟨rfl, hb⟩
      have HB := Lib.hid (btd ((Below.refl _ _).alloc (Nat.le_refl _) _) hb)
      clear hb
      go_wp2
      go_ret2
      exact ⟨rfl, (HB.out.alloc (by have := HB.out.size; omega) _)⟩

set_option maxHeartbeats 4000000 in
theorem rdiscount_any (S N D T B : Int) (w : World) :
    Calls Try.prog 14 #[.int .i64 S, .agg #[.int .i64 N, .int .i64 D], .int .i64 T, .int .i64 B] w fun e w' =>
      e = .returned (v3 (discP S N D T B)) ∧ Below w.heap.size w w' := by
  have HI := Lib.hid (fun w => rinterest_any S N D T B w)
  obtain ⟨x, hx⟩ : ∃ x, x = discP S N D T B := ⟨_, rfl⟩
  rw [← hx]
  unfold discP at hx
  obtain ⟨p, q, ok, hi⟩ : ∃ p q ok, intP S N D T B = (p, q, ok) := ⟨_, _, _, rfl⟩
  rw [hi] at hx HI
  cases ok with
  | false =>
    obtain ⟨rfl, rfl⟩ := none_of hi
    rw [if_neg (by simp)] at hx
    subst hx
    unfold v3 vR at *
    clear hi
    go_enter Try.func14, Try.ntmps14
    go_wp2_with fail
    refine (HI.out _).mono ?_
    rintro e w1 ⟨rfl, hb⟩
    have HB := Lib.hid (btd ((Below.refl _ _).alloc (Nat.le_refl _) _) hb)
    clear hb
    go_wp2
    go_ret3
    exact ⟨rfl, (HB.out.alloc (by have := HB.out.size; omega) _)⟩
  | true =>
    obtain ⟨P, Q, rfl, rfl, hf⟩ := fine_of hi
    obtain ⟨n, hn⟩ : ∃ n, n = nearN P Q := ⟨_, rfl⟩
    have HN := Lib.hid (fun w => rnear_any P Q hf.lt (by have := hf.le; omega) hf.pos w)
    rw [← hn] at HN
    simp only [Int.toNat_natCast, ← hn] at hx
    obtain ⟨a1, a2, _⟩ := hf.ok
    have HA := Lib.hid (And.intro a1 a2)
    have HNs := Lib.hid (fun (r : Nat) (W : World) (h : W.cell? ⟨r, 0, none⟩ = some (.int .i64 (P : Int)) ∧ W.cell? ⟨r, 1, none⟩ = some (.int .i64 (Q : Int)) ∧ Below w.heap.size w W) => show Calls Try.prog 24 #[.agg #[.int .i64 (P : Int), .int .i64 (Q : Int)]] W fun e w' => e = .returned (.int .i64 (n : Int)) ∧ (w'.cell? ⟨r, 0, none⟩ = some (.int .i64 (P : Int)) ∧ w'.cell? ⟨r, 1, none⟩ = some (.int .i64 (Q : Int)) ∧ Below w.heap.size w w') from by
      have hr := World.block_lt_of_cell? _ _ h.1
      exact (HN.out W).mono fun e w' hh => ⟨hh.1, (hh.2.cell (p := ⟨r, 0, none⟩) hr).trans h.1, (hh.2.cell (p := ⟨r, 1, none⟩) hr).trans h.2.1, btd h.2.2 hh.2⟩)
    clear hi hf hn a1 a2 HN
    by_cases hle : (n : Int) ≤ S
    · rw [if_pos ⟨trivial, hle⟩] at hx
      have d1 : decide (S < (n : Int)) = false := by rw [decide_eq_false_iff_not]; omega
      have t1 : IntKind.i64.wrap (S - (n : Int)) = S - (n : Int) := IntWalk.i64_in _ (by have := HA.out; omega)
      subst hx
      unfold v3 vR at *
      clear hle
      go_enter Try.func14, Try.ntmps14
      go_wp2_with fail
      refine (HI.out _).mono ?_
      rintro e w1 ⟨rfl, hb⟩
      have HB := Lib.hid (btd ((Below.refl _ _).alloc (Nat.le_refl _) _) hb)
      clear hb
      go_wp2_with fail
      have h0 : (w1.alloc (.cells #[.int .i64 (P : Int), .int .i64 (Q : Int)] 23)).cell? ⟨w1.heap.size, 0, none⟩ = some (.int .i64 (P : Int)) ∧ (w1.alloc (.cells #[.int .i64 (P : Int), .int .i64 (Q : Int)] 23)).cell? ⟨w1.heap.size, 1, none⟩ = some (.int .i64 (Q : Int)) ∧ Below w.heap.size w (w1.alloc (.cells #[.int .i64 (P : Int), .int .i64 (Q : Int)] 23)) := by
        refine ⟨by simp, by simp, (HB.out.alloc (by have := HB.out.size; omega) _)⟩
      refine (HNs.out w1.heap.size _ h0).mono ?_
      clear h0
      obtain ⟨r, hr⟩ : ∃ r, r = w1.heap.size := ⟨_, rfl⟩
      rw [← hr]
      clear hr
      rintro e w2 ⟨rfl, c1, c2, hb⟩
      have HB2 := Lib.hid hb
      clear hb
      go_wp2_with fail
      go_region_held3 (fun w' => w'.cell? ⟨r, 0, none⟩ = some (.int .i64 (P : Int)) ∧ w'.cell? ⟨r, 1, none⟩ = some (.int .i64 (Q : Int)) ∧ Below w.heap.size w w') (first | exact hS9 | exact ⟨c1, c2, HB2.out.drew⟩ | assumption | go_keep) (first | (go_at_call 24; refine (HNs.out r _ ?_).mono ?_; (first | assumption | exact ⟨by assumption, by assumption, by assumption⟩); rintro e w9 ⟨rfl, hS9⟩))
      all_goals (go_wp2; go_ret3; first | exact ⟨rfl, hS9.2.2⟩ | exact ⟨rfl, by assumption⟩)
    · rw [if_neg (fun h => hle h.2)] at hx
      have d1 : decide (S < (n : Int)) = true := by rw [decide_eq_true_iff]; omega
      subst hx
      unfold v3 vR at *
      clear hle
      go_enter Try.func14, Try.ntmps14
      go_wp2_with fail
      refine (HI.out _).mono ?_
      rintro e w1 ⟨rfl, hb⟩
      have HB := Lib.hid (btd ((Below.refl _ _).alloc (Nat.le_refl _) _) hb)
      clear hb
      go_wp2_with fail
      have h0 : (w1.alloc (.cells #[.int .i64 (P : Int), .int .i64 (Q : Int)] 23)).cell? ⟨w1.heap.size, 0, none⟩ = some (.int .i64 (P : Int)) ∧ (w1.alloc (.cells #[.int .i64 (P : Int), .int .i64 (Q : Int)] 23)).cell? ⟨w1.heap.size, 1, none⟩ = some (.int .i64 (Q : Int)) ∧ Below w.heap.size w (w1.alloc (.cells #[.int .i64 (P : Int), .int .i64 (Q : Int)] 23)) := by
        refine ⟨by simp, by simp, (HB.out.alloc (by have := HB.out.size; omega) _)⟩
      refine (HNs.out w1.heap.size _ h0).mono ?_
      rintro e w2 ⟨rfl, c1, c2, hb⟩
      have HB2 := Lib.hid hb
      clear hb h0
      go_wp2
      go_ret3
      exact ⟨rfl, HB2.out⟩
end Go.Proofs.Ytbehepeebffmoaa
