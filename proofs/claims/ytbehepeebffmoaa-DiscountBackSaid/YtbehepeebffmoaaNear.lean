/-
  discount.nearest, the document's Near.
-/
import Derived.Test.YtbehepeebffmoaaRInt0
namespace Go.Proofs.Ytbehepeebffmoaa
open Go Go.RowKit
set_option linter.unusedVariables false
set_option linter.unusedSimpArgs false

def nearN (N D : Nat) : Nat := N / D + if D - N % D ≤ N % D then 1 else 0

set_option maxHeartbeats 1000000 in
theorem near_any (N D : Nat) (hN : N < 9223372036854775808) (hD : D < 9223372036854775808) (h0 : 1 ≤ D) (w : World) :
    Calls Try.prog 32 #[.agg #[.int .i64 (N : Int), .int .i64 (D : Int)]] w fun e w' => e = .returned (.int .i64 (nearN N D : Nat)) ∧ Below w.heap.size w w' := by
  obtain ⟨q, hq⟩ : ∃ q, q = N / D := ⟨_, rfl⟩
  obtain ⟨r, hr⟩ : ∃ q, q = N % D := ⟨_, rfl⟩
  have hrl : r < D := by rw [hr]; exact Nat.mod_lt _ h0
  have hql : q ≤ N := by rw [hq]; exact Nat.div_le_self _ _
  have t1 : (N : Int).tdiv (D : Int) = (q : Int) := by rw [hq]; exact (Int.ofNat_tdiv _ _).symm
  have t1b : (N : Int) / (D : Int) = (q : Int) := by rw [hq]; exact (Int.natCast_ediv _ _).symm
  have t2 : (N : Int).tmod (D : Int) = (r : Int) := by rw [hr]; exact (Int.ofNat_tmod _ _).symm
  have t2b : (N : Int) % (D : Int) = (r : Int) := by rw [hr]; exact (Int.natCast_emod _ _).symm
  have v1 : IntKind.i64.wrap (q : Int) = (q : Int) := i64d rfl (by omega)
  have v2 : IntKind.i64.wrap (r : Int) = (r : Int) := i64d rfl (by omega)
  obtain ⟨s, hs⟩ : ∃ s, s = D - r := ⟨_, rfl⟩
  have v3 : IntKind.i64.wrap ((D : Int) - (r : Int)) = (s : Int) := i64d (by omega) (by omega)
  have HV := Lib.hid (show nearN N D = q + if s ≤ r then 1 else 0 by unfold nearN; rw [← hq, ← hr, ← hs])
  obtain ⟨v, hv⟩ : ∃ v, v = nearN N D := ⟨_, rfl⟩
  rw [← hv] at HV ⊢
  have hq2 : s ≤ r → q + 1 ≤ 9223372036854775807 := by
    intro h
    have h2 : 2 ≤ D := by omega
    have : q ≤ N / 2 := by rw [hq]; exact Nat.div_le_div_left h2 (by decide)
    omega
  by_cases hsr : s ≤ r
  · have d1 : decide (s ≤ r) = true := by rw [decide_eq_true_iff]; exact hsr
    have v4 : IntKind.i64.wrap ((q : Int) + 1) = (v : Int) := i64d (by rw [HV.out, if_pos hsr]; omega) (by rw [HV.out, if_pos hsr]; exact hq2 hsr)
    clear hq hr hrl hql hs hv hq2 hsr hN hD
    go_enter Try.func32, Try.ntmps32
    go_wp2_with fail
    go_quiet (fail)
    go_wp2
    go_ret
    exact ⟨rfl, below_drewN ((Below.refl _ _).alloc (Nat.le_refl _) _) _⟩
  · have d1 : decide (s ≤ r) = false := by rw [decide_eq_false_iff_not]; exact hsr
    obtain rfl : v = q := by rw [HV.out, if_neg hsr]; rfl
    clear hq hr hrl hql hs hv hq2 hsr hN hD HV
    go_enter Try.func32, Try.ntmps32
    go_wp2_with fail
    go_quiet (fail)
    go_wp2
    go_ret
    exact ⟨rfl, below_drewN ((Below.refl _ _).alloc (Nat.le_refl _) _) _⟩

set_option maxHeartbeats 1000000 in
theorem rnear_any (N D : Nat) (hN : N < 9223372036854775808) (hD : D < 9223372036854775808) (h0 : 1 ≤ D) (w : World) :
    Calls Try.prog 24 #[.agg #[.int .i64 (N : Int), .int .i64 (D : Int)]] w fun e w' => e = .returned (.int .i64 (nearN N D : Nat)) ∧ Below w.heap.size w w' := by
  obtain ⟨q, hq⟩ : ∃ q, q = N / D := ⟨_, rfl⟩
  obtain ⟨r, hr⟩ : ∃ q, q = N % D := ⟨_, rfl⟩
  have hrl : r < D := by rw [hr]; exact Nat.mod_lt _ h0
  have hql : q ≤ N := by rw [hq]; exact Nat.div_le_self _ _
  have t1 : (N : Int).tdiv (D : Int) = (q : Int) := by rw [hq]; exact (Int.ofNat_tdiv _ _).symm
  have t1b : (N : Int) / (D : Int) = (q : Int) := by rw [hq]; exact (Int.natCast_ediv _ _).symm
  have t2 : (N : Int).tmod (D : Int) = (r : Int) := by rw [hr]; exact (Int.ofNat_tmod _ _).symm
  have t2b : (N : Int) % (D : Int) = (r : Int) := by rw [hr]; exact (Int.natCast_emod _ _).symm
  have v1 : IntKind.i64.wrap (q : Int) = (q : Int) := i64d rfl (by omega)
  have v2 : IntKind.i64.wrap (r : Int) = (r : Int) := i64d rfl (by omega)
  obtain ⟨s, hs⟩ : ∃ s, s = D - r := ⟨_, rfl⟩
  have v3 : IntKind.i64.wrap ((D : Int) - (r : Int)) = (s : Int) := i64d (by omega) (by omega)
  have HV := Lib.hid (show nearN N D = q + if s ≤ r then 1 else 0 by unfold nearN; rw [← hq, ← hr, ← hs])
  obtain ⟨v, hv⟩ : ∃ v, v = nearN N D := ⟨_, rfl⟩
  rw [← hv] at HV ⊢
  have hq2 : s ≤ r → q + 1 ≤ 9223372036854775807 := by
    intro h
    have h2 : 2 ≤ D := by omega
    have : q ≤ N / 2 := by rw [hq]; exact Nat.div_le_div_left h2 (by decide)
    omega
  by_cases hsr : s ≤ r
  · have d1 : decide (s ≤ r) = true := by rw [decide_eq_true_iff]; exact hsr
    have v4 : IntKind.i64.wrap ((q : Int) + 1) = (v : Int) := i64d (by rw [HV.out, if_pos hsr]; omega) (by rw [HV.out, if_pos hsr]; exact hq2 hsr)
    clear hq hr hrl hql hs hv hq2 hsr hN hD
    go_enter Try.func24, Try.ntmps24
    go_wp2_with fail
    go_quiet (fail)
    go_wp2
    go_ret
    exact ⟨rfl, below_drewN ((Below.refl _ _).alloc (Nat.le_refl _) _) _⟩
  · have d1 : decide (s ≤ r) = false := by rw [decide_eq_false_iff_not]; exact hsr
    obtain rfl : v = q := by rw [HV.out, if_neg hsr]; rfl
    clear hq hr hrl hql hs hv hq2 hsr hN hD HV
    go_enter Try.func24, Try.ntmps24
    go_wp2_with fail
    go_quiet (fail)
    go_wp2
    go_ret
    exact ⟨rfl, below_drewN ((Below.refl _ _).alloc (Nat.le_refl _) _) _⟩
end Go.Proofs.Ytbehepeebffmoaa
