/-
  isRatio, the document's May, share.Of.
-/
import Derived.Test.YtofkeipfkglljaaDoorRefSplit
namespace Go.Proofs.YtofkeipfkglljaaDoor
open Go Go.RowKit
set_option linter.unusedVariables false
set_option linter.unusedSimpArgs false

theorem isratio_any (N D : Int) (w : World) (x : Bool) (hx : x = decide (0 ≤ N ∧ 1 ≤ D)) :
    Calls Tryd.prog 32 #[.agg #[.int .i64 N, .int .i64 D]] w fun e w' => e = .returned (.bool x) ∧ Below w.heap.size w w' := by
  by_cases h1 : 0 ≤ N
  · by_cases h2 : 1 ≤ D
    · have d1 : decide (0 ≤ N) = true := by rw [decide_eq_true_iff]; omega
      have d2 : decide (1 ≤ D) = true := by rw [decide_eq_true_iff]; omega
      obtain rfl : x = true := by rw [hx, decide_eq_true_iff]; exact ⟨h1, h2⟩
      clear hx
      go_enter Tryd.func32, Tryd.ntmps32
      go_wp2
      go_ret
      exact ⟨rfl, (Below.refl _ _).alloc (Nat.le_refl _) _⟩
    · have d1 : decide (0 ≤ N) = true := by rw [decide_eq_true_iff]; omega
      have d2 : decide (1 ≤ D) = false := by rw [decide_eq_false_iff_not]; omega
      obtain rfl : x = false := by rw [hx, decide_eq_false_iff_not]; omega
      clear hx
      go_enter Tryd.func32, Tryd.ntmps32
      go_wp2
      go_ret
      exact ⟨rfl, (Below.refl _ _).alloc (Nat.le_refl _) _⟩
  · have d1 : decide (0 ≤ N) = false := by rw [decide_eq_false_iff_not]; omega
    obtain rfl : x = false := by rw [hx, decide_eq_false_iff_not]; omega
    clear hx
    go_enter Tryd.func32, Tryd.ntmps32
    go_wp2
    go_ret
    exact ⟨rfl, (Below.refl _ _).alloc (Nat.le_refl _) _⟩

theorem of_bad (T N D : Int) (w : World) (h : ¬ (0 ≤ N ∧ 1 ≤ D ∧ 0 ≤ T ∧ T ≤ 1099511627776)) :
    Calls Tryd.prog 21 #[.int .i64 T, .agg #[.int .i64 N, .int .i64 D]] w fun e w' => e = .returned (.tuple #[.int .i64 0, .bool false]) ∧ Below w.heap.size w w' := by
  have HI := Lib.hid (fun w => isratio_any N D w _ rfl)
  by_cases h1 : 0 ≤ N ∧ 1 ≤ D
  · rw [decide_eq_true h1] at HI
    by_cases h2 : T < 0
    · have d1 : decide (T < 0) = true := by rw [decide_eq_true_iff]; omega
      clear h
      go_enter Tryd.func21, Tryd.ntmps21
      go_wp2_with fail
      refine (HI.out _).mono ?_
      rintro e w1 ⟨rfl, hb⟩
      have HB := Lib.hid (bt ((Below.refl _ _).alloc (Nat.le_refl _) _) hb)
      clear hb
      go_wp2
      go_ret2
      exact ⟨rfl, HB.out⟩
    · have d1 : decide (T < 0) = false := by rw [decide_eq_false_iff_not]; omega
      have d2 : decide (1099511627776 < T) = true := by rw [decide_eq_true_iff]; omega
      clear h
      go_enter Tryd.func21, Tryd.ntmps21
      go_wp2_with fail
      refine (HI.out _).mono ?_
      rintro e w1 ⟨rfl, hb⟩
      have HB := Lib.hid (bt ((Below.refl _ _).alloc (Nat.le_refl _) _) hb)
      clear hb
      go_wp2
      go_ret2
      exact ⟨rfl, HB.out⟩
  · rw [decide_eq_false h1] at HI
    clear h h1
    go_enter Tryd.func21, Tryd.ntmps21
    go_wp2_with fail
    refine (HI.out _).mono ?_
    rintro e w1 ⟨rfl, hb⟩
    have HB := Lib.hid (bt ((Below.refl _ _).alloc (Nat.le_refl _) _) hb)
    clear hb
    go_wp2
    go_ret2
    exact ⟨rfl, HB.out⟩

theorem box_cells {w w1 : World} {t : TypeId} {u v : Value} (h : Below (w.alloc (.cells #[u, v] t)).heap.size (w.alloc (.cells #[u, v] t)) w1) : w1.cell? ⟨w.heap.size, 0, none⟩ = some u ∧ w1.cell? ⟨w.heap.size, 1, none⟩ = some v := by
  constructor
  · rw [h.cell (by simp)]; unfold World.cell?; rw [heap_alloc_new]; rfl
  · rw [h.cell (by simp)]; unfold World.cell?; rw [heap_alloc_new]; rfl
def ofV (T N D : Nat) : Value := if T * N / D ≤ 1099511627776 then .tuple #[.int .i64 ((T * N / D : Nat) : Int), .bool true] else .tuple #[.int .i64 0, .bool false]

theorem of_wide {P D : Nat} (h : D ≤ P / 18446744073709551616) (hD : 0 < D) : 1099511627776 < P / D := by
  have h1 : D * 18446744073709551616 ≤ P := by
    exact Nat.le_trans (Nat.mul_le_mul_right 18446744073709551616 h) (Nat.div_mul_le_self P 18446744073709551616)
  have h2 : 18446744073709551616 ≤ P / D := (Nat.le_div_iff_mul_le hD).2 (by rw [Nat.mul_comm]; exact h1)
  exact Nat.lt_of_lt_of_le (by decide) h2

set_option maxHeartbeats 2000000 in
theorem of_ok (T N D : Nat) (w : World) (hT : T ≤ 1099511627776) (hN : N < 9223372036854775808) (hD0 : 1 ≤ D) (hD : D < 9223372036854775808) :
    Calls Tryd.prog 21 #[.int .i64 (T : Int), .agg #[.int .i64 (N : Int), .int .i64 (D : Int)]] w fun e w' => e = .returned (ofV T N D) ∧ Below w.heap.size w w' := by
  have HI := Lib.hid (fun w => isratio_any N D w _ rfl)
  rw [decide_eq_true (show 0 ≤ (N : Int) ∧ 1 ≤ (D : Int) from ⟨by omega, by omega⟩)] at HI
  have d1 : decide ((T : Int) < 0) = false := by rw [decide_eq_false_iff_not]; omega
  have d2 : decide (1099511627776 < (T : Int)) = false := by rw [decide_eq_false_iff_not]; omega
  have e1 : IntKind.u64.wrap (T : Int) = (T : Int) := wrapN T (by omega)
  have e2 : IntKind.u64.wrap (N : Int) = (N : Int) := wrapN N (by omega)
  have e3 : IntKind.u64.wrap (D : Int) = (D : Int) := wrapN D (by omega)
  have HM := Lib.hid (fun w => mul_any T N (by omega) (by omega) w)
  obtain ⟨hi, hhi⟩ : ∃ hi, hi = T * N / 18446744073709551616 := ⟨_, rfl⟩
  obtain ⟨lo, hlo⟩ : ∃ lo, lo = T * N % 18446744073709551616 := ⟨_, rfl⟩
  have hlo2 : lo < 18446744073709551616 := by rw [hlo]; exact Nat.mod_lt _ (by omega)
  have hall : hi * 18446744073709551616 + lo = T * N := by rw [hhi, hlo]; have := Nat.div_add_mod (T * N) 18446744073709551616; omega
  obtain ⟨q, hq⟩ : ∃ q, q = T * N / D := ⟨_, rfl⟩
  rw [← hhi, ← hlo] at HM
  by_cases h1 : hi < D
  · have HV := Lib.hid (fun w => div_any hi lo D w h1 (by omega) hlo2)
    rw [hall, ← hq] at HV
    obtain ⟨r, hr⟩ : ∃ r, r = T * N % D := ⟨_, rfl⟩
    rw [← hr] at HV
    have l1 : decide (D ≤ hi) = false := by rw [decide_eq_false_iff_not]; omega
    have HR := Lib.hid (show ofV T N D = if q ≤ 1099511627776 then .tuple #[.int .i64 (q : Int), .bool true] else .tuple #[.int .i64 0, .bool false] by unfold ofV; rw [← hq])
    rw [HR.out]
    clear hr hq hall hlo2 hlo hhi hT hN hD hD0
    by_cases h2 : q ≤ 1099511627776
    · have l2 : decide (1099511627776 < (q : Int)) = false := by rw [decide_eq_false_iff_not]; omega
      have e4 : IntKind.i64.wrap (q : Int) = (q : Int) := IntWalk.i64_in _ (by omega)
      rw [if_pos h2]
      go_enter Tryd.func21, Tryd.ntmps21
      go_wp2_with fail
      refine (HI.out _).mono ?_
      rintro e w1 ⟨rfl, hb⟩
      obtain ⟨c1, c2⟩ := box_cells hb
      have HB := Lib.hid (bt ((Below.refl _ _).alloc (Nat.le_refl _) _) hb)
      clear hb
      obtain ⟨b, hb⟩ : ∃ b, b = w.heap.size := ⟨_, rfl⟩
      rw [← hb] at c1 c2 ⊢
      have HX := Lib.hid hb
      clear hb
      go_wp2_with fail
      refine (HM.out _).mono ?_
      rintro e w2 ⟨rfl, rfl⟩
      go_wp2_with fail
      refine (HV.out _).mono ?_
      rintro e w3 ⟨rfl, nq, rfl⟩
      go_wp2
      go_ret2
      exact ⟨rfl, below_drewN HB.out nq⟩
    · have l2 : decide (1099511627776 < (q : Int)) = true := by rw [decide_eq_true_iff]; omega
      rw [if_neg h2]
      clear h2
      go_enter Tryd.func21, Tryd.ntmps21
      go_wp2_with fail
      refine (HI.out _).mono ?_
      rintro e w1 ⟨rfl, hb⟩
      obtain ⟨c1, c2⟩ := box_cells hb
      have HB := Lib.hid (bt ((Below.refl _ _).alloc (Nat.le_refl _) _) hb)
      clear hb
      obtain ⟨b, hb⟩ : ∃ b, b = w.heap.size := ⟨_, rfl⟩
      rw [← hb] at c1 c2 ⊢
      have HX := Lib.hid hb
      clear hb
      go_wp2_with fail
      refine (HM.out _).mono ?_
      rintro e w2 ⟨rfl, rfl⟩
      go_wp2_with fail
      refine (HV.out _).mono ?_
      rintro e w3 ⟨rfl, nq, rfl⟩
      go_wp2
      go_ret2
      exact ⟨rfl, below_drewN HB.out nq⟩
  · have l1 : decide (D ≤ hi) = true := by rw [decide_eq_true_iff]; omega
    have HR := Lib.hid (show ofV T N D = .tuple #[.int .i64 0, .bool false] by
      unfold ofV; rw [if_neg]; have := of_wide (P := T * N) (D := D) (by rw [← hhi]; omega) (by omega); omega)
    rw [HR.out]
    clear hq hall hlo2 hlo hhi hT hN hD hD0
    go_enter Tryd.func21, Tryd.ntmps21
    go_wp2_with fail
    refine (HI.out _).mono ?_
    rintro e w1 ⟨rfl, hb⟩
    obtain ⟨c1, c2⟩ := box_cells hb
    have HB := Lib.hid (bt ((Below.refl _ _).alloc (Nat.le_refl _) _) hb)
    clear hb
    obtain ⟨b, hb⟩ : ∃ b, b = w.heap.size := ⟨_, rfl⟩
    rw [← hb] at c1 c2 ⊢
    have HX := Lib.hid hb
    clear hb
    go_wp2_with fail
    refine (HM.out _).mono ?_
    rintro e w2 ⟨rfl, rfl⟩
    go_wp2
    go_ret2
    exact ⟨rfl, HB.out⟩
end Go.Proofs.YtofkeipfkglljaaDoor
