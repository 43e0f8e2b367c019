/-
  isRatio, the document's May, share.Of.
-/
import Derived.Test.YtbehepeebffmoaaRefSplit
namespace Go.Proofs.Ytbehepeebffmoaa
open Go Go.RowKit
set_option linter.unusedVariables false
set_option linter.unusedSimpArgs false

theorem isratio_any (N D : Int) (w : World) (x : Bool) (hx : x = decide (0 ≤ N ∧ 1 ≤ D)) :
    Calls Try.prog 35 #[.agg #[.int .i64 N, .int .i64 D]] w fun e w' => e = .returned (.bool x) ∧ Below w.heap.size w w' := by
  by_cases h1 : 0 ≤ N
  · by_cases h2 : 1 ≤ D
    · have d1 : decide (0 ≤ N) = true := by rw [decide_eq_true_iff]; omega
      have d2 : decide (1 ≤ D) = true := by rw [decide_eq_true_iff]; omega
      obtain rfl : x = true := by rw [hx, decide_eq_true_iff]; exact ⟨h1, h2⟩
      clear hx
      go_enter Try.func35, Try.ntmps35
      go_wp2
      go_ret
      exact ⟨rfl, (Below.refl _ _).alloc (Nat.le_refl _) _⟩
    · have d1 : decide (0 ≤ N) = true := by rw [decide_eq_true_iff]; omega
      have d2 : decide (1 ≤ D) = false := by rw [decide_eq_false_iff_not]; omega
      obtain rfl : x = false := by rw [hx, decide_eq_false_iff_not]; omega
      clear hx
      go_enter Try.func35, Try.ntmps35
      go_wp2
      go_ret
      exact ⟨rfl, (Below.refl _ _).alloc (Nat.le_refl _) _⟩
  · have d1 : decide (0 ≤ N) = false := by rw [decide_eq_false_iff_not]; omega
    obtain rfl : x = false := by rw [hx, decide_eq_false_iff_not]; omega
    clear hx
    go_enter Try.func35, Try.ntmps35
    go_wp2
    go_ret
    exact ⟨rfl, (Below.refl _ _).alloc (Nat.le_refl _) _⟩

theorem box_cells {w w1 : World} {t : TypeId} {u v : Value} (h : Below (w.alloc (.cells #[u, v] t)).heap.size (w.alloc (.cells #[u, v] t)) w1) : w1.cell? ⟨w.heap.size, 0, none⟩ = some u ∧ w1.cell? ⟨w.heap.size, 1, none⟩ = some v := by
  constructor
  · rw [h.cell (by simp)]; unfold World.cell?; rw [heap_alloc_new]; rfl
  · rw [h.cell (by simp)]; unfold World.cell?; rw [heap_alloc_new]; rfl
def ofV (T N D : Nat) : Value := if T * N / D ≤ 1099511627776 then .tuple #[.int .i64 ((T * N / D : Nat) : Int), .bool true] else .tuple #[.int .i64 0, .bool false]

theorem of_wide {P D : Nat} (h : D ≤ P / 18446744073709551616) (hD : 0 < D) : 1099511627776 < P / D := by
  have h1 : D * 18446744073709551616 ≤ P := by
    exact Nat.le_trans (Nat.mul_le_mul_right 18446744073709551616 h) (Nat.div_mul_le_self P 18446744073709551616)
  have h2 : 18446744073709551616 ≤ P / D := (Nat.le_div_iff_mul_le hD).2 (by rw [Nat.mul_comm]; exact h1)
  exact Nat.lt_of_lt_of_le (by decide) h2

end Go.Proofs.Ytbehepeebffmoaa
