/-
  AverageOrder. (Printed by tools/gen_order.py.)
-/
import Derived.Test.YtofkeipfkglljaaLawSums
import Derived.Test.YtofkeipfkglljaaAppRow
import Derived.Test.YtofkeipfkglljaaRefPay
import Derived.BigQuiet
namespace Go.Proofs.Ytofkeipfkglljaa
open Go Go.RowKit
set_option linter.unusedVariables false
set_option linter.unusedSimpArgs false

theorem isum_set : ∀ (g : List Int) (j : Nat) (v : Int), j < g.length → (g.set j v).sum = g.sum - g.getD j 0 + v
  | [], j, v, h => by simp at h
  | x :: g, 0, v, _ => by simp; omega
  | x :: g, j + 1, v, h => by
    have := isum_set g j v (by simpa using h)
    simp only [List.set_cons_succ, List.sum_cons, List.getD_cons_succ, this]
    omega
theorem order_gone {l : List In1} {g : List Int} {j : Nat} {c : Int} (h1 : g.length = l.length) (hj : j < l.length) (h0 : 0 ≤ c) (hc : c ≤ g.getD j 0) (hz : g.getD j 0 ≤ (l.getD j default).z) : goneB l (g.set j (g.getD j 0 - c)) = goneB l g := by
  rw [Bool.eq_iff_iff, gone_iff, gone_iff]
  refine and_congr (by simp) ⟨fun h k hk => ?_, fun h k hk => ?_⟩
  · have := h k hk
    unfold goneAt at this ⊢
    rw [set_getD] at this
    by_cases e : j = k
    · subst e
      simp only [Bool.and_eq_true, decide_eq_true_eq]
      omega
    · rw [if_neg (by omega)] at this
      exact this
  · have := h k hk
    unfold goneAt at this ⊢
    rw [set_getD]
    by_cases e : j = k
    · subst e
      rw [if_pos ⟨rfl, by omega⟩]
      simp only [Bool.and_eq_true, decide_eq_true_eq]
      omega
    · rw [if_neg (by omega)]
      exact this
theorem order_same {l : List In1} {g : List Int} {j : Nat} {c S : Int} (h1 : g.length = l.length) (hj : j < l.length) (h0 : 0 ≤ c) (hc : c ≤ g.getD j 0) (hz : g.getD j 0 ≤ (l.getD j default).z) (hS : 0 ≤ S) (hS2 : S + c ≤ 1099511627776) :
    wholeN l (g.set j (g.getD j 0 - c)) (S + c) = wholeN l g S ∧ (g.set j (g.getD j 0 - c)).sum + (S + c) = g.sum + S := by
  have e := isum_set g j (g.getD j 0 - c) (by omega)
  have e2 : (g.set j (g.getD j 0 - c)).sum + (S + c) = g.sum + S := by omega
  refine ⟨?_, e2⟩
  unfold wholeN
  rw [order_gone h1 hj h0 hc hz, e2]
  congr 1
  simp only [eq_iff_iff]
  have a1 : ¬ S + c < 0 := by omega
  have a2 : ¬ 1099511627776 < S + c := by omega
  have a3 : ¬ S < 0 := by omega
  have a4 : ¬ 1099511627776 < S := by omega
  simp [a1, a2, a3, a4]
theorem whole_no {l : List In1} {g : List Int} {S : Int} (h : mayB l = false ∨ 1099511627776 < S) : wholeN l g S = 1 := by
  unfold wholeN
  rw [if_pos]
  rcases h with h | h
  · exact .inl h
  · exact .inr (.inr (.inr h))

namespace averageOrder
end averageOrder
end Go.Proofs.Ytofkeipfkglljaa
