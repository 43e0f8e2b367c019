/-
  The document's May, weights, sum, Adjust.
-/
import Derived.Test.YtofkeipfkglljaaLawSums
import Derived.BigQuiet
import Derived.Lib.SlicesS
namespace Go.Proofs.Ytofkeipfkglljaa
open Go Go.RowKit
set_option linter.unusedVariables false
set_option linter.unusedSimpArgs false

theorem seen_true {l : List In1} {k j : Nat} {t : ByteArray} (hk : k ≤ l.length) (hj : j < k) (h : (l.getD j default).t = t) : seen l k t = true := by
  unfold seen
  rw [List.any_eq_true]
  refine ⟨l[j]'(by omega), ?_, ?_⟩
  · rw [List.mem_take_iff_getElem]
    exact ⟨j, by omega, rfl⟩
  · rw [List.getD_eq_getElem?_getD, List.getElem?_eq_getElem (by omega)] at h
    simpa using h
theorem seen_false {l : List In1} {k : Nat} {t : ByteArray} (hk : k ≤ l.length) (h : ∀ j, j < k → (l.getD j default).t ≠ t) : seen l k t = false := by
  unfold seen
  rw [List.any_eq_false]
  intro o ho
  rw [List.mem_take_iff_getElem] at ho
  obtain ⟨j, hj, rfl⟩ := ho
  have := h j (by omega)
  rw [List.getD_eq_getElem?_getD, List.getElem?_eq_getElem (by omega)] at this
  simpa using this

theorem drew_below {w w' : World} (h : ∃ q, w' = w.drewN q) : Below w.heap.size w w' := by
  obtain ⟨q, rfl⟩ := h
  exact below_drewN (Below.refl _ _) q

end Go.Proofs.Ytofkeipfkglljaa
