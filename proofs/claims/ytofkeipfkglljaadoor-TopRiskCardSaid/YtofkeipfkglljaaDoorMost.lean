/-
  ShareMost: the place of the greatest number is told, of alike ones the first.
-/
import Derived.Test.YtofkeipfkglljaaDoorShare
namespace Go.Proofs.YtofkeipfkglljaaDoor
open Go Go.RowKit
set_option linter.unusedVariables false
set_option linter.unusedSimpArgs false

/-- Of the first k numbers j is the place of the greatest, the first of such. -/
def MostAt (zs : List Int) (k j : Nat) : Prop := j < k ∧ ∀ i, i < k → zs.getD i 0 ≤ zs.getD j 0 ∧ (zs.getD i 0 = zs.getD j 0 → j ≤ i)
theorem most_first (zs : List Int) : MostAt zs 1 0 := by
  refine ⟨by omega, fun i hi => ?_⟩
  obtain rfl : i = 0 := by omega
  exact ⟨Int.le_refl _, fun _ => Nat.le_refl _⟩
theorem most_more {zs : List Int} {k j : Nat} (h : MostAt zs k j) (hg : zs.getD j 0 < zs.getD k 0) : MostAt zs (k + 1) k := by
  refine ⟨by omega, fun i hi => ?_⟩
  by_cases e : i = k
  · subst e; exact ⟨Int.le_refl _, fun _ => Nat.le_refl _⟩
  · have := (h.2 i (by omega)).1
    exact ⟨by omega, fun e' => by omega⟩
theorem most_same {zs : List Int} {k j : Nat} (h : MostAt zs k j) (hg : ¬ zs.getD j 0 < zs.getD k 0) : MostAt zs (k + 1) j := by
  have hj := h.1
  refine ⟨by omega, fun i hi => ?_⟩
  by_cases e : i = k
  · subst e; exact ⟨by omega, fun _ => by omega⟩
  · exact h.2 i (by omega)

theorem Ints.get {w : World} {ao : Option Addr} {n cap : Nat} {zs : List Int} (h : Ints w (.slice ao n cap) zs) (hn : n = zs.length) (hp : 0 < n) : ∃ b off, ao = some ⟨b, off, none⟩ ∧ b < w.heap.size ∧ ∀ k, k < n → w.cell? ⟨b, off + k, none⟩ = some (.int .i64 (zs.getD k 0)) := by
  obtain ⟨b, off, cap', e, _, _, hb, hc⟩ := h.at (by omega)
  cases e
  exact ⟨b, off, rfl, hb, fun k hk => by have := hc k (by omega); rw [this]; simp [show k < zs.length by omega]⟩

namespace shareMost
end shareMost
end Go.Proofs.YtofkeipfkglljaaDoor
