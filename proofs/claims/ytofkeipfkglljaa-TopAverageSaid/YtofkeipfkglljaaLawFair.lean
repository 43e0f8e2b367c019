/-
  AverageFair.
-/
import Derived.Test.YtofkeipfkglljaaLawSums
import Derived.Test.YtofkeipfkglljaaGrows
import Derived.BigQuiet
namespace Go.Proofs.Ytofkeipfkglljaa
open Go Go.RowKit
set_option linter.unusedVariables false
set_option linter.unusedSimpArgs false

theorem split_cap {T : Nat} {W out : List Nat} (h : IsSplit T W out) (hS : 0 < T → 0 < W.sum) (hT : T ≤ W.sum) {i : Nat} (hi : i < W.length) : out.getD i 0 ≤ W.getD i 0 := by
  rcases Nat.eq_zero_or_pos W.sum with h0 | h0
  · have := split_le h hS i
    omega
  · have h1 := split_near h h0 hi
    have h2 : T * W.getD i 0 ≤ W.sum * W.getD i 0 := Nat.mul_le_mul_right _ hT
    have h3 : T * W.getD i 0 / W.sum ≤ W.getD i 0 := Nat.div_le_of_le_mul h2
    rcases h1 with h1 | ⟨h1, h4⟩
    · omega
    · have h5 := Nat.div_add_mod (T * W.getD i 0) W.sum
      have h6 : W.sum * (T * W.getD i 0 / W.sum) < W.sum * W.getD i 0 := by omega
      have := Nat.lt_of_mul_lt_mul_left h6
      omega
theorem split_alike {T : Nat} {W out : List Nat} (h : IsSplit T W out) {i k : Nat} (hi : i < W.length) (hk : k < W.length) (e : W.getD i 0 = W.getD k 0) : out.getD i 0 ≤ out.getD k 0 + 1 ∧ out.getD k 0 ≤ out.getD i 0 + 1 := by
  rcases Nat.lt_trichotomy i k with g | g | g
  · have := grows_eq h hk hi g e.symm; omega
  · subst g; omega
  · have := grows_eq h hi hk g e; omega

namespace averageFair
end averageFair
end Go.Proofs.Ytofkeipfkglljaa
