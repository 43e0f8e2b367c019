/-
  share.Even, and ShareEven.
-/
import Derived.Test.YtfkkkebegkhdfaaDoorSums
namespace Go.Proofs.YtfkkkebegkhdfaaDoor
open Go Go.RowKit
set_option linter.unusedVariables false
set_option linter.unusedSimpArgs false

def ones (n : Nat) : List Nat := List.replicate n 1
theorem ones_len (n : Nat) : (ones n).length = n := by simp [ones]
theorem ones_sum (n : Nat) : (ones n).sum = n := by
  induction n with
  | zero => rfl
  | succ n ih => unfold ones at *; rw [List.replicate_succ, List.sum_cons, ih]; omega
theorem ones_pts (T n : Nat) : ptsL T (ones n) = List.replicate n (T / n) := by
  unfold ptsL
  rw [ones_sum]
  unfold ones
  rw [List.map_replicate, Nat.mul_one]
theorem ones_rts (T n : Nat) : rtsL T (ones n) = List.replicate n (T % n) := by
  unfold rtsL
  rw [ones_sum]
  unfold ones
  rw [List.map_replicate, Nat.mul_one]
theorem rep_sum (n a : Nat) : (List.replicate n a).sum = n * a := by
  induction n with
  | zero => simp
  | succ n ih => rw [List.replicate_succ, List.sum_cons, ih, Nat.succ_mul]; omega
theorem ones_left (T n : Nat) : leftL T (ones n) = T % n := by
  unfold leftL
  rw [ones_pts, rep_sum]
  have := Nat.div_add_mod T n
  omega
/-- Shared by alike weights: the first ones have one more. -/
theorem even_split {T n : Nat} {out : List Nat} (h : IsSplit T (ones n) out) : ∀ i, i < n → out.getD i 0 = T / n + if i < T % n then 1 else 0 := by
  have e : IsSplit T (ones n) (outL T (ones n) (List.range n) (leftL T (ones n))) := by
    refine ⟨List.range n, by rw [ones_len], ?_, rfl⟩
    refine List.Pairwise.imp_of_mem ?_ List.pairwise_lt_range
    intro a b ha hb hab
    right
    refine ⟨?_, hab⟩
    have h1 := List.mem_range.1 ha
    have h2 := List.mem_range.1 hb
    simp [keyL, ones_rts, h1, h2]
  intro i hi
  rw [h.unique e, List.getD_eq_getElem?_getD, outL_get (by rw [ones_len]; exact hi), ones_left, ones_pts]
  have hmin : min (T % n) n = T % n := Nat.min_eq_left (Nat.le_of_lt (Nat.mod_lt _ (by omega)))
  simp [hi, hmin]

theorem ones_neg (n : Nat) : (natI (ones n)).any is_neg = false := by
  induction n with
  | zero => rfl
  | succ n ih => unfold ones natI at *; rw [List.replicate_succ, List.map_cons, List.any_cons, ih]; rfl
theorem ones_over (n : Nat) : (natI (ones n)).any is_over = false := by
  induction n with
  | zero => rfl
  | succ n ih => unfold ones natI at *; rw [List.replicate_succ, List.map_cons, List.any_cons, ih]; rfl
theorem ones_pos (n : Nat) : 0 < n → (natI (ones n)).any is_pos = true := by
  intro h
  obtain ⟨m, rfl⟩ : ∃ m, n = m + 1 := ⟨n - 1, by omega⟩
  unfold ones natI; rw [List.replicate_succ, List.map_cons, List.any_cons]; rfl
theorem ones_wrong {T : Int} {n : Nat} (h1 : 1 ≤ n) (h2 : n ≤ 4096) : (wrongN T (natI (ones n)) = 0 ↔ 0 ≤ T ∧ T ≤ 1099511627776) := by
  have hne : natI (ones n) ≠ [] := by intro e; have := congrArg List.length e; simp [natI, ones_len] at this; omega
  have hlen : (natI (ones n)).length = n := by simp [natI, ones_len]
  unfold wrongN
  rw [hlen, ones_neg, ones_over, ones_pos n h1]
  constructor
  · intro h
    split at h
    · cases h
    · rename_i g1
      split at h
      · cases h
      · rename_i g2
        constructor
        · rcases Int.lt_or_le T 0 with g | g; exact absurd (.inl g) g1; exact g
        · rcases Int.lt_or_le 1099511627776 T with g | g; exact absurd (.inl g) g2; exact g
  · rintro ⟨h3, h4⟩
    rw [if_neg (by simp [hne]; omega), if_neg (by simp; omega), if_neg (by simp)]

namespace shareEven
end shareEven
end Go.Proofs.YtfkkkebegkhdfaaDoor
