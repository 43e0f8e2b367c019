/-
  ShareSums: to the last unit.
-/
import Derived.Test.YtofkeipfkglljaaDoorGrows
import Derived.Test.YtofkeipfkglljaaDoorErr
import Derived.Test.YtofkeipfkglljaaDoorTimes
namespace Go.Proofs.YtofkeipfkglljaaDoor
open Go Go.RowKit
set_option linter.unusedVariables false
set_option linter.unusedSimpArgs false

theorem rts_sum {T : Nat} {W ys : List Nat} (p : ys.Perm (List.range W.length)) : (ys.map (keyL (rtsL T W))).sum = (rtsL T W).sum := by
  have h1 : ((List.range W.length).map (keyL (rtsL T W))) = rtsL T W := by
    apply List.ext_getElem?
    intro j
    rcases Nat.lt_or_ge j W.length with h | h
    · simp [keyL, rtsL, h]
    · simp [keyL, rtsL, h]
  have h2 := (p.map (keyL (rtsL T W))).sum_nat
  rwa [h1] at h2
/-- Who gets one more has something left. -/
theorem rest_pos {T : Nat} {W ys : List Nat} (hS : 0 < W.sum) (p : ys.Perm (List.range W.length)) (s : Srtd (keyL (rtsL T W)) ys) {i : Nat} (hi : i ∈ ys.take (leftL T W)) : keyL (rtsL T W) i ≠ 0 := by
  intro h0
  have hsum := rts_sum (T := T) p
  have hl := left_mul T W hS
  have e := List.take_append_drop (leftL T W) ys
  rw [← e] at s
  have hd : ∀ j ∈ ys.drop (leftL T W), keyL (rtsL T W) j = 0 := fun j hj => by
    have := (List.pairwise_append.1 s).2.2 i hi j hj
    unfold Lx at this
    omega
  rw [← e, List.map_append, List.sum_append] at hsum
  have hz : ((ys.drop (leftL T W)).map (keyL (rtsL T W))).sum = 0 := by
    have : ∀ l : List Nat, (∀ j ∈ l, keyL (rtsL T W) j = 0) → (l.map (keyL (rtsL T W))).sum = 0 := fun l hl => by
      induction l with
      | nil => rfl
      | cons a l ih => rw [List.map_cons, List.sum_cons, hl a (by simp), ih (fun j hj => hl j (List.mem_cons_of_mem _ hj))]
    exact this _ hd
  have hlt := sum_lt W.sum hS ((ys.take (leftL T W)).map (keyL (rtsL T W))) (by intro e'; rw [List.map_eq_nil_iff] at e'; rw [e'] at hi; simp at hi) (fun x hx => by
    obtain ⟨j, hj, rfl⟩ := List.mem_map.1 hx
    have hjn : j < W.length := List.mem_range.1 (p.mem_iff.1 (List.mem_of_mem_take hj))
    rw [key_get hjn]
    exact Nat.mod_lt _ hS)
  rw [List.length_map, List.length_take] at hlt
  have := Nat.mul_le_mul_right W.sum (Nat.min_le_left (leftL T W) ys.length)
  omega
/-- Each part is its share rounded down, or one more where something was left. -/
theorem split_near {T : Nat} {W out : List Nat} (h : IsSplit T W out) (hS : 0 < W.sum) {i : Nat} (hi : i < W.length) :
    out.getD i 0 = T * W.getD i 0 / W.sum ∨ (out.getD i 0 = T * W.getD i 0 / W.sum + 1 ∧ T * W.getD i 0 % W.sum ≠ 0) := by
  obtain ⟨ys, p, s, rfl⟩ := h
  rw [split_get hi]
  by_cases hm : i ∈ ys.take (leftL T W)
  · rw [if_pos hm]
    exact .inr ⟨rfl, by have := rest_pos hS p s hm; rwa [key_get hi] at this⟩
  · rw [if_neg hm]; exact .inl rfl

theorem getD_le_sum (W : List Nat) (k : Nat) : W.getD k 0 ≤ W.sum := by
  rcases Nat.lt_or_ge k W.length with h | h
  · have e1 : W.getD k 0 = W[k] := by simp [h]
    rw [e1]; exact le_sum (List.getElem_mem _)
  · have e1 : W.getD k 0 = 0 := by simp [h]
    rw [e1]; exact Nat.zero_le _
theorem natI_take (W : List Nat) (k : Nat) : (natI W).take k = natI (W.take k) := by simp [natI, List.map_take]
theorem take_sum_step {W : List Nat} {k : Nat} (hk : k < W.length) : (W.take k).sum + W.getD k 0 = (W.take (k + 1)).sum := by
  rw [List.take_succ_eq_append_getElem hk, List.sum_append]; simp [hk]
theorem take_sum_le (W : List Nat) (k : Nat) : (W.take k).sum ≤ W.sum := by
  conv => rhs; rw [← List.take_append_drop k W]
  rw [List.sum_append]; omega

namespace shareSums
end shareSums
end Go.Proofs.YtofkeipfkglljaaDoor
