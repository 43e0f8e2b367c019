/-
  ShareGrows: who has the greater weight has no smaller part.
-/
import Derived.Test.YtofkeipfkglljaaDoorMost
namespace Go.Proofs.YtofkeipfkglljaaDoor
open Go Go.RowKit
set_option linter.unusedVariables false
set_option linter.unusedSimpArgs false

theorem take_closed {k : Nat → Nat} {ys : List Nat} {m i j : Nat} (h : Srtd k ys) (hj : j ∈ ys.take m) (hi : i ∈ ys) (hl : Lx k i j) : i ∈ ys.take m := by
  have e := List.take_append_drop m ys
  rw [← e] at hi h
  rcases List.mem_append.1 hi with hi | hi
  · exact hi
  · exact ((List.pairwise_append.1 h).2.2 j hj i hi).asymm hl |>.elim
theorem ind_le {ys : List Nat} {m i j : Nat} (h : j ∈ ys.take m → i ∈ ys.take m) : (if j ∈ ys.take m then 1 else 0) ≤ (if i ∈ ys.take m then 1 else 0 : Nat) := by
  by_cases h1 : j ∈ ys.take m
  · rw [if_pos h1, if_pos (h h1)]; exact Nat.le_refl _
  · rw [if_neg h1]; exact Nat.zero_le _
theorem ind_one (ys : List Nat) (m i : Nat) : (if i ∈ ys.take m then 1 else 0 : Nat) ≤ 1 := by split <;> omega

theorem split_get {T : Nat} {W ys : List Nat} {i : Nat} (hi : i < W.length) : (outL T W ys (leftL T W)).getD i 0 = T * W.getD i 0 / W.sum + if i ∈ ys.take (leftL T W) then 1 else 0 := by
  rw [List.getD_eq_getElem?_getD, outL_get hi]
  simp [ptsL, hi]
theorem key_get {T : Nat} {W : List Nat} {i : Nat} (hi : i < W.length) : keyL (rtsL T W) i = T * W.getD i 0 % W.sum := by simp [keyL, rtsL, hi]

theorem left0 (T : Nat) (W : List Nat) (h : T = 0) : leftL T W = 0 := by subst h; simp [leftL]

/-- Who has the greater weight has no smaller part. -/
theorem grows_lt {T : Nat} {W out : List Nat} (h : IsSplit T W out) {i j : Nat} (hi : i < W.length) (hj : j < W.length) (hw : W.getD j 0 < W.getD i 0) : out.getD j 0 ≤ out.getD i 0 := by
  obtain ⟨ys, p, s, rfl⟩ := h
  rw [split_get hi, split_get hj]
  have m1 := Nat.mul_le_mul_left T (Nat.le_of_lt hw)
  have d1 := Nat.div_le_div_right (c := W.sum) m1
  have b1 := ind_one ys (leftL T W) j
  by_cases e : T * W.getD j 0 / W.sum = T * W.getD i 0 / W.sum
  · refine Nat.add_le_add d1 (ind_le fun hm => ?_)
    by_cases hT : T = 0
    · rw [left0 T W hT] at hm; simp at hm
    · refine take_closed s hm (p.mem_iff.2 (List.mem_range.2 hi)) (.inl ?_)
      rw [key_get hi, key_get hj]
      have m2 : T * W.getD j 0 < T * W.getD i 0 := Nat.mul_lt_mul_of_pos_left hw (by omega)
      have q1 := Nat.div_add_mod (T * W.getD j 0) W.sum
      have q2 := Nat.div_add_mod (T * W.getD i 0) W.sum
      rw [e] at q1
      omega
  · omega
/-- Of alike weights who stands first has the greater part, by one at most. -/
theorem grows_eq {T : Nat} {W out : List Nat} (h : IsSplit T W out) {i j : Nat} (hi : i < W.length) (hj : j < W.length) (hij : j < i) (hw : W.getD i 0 = W.getD j 0) : out.getD i 0 ≤ out.getD j 0 ∧ out.getD j 0 ≤ out.getD i 0 + 1 := by
  obtain ⟨ys, p, s, rfl⟩ := h
  rw [split_get hi, split_get hj, hw]
  have b1 := ind_one ys (leftL T W) j
  have b2 := ind_one ys (leftL T W) i
  have h1 : (if i ∈ ys.take (leftL T W) then 1 else 0) ≤ (if j ∈ ys.take (leftL T W) then 1 else 0 : Nat) := ind_le fun hm => by
    refine take_closed s hm (p.mem_iff.2 (List.mem_range.2 hj)) (.inr ⟨?_, hij⟩)
    rw [key_get hi, key_get hj, hw]
  constructor <;> omega

theorem out_sum {T : Nat} {W ys : List Nat} (p : ys.Perm (List.range W.length)) (m : Nat) (hm : m ≤ W.length) : (outL T W ys m).sum = (ptsL T W).sum + m := by
  induction m with
  | zero => rw [outL_zero]; rfl
  | succ m ih =>
    have hl : ys.length = W.length := by rw [p.length_eq]; simp
    obtain ⟨i, hi⟩ := get_some (xs := ys) (i := m) (by omega)
    have hin : i < W.length := List.mem_range.1 (p.mem_iff.1 (List.mem_of_getElem? hi))
    obtain ⟨x, hx⟩ := get_some (xs := outL T W ys m) (i := i) (by simpa [outL] using hin)
    rw [← outL_step' p hi hx]
    obtain ⟨hxl, hxe⟩ := List.getElem?_eq_some_iff.1 hx
    have e1 : outL T W ys m = (outL T W ys m).take i ++ x :: (outL T W ys m).drop (i + 1) := by
      conv => lhs; rw [← List.take_append_drop i (outL T W ys m)]
      rw [List.drop_eq_getElem_cons hxl, hxe]
    have e2 : ((outL T W ys m).set i (x + 1)).sum = (outL T W ys m).sum + 1 := by
      conv => lhs; rw [e1]
      conv => rhs; rw [e1]
      rw [set_mid _ _ x (x + 1) i (by rw [List.length_take]; omega)]
      simp only [List.sum_append, List.sum_cons]; omega
    rw [e2, ih (by omega)]; omega
theorem split_sum {T : Nat} {W out : List Nat} (h : IsSplit T W out) (hS : 0 < T → 0 < W.sum) : out.sum = T := by
  obtain ⟨ys, p, s, rfl⟩ := h
  by_cases hT : T = 0
  · rw [left0 T W hT, outL_zero]; subst hT
    unfold ptsL
    simp only [Nat.zero_mul, Nat.zero_div]
    have : ∀ l : List Nat, (l.map fun _ => 0).sum = 0 := fun l => by
      induction l with
      | nil => rfl
      | cons a l ih => simp [ih]
    exact this W
  · have hS' := hS (by omega)
    rw [out_sum p _ (Nat.le_of_lt (left_lt T W hS'))]
    have := pts_le T W hS'
    unfold leftL; omega
theorem split_le {T : Nat} {W out : List Nat} (h : IsSplit T W out) (hS : 0 < T → 0 < W.sum) (i : Nat) : out.getD i 0 ≤ T := by
  rw [← split_sum h hS]
  rcases Nat.lt_or_ge i out.length with hi | hi
  · have : out.getD i 0 = out[i] := by simp [hi]
    rw [this]
    exact le_sum (List.getElem_mem _)
  · simp [hi]

theorem nat_get {W : List Nat} {k : Nat} : (natI W).getD k 0 = ((W.getD k 0 : Nat) : Int) := by
  rcases Nat.lt_or_ge k W.length with h | h
  · simp [natI, h]
  · simp [natI, h]

namespace shareGrows
end shareGrows
end Go.Proofs.YtofkeipfkglljaaDoor
