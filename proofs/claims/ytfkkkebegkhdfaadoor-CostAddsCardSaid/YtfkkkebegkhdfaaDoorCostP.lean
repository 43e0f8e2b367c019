/-
  Costs: plain.
-/
import Derived.Test.YtfkkkebegkhdfaaDoorCos
import Derived.Test.YtfkkkebegkhdfaaDoorSums
import Derived.Test.YtfkkkebegkhdfaaDoorGrows
namespace Go.Proofs.YtfkkkebegkhdfaaDoor
open Go Go.RowKit
set_option linter.unusedVariables false
set_option linter.unusedSimpArgs false

/-- The costs from stage c on, and those ahead of it. -/
def buyL (c : Int) (l : List Co) : List Co := l.filter fun o => decide (c ≤ o.s)
def selL (c : Int) (l : List Co) : List Co := l.filter fun o => ! decide (c ≤ o.s)
def sumC (l : List Co) : Int := (l.map fun o => o.z).sum
theorem sumC_app (a b : List Co) : sumC (a ++ b) = sumC a + sumC b := by simp [sumC]
theorem sumC_cons (o : Co) (l : List Co) : sumC (o :: l) = o.z + sumC l := by simp [sumC]
theorem part_sum (c : Int) : ∀ l : List Co, sumC (buyL c l) + sumC (selL c l) = sumC l
  | [] => rfl
  | o :: l => by
    have h := part_sum c l
    unfold buyL selL at h ⊢
    by_cases hc : c ≤ o.s
    · rw [List.filter_cons_of_pos (by simpa using hc), List.filter_cons_of_neg (by simpa using hc), sumC_cons, sumC_cons]; omega
    · rw [List.filter_cons_of_neg (by simpa using hc), List.filter_cons_of_pos (by simpa using hc), sumC_cons, sumC_cons]; omega
theorem part_len (c : Int) : ∀ l : List Co, (buyL c l).length + (selL c l).length = l.length
  | [] => rfl
  | o :: l => by
    have h := part_len c l
    unfold buyL selL at h ⊢
    by_cases hc : c ≤ o.s
    · rw [List.filter_cons_of_pos (by simpa using hc), List.filter_cons_of_neg (by simpa using hc)]; simp only [List.length_cons]; omega
    · rw [List.filter_cons_of_neg (by simpa using hc), List.filter_cons_of_pos (by simpa using hc)]; simp only [List.length_cons]; omega
theorem sumC_nonneg : ∀ {l : List Co}, (∀ o ∈ l, 0 ≤ o.z) → 0 ≤ sumC l
  | [], _ => Int.le_refl _
  | o :: l, h => by
    have h1 := h o (by simp)
    have h2 := sumC_nonneg (l := l) (fun x hx => h x (by simp [hx]))
    rw [sumC_cons]; omega
/-- By a later stage the buyer's costs are no greater. -/
theorem buy_later {c d : Int} (hcd : c ≤ d) : ∀ {l : List Co}, (∀ o ∈ l, 0 ≤ o.z) → sumC (buyL d l) ≤ sumC (buyL c l)
  | [], _ => Int.le_refl _
  | o :: l, h => by
    have h1 := h o (by simp)
    have h2 := buy_later hcd (l := l) (fun x hx => h x (by simp [hx]))
    unfold buyL at h2 ⊢
    by_cases hd : d ≤ o.s
    · rw [List.filter_cons_of_pos (by simpa using hd), List.filter_cons_of_pos (by simp; omega), sumC_cons, sumC_cons]; omega
    · rw [List.filter_cons_of_neg (by simpa using hd)]
      by_cases hc : c ≤ o.s
      · rw [List.filter_cons_of_pos (by simpa using hc), sumC_cons]; omega
      · rw [List.filter_cons_of_neg (by simpa using hc)]; exact h2
theorem buy_buy (c : Int) (l : List Co) : buyL c (buyL c l) = buyL c l := by
  unfold buyL; rw [List.filter_filter]; simp
theorem buy_app (c : Int) (a b : List Co) : buyL c (a ++ b) = buyL c a ++ buyL c b := by unfold buyL; simp
theorem buy_cut (c : Int) (l : List Co) (k : Nat) : sumC (buyL c l) = sumC (buyL c (l.take k)) + sumC (buyL c (l.drop k)) := by
  rw [← sumC_app, ← buy_app, List.take_append_drop]

/-- A part of two totals together is at most two units from both parts. -/
theorem split_adds {T1 T2 : Nat} {W o1 o2 o : List Nat} (h1 : IsSplit T1 W o1) (h2 : IsSplit T2 W o2) (h : IsSplit (T1 + T2) W o) (hS : 0 < W.sum) {i : Nat} (hi : i < W.length) :
    o.getD i 0 ≤ o1.getD i 0 + o2.getD i 0 + 2 ∧ o1.getD i 0 + o2.getD i 0 ≤ o.getD i 0 + 2 := by
  have n1 := split_near h1 hS hi
  have n2 := split_near h2 hS hi
  have n3 := split_near h hS hi
  have e1 := Nat.div_add_mod (T1 * W.getD i 0) W.sum
  have e2 := Nat.div_add_mod (T2 * W.getD i 0) W.sum
  have e3 := Nat.div_add_mod ((T1 + T2) * W.getD i 0) W.sum
  have m1 := Nat.mod_lt (T1 * W.getD i 0) hS
  have m2 := Nat.mod_lt (T2 * W.getD i 0) hS
  have m3 := Nat.mod_lt ((T1 + T2) * W.getD i 0) hS
  rw [Nat.add_mul] at e3 m3 n3
  generalize T1 * W.getD i 0 = A at *
  generalize T2 * W.getD i 0 = B at *
  generalize W.sum = S at *
  have k1 : A / S + B / S ≤ (A + B) / S := by
    rw [Nat.le_div_iff_mul_le hS, Nat.add_mul]
    have := Nat.div_mul_le_self A S
    have := Nat.div_mul_le_self B S
    omega
  have k2 : (A + B) / S ≤ A / S + B / S + 1 := by
    refine Nat.le_of_lt_succ ((Nat.div_lt_iff_lt_mul hS).2 ?_)
    have q1 : A < (A / S + 1) * S := by rw [Nat.add_mul, Nat.mul_comm]; omega
    have q2 : B < (B / S + 1) * S := by rw [Nat.add_mul, Nat.mul_comm]; omega
    have q3 : (A / S + B / S + 1).succ * S = (A / S + 1) * S + (B / S + 1) * S := by rw [← Nat.add_mul]; congr 1; omega
    omega
  omega
end Go.Proofs.YtfkkkebegkhdfaaDoor
