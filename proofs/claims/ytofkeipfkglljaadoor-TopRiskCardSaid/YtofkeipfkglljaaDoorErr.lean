/-
  The document's Error.
-/
import Derived.Test.YtofkeipfkglljaaDoorMost
namespace Go.Proofs.YtofkeipfkglljaaDoor
open Go Go.RowKit
set_option linter.unusedVariables false
set_option linter.unusedSimpArgs false

theorem isum_bd (M : Int) : ∀ l : List Int, (∀ x ∈ l, 0 ≤ x ∧ x ≤ M) → 0 ≤ l.sum ∧ l.sum ≤ l.length * M
  | [], _ => by simp
  | a :: l, hl => by
    obtain ⟨h1, h2⟩ := isum_bd M l (fun x hx => hl x (List.mem_cons_of_mem _ hx))
    have h3 := hl a (by simp)
    rw [List.sum_cons, List.length_cons]
    have e : ((l.length + 1 : Nat) : Int) * M = (l.length : Int) * M + M := by rw [Int.natCast_add, Int.add_mul]; simp
    rw [e]; omega
theorem isum_zero : ∀ l : List Int, (∀ x ∈ l, 0 ≤ x) → (l.sum = 0 ↔ l.any is_pos = false)
  | [], _ => by simp
  | a :: l, hl => by
    have ih := isum_zero l (fun x hx => hl x (List.mem_cons_of_mem _ hx))
    have h1 := hl a (by simp)
    have h2 : 0 ≤ l.sum := by
      have : ∀ m : List Int, (∀ x ∈ m, 0 ≤ x) → 0 ≤ m.sum := fun m hm => by
        induction m with
        | nil => simp
        | cons b m ih => rw [List.sum_cons]; have := hm b (by simp); have := ih (fun x hx => hm x (List.mem_cons_of_mem _ hx)); omega
      exact this l (fun x hx => hl x (List.mem_cons_of_mem _ hx))
    rw [List.sum_cons, List.any_cons]
    by_cases h : 0 < a
    · simp [is_pos, h]; omega
    · have : a = 0 := by omega
      subst this
      simp [is_pos, ih]

end Go.Proofs.YtofkeipfkglljaaDoor
