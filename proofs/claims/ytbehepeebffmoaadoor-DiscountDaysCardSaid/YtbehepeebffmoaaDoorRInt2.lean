/-
  The document's Interest.
-/
import Derived.Test.YtbehepeebffmoaaDoorRInt
import Derived.Deep.DeepCutAuto
import Derived.Deep.CutBlock
import Derived.StillTailTactics
import Derived.Deep.Light
namespace Go.Proofs.YtbehepeebffmoaaDoor
open Go Go.RowKit
set_option linter.unusedVariables false
set_option linter.unusedSimpArgs false

/-- The document's two rows: above and below the line. -/
structure Fs (pa pb : Nat) (w : World) (s : List Nat × List Nat) : Prop where
  a : w.heap[pa]? = some (.cells (numA s.1) 2 (0, 0))
  b : w.heap[pb]? = some (.cells (numA s.2) 2 (0, 0))
theorem Fs.drewN {pa pb : Nat} {w : World} {s : List Nat × List Nat} (h : Fs pa pb w s) (n : Nat) : Fs pa pb (w.drewN n) s := ⟨h.a, h.b⟩
theorem Fs.cells {pa pb : Nat} {w : World} {s : List Nat × List Nat} (h : Fs pa pb w s) {i j : Nat} (hi : i < s.1.length) (hj : j < s.2.length) :
    w.cell? ⟨pa, i, none⟩ = some (.int .i64 ((s.1.getD i 0 : Nat) : Int)) ∧ w.cell? ⟨pb, j, none⟩ = some (.int .i64 ((s.2.getD j 0 : Nat) : Int)) ∧ w.frozen? ⟨pa, i, none⟩ = false ∧ w.frozen? ⟨pb, j, none⟩ = false := by
  refine ⟨?_, ?_, ?_, ?_⟩
  · simp [World.cell?, h.a, numA, hi]
  · simp [World.cell?, h.b, numA, hj]
  · simp [World.frozen?, h.a]
  · simp [World.frozen?, h.b]
theorem Fs.set {pa pb : Nat} {w : World} {s : List Nat × List Nat} (h : Fs pa pb w s) (hne : pa ≠ pb) (i x j y : Nat) : Fs pa pb ((w.setCell ⟨pa, i, none⟩ (.int .i64 (x : Int))).setCell ⟨pb, j, none⟩ (.int .i64 (y : Int))) (s.1.set i x, s.2.set j y) := by
  constructor
  · rw [Below.heap_setCell _ _ _ _ hne, heap_setA h.a, numA_set]
  · have hb : (w.setCell ⟨pa, i, none⟩ (.int .i64 (x : Int))).heap[pb]? = some (.cells (numA s.2) 2 (0, 0)) := by rw [Below.heap_setCell _ _ _ _ (Ne.symm hne)]; exact h.b
    rw [heap_setA hb, numA_set]
theorem two_rows (w : World) (x y : Array Value) (t : TypeId) : (((w.alloc (.cells x t)).alloc (.cells y t)).drew).heap[w.heap.size]? = some (.cells x t (0, 0)) ∧ (((w.alloc (.cells x t)).alloc (.cells y t)).drew).heap[w.heap.size + 1]? = some (.cells y t (0, 0)) := by
  constructor
  · show ((w.alloc (.cells x t)).alloc (.cells y t)).heap[w.heap.size]? = _
    rw [((Below.refl (w.alloc (.cells x t)).heap.size _).alloc (Nat.le_refl _) _).block _ (by simp)]
    exact heap_alloc_new _ _
  · have := heap_alloc_new (w.alloc (.cells x t)) (.cells y t)
    show ((w.alloc (.cells x t)).alloc (.cells y t)).heap[w.heap.size + 1]? = _
    simpa using this

theorem set_same {l : List Nat} {i : Nat} (hi : i < l.length) : l.set i (l.getD i 0) = l := by
  apply List.ext_getElem (by simp)
  intro j h1 h2
  rw [List.getElem_set]
  split
  · rename_i e; subst e; simp [hi]
  · rfl

theorem Fs.keep {pa pb pc : Nat} {w : World} {s : List Nat × List Nat} (h : Fs pa pb w s) (h1 : ¬ pa = pc) (h2 : ¬ pb = pc) (i : Nat) (u : Value) : Fs pa pb (w.setCell ⟨pc, i, none⟩ u) s :=
  ⟨by rw [Below.heap_setCell _ _ _ _ h1]; exact h.a, by rw [Below.heap_setCell _ _ _ _ h2]; exact h.b⟩
theorem low_zero {P Q : Nat} (hQ : 0 < Q) (h : P / Nat.gcd P Q = 0) : Q / Nat.gcd P Q = 1 := by
  have h0 : P = 0 := by
    rcases Nat.eq_zero_or_pos P with h1 | h1
    · exact h1
    · have := Nat.div_pos (Nat.gcd_le_left Q h1) (Nat.gcd_pos_of_pos_left Q h1)
      omega
  subst h0
  rw [Nat.gcd_zero_left]
  exact Nat.div_self hQ
def prod (l : List Nat) : Nat := l.foldl (· * ·) 1

end Go.Proofs.YtbehepeebffmoaaDoor
