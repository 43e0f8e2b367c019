/-
  The document's Same; the statements' example; share.Most.
-/
import Derived.Test.YtllaahdbngjigaaDoorSplit
import Derived.Test.YtllaahdbngjigaaDoorArgI64
namespace Go.Proofs.YtllaahdbngjigaaDoor
open Go Go.RowKit
set_option linter.unusedVariables false
set_option linter.unusedSimpArgs false

theorem bt {W w w' : World} (h1 : Below W.heap.size W w) (h2 : Below w.heap.size w w') : Below W.heap.size W w' := h1.trans (h2.mono h1.size)
theorem Ints.drewN {w : World} {v : Value} {zs : List Int} (h : Ints w v zs) (n : Nat) : Ints (w.drewN n) v zs := Row.drewN h n
theorem Parts.ints {w0 w : World} {v : Value} {out : List Nat} (h : Parts w0 w v out) (hl : out.length ≤ 4096) : Ints w v (natI out) := by
  obtain ⟨b, rfl, hb, _⟩ := h
  have e : (natI out).map (Value.int .i64) = (nums out).toList := by simp [natI, nums, List.map_map, Function.comp_def]
  refine ⟨by simp [natI], some ⟨b, 0, none⟩, out.length, by simp [natI], by simp [natI], by unfold maxLen; omega, (fun h => by cases h), fun a ha j u hu => ?_⟩
  cases ha
  rw [add_in]
  rw [e] at hu
  have : (nums out)[j]? = some u := by simpa using hu
  simp [World.cell?, hb, this]

theorem take_eq_step {xs ys : List Int} {k : Nat} (h1 : k < xs.length) (h2 : k < ys.length) (h : xs.take k = ys.take k) (e : xs[k] = ys[k]) : xs.take (k + 1) = ys.take (k + 1) := by
  rw [List.take_succ_eq_append_getElem h1, List.take_succ_eq_append_getElem h2, h, e]

theorem lit_ints (w : World) (cs : List Nat) (b n : Nat) (hb : b = w.heap.size) (hn : n = cs.length) (hl : cs.length ≤ 4096) : Ints (w.alloc (.cells (nums cs) 2)) (.slice (some ⟨b, 0, none⟩) n n) (natI cs) := by
  subst hb hn
  exact Parts.ints (w0 := w) ⟨w.heap.size, rfl, heap_alloc_new _ _, Nat.le_refl _⟩ hl
theorem ex1 : ∀ out, IsSplit 10 [1, 1, 1] out → out = [4, 3, 3] := fun out h => h.unique ⟨[0, 1, 2], by decide, by unfold Srtd Lx; decide, by decide⟩
theorem ex2 : ∀ out, IsSplit 7 [5, 0, 5] out → out = [4, 0, 3] := fun out h => h.unique ⟨[0, 2, 1], by decide, by unfold Srtd Lx; decide, by decide⟩

end Go.Proofs.YtllaahdbngjigaaDoor
