/-
  A slice of int64s that came in.
-/
import Derived.Test.YtllaahdbngjigaaDoorKit
import Derived.Test.YtllaahdbngjigaaDoorRows
namespace Go.Proofs.YtllaahdbngjigaaDoor
open Go Go.RowKit
set_option linter.unusedVariables false
set_option linter.unusedSimpArgs false

theorem cellsInt64 : Tryd.prog.cellsOf 2 = 1 := by kernel_rfl
def Is67 (w : World) (v : Value) : Prop := ∃ zs, Ints w v zs ∧ ∀ z ∈ zs, (Lit.int .i64 z).wf = true
set_option maxRecDepth 20000 in
theorem open67 {H : Type} {enc : TypeId × Value → H} {W : World} {base : Nat} {v : Value} {d : DataW H} {p : List MemPlace} (hval : Value.okWide Tryd.prog W .any base 67 v)
    (h : DataW.Trod enc Tryd.prog W 0 (fun _ => true) true 67 v d p) : Is67 W v := by
  obtain ⟨a0, len, cap, rfl⟩ := WideShapes.okWide_slice Tryd.underlying67 hval
  obtain ⟨fuel, hf⟩ := h
  rcases DataW.trod_slice Tryd.underlying67 hf with ⟨hcs, _⟩ | ⟨a, len', cap', elems, rest, n, rfl, hcs, hx, _, hl, hm, hel2, hcells, _⟩
  · simp [Value.cells] at hcs
    obtain ⟨rfl, rfl, rfl⟩ := hcs
    exact ⟨[], Row.nil _ _, by simp⟩
  · simp [Value.cells] at hcs
    obtain ⟨rfl, rfl, rfl⟩ := hcs
    rw [cellsInt64] at hcells
    obtain ⟨xs, h1, h2, h3⟩ := row_of_each (f := fun z : Int => [Value.int .i64 z]) (p := fun z => (Lit.int .i64 z).wf = true) (sz := 1) (fun _ => rfl) hl hm (W := W) (a := a) (fun i hi => by
      have := hcells i hi
      rw [List.getElem?_eq_getElem (by omega)] at this
      obtain ⟨cs1, hc1, ht⟩ := Option.bind_eq_some_iff.1 this
      obtain ⟨y, rfl, _, hw⟩ := DataW.trod_int Tryd.underlying2 ht
      exact ⟨y, hc1, hw⟩)
    subst h1
    exact ⟨xs, by unfold Ints; rw [List.map_eq_flatMap]; exact h3, h2⟩
end Go.Proofs.YtllaahdbngjigaaDoor
