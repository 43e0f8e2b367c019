/-
  A slice of ints within a struct that came in.
-/
import Derived.Test.YtofkeipfkglljaaDoorKit
import Derived.Test.YtofkeipfkglljaaDoorRows
namespace Go.Proofs.YtofkeipfkglljaaDoor
open Go Go.RowKit
set_option linter.unusedVariables false
set_option linter.unusedSimpArgs false

theorem cellsIntT : Tryd.prog.cellsOf 3 = 1 := by kernel_rfl
theorem ints_trod {H : Type} {enc : TypeId × Value → H} {W : World} {spare : Nat → Bool} {held : Bool} {fuel : Nat} {v : Value} {x : DataW H × List MemPlace}
    (hf : DataW.trod enc Tryd.prog W 0 spare held fuel 24 [v] = some x) : ∃ zs, Ints W v zs ∧ ∀ z ∈ zs, (Lit.int .i64 z).wf = true := by
  rcases DataW.trod_slice Tryd.underlying24 hf with ⟨hcs, _⟩ | ⟨a, len', cap', elems, rest, n, rfl, hcs, hx, _, hl, hm, hel2, hcells, _⟩
  · simp at hcs
    subst hcs
    exact ⟨[], Row.nil _ _, by simp⟩
  · simp at hcs
    subst hcs
    rw [cellsIntT] at hcells
    obtain ⟨xs, h1, h2, h3⟩ := row_of_each (f := fun z : Int => [Value.int .i64 z]) (p := fun z => (Lit.int .i64 z).wf = true) (sz := 1) (fun _ => rfl) hl hm (W := W) (a := a) (fun i hi => by
      have := hcells i hi
      rw [List.getElem?_eq_getElem (by omega)] at this
      obtain ⟨cs1, hc1, ht⟩ := Option.bind_eq_some_iff.1 this
      obtain ⟨y, rfl, _, hw⟩ := DataW.trod_int Tryd.underlying3 ht
      exact ⟨y, hc1, hw⟩)
    subst h1
    exact ⟨xs, by unfold Ints; rw [List.map_eq_flatMap]; exact h3, h2⟩
end Go.Proofs.YtofkeipfkglljaaDoor
