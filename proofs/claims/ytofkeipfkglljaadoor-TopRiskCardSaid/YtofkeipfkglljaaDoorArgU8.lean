/-
  A slice of uint8s that came in.
-/
import Derived.Test.YtofkeipfkglljaaDoorKit
import Derived.Test.YtofkeipfkglljaaDoorRows
namespace Go.Proofs.YtofkeipfkglljaaDoor
open Go Go.RowKit
set_option linter.unusedVariables false
set_option linter.unusedSimpArgs false

theorem cellsU8 : Tryd.prog.cellsOf 5 = 1 := by kernel_rfl
/-- A slice of uint8s. -/
def U8s (w : World) (v : Value) (zs : List Int) : Prop := Row w v 1 zs.length (zs.map (Value.int .u8))
theorem U8s.below {w w' : World} {v : Value} {zs : List Int} (h : U8s w v zs) (hb : Below w.heap.size w w') : U8s w' v zs := Row.below h hb
theorem U8s.shape {w : World} {v : Value} {zs : List Int} (h : U8s w v zs) : ∃ ao cap, v = .slice ao zs.length cap ∧ zs.length ≤ cap ∧ cap ≤ maxLen ∧ (ao = none → cap = 0) := by
  obtain ⟨_, ao, cap, h1, h2, h3, h4, _⟩ := h
  exact ⟨ao, cap, h1, h2, h3, h4⟩
theorem U8s.get {w : World} {ao : Option Addr} {n cap : Nat} {zs : List Int} (h : U8s w (.slice ao n cap) zs) (hn : n = zs.length) (hp : 0 < n) : ∃ b off, ao = some ⟨b, off, none⟩ ∧ b < w.heap.size ∧ ∀ k, k < n → w.cell? ⟨b, off + k, none⟩ = some (.int .u8 (zs.getD k 0)) := by
  obtain ⟨b, off, cap', e, _, _, h4, h5⟩ := Row.at h (by simp; omega)
  cases e
  refine ⟨b, off, rfl, h4, fun k hk => ?_⟩
  have := h5 k (by simp; omega)
  rw [this, List.getD_eq_getElem?_getD, List.getElem?_eq_getElem (by omega)]
  simp
def Is22 (w : World) (v : Value) : Prop := ∃ zs, U8s w v zs ∧ ∀ z ∈ zs, (Lit.int .u8 z).wf = true
set_option maxRecDepth 20000 in
theorem open22 {H : Type} {enc : TypeId × Value → H} {W : World} {base : Nat} {v : Value} {d : DataW H} {p : List MemPlace} (hval : Value.okWide Tryd.prog W .any base 22 v)
    (h : DataW.Trod enc Tryd.prog W 0 (fun _ => true) true 22 v d p) : Is22 W v := by
  obtain ⟨a0, len, cap, rfl⟩ := WideShapes.okWide_slice Tryd.underlying22 hval
  obtain ⟨fuel, hf⟩ := h
  rcases DataW.trod_slice Tryd.underlying22 hf with ⟨hcs, _⟩ | ⟨a, len', cap', elems, rest, n, rfl, hcs, hx, _, hl, hm, hel2, hcells, _⟩
  · simp [Value.cells] at hcs
    obtain ⟨rfl, rfl, rfl⟩ := hcs
    exact ⟨[], Row.nil _ _, by simp⟩
  · simp [Value.cells] at hcs
    obtain ⟨rfl, rfl, rfl⟩ := hcs
    rw [cellsU8] at hcells
    obtain ⟨xs, h1, h2, h3⟩ := row_of_each (f := fun z : Int => [Value.int .u8 z]) (p := fun z => (Lit.int .u8 z).wf = true) (sz := 1) (fun _ => rfl) hl hm (W := W) (a := a) (fun i hi => by
      have := hcells i hi
      rw [List.getElem?_eq_getElem (by omega)] at this
      obtain ⟨cs1, hc1, ht⟩ := Option.bind_eq_some_iff.1 this
      obtain ⟨y, rfl, _, hw⟩ := DataW.trod_int Tryd.underlying5 ht
      exact ⟨y, hc1, hw⟩)
    subst h1
    exact ⟨xs, by unfold U8s; rw [List.map_eq_flatMap]; exact h3, h2⟩
end Go.Proofs.YtofkeipfkglljaaDoor
