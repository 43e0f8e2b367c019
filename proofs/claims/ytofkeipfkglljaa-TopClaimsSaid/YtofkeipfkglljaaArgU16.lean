/-
  A slice of uint16s that came in.
-/
import Derived.Test.YtofkeipfkglljaaKit
import Derived.Test.YtofkeipfkglljaaRows
namespace Go.Proofs.Ytofkeipfkglljaa
open Go Go.RowKit
set_option linter.unusedVariables false
set_option linter.unusedSimpArgs false

theorem cellsU16 : Try.prog.cellsOf 37 = 1 := by kernel_rfl
/-- A slice of uint16s. -/
def U16s (w : World) (v : Value) (zs : List Int) : Prop := Row w v 1 zs.length (zs.map (Value.int .u16))
theorem U16s.below {w w' : World} {v : Value} {zs : List Int} (h : U16s w v zs) (hb : Below w.heap.size w w') : U16s w' v zs := Row.below h hb
theorem U16s.shape {w : World} {v : Value} {zs : List Int} (h : U16s w v zs) : ∃ ao cap, v = .slice ao zs.length cap ∧ zs.length ≤ cap ∧ cap ≤ maxLen ∧ (ao = none → cap = 0) := by
  obtain ⟨_, ao, cap, h1, h2, h3, h4, _⟩ := h
  exact ⟨ao, cap, h1, h2, h3, h4⟩
theorem U16s.get {w : World} {ao : Option Addr} {n cap : Nat} {zs : List Int} (h : U16s w (.slice ao n cap) zs) (hn : n = zs.length) (hp : 0 < n) : ∃ b off, ao = some ⟨b, off, none⟩ ∧ b < w.heap.size ∧ ∀ k, k < n → w.cell? ⟨b, off + k, none⟩ = some (.int .u16 (zs.getD k 0)) := by
  obtain ⟨b, off, cap', e, _, _, h4, h5⟩ := Row.at h (by simp; omega)
  cases e
  refine ⟨b, off, rfl, h4, fun k hk => ?_⟩
  have := h5 k (by simp; omega)
  rw [this, List.getD_eq_getElem?_getD, List.getElem?_eq_getElem (by omega)]
  simp
def Is24 (w : World) (v : Value) : Prop := ∃ zs, U16s w v zs ∧ ∀ z ∈ zs, (Lit.int .u16 z).wf = true
set_option maxRecDepth 20000 in
theorem open24 {H : Type} {enc : TypeId × Value → H} {W : World} {base : Nat} {v : Value} {d : DataW H} {p : List MemPlace} (hval : Value.okWide Try.prog W .any base 24 v)
    (h : DataW.Trod enc Try.prog W 0 (fun _ => true) true 24 v d p) : Is24 W v := by
  obtain ⟨a0, len, cap, rfl⟩ := WideShapes.okWide_slice Try.underlying24 hval
  obtain ⟨fuel, hf⟩ := h
  rcases DataW.trod_slice Try.underlying24 hf with ⟨hcs, _⟩ | ⟨a, len', cap', elems, rest, n, rfl, hcs, hx, _, hl, hm, hel2, hcells, _⟩
  · simp [Value.cells] at hcs
    obtain ⟨rfl, rfl, rfl⟩ := hcs
    exact ⟨[], Row.nil _ _, by simp⟩
  · simp [Value.cells] at hcs
    obtain ⟨rfl, rfl, rfl⟩ := hcs
    rw [cellsU16] at hcells
    obtain ⟨xs, h1, h2, h3⟩ := row_of_each (f := fun z : Int => [Value.int .u16 z]) (p := fun z => (Lit.int .u16 z).wf = true) (sz := 1) (fun _ => rfl) hl hm (W := W) (a := a) (fun i hi => by
      have := hcells i hi
      rw [List.getElem?_eq_getElem (by omega)] at this
      obtain ⟨cs1, hc1, ht⟩ := Option.bind_eq_some_iff.1 this
      obtain ⟨y, rfl, _, hw⟩ := DataW.trod_int Try.underlying37 ht
      exact ⟨y, hc1, hw⟩)
    subst h1
    exact ⟨xs, by unfold U16s; rw [List.map_eq_flatMap]; exact h3, h2⟩
end Go.Proofs.Ytofkeipfkglljaa
