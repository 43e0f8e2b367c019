/-
  A slice of strings that came in.
-/
import Derived.Test.YtllaahdbngjigaaDoorKit
import Derived.Test.YtllaahdbngjigaaDoorRows
namespace Go.Proofs.YtllaahdbngjigaaDoor
open Go Go.RowKit
set_option linter.unusedVariables false
set_option linter.unusedSimpArgs false

/-- A slice of strings. -/
def Strs (w : World) (v : Value) (ss : List ByteArray) : Prop := Row w v 1 ss.length (ss.map Value.string)
theorem Strs.below {w w' : World} {v : Value} {ss : List ByteArray} (h : Strs w v ss) (hb : Below w.heap.size w w') : Strs w' v ss := Row.below h hb
theorem Strs.at {w : World} {v : Value} {zs : List ByteArray} (h : Strs w v zs) (hp : 0 < zs.length) :
    ∃ b off cap, v = .slice (some ⟨b, off, none⟩) zs.length cap ∧ zs.length ≤ cap ∧ cap ≤ maxLen ∧ b < w.heap.size ∧ ∀ k (hk : k < zs.length), w.cell? ⟨b, off + k, none⟩ = some (.string zs[k]) := by
  obtain ⟨b, off, cap, h1, h2, h3, h4, h5⟩ := Row.at h (by simpa using hp)
  exact ⟨b, off, cap, h1, h2, h3, h4, fun k hk => by have := h5 k (by simpa using hk); rw [this]; simp⟩
theorem Strs.shape {w : World} {v : Value} {zs : List ByteArray} (h : Strs w v zs) : ∃ ao cap, v = .slice ao zs.length cap ∧ zs.length ≤ cap ∧ cap ≤ maxLen ∧ (ao = none → cap = 0) := by
  obtain ⟨_, ao, cap, h1, h2, h3, h4, _⟩ := h
  exact ⟨ao, cap, h1, h2, h3, h4⟩

theorem cellsStr : Tryd.prog.cellsOf 9 = 1 := by kernel_rfl
def Is44 (w : World) (v : Value) : Prop := ∃ ss, Strs w v ss ∧ ∀ s ∈ ss, s.size ≤ maxLen
set_option maxRecDepth 20000 in
theorem open44 {H : Type} {enc : TypeId × Value → H} {W : World} {base : Nat} {v : Value} {d : DataW H} {p : List MemPlace} (hval : Value.okWide Tryd.prog W .any base 44 v)
    (h : DataW.Trod enc Tryd.prog W 0 (fun _ => true) true 44 v d p) : Is44 W v := by
  obtain ⟨a0, len, cap, rfl⟩ := WideShapes.okWide_slice Tryd.underlying44 hval
  obtain ⟨fuel, hf⟩ := h
  rcases DataW.trod_slice Tryd.underlying44 hf with ⟨hcs, _⟩ | ⟨a, len', cap', elems, rest, n, rfl, hcs, hx, _, hl, hm, hel2, hcells, _⟩
  · simp [Value.cells] at hcs
    obtain ⟨rfl, rfl, rfl⟩ := hcs
    exact ⟨[], Row.nil _ _, by simp⟩
  · simp [Value.cells] at hcs
    obtain ⟨rfl, rfl, rfl⟩ := hcs
    rw [cellsStr] at hcells
    obtain ⟨xs, h1, h2, h3⟩ := row_of_each (f := fun s : ByteArray => [Value.string s]) (p := fun s => s.size ≤ maxLen) (sz := 1) (fun _ => rfl) hl hm (W := W) (a := a) (fun i hi => by
      have := hcells i hi
      rw [List.getElem?_eq_getElem (by omega)] at this
      obtain ⟨cs1, hc1, ht⟩ := Option.bind_eq_some_iff.1 this
      obtain ⟨y, rfl, _, hw⟩ := DataW.trod_string Tryd.underlying9 ht
      exact ⟨y, hc1, hw⟩)
    subst h1
    exact ⟨xs, by unfold Strs; rw [List.map_eq_flatMap]; exact h3, h2⟩
end Go.Proofs.YtllaahdbngjigaaDoor
