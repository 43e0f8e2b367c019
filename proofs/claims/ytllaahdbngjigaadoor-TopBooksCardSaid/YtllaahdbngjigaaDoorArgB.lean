/-
  A slice of bools that came in.
-/
import Derived.Test.YtllaahdbngjigaaDoorKit
import Derived.Test.YtllaahdbngjigaaDoorRows
namespace Go.Proofs.YtllaahdbngjigaaDoor
open Go Go.RowKit
set_option linter.unusedVariables false
set_option linter.unusedSimpArgs false

def Bools (w : World) (v : Value) (bs : List Bool) : Prop := Row w v 1 bs.length (bs.map Value.bool)
theorem Bools.below {w w' : World} {v : Value} {bs : List Bool} (h : Bools w v bs) (hb : Below w.heap.size w w') : Bools w' v bs := Row.below h hb
theorem Bools.at {w : World} {v : Value} {bs : List Bool} (h : Bools w v bs) (hp : 0 < bs.length) :
    ∃ b off cap, v = .slice (some ⟨b, off, none⟩) bs.length cap ∧ bs.length ≤ cap ∧ cap ≤ maxLen ∧ b < w.heap.size ∧ ∀ k (hk : k < bs.length), w.cell? ⟨b, off + k, none⟩ = some (.bool bs[k]) := by
  obtain ⟨b, off, cap, h1, h2, h3, h4, h5⟩ := Row.at h (by simpa using hp)
  exact ⟨b, off, cap, h1, h2, h3, h4, fun k hk => by have := h5 k (by simpa using hk); rw [this]; simp⟩
theorem Bools.shape {w : World} {v : Value} {bs : List Bool} (h : Bools w v bs) : ∃ ao cap, v = .slice ao bs.length cap ∧ bs.length ≤ cap ∧ cap ≤ maxLen ∧ (ao = none → cap = 0) := by
  obtain ⟨_, ao, cap, h1, h2, h3, h4, _⟩ := h
  exact ⟨ao, cap, h1, h2, h3, h4⟩

theorem cellsBool : Tryd.prog.cellsOf 4 = 1 := by kernel_rfl
def Is45 (w : World) (v : Value) : Prop := ∃ bs, Bools w v bs
set_option maxRecDepth 20000 in
theorem open45 {H : Type} {enc : TypeId × Value → H} {W : World} {base : Nat} {v : Value} {d : DataW H} {p : List MemPlace} (hval : Value.okWide Tryd.prog W .any base 45 v)
    (h : DataW.Trod enc Tryd.prog W 0 (fun _ => true) true 45 v d p) : Is45 W v := by
  obtain ⟨a0, len, cap, rfl⟩ := WideShapes.okWide_slice Tryd.underlying45 hval
  obtain ⟨fuel, hf⟩ := h
  rcases DataW.trod_slice Tryd.underlying45 hf with ⟨hcs, _⟩ | ⟨a, len', cap', elems, rest, n, rfl, hcs, hx, _, hl, hm, hel2, hcells, _⟩
  · simp [Value.cells] at hcs
    obtain ⟨rfl, rfl, rfl⟩ := hcs
    exact ⟨[], Row.nil _ _⟩
  · simp [Value.cells] at hcs
    obtain ⟨rfl, rfl, rfl⟩ := hcs
    rw [cellsBool] at hcells
    obtain ⟨xs, h1, h2, h3⟩ := row_of_each (f := fun z : Bool => [Value.bool z]) (p := fun _ => True) (sz := 1) (fun _ => rfl) hl hm (W := W) (a := a) (fun i hi => by
      have := hcells i hi
      rw [List.getElem?_eq_getElem (by omega)] at this
      obtain ⟨cs1, hc1, ht⟩ := Option.bind_eq_some_iff.1 this
      obtain ⟨y, rfl, _⟩ := DataW.trod_bool Tryd.underlying4 ht
      exact ⟨y, hc1, trivial⟩)
    subst h1
    exact ⟨xs, by unfold Bools; rw [List.map_eq_flatMap]; exact h3⟩
end Go.Proofs.YtllaahdbngjigaaDoor
