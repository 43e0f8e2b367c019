/-
  Go's stable sort, of places by their rests: what lies in memory; the comparison; exchanges.
-/
import Derived.Test.YtofkeipfkglljaaDoorRows
import Derived.Test.YtofkeipfkglljaaDoorSep
import Derived.Test.YtofkeipfkglljaaDoorSortP
namespace Go.Proofs.YtofkeipfkglljaaDoor
open Go Go.RowKit
set_option linter.unusedVariables false
set_option linter.unusedSimpArgs false

def nums (xs : List Nat) : Array Value := (xs.map fun x : Nat => Value.int .i64 (x : Int)).toArray
def rnums (xs : List Nat) : Array Value := (xs.map fun x : Nat => Value.int .u64 (x : Int)).toArray
def keyOf (rs : List Nat) (x : Nat) : Nat := rs.getD x 0

/-- Block bo alone is written. -/
structure Mvd (bo : Nat) (w w' : World) : Prop where
  touch : Touch (fun k => k = bo) w w'
  size : w'.heap.size = w.heap.size
theorem Mvd.refl (bo : Nat) (w : World) : Mvd bo w w := ⟨Touch.refl _ _, rfl⟩
theorem Mvd.trans {bo : Nat} {a b c : World} (h : Mvd bo a b) (k : Mvd bo b c) : Mvd bo a c := ⟨h.touch.trans k.touch (fun _ e => .inl e), k.size.trans h.size⟩
theorem Mvd.drewN {bo : Nat} {a b : World} (h : Mvd bo a b) (n : Nat) : Mvd bo a (b.drewN n) := ⟨h.touch.drewN n, h.size⟩
theorem Mvd.drew {bo : Nat} {a b : World} (h : Mvd bo a b) : Mvd bo a b.drew := ⟨h.touch.drew, h.size⟩
theorem Mvd.set {bo : Nat} {a b : World} (h : Mvd bo a b) (i : Nat) (u : Value) : Mvd bo a (b.setCell ⟨bo, i, none⟩ u) := ⟨h.touch.setCell (.inl rfl) u, by rw [← h.size]; simp [World.setCell]⟩

theorem heap_set {w : World} {b i : Nat} {cs : Array Value} {e : TypeId} {u : Value} (h : w.heap[b]? = some (.cells cs e (0, 0))) : (w.setCell ⟨b, i, none⟩ u).heap[b]? = some (.cells (cs.setIfInBounds i u) e (0, 0)) := by
  simp only [World.setCell, Array.getElem?_modify, if_pos, h]
  rfl
theorem nums_set (xs : List Nat) (i y : Nat) : (nums xs).setIfInBounds i (.int .i64 (y : Int)) = nums (xs.set i y) := by
  unfold nums; simp [List.map_set]

section
variable {bo bc br n : Nat} {rs xs : List Nat} {w w' : World}
end

/-- What the comparison tells. -/
def cv (rs : List Nat) (x y : Nat) : Int := if keyOf rs y < keyOf rs x then -1 else if keyOf rs x < keyOf rs y then 1 else 0

end Go.Proofs.YtofkeipfkglljaaDoor
