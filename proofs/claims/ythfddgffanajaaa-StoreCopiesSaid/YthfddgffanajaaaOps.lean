/-
  A slice of calls that came in.
-/
import Derived.Test.YthfddgffanajaaaFld
import Derived.Test.YthfddgffanajaaaDo
namespace Go.Proofs.Ythfddgffanajaaa
open Go Go.RowKit Go.Deep
set_option linter.unusedVariables false
set_option linter.unusedSimpArgs false

structure OpV where
  K : Int
  N : Int
  t : ByteArray
instance : Inhabited OpV := ⟨⟨0, 0, ⟨#[]⟩⟩⟩
def OpV.cells (o : OpV) : List Value := [.int .i64 o.K, .int .i64 o.N, .string o.t]
def Ops (w : World) (v : Value) (l : List OpV) : Prop := Row w v 3 l.length (l.flatMap OpV.cells)
theorem Ops.below {w w' : World} {v : Value} {l : List OpV} (h : Ops w v l) (hb : Below w.heap.size w w') : Ops w' v l := Row.below h hb
theorem Ops.shape {w : World} {v : Value} {l : List OpV} (h : Ops w v l) : ∃ ao cap, v = .slice ao l.length cap ∧ l.length ≤ cap ∧ cap ≤ maxLen ∧ (ao = none → cap = 0) := by
  obtain ⟨_, ao, cap, h1, h2, h3, h4, _⟩ := h
  exact ⟨ao, cap, h1, h2, h3, h4⟩
theorem Ops.at {w : World} {v : Value} {l : List OpV} (h : Ops w v l) (hp : 0 < l.length) :
    ∃ b off cap, v = .slice (some ⟨b, off, none⟩) l.length cap ∧ l.length ≤ cap ∧ cap ≤ maxLen ∧ b < w.heap.size ∧ ∀ k (hk : k < l.length),
      w.cell? ⟨b, off + k * 3, none⟩ = some (.int .i64 l[k].K) ∧ w.cell? ⟨b, off + k * 3 + 1, none⟩ = some (.int .i64 l[k].N) ∧ w.cell? ⟨b, off + k * 3 + 2, none⟩ = some (.string l[k].t) := by
  have hl : (l.flatMap OpV.cells).length = l.length * 3 := flat_len (f := OpV.cells) (sz := 3) (fun _ => rfl) l
  obtain ⟨b, off, cap, h1, h2, h3, h4, h5⟩ := Row.at h (by omega)
  refine ⟨b, off, cap, h1, h2, h3, h4, fun k hk => ?_⟩
  have g : ∀ j, j < 3 → w.cell? ⟨b, off + (k * 3 + j), none⟩ = (OpV.cells l[k])[j]? := fun j hj => by
    have e := flat_get (f := OpV.cells) (sz := 3) (fun _ => rfl) l k j hk hj
    rw [← e, h5 (k * 3 + j) (by rw [hl]; omega), List.getElem?_eq_getElem]
  refine ⟨by have := g 0 (by omega); simpa [OpV.cells] using this, ?_, ?_⟩
  · rw [Nat.add_assoc]; have := g 1 (by omega); simpa [OpV.cells] using this
  · rw [Nat.add_assoc]; have := g 2 (by omega); simpa [OpV.cells] using this

theorem cellsOp : Try.prog.cellsOf 47 = 3 := by kernel_rfl
def OpV.wf (o : OpV) : Prop := o.N ≤ 9223372036854775807 ∧ o.t.size ≤ maxLen
def Is39 (w : World) (v : Value) : Prop := ∃ l, Ops w v l ∧ ∀ o ∈ l, o.wf
theorem open39 {H : Type} {enc : TypeId × Value → H} {W : World} {base : Nat} {v : Value} {d : DataW H} {p : List MemPlace} (hval : Value.okWide Try.prog W .any base 39 v)
    (h : DataW.Trod enc Try.prog W 0 (fun _ => true) true 39 v d p) : Is39 W v := by
  obtain ⟨a0, len, cap, rfl⟩ := WideShapes.okWide_slice Try.underlying39 hval
  obtain ⟨fuel, hf⟩ := h
  rcases DataW.trod_slice Try.underlying39 hf with ⟨hcs, _⟩ | ⟨a, len', cap', elems, rest, n, rfl, hcs, hx, _, hl, hm, hel2, hcells, _⟩
  · simp [Value.cells] at hcs
    obtain ⟨rfl, rfl, rfl⟩ := hcs
    exact ⟨[], Row.nil _ _, by simp⟩
  · simp [Value.cells] at hcs
    obtain ⟨rfl, rfl, rfl⟩ := hcs
    rw [cellsOp] at hcells
    obtain ⟨xs, h1, h2, h3⟩ := row_of_each (f := OpV.cells) (p := OpV.wf) (sz := 3) (fun _ => rfl) hl hm (W := W) (a := a) (fun i hi => by
      have := hcells i hi
      rw [List.getElem?_eq_getElem (by omega)] at this
      obtain ⟨cs1, hc1, ht⟩ := Option.bind_eq_some_iff.1 this
      obtain ⟨hlen, m, hfs⟩ := fields_at Try.underlying47 (by kernel_rfl) (by kernel_rfl) ht
      obtain ⟨v0, y0, e0, t0⟩ := hfs 0 _ rfl
      obtain ⟨v1, y1, e1, t1⟩ := hfs 1 _ rfl
      obtain ⟨v2, y2, e2, t2⟩ := hfs 2 _ rfl
      obtain ⟨z0, r0, _, hw0⟩ := DataW.trod_int Try.underlying3 t0
      obtain ⟨z1, r1, _, hw1⟩ := DataW.trod_int Try.underlying3 t1
      obtain ⟨z2, r2, _, hw2⟩ := DataW.trod_string Try.underlying9 t2
      cases r0; cases r1; cases r2
      refine ⟨⟨z0, z1, z2⟩, ?_, (bounds_i64 hw1).2, hw2⟩
      rw [hc1]
      match cs1, hlen with
      | [c0, c1, c2], _ => simp at e0 e1 e2; subst e0 e1 e2; rfl)
    subst h1
    exact ⟨xs, h3, h2⟩
end Go.Proofs.Ythfddgffanajaaa
