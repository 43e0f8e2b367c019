/-
  A slice of api.Entry that came in. (Printed by tools/gen_rows.py.)
-/
import Derived.Test.YtofkeipfkglljaaRows
import Derived.Test.YtofkeipfkglljaaKit
import Derived.Test.YtofkeipfkglljaaFld
namespace Go.Proofs.Ytofkeipfkglljaa
open Go Go.RowKit Go.Deep
set_option linter.unusedVariables false
set_option linter.unusedSimpArgs false

structure En where
  t : ByteArray
  c : ByteArray
  z : Int
instance : Inhabited En := ⟨⟨⟨#[]⟩, ⟨#[]⟩, 0⟩⟩
def En.cells (o : En) : List Value := [.string o.t, .string o.c, .int .i64 o.z]
def Ens (w : World) (v : Value) (l : List En) : Prop := Row w v 3 l.length (l.flatMap En.cells)
theorem Ens.below {w w' : World} {v : Value} {l : List En} (h : Ens w v l) (hb : Below w.heap.size w w') : Ens w' v l := Row.below h hb
theorem Ens.drewN {w : World} {v : Value} {l : List En} (h : Ens w v l) (n : Nat) : Ens (w.drewN n) v l := Row.drewN h n
theorem Ens.shape {w : World} {v : Value} {l : List En} (h : Ens w v l) : ∃ ao cap, v = .slice ao l.length cap ∧ l.length ≤ cap ∧ cap ≤ maxLen ∧ (ao = none → cap = 0) := by
  obtain ⟨_, ao, cap, h1, h2, h3, h4, _⟩ := h
  exact ⟨ao, cap, h1, h2, h3, h4⟩
theorem Ens.get {w : World} {ao : Option Addr} {n cap : Nat} {l : List En} (h : Ens w (.slice ao n cap) l) (hn : n = l.length) (hp : 0 < n) : ∃ b off, ao = some ⟨b, off, none⟩ ∧ b < w.heap.size ∧ ∀ k, k < n →
    w.cell? ⟨b, off + k * 3, none⟩ = some (.string (l.getD k default).t) ∧
    w.cell? ⟨b, off + k * 3 + 1, none⟩ = some (.string (l.getD k default).c) ∧
    w.cell? ⟨b, off + k * 3 + 2, none⟩ = some (.int .i64 (l.getD k default).z) := by
  have hl : (l.flatMap En.cells).length = l.length * 3 := flat_len (f := En.cells) (sz := 3) (fun _ => rfl) l
  obtain ⟨b, off, cap', e, h2, h3, h4, h5⟩ := Row.at h (by omega)
  cases e
  refine ⟨b, off, rfl, h4, fun k hk => ?_⟩
  rw [List.getD_eq_getElem?_getD, List.getElem?_eq_getElem (by omega)]
  have g : ∀ j, j < 3 → w.cell? ⟨b, off + (k * 3 + j), none⟩ = (En.cells l[k])[j]? := fun j hj => by
    have e := flat_get (f := En.cells) (sz := 3) (fun _ => rfl) l k j (by omega) hj
    rw [← e, h5 (k * 3 + j) (by rw [hl]; omega), List.getElem?_eq_getElem]
  exact ⟨by have := g 0 (by omega); simpa [En.cells] using this, by rw [Nat.add_assoc]; have := g 1 (by omega); simpa [En.cells] using this, by rw [Nat.add_assoc]; have := g 2 (by omega); simpa [En.cells] using this⟩

theorem cellsEn : Try.prog.cellsOf 42 = 3 := by kernel_rfl
def En.wf (o : En) : Prop := o.t.size ≤ maxLen ∧ o.c.size ≤ maxLen ∧ (Lit.int .i64 o.z).wf = true
def Is38 (w : World) (v : Value) : Prop := ∃ l, Ens w v l ∧ ∀ o ∈ l, o.wf
set_option maxRecDepth 20000 in
theorem open38 {H : Type} {enc : TypeId × Value → H} {W : World} {base : Nat} {v : Value} {d : DataW H} {p : List MemPlace} (hval : Value.okWide Try.prog W .any base 38 v)
    (h : DataW.Trod enc Try.prog W 0 (fun _ => true) true 38 v d p) : Is38 W v := by
  obtain ⟨a0, len, cap, rfl⟩ := WideShapes.okWide_slice Try.underlying38 hval
  obtain ⟨fuel, hf⟩ := h
  rcases DataW.trod_slice Try.underlying38 hf with ⟨hcs, _⟩ | ⟨a, len', cap', elems, rest, n, rfl, hcs, hx, _, hl, hm, hel2, hcells, _⟩
  · simp [Value.cells] at hcs
    obtain ⟨rfl, rfl, rfl⟩ := hcs
    exact ⟨[], Row.nil _ _, by simp⟩
  · simp [Value.cells] at hcs
    obtain ⟨rfl, rfl, rfl⟩ := hcs
    rw [cellsEn] at hcells
    obtain ⟨xs, h1, h2, h3⟩ := row_of_each (f := En.cells) (p := En.wf) (sz := 3) (fun _ => rfl) hl hm (W := W) (a := a) (fun i hi => by
      have := hcells i hi
      rw [List.getElem?_eq_getElem (by omega)] at this
      obtain ⟨cs1, hc1, ht⟩ := Option.bind_eq_some_iff.1 this
      obtain ⟨hlen, m, hfs⟩ := fields_at Try.underlying42 (by kernel_rfl) (by kernel_rfl) ht
      obtain ⟨v0, y0, e0, t0⟩ := hfs 0 _ rfl
      obtain ⟨v1, y1, e1, t1⟩ := hfs 1 _ rfl
      obtain ⟨v2, y2, e2, t2⟩ := hfs 2 _ rfl
      obtain ⟨z0, r0, _, hw0⟩ := DataW.trod_string Try.underlying9 t0
      obtain ⟨z1, r1, _, hw1⟩ := DataW.trod_string Try.underlying9 t1
      obtain ⟨z2, r2, _, hw2⟩ := DataW.trod_int Try.underlying2 t2
      cases r0; cases r1; cases r2
      refine ⟨⟨z0, z1, z2⟩, ?_, hw0, hw1, hw2⟩
      rw [hc1]
      match cs1, hlen with
      | [c0, c1, c2], _ => simp at e0 e1 e2; subst e0 e1 e2; rfl)
    subst h1
    exact ⟨xs, h3, h2⟩
end Go.Proofs.Ytofkeipfkglljaa
