/-
  A slice of boxes that came in.
-/
import Derived.Test.YtllaahdbngjigaaDoorKit
import Derived.Test.YtllaahdbngjigaaDoorRows
namespace Go.Proofs.YtllaahdbngjigaaDoor
open Go Go.RowKit
set_option linter.unusedVariables false
set_option linter.unusedSimpArgs false

/-- A box. -/
structure Bx where
  w : Int
  c : Int
  p : Int
  a : Int
  b : Int
  t : Int
instance : Inhabited Bx := ⟨⟨0, 0, 0, 0, 0, 0⟩⟩
def Bx.cells (x : Bx) : List Value := [.int .u8 x.w, .int .u8 x.c, .int .u8 x.p, .int .u8 x.a, .int .u8 x.b, .int .u8 x.t]
structure Bx.wf (x : Bx) : Prop where
  w : (Lit.int .u8 x.w).wf = true
  c : (Lit.int .u8 x.c).wf = true
  p : (Lit.int .u8 x.p).wf = true
  a : (Lit.int .u8 x.a).wf = true
  b : (Lit.int .u8 x.b).wf = true
  t : (Lit.int .u8 x.t).wf = true
theorem cBx : Tryd.prog.cellsOf 72 = 6 := by kernel_rfl
theorem cBa : Tryd.prog.cellsOf 70 = 3 := by kernel_rfl
theorem cB8 : Tryd.prog.cellsOf 5 = 1 := by kernel_rfl
def Boxes (w : World) (v : Value) (l : List Bx) : Prop := Row w v 6 l.length (l.flatMap Bx.cells)
theorem Boxes.below {w w' : World} {v : Value} {l : List Bx} (h : Boxes w v l) (hb : Below w.heap.size w w') : Boxes w' v l := Row.below h hb
theorem Boxes.shape {w : World} {v : Value} {l : List Bx} (h : Boxes w v l) : ∃ ao cap, v = .slice ao l.length cap ∧ l.length ≤ cap ∧ cap ≤ maxLen ∧ (ao = none → cap = 0) := by
  obtain ⟨_, ao, cap, h1, h2, h3, h4, _⟩ := h
  exact ⟨ao, cap, h1, h2, h3, h4⟩
/-- The six cells of a box. -/
structure BxAt (w : World) (b o : Nat) (x : Bx) : Prop where
  c0 : w.cell? ⟨b, o, none⟩ = some (.int .u8 x.w)
  c1 : w.cell? ⟨b, o + 1, none⟩ = some (.int .u8 x.c)
  c2 : w.cell? ⟨b, o + 2, none⟩ = some (.int .u8 x.p)
  c3 : w.cell? ⟨b, o + 3, none⟩ = some (.int .u8 x.a)
  c4 : w.cell? ⟨b, o + 4, none⟩ = some (.int .u8 x.b)
  c5 : w.cell? ⟨b, o + 5, none⟩ = some (.int .u8 x.t)
theorem BxAt.below {w w' : World} {b o : Nat} {x : Bx} (h : BxAt w b o x) (hb : Below w.heap.size w w') : BxAt w' b o x :=
  ⟨cell_later hb h.c0, cell_later hb h.c1, cell_later hb h.c2, cell_later hb h.c3, cell_later hb h.c4, cell_later hb h.c5⟩
theorem Boxes.get {w : World} {ao : Option Addr} {n cap : Nat} {l : List Bx} (h : Boxes w (.slice ao n cap) l) (hn : n = l.length) (hp : 0 < n) : ∃ b off, ao = some ⟨b, off, none⟩ ∧ b < w.heap.size ∧ ∀ k (x : Bx), l[k]? = some x → BxAt w b (off + k * 6) x := by
  have hl : (l.flatMap Bx.cells).length = l.length * 6 := flat_len (f := Bx.cells) (sz := 6) (fun _ => rfl) l
  obtain ⟨b, off, cap', e, h2, h3, h4, h5⟩ := Row.at h (by omega)
  cases e
  refine ⟨b, off, rfl, h4, fun k x hx => ?_⟩
  obtain ⟨hk, e⟩ := List.getElem?_eq_some_iff.1 hx
  have g : ∀ j, j < 6 → w.cell? ⟨b, off + (k * 6 + j), none⟩ = (Bx.cells x)[j]? := fun j hj => by
    have e2 := flat_get (f := Bx.cells) (sz := 6) (fun _ => rfl) l k j hk hj
    rw [e] at e2
    rw [← e2, h5 (k * 6 + j) (by rw [hl]; omega), List.getElem?_eq_getElem]
  have g' : ∀ j v, j < 6 → (Bx.cells x)[j]? = some v → w.cell? ⟨b, off + k * 6 + j, none⟩ = some v := fun j v hj hv => by
    rw [Nat.add_assoc, g j hj, hv]
  exact ⟨g' 0 _ (by omega) rfl, g' 1 _ (by omega) rfl, g' 2 _ (by omega) rfl, g' 3 _ (by omega) rfl, g' 4 _ (by omega) rfl, g' 5 _ (by omega) rfl⟩
theorem one_list {cs : List Value} {k : Nat} {v : Value} (h : (cs.drop k).take 1 = [v]) : cs[k]? = some v := by
  have := congrArg (·[0]?) h
  simpa [List.getElem?_take, List.getElem?_drop] using this
def Is23 (w : World) (v : Value) : Prop := ∃ l, Boxes w v l ∧ ∀ x ∈ l, x.wf
set_option maxRecDepth 20000 in
theorem open23 {H : Type} {enc : TypeId × Value → H} {W : World} {base : Nat} {v : Value} {d : DataW H} {p : List MemPlace} (hval : Value.okWide Tryd.prog W .any base 23 v)
    (h : DataW.Trod enc Tryd.prog W 0 (fun _ => true) true 23 v d p) : Is23 W v := by
  obtain ⟨a0, len, cap, rfl⟩ := WideShapes.okWide_slice Tryd.underlying23 hval
  obtain ⟨fuel, hf⟩ := h
  rcases DataW.trod_slice Tryd.underlying23 hf with ⟨hcs, _⟩ | ⟨a, len', cap', elems, rest, n, rfl, hcs, hx, _, hl, hm, hel2, hcells, _⟩
  · simp [Value.cells] at hcs
    obtain ⟨rfl, rfl, rfl⟩ := hcs
    exact ⟨[], Row.nil _ _, by simp⟩
  · simp [Value.cells] at hcs
    obtain ⟨rfl, rfl, rfl⟩ := hcs
    rw [cBx] at hcells
    obtain ⟨xs, h1, h2, h3⟩ := row_of_each (f := Bx.cells) (p := Bx.wf) (sz := 6) (fun _ => rfl) hl hm (W := W) (a := a) (fun i hi => by
      have := hcells i hi
      rw [List.getElem?_eq_getElem (by omega)] at this
      obtain ⟨cs1, hc1, ht⟩ := Option.bind_eq_some_iff.1 this
      obtain ⟨ys, n', _, hy, hlen, hyl, hf2⟩ := DataW.trod_struct Tryd.underlying72 ht
      rw [cBx] at hlen
      have g0 : DataW.trod enc Tryd.prog W 0 (fun _ => true) true n' 5 ((cs1.drop 0).take 1) = ys[0]? := by have q := hf2 0 _ rfl; rw [← cB8]; exact q
      have g1 : DataW.trod enc Tryd.prog W 0 (fun _ => true) true n' 5 ((cs1.drop 1).take 1) = ys[1]? := by have q := hf2 1 _ rfl; rw [← cB8]; exact q
      have g2 : DataW.trod enc Tryd.prog W 0 (fun _ => true) true n' 5 ((cs1.drop 2).take 1) = ys[2]? := by have q := hf2 2 _ rfl; rw [← cB8]; exact q
      have g3 : DataW.trod enc Tryd.prog W 0 (fun _ => true) true n' 70 ((cs1.drop 3).take 3) = ys[3]? := by have q := hf2 3 _ rfl; rw [← cBa]; exact q
      have hyl2 : ys.length = 4 := hyl
      rw [List.getElem?_eq_getElem (by omega)] at g0 g1 g2 g3
      obtain ⟨z0, r0, _, hw0⟩ := DataW.trod_int Tryd.underlying5 g0
      obtain ⟨z1, r1, _, hw1⟩ := DataW.trod_int Tryd.underlying5 g1
      obtain ⟨z2, r2, _, hw2⟩ := DataW.trod_int Tryd.underlying5 g2
      obtain ⟨zs, m1, rfl, hz1, hzl, hzn, hze⟩ := DataW.trod_array Tryd.underlying70 g3
      rw [cB8] at hze
      have k0 := hze 0 (by omega)
      have k1 := hze 1 (by omega)
      have k2 := hze 2 (by omega)
      rw [List.getElem?_eq_getElem (by omega)] at k0 k1 k2
      obtain ⟨z3, r3, _, hw3⟩ := DataW.trod_int Tryd.underlying5 k0
      obtain ⟨z4, r4, _, hw4⟩ := DataW.trod_int Tryd.underlying5 k1
      obtain ⟨z5, r5, _, hw5⟩ := DataW.trod_int Tryd.underlying5 k2
      refine ⟨⟨z0, z1, z2, z3, z4, z5⟩, ?_, hw0, hw1, hw2, hw3, hw4, hw5⟩
      rw [hc1]
      match cs1, hlen with
      | [c0, c1, c2, c3, c4, c5], _ =>
        simp at r0 r1 r2 r3 r4 r5
        subst r0 r1 r2 r3 r4 r5
        rfl)
    subst h1
    exact ⟨xs, h3, h2⟩
end Go.Proofs.YtllaahdbngjigaaDoor
