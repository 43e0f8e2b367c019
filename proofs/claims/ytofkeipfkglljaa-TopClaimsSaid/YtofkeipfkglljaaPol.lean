/-
  A slice of policies that came in; when causes, and policies, may be: plain.
-/
import Derived.Test.YtofkeipfkglljaaRows
import Derived.Test.YtofkeipfkglljaaFld
import Derived.Test.YtofkeipfkglljaaTrodI
import Derived.Test.YtofkeipfkglljaaMark
namespace Go.Proofs.Ytofkeipfkglljaa
open Go Go.RowKit Go.Deep
set_option linter.unusedVariables false
set_option linter.unusedSimpArgs false

/-- A policy; its causes lie where cv leads, and read zs. -/
structure Po where
  i : ByteArray
  f : ByteArray
  t : ByteArray
  sum : Int
  own : Int
  cv : Value
  zs : List Int
  first : Int
  last : Int
  share : Int
instance : Inhabited Po := ⟨⟨⟨#[]⟩, ⟨#[]⟩, ⟨#[]⟩, 0, 0, .slice none 0 0, [], 0, 0, 0⟩⟩
def Po.cells (o : Po) : List Value := [.string o.i, .string o.f, .string o.t, .int .i64 o.sum, .int .i64 o.own, o.cv, .int .i64 o.first, .int .i64 o.last, .int .i64 o.share]
def Po.val (o : Po) : Value := .agg o.cells.toArray
def Po.wf (W : World) (o : Po) : Prop := o.i.size ≤ maxLen ∧ o.f.size ≤ maxLen ∧ o.t.size ≤ maxLen ∧ (Lit.int .i64 o.sum).wf = true ∧ (Lit.int .i64 o.own).wf = true ∧ (Ints W o.cv o.zs ∧ ∀ z ∈ o.zs, (Lit.int .i64 z).wf = true) ∧ (Lit.int .i64 o.first).wf = true ∧ (Lit.int .i64 o.last).wf = true ∧ (Lit.int .i64 o.share).wf = true
def Pos (w : World) (v : Value) (l : List Po) : Prop := Row w v 9 l.length (l.flatMap Po.cells) ∧ ∀ o ∈ l, Ints w o.cv o.zs
theorem Pos.below {w w' : World} {v : Value} {l : List Po} (h : Pos w v l) (hb : Below w.heap.size w w') : Pos w' v l := ⟨Row.below h.1 hb, fun o ho => Ints.below (h.2 o ho) hb⟩
theorem Pos.shape {w : World} {v : Value} {l : List Po} (h : Pos w v l) : ∃ ao cap, v = .slice ao l.length cap ∧ l.length ≤ cap ∧ cap ≤ maxLen ∧ (ao = none → cap = 0) := by
  obtain ⟨_, ao, cap, h1, h2, h3, h4, _⟩ := h.1
  exact ⟨ao, cap, h1, h2, h3, h4⟩
theorem Pos.get {w : World} {ao : Option Addr} {n cap : Nat} {l : List Po} (h : Pos w (.slice ao n cap) l) (hn : n = l.length) (hp : 0 < n) : ∃ b off, ao = some ⟨b, off, none⟩ ∧ b < w.heap.size ∧ ∀ k, k < n → ∀ j, j < 9 →
    w.cell? ⟨b, off + (k * 9 + j), none⟩ = (Po.cells (l.getD k default))[j]? := by
  have hl : (l.flatMap Po.cells).length = l.length * 9 := flat_len (f := Po.cells) (sz := 9) (fun _ => rfl) l
  obtain ⟨b, off, cap', e, h2, h3, h4, h5⟩ := Row.at h.1 (by omega)
  cases e
  refine ⟨b, off, rfl, h4, fun k hk j hj => ?_⟩
  rw [List.getD_eq_getElem?_getD, List.getElem?_eq_getElem (show k < l.length by omega)]
  have e := flat_get (f := Po.cells) (sz := 9) (fun _ => rfl) l k j (by omega) hj
  show _ = (Po.cells l[k])[j]?
  rw [← e, h5 (k * 9 + j) (by rw [hl]; omega), ← List.getElem?_eq_getElem]

theorem cellsPol : Try.prog.cellsOf 33 = 9 := by kernel_rfl
def Is23 (w : World) (v : Value) : Prop := ∃ l, Pos w v l ∧ ∀ o ∈ l, o.wf w
set_option maxRecDepth 20000 in
theorem open23 {H : Type} {enc : TypeId × Value → H} {W : World} {base : Nat} {v : Value} {d : DataW H} {p : List MemPlace} (hval : Value.okWide Try.prog W .any base 23 v)
    (h : DataW.Trod enc Try.prog W 0 (fun _ => true) true 23 v d p) : Is23 W v := by
  obtain ⟨a0, len, cap, rfl⟩ := WideShapes.okWide_slice Try.underlying23 hval
  obtain ⟨fuel, hf⟩ := h
  rcases DataW.trod_slice Try.underlying23 hf with ⟨hcs, _⟩ | ⟨a, len', cap', elems, rest, n, rfl, hcs, hx, _, hl, hm, hel2, hcells, _⟩
  · simp [Value.cells] at hcs
    obtain ⟨rfl, rfl, rfl⟩ := hcs
    exact ⟨[], ⟨Row.nil _ _, by simp⟩, by simp⟩
  · simp [Value.cells] at hcs
    obtain ⟨rfl, rfl, rfl⟩ := hcs
    rw [cellsPol] at hcells
    obtain ⟨xs, h1, h2, h3⟩ := row_of_each (f := Po.cells) (p := Po.wf W) (sz := 9) (fun _ => rfl) hl hm (W := W) (a := a) (fun i hi => by
      have := hcells i hi
      rw [List.getElem?_eq_getElem (by omega)] at this
      obtain ⟨cs1, hc1, ht⟩ := Option.bind_eq_some_iff.1 this
      obtain ⟨hlen, m, hfs⟩ := fields_at Try.underlying33 (by kernel_rfl) (by kernel_rfl) ht
      obtain ⟨v0, y0, e0, t0⟩ := hfs 0 _ rfl
      obtain ⟨v1, y1, e1, t1⟩ := hfs 1 _ rfl
      obtain ⟨v2, y2, e2, t2⟩ := hfs 2 _ rfl
      obtain ⟨v3, y3, e3, t3⟩ := hfs 3 _ rfl
      obtain ⟨v4, y4, e4, t4⟩ := hfs 4 _ rfl
      obtain ⟨v5, y5, e5, t5⟩ := hfs 5 _ rfl
      obtain ⟨v6, y6, e6, t6⟩ := hfs 6 _ rfl
      obtain ⟨v7, y7, e7, t7⟩ := hfs 7 _ rfl
      obtain ⟨v8, y8, e8, t8⟩ := hfs 8 _ rfl
      obtain ⟨z0, r0, _, hw0⟩ := DataW.trod_string Try.underlying9 t0
      obtain ⟨z1, r1, _, hw1⟩ := DataW.trod_string Try.underlying9 t1
      obtain ⟨z2, r2, _, hw2⟩ := DataW.trod_string Try.underlying9 t2
      obtain ⟨z3, r3, _, hw3⟩ := DataW.trod_int Try.underlying2 t3
      obtain ⟨z4, r4, _, hw4⟩ := DataW.trod_int Try.underlying2 t4
      obtain ⟨zs, h5⟩ := ints_trod t5
      obtain ⟨z6, r6, _, hw6⟩ := DataW.trod_int Try.underlying3 t6
      obtain ⟨z7, r7, _, hw7⟩ := DataW.trod_int Try.underlying3 t7
      obtain ⟨z8, r8, _, hw8⟩ := DataW.trod_int Try.underlying3 t8
      cases r0; cases r1; cases r2; cases r3; cases r4; cases r6; cases r7; cases r8
      refine ⟨⟨z0, z1, z2, z3, z4, v5, zs, z6, z7, z8⟩, ?_, hw0, hw1, hw2, hw3, hw4, h5, hw6, hw7, hw8⟩
      rw [hc1]
      match cs1, hlen with
      | [c0, c1, c2, c3, c4, c5, c6, c7, c8], _ => simp at e0 e1 e2 e3 e4 e5 e6 e7 e8; subst e0 e1 e2 e3 e4 e5 e6 e7 e8; rfl)
    subst h1
    exact ⟨xs, ⟨h3, fun o ho => (h2 o ho).2.2.2.2.2.1.1⟩, h2⟩

/-- May causes be? -/
def causeAt (zs : List Int) (k : Nat) : Bool := decide (0 ≤ zs.getD k 0) && decide (zs.getD k 0 ≤ 1048576) && (decide (k = 0) || decide (zs.getD (k - 1) 0 < zs.getD k 0))
def causesB (zs : List Int) : Bool := decide (zs.length ≤ 64) && (List.range zs.length).all (causeAt zs)
theorem causes_iff (zs : List Int) : causesB zs = true ↔ zs.length ≤ 64 ∧ ∀ k, k < zs.length → causeAt zs k = true := by
  simp [causesB]
theorem causes_bad {zs : List Int} {k : Nat} (hk : k < zs.length) (h : causeAt zs k = false) : causesB zs = false := by
  rw [Bool.eq_false_iff]
  intro hm
  have := ((causes_iff zs).1 hm).2 k hk
  rw [h] at this; cases this
def dayB (n : Int) : Bool := decide (0 ≤ n) && decide (n ≤ 1048576)
/-- May a policy be? -/
def Po.may (o : Po) : Bool := nameB o.i && (nameB o.f && (nameB o.t && (decide (1 ≤ o.sum) && (decide (o.sum ≤ 1099511627776) && (decide (0 ≤ o.own) && (decide (o.own ≤ o.sum) && (decide (1 ≤ o.share) && (decide (o.share ≤ 1000) && (causesB o.zs && (dayB o.first && (dayB o.last && decide (o.first ≤ o.last))))))))))))
theorem may_nums {o : Po} (h : o.may = true) : 1 ≤ o.sum ∧ o.sum ≤ 1099511627776 ∧ 0 ≤ o.own ∧ o.own ≤ o.sum ∧ 1 ≤ o.share ∧ o.share ≤ 1000 := by
  simp only [Po.may, Bool.and_eq_true, decide_eq_true_eq] at h
  omega
end Go.Proofs.Ytofkeipfkglljaa
