/-
  A slice of policies that came in; when causes, and policies, may be: plain.
-/
import Derived.Test.YtofkeipfkglljaaDoorRows
import Derived.Test.YtofkeipfkglljaaDoorFld
import Derived.Test.YtofkeipfkglljaaDoorTrodI
import Derived.Test.YtofkeipfkglljaaDoorMark
namespace Go.Proofs.YtofkeipfkglljaaDoor
open Go Go.RowKit Go.Deep
set_option linter.unusedVariables false
set_option linter.unusedSimpArgs false

/-- A policy; its causes lie where cv leads, and read zs. -/
structure Po where
  i : ByteArray
  f : ByteArray
  t : ByteArray
  sum : Int
  own : Int
  cv : Value
  zs : List Int
  first : Int
  last : Int
  share : Int
instance : Inhabited Po := ⟨⟨⟨#[]⟩, ⟨#[]⟩, ⟨#[]⟩, 0, 0, .slice none 0 0, [], 0, 0, 0⟩⟩
def Po.cells (o : Po) : List Value := [.string o.i, .string o.f, .string o.t, .int .i64 o.sum, .int .i64 o.own, o.cv, .int .i64 o.first, .int .i64 o.last, .int .i64 o.share]
def Po.val (o : Po) : Value := .agg o.cells.toArray
def Po.wf (W : World) (o : Po) : Prop := o.i.size ≤ maxLen ∧ o.f.size ≤ maxLen ∧ o.t.size ≤ maxLen ∧ (Lit.int .i64 o.sum).wf = true ∧ (Lit.int .i64 o.own).wf = true ∧ (Ints W o.cv o.zs ∧ ∀ z ∈ o.zs, (Lit.int .i64 z).wf = true) ∧ (Lit.int .i64 o.first).wf = true ∧ (Lit.int .i64 o.last).wf = true ∧ (Lit.int .i64 o.share).wf = true
def Pos (w : World) (v : Value) (l : List Po) : Prop := Row w v 9 l.length (l.flatMap Po.cells) ∧ ∀ o ∈ l, Ints w o.cv o.zs
theorem Pos.below {w w' : World} {v : Value} {l : List Po} (h : Pos w v l) (hb : Below w.heap.size w w') : Pos w' v l := ⟨Row.below h.1 hb, fun o ho => Ints.below (h.2 o ho) hb⟩
theorem Pos.shape {w : World} {v : Value} {l : List Po} (h : Pos w v l) : ∃ ao cap, v = .slice ao l.length cap ∧ l.length ≤ cap ∧ cap ≤ maxLen ∧ (ao = none → cap = 0) := by
  obtain ⟨_, ao, cap, h1, h2, h3, h4, _⟩ := h.1
  exact ⟨ao, cap, h1, h2, h3, h4⟩
theorem Pos.get {w : World} {ao : Option Addr} {n cap : Nat} {l : List Po} (h : Pos w (.slice ao n cap) l) (hn : n = l.length) (hp : 0 < n) : ∃ b off, ao = some ⟨b, off, none⟩ ∧ b < w.heap.size ∧ ∀ k, k < n → ∀ j, j < 9 →
    w.cell? ⟨b, off + (k * 9 + j), none⟩ = (Po.cells (l.getD k default))[j]? := by
  have hl : (l.flatMap Po.cells).length = l.length * 9 := flat_len (f := Po.cells) (sz := 9) (fun _ => rfl) l
  obtain ⟨b, off, cap', e, h2, h3, h4, h5⟩ := Row.at h.1 (by omega)
  cases e
  refine ⟨b, off, rfl, h4, fun k hk j hj => ?_⟩
  rw [List.getD_eq_getElem?_getD, List.getElem?_eq_getElem (show k < l.length by omega)]
  have e := flat_get (f := Po.cells) (sz := 9) (fun _ => rfl) l k j (by omega) hj
  show _ = (Po.cells l[k])[j]?
  rw [← e, h5 (k * 9 + j) (by rw [hl]; omega), ← List.getElem?_eq_getElem]

theorem cellsPol : Tryd.prog.cellsOf 26 = 9 := by kernel_rfl
/-- May causes be? -/
def causeAt (zs : List Int) (k : Nat) : Bool := decide (0 ≤ zs.getD k 0) && decide (zs.getD k 0 ≤ 1048576) && (decide (k = 0) || decide (zs.getD (k - 1) 0 < zs.getD k 0))
def causesB (zs : List Int) : Bool := decide (zs.length ≤ 64) && (List.range zs.length).all (causeAt zs)
theorem causes_iff (zs : List Int) : causesB zs = true ↔ zs.length ≤ 64 ∧ ∀ k, k < zs.length → causeAt zs k = true := by
  simp [causesB]
theorem causes_bad {zs : List Int} {k : Nat} (hk : k < zs.length) (h : causeAt zs k = false) : causesB zs = false := by
  rw [Bool.eq_false_iff]
  intro hm
  have := ((causes_iff zs).1 hm).2 k hk
  rw [h] at this; cases this
def dayB (n : Int) : Bool := decide (0 ≤ n) && decide (n ≤ 1048576)
/-- May a policy be? -/
def Po.may (o : Po) : Bool := nameB o.i && (nameB o.f && (nameB o.t && (decide (1 ≤ o.sum) && (decide (o.sum ≤ 1099511627776) && (decide (0 ≤ o.own) && (decide (o.own ≤ o.sum) && (decide (1 ≤ o.share) && (decide (o.share ≤ 1000) && (causesB o.zs && (dayB o.first && (dayB o.last && decide (o.first ≤ o.last))))))))))))
theorem may_nums {o : Po} (h : o.may = true) : 1 ≤ o.sum ∧ o.sum ≤ 1099511627776 ∧ 0 ≤ o.own ∧ o.own ≤ o.sum ∧ 1 ≤ o.share ∧ o.share ≤ 1000 := by
  simp only [Po.may, Bool.and_eq_true, decide_eq_true_eq] at h
  omega
end Go.Proofs.YtofkeipfkglljaaDoor
