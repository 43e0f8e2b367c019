/-
  Interests: a slice of them that came in; names; and what the layer asks of them, plain.
-/
import Derived.Test.YtllaahdbngjigaaDoorRows
import Derived.Test.YtllaahdbngjigaaDoorFld
namespace Go.Proofs.YtllaahdbngjigaaDoor
open Go Go.RowKit Go.Deep
set_option linter.unusedVariables false
set_option linter.unusedSimpArgs false

/-- An interest: its name, its value. -/
structure In1 where
  t : ByteArray
  z : Int
instance : Inhabited In1 := ⟨⟨⟨#[]⟩, 0⟩⟩
def In1.cells (o : In1) : List Value := [.string o.t, .int .i64 o.z]
def Ins (w : World) (v : Value) (l : List In1) : Prop := Row w v 2 l.length (l.flatMap In1.cells)
theorem Ins.below {w w' : World} {v : Value} {l : List In1} (h : Ins w v l) (hb : Below w.heap.size w w') : Ins w' v l := Row.below h hb
theorem Ins.drewN {w : World} {v : Value} {l : List In1} (h : Ins w v l) (n : Nat) : Ins (w.drewN n) v l := Row.drewN h n
theorem Ins.shape {w : World} {v : Value} {l : List In1} (h : Ins w v l) : ∃ ao cap, v = .slice ao l.length cap ∧ l.length ≤ cap ∧ cap ≤ maxLen ∧ (ao = none → cap = 0) := by
  obtain ⟨_, ao, cap, h1, h2, h3, h4, _⟩ := h
  exact ⟨ao, cap, h1, h2, h3, h4⟩
theorem Ins.at {w : World} {v : Value} {l : List In1} (h : Ins w v l) (hp : 0 < l.length) :
    ∃ b off cap, v = .slice (some ⟨b, off, none⟩) l.length cap ∧ l.length ≤ cap ∧ cap ≤ maxLen ∧ b < w.heap.size ∧ ∀ k (hk : k < l.length),
      w.cell? ⟨b, off + k * 2, none⟩ = some (.string l[k].t) ∧ w.cell? ⟨b, off + k * 2 + 1, none⟩ = some (.int .i64 l[k].z) := by
  have hl : (l.flatMap In1.cells).length = l.length * 2 := flat_len (f := In1.cells) (sz := 2) (fun _ => rfl) l
  obtain ⟨b, off, cap, h1, h2, h3, h4, h5⟩ := Row.at h (by omega)
  refine ⟨b, off, cap, h1, h2, h3, h4, fun k hk => ?_⟩
  have g : ∀ j, j < 2 → w.cell? ⟨b, off + (k * 2 + j), none⟩ = (In1.cells l[k])[j]? := fun j hj => by
    have e := flat_get (f := In1.cells) (sz := 2) (fun _ => rfl) l k j hk hj
    rw [← e, h5 (k * 2 + j) (by rw [hl]; omega), List.getElem?_eq_getElem]
  refine ⟨by have := g 0 (by omega); simpa [In1.cells] using this, ?_⟩
  rw [Nat.add_assoc]; have := g 1 (by omega); simpa [In1.cells] using this
theorem Ins.get {w : World} {ao : Option Addr} {n cap : Nat} {l : List In1} (h : Ins w (.slice ao n cap) l) (hn : n = l.length) (hp : 0 < n) : ∃ b off, ao = some ⟨b, off, none⟩ ∧ b < w.heap.size ∧ ∀ k, k < n →
    w.cell? ⟨b, off + k * 2, none⟩ = some (.string (l.getD k default).t) ∧ w.cell? ⟨b, off + k * 2 + 1, none⟩ = some (.int .i64 (l.getD k default).z) := by
  obtain ⟨b, off, cap', e, h2, h3, h4, h5⟩ := h.at (by omega)
  cases e
  refine ⟨b, off, rfl, h4, fun k hk => ?_⟩
  have := h5 k (by omega)
  rw [List.getD_eq_getElem?_getD, List.getElem?_eq_getElem (by omega)]
  exact this

def In1.wf (o : In1) : Prop := o.t.size ≤ maxLen ∧ (Lit.int .i64 o.z).wf = true
/-- The k-th byte of a text. -/
def byt (s : ByteArray) (k : Nat) : Int := ((s.data.toList.getD k 0).toNat : Int)
theorem byt_run {P : Program} (t : TypeId) (s : ByteArray) (k : Nat) (h : P.underlying t = some .string) (hk : k < s.size) (w : World) :
    (Instr.index t (.string s) (.int .i64 (k : Int))).run P w = .ok (.int .u8 (byt s k)) w := by
  rw [run_index_string w t s .i64 _ h, dif_pos ⟨by omega, by omega⟩]
  obtain ⟨⟨l⟩⟩ := s
  have hl : k < l.length := hk
  have e : (ByteArray.mk ⟨l⟩)[k]'hl = l.getD k 0 := by
    simp only [List.getD, List.getElem?_eq_getElem hl, Option.getD_some]
    rfl
  simp [e, byt]
def letB (z : Int) : Bool := decide (97 ≤ z) && decide (z ≤ 122)
def digB (z : Int) : Bool := decide (48 ≤ z) && decide (z ≤ 57)
/-- A byte of a name. -/
def chB (z : Int) : Bool := letB z || digB z || z == 45
/-- Is a text a name? -/
def nameB (s : ByteArray) : Bool := decide (1 ≤ s.size) && decide (s.size ≤ 16) && (List.range s.size).all fun k => chB (byt s k)
theorem name_iff (s : ByteArray) : nameB s = true ↔ 1 ≤ s.size ∧ s.size ≤ 16 ∧ ∀ k, k < s.size → chB (byt s k) = true := by
  simp [nameB, and_assoc]
theorem name_bad {s : ByteArray} {k : Nat} (hk : k < s.size) (h : chB (byt s k) = false) : nameB s = false := by
  rw [Bool.eq_false_iff]
  intro hm
  have := ((name_iff s).1 hm).2.2 k hk
  rw [h] at this; cases this
theorem name_out {s : ByteArray} (h : s.size < 1 ∨ 16 < s.size) : nameB s = false := by
  rw [Bool.eq_false_iff]
  intro hm
  have := (name_iff s).1 hm
  omega
/-- May interest k be, of these? -/
def okAt (l : List In1) (k : Nat) : Bool := nameB (l.getD k default).t && decide (0 ≤ (l.getD k default).z) && decide ((l.getD k default).z ≤ 1099511627776) && ! ((l.take k).any fun o => decide (o.t = (l.getD k default).t))
/-- May interests be? -/
def mayB (l : List In1) : Bool := decide (1 ≤ l.length) && decide (l.length ≤ 4096) && (List.range l.length).all (okAt l)
theorem may_iff (l : List In1) : mayB l = true ↔ 1 ≤ l.length ∧ l.length ≤ 4096 ∧ ∀ k, k < l.length → okAt l k = true := by
  simp [mayB, and_assoc]
theorem may_bad {l : List In1} {k : Nat} (hk : k < l.length) (h : okAt l k = false) : mayB l = false := by
  rw [Bool.eq_false_iff]
  intro hm
  have := ((may_iff l).1 hm).2.2 k hk
  rw [h] at this; cases this
def valsL (l : List In1) : List Int := l.map fun o => o.z
theorem vals_len (l : List In1) : (valsL l).length = l.length := by simp [valsL]
theorem vals_get (l : List In1) (k : Nat) : (valsL l).getD k 0 = (l.getD k default).z := by
  simp only [valsL, List.getD_eq_getElem?_getD, List.getElem?_map]
  cases l[k]? <;> rfl
theorem may_vals {l : List In1} (h : mayB l = true) : ∀ z ∈ valsL l, 0 ≤ z ∧ z ≤ 1099511627776 := by
  intro z hz
  obtain ⟨k, hk, rfl⟩ := List.mem_iff_getElem.1 hz
  rw [vals_len] at hk
  have := ((may_iff l).1 h).2.2 k hk
  have e : (valsL l)[k]'(by rw [vals_len]; exact hk) = (l.getD k default).z := by
    rw [← vals_get, List.getD_eq_getElem?_getD, List.getElem?_eq_getElem (by rw [vals_len]; exact hk)]; rfl
  rw [e]
  simp only [okAt, Bool.and_eq_true, decide_eq_true_eq] at this
  omega
end Go.Proofs.YtllaahdbngjigaaDoor
