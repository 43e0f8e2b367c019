/-
  claim.line, the document's Line, claim.Share.
-/
import Derived.Test.YtofkeipfkglljaaDoorPMay
import Derived.Test.YtofkeipfkglljaaDoorBlk
import Derived.Test.YtofkeipfkglljaaDoorOf
import Derived.Test.YtofkeipfkglljaaDoorTimes
import Derived.Laws.EntriesVeiled
namespace Go.Proofs.YtofkeipfkglljaaDoor
open Go Go.RowKit
set_option linter.unusedVariables false
set_option linter.unusedSimpArgs false

/-- A policy's fields, where its causes lie, told apart. -/
theorem Po.apart {w : World} {o : Po} (h : Ints w o.cv o.zs) : ∃ i f t sum own ao n cap first last share, o = ⟨i, f, t, sum, own, .slice ao n cap, o.zs, first, last, share⟩ ∧ n = o.zs.length ∧ n ≤ cap ∧ cap ≤ maxLen := by
  obtain ⟨ao, cap, e, h1, h2, _⟩ := h.shape
  obtain ⟨i, f, t, sum, own, cv, zs, first, last, share⟩ := o
  dsimp only at e h1 h2
  subst e
  exact ⟨i, f, t, sum, own, ao, zs.length, cap, first, last, share, rfl, rfl, h1, h2⟩

theorem may_o (o : Po) (w : World) (h : Ints w o.cv o.zs) :
    Calls Tryd.prog 12 #[o.val] w fun e w' => e = .returned (.bool o.may) ∧ Below w.heap.size w w' := by
  obtain ⟨i, f, t, sum, own, ao, n, cap, first, last, share, e, hn, _⟩ := Po.apart h
  generalize o.zs = zs at *
  subst e
  exact pmay_any i f t sum own ao n cap zs first last share w h hn

def Po.lineN (o : Po) : Nat := o.sum.toNat * o.share.toNat / 1000
theorem line_bd {o : Po} (h : o.may = true) : o.lineN ≤ 1099511627776 ∧ (o.lineN : Int) ≤ o.sum := by
  have h1 := may_nums h
  have h2 : o.sum.toNat * o.share.toNat ≤ o.sum.toNat * 1000 := Nat.mul_le_mul_left _ (by omega)
  unfold Po.lineN
  omega

/-- Policy k, of these: where it lies. -/
theorem Pos.one {w w0 : World} {bl off n : Nat} {l : List Po} {k : Nat} (hk : k < n) (hp : ∀ k, k < n → ∀ j, j < 9 → w0.cell? ⟨bl, off + (k * 9 + j), none⟩ = (Po.cells (l.getD k default))[j]?) (hbl : bl < w0.heap.size) (hb : Below w0.heap.size w0 w) (hi : Ints w0 (l.getD k default).cv (l.getD k default).zs) :
    ∃ i f t sum own ao m cap zs first last share, l.getD k default = ⟨i, f, t, sum, own, .slice ao m cap, zs, first, last, share⟩ ∧ m = zs.length ∧ m ≤ cap ∧ cap ≤ maxLen ∧ Ints w (.slice ao m cap) zs ∧
      w.cell? ⟨bl, off + k * 9, none⟩ = some (.string i) ∧ w.cell? ⟨bl, off + k * 9 + 1, none⟩ = some (.string f) ∧ w.cell? ⟨bl, off + k * 9 + 2, none⟩ = some (.string t) ∧
      w.cell? ⟨bl, off + k * 9 + 3, none⟩ = some (.int .i64 sum) ∧ w.cell? ⟨bl, off + k * 9 + 4, none⟩ = some (.int .i64 own) ∧ w.cell? ⟨bl, off + k * 9 + 5, none⟩ = some (.slice ao m cap) ∧
      w.cell? ⟨bl, off + k * 9 + 6, none⟩ = some (.int .i64 first) ∧ w.cell? ⟨bl, off + k * 9 + 7, none⟩ = some (.int .i64 last) ∧ w.cell? ⟨bl, off + k * 9 + 8, none⟩ = some (.int .i64 share) := by
  have hp := hp k hk
  generalize l.getD k default = o at *
  obtain ⟨i, f, t, sum, own, ao, m, cap, first, last, share, e, hn, hc1, hc2⟩ := Po.apart hi
  have hp2 : ∀ j, j < 9 → w.cell? ⟨bl, off + k * 9 + j, none⟩ = (Po.cells o)[j]? := fun j hj => by
    rw [hb.cell (by show bl < _; omega), Nat.add_assoc]; exact hp j hj
  have hi2 := hi.below hb
  generalize o.zs = zs at *
  subst e
  refine ⟨i, f, t, sum, own, ao, m, cap, zs, first, last, share, rfl, hn, hc1, hc2, hi2, ?_, ?_, ?_, ?_, ?_, ?_, ?_, ?_, ?_⟩
  · exact hp2 0 (by omega)
  · exact hp2 1 (by omega)
  · exact hp2 2 (by omega)
  · exact hp2 3 (by omega)
  · exact hp2 4 (by omega)
  · exact hp2 5 (by omega)
  · exact hp2 6 (by omega)
  · exact hp2 7 (by omega)
  · exact hp2 8 (by omega)
theorem Pos.mem {w : World} {v : Value} {l : List Po} (h : Pos w v l) {k : Nat} (hk : k < l.length) : Ints w (l.getD k default).cv (l.getD k default).zs := by
  rw [List.getD_eq_getElem?_getD, List.getElem?_eq_getElem hk]
  exact h.2 _ (List.getElem_mem hk)

def allMay (l : List Po) : Bool := (List.range l.length).all fun k => (l.getD k default).may
theorem allMay_iff (l : List Po) : allMay l = true ↔ ∀ k, k < l.length → (l.getD k default).may = true := by simp [allMay]

end Go.Proofs.YtofkeipfkglljaaDoor
