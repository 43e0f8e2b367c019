/-
  Of the terms what costs ask: a term's name, who pays, the document's Is and Cost.
-/
import Derived.Test.YtfkkkebegkhdfaaDoorTermAwake
import Derived.Test.YtfkkkebegkhdfaaDoorKit
import Derived.Test.YtfkkkebegkhdfaaDoorSep
namespace Go.Proofs.YtfkkkebegkhdfaaDoor
open Go Go.RowKit
set_option linter.unusedVariables false
set_option linter.unusedSimpArgs false

def nmS (i : Nat) : ByteArray := ⟨(nmT i).toArray⟩
theorem str_of {s : ByteArray} {l : List UInt8} (h : s.data.toList = l) : s = ⟨l.toArray⟩ := by
  cases s; subst h; simp

theorem Terms.name' {w : World} (h : Terms w) (i : Nat) (hi : i < 8) : w.cell? ⟨0, i * 4, none⟩ = some (.string (nmS i)) := by
  obtain ⟨s, h1, h2⟩ := h.name i hi
  rw [h1, str_of h2]; rfl

def namZ (t : Int) : ByteArray := if 0 ≤ t ∧ t < 8 then nmS t.toNat else ⟨#[]⟩
set_option maxHeartbeats 400000 in
theorem tname_any (t : Int) (w : World) (hw : Terms w) :
    Calls Tryd.prog 25 #[.int .i64 t] w fun e w' => e = .returned (.string (namZ t)) ∧ w = w' := by
  by_cases h : 0 ≤ t ∧ t < 8
  · obtain ⟨n, rfl⟩ := Int.eq_ofNat_of_zero_le h.1
    have hn : n < 8 := by omega
    have h1 := Terms.name' hw n hn
    have e : namZ n = nmS n := by unfold namZ; rw [if_pos h]; rfl
    rw [e]
    generalize nmS n = x at *
    have hd : decide ((n : Int) < 8) = true := by simpa using h.2
    have hd' : decide ((0 : Int) ≤ n) = true := by simp
    clear hw e
    go_enter Tryd.func25, Tryd.ntmps25
    go_wp2
    go_ret
    exact ⟨rfl, rfl⟩
  · have e : namZ t = ⟨#[]⟩ := by unfold namZ; rw [if_neg h]
    rw [e]
    by_cases h0 : 0 ≤ t
    · have hd : decide (t < 8) = false := by simp; omega
      go_enter Tryd.func25, Tryd.ntmps25
      go_wp2
      go_ret
      exact ⟨rfl, rfl⟩
    · have hd : decide (0 ≤ t) = false := by simp; omega
      go_enter Tryd.func25, Tryd.ntmps25
      go_wp2
      go_ret
      exact ⟨rfl, rfl⟩

set_option maxHeartbeats 1000000 in
theorem refCost_any (t : Int) (w : World) (ht : isB t = true) : Calls Tryd.prog 24 #[.int .i64 t] w fun e w' => e = .returned (.int .i64 (cosT t)) ∧ Below w.heap.size w w' := by
  simp [isB] at ht
  obtain ⟨n, rfl⟩ := Int.eq_ofNat_of_zero_le ht.1
  have : n ≤ 7 := by omega
  clear ht
  match n, this with
  | 0, _ | 1, _ | 2, _ | 3, _ | 4, _ | 5, _ | 6, _ | 7, _ =>
    go_enter Tryd.func24, Tryd.ntmps24
    go_wp2
    go_ret
    exact ⟨rfl, (Below.refl _ _).alloc (Nat.le_refl _) _⟩

end Go.Proofs.YtfkkkebegkhdfaaDoor
