/-
  A text of n zero bytes, made and turned.
-/
import Derived.Test.YthfddgffanajaaaLasts
import Derived.OwnWalk
import Derived.Laws.IdiomStrings
namespace Go.Proofs.Ythfddgffanajaaa
open Go Go.RowKit
set_option linter.unusedVariables false
set_option linter.unusedSimpArgs false

theorem info5 : (Try.prog.info? 5).map (fun i => (i.zero, i.size, i.bytes)) = some (some (.int .u8 0), 1, 1) := by kernel_rfl
def zer (n : Nat) : ByteArray := ⟨(List.replicate n (0 : UInt8)).toArray⟩
theorem zer_size (n : Nat) : (zer n).size = n := by simp [zer, ByteArray.size]
theorem made_at (n j : Nat) (hj : j < n) : (madeCells (Value.int .u8 0).cells (n * 1)).toList[j]? = some (.int .u8 0) := by
  simp [madeCells, Value.cells, hj, Nat.mod_one]
theorem conv_zeros {w : World} {base g n : Nat} (h : w.ownsRow base 5 1 (.slice (some ⟨g, 0, none⟩) n n) n (madeCells (Value.int .u8 0).cells (n * 1)).toList) :
    (convert 36 9 (.slice (some ⟨g, 0, none⟩) n n)).run Try.prog w = .ok (.string (zer n)) w := by
  have hl : (List.replicate n (0 : UInt8)).length = n := by simp
  have := run_convert_bytes_back (P := Try.prog) w 36 9 5 ⟨g, 0, none⟩ n (List.replicate n 0) (by kernel_rfl) (by kernel_rfl) (by kernel_rfl) (fun j hj => by
    rw [h.cells rfl j (.int .u8 0) (made_at n j (by simpa using hj))]
    simp)
  rwa [hl] at this
/-- New blocks alone. -/
theorem One.grown {W w w' : World} {b : Nat} {s : St} (h : One W w b s) (hg : w.grownBy w' none) : One W w' b s := by
  obtain ⟨v, h1, h2, h3, h4⟩ := h
  exact ⟨v, h1.kept (S := fun _ => False) ((Touch.refl _ _).grown hg (fun _ h => by cases h)) id (fun _ _ => id), h2, h3, h4.trans (((Touch.refl (fun _ => False) _).grown hg (fun _ h => by cases h)).below h4.size (fun _ h => h.elim))⟩
end Go.Proofs.Ythfddgffanajaaa
