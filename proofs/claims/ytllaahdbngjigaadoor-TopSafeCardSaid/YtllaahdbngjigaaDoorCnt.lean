/-
  counts: the example of layer 4.
-/
import Derived.Test.YtllaahdbngjigaaDoorShare
namespace Go.Proofs.YtllaahdbngjigaaDoor
open Go Go.RowKit
set_option linter.unusedVariables false
set_option linter.unusedSimpArgs false
theorem cnt_bt {W w w' : World} (h1 : Below W.heap.size W w) (h2 : Below w.heap.size w w') : Below W.heap.size W w' := h1.trans (h2.mono h1.size)
theorem cnt_lit (w : World) (cs : List Nat) (b n : Nat) (hb : b = w.heap.size) (hn : n = cs.length) (hl : cs.length ≤ 4096) : Ints (w.alloc (.cells (nums cs) 2)) (.slice (some ⟨b, 0, none⟩) n n) (natI cs) := by
  subst hb hn
  exact Parts.ints (w0 := w) ⟨w.heap.size, rfl, heap_alloc_new _ _, Nat.le_refl _⟩ hl
theorem cnt_ex : ∀ out, IsSplit 10 [1, 1, 1] out → out = [4, 3, 3] := fun out h => h.unique ⟨[0, 1, 2], by decide, by unfold Srtd Lx; decide, by decide⟩
theorem counts_any (w : World) : Calls Tryd.prog 5 #[] w fun e w' => e = .returned (.bool true) ∧ Below w.heap.size w w' := by
  have HS1 := Lib.hid (show Calls Tryd.prog 26 #[.int .i64 10, .slice (some ⟨w.heap.size, 0, none⟩) 3 3] (w.alloc (.cells #[.int .i64 1, .int .i64 1, .int .i64 1] 2)) fun e w' => ∃ b, e = .returned (.tuple #[.slice (some ⟨b, 0, none⟩) 3 3, .int .i64 0]) ∧ w'.heap[b]? = some (.cells #[.int .i64 4, .int .i64 3, .int .i64 3] 2 (0, 0)) ∧ Below w.heap.size w w' from by
    refine (split_any 10 _ [1, 1, 1] _ (cnt_lit w [1, 1, 1] _ 3 rfl rfl (by decide)) (by decide)).mono ?_
    rintro e w' ⟨u, out, rfl, hs, ⟨b, rfl, hb, hlo⟩, hbel⟩
    obtain rfl := cnt_ex out hs
    exact ⟨b, rfl, hb, cnt_bt ((Below.refl _ _).alloc (Nat.le_refl _) _) hbel⟩)
  go_enter Tryd.func5, Tryd.ntmps5
  go_wp2_with fail
  refine HS1.out.mono ?_
  rintro e w1 ⟨b, rfl, hb, hbe⟩
  have x0 : w1.cell? ⟨b, 0, none⟩ = some (.int .i64 4) := by simp only [World.cell?, hb]; rfl
  have x1 : w1.cell? ⟨b, 1, none⟩ = some (.int .i64 3) := by simp only [World.cell?, hb]; rfl
  have x2 : w1.cell? ⟨b, 2, none⟩ = some (.int .i64 3) := by simp only [World.cell?, hb]; rfl
  have HBe := Lib.hid hbe
  clear hb hbe HS1
  go_wp2
  go_ret
  exact ⟨rfl, HBe.out⟩
end Go.Proofs.YtllaahdbngjigaaDoor
