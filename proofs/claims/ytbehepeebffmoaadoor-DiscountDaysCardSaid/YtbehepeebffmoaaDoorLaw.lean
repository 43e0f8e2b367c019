/-
  The example of layer 39; DiscountInterest.
-/
import Derived.Test.YtbehepeebffmoaaDoorDisc2
import Derived.Lib.SmallJoins
namespace Go.Proofs.YtbehepeebffmoaaDoor
open Go Go.RowKit
set_option linter.unusedVariables false
set_option linter.unusedSimpArgs false

def Is27 (w : World) (v : Value) : Prop := ∃ N D : Int, v = .agg #[.int .i64 N, .int .i64 D] ∧ (Lit.int .i64 N).wf = true ∧ (Lit.int .i64 D).wf = true
theorem open27 {H : Type} {enc : TypeId × Value → H} {W : World} {base : Nat} {v : Value} {d : DataW H} {p : List MemPlace} (hval : Value.okWide Tryd.prog W .any base 27 v)
    (h : DataW.Trod enc Tryd.prog W 0 (fun _ => true) true 27 v d p) : Is27 W v := by
  obtain ⟨c0, c1, y0, y1, m, rfl, rfl, rfl, hy0, hy1⟩ := Joins.open_agg2 Tryd.underlying27 (by kernel_rfl) (by kernel_rfl) hval h
  obtain ⟨z0, r0, _, hw0⟩ := DataW.trod_int Tryd.underlying2 hy0
  obtain ⟨z1, r1, _, hw1⟩ := DataW.trod_int Tryd.underlying2 hy1
  cases r0; cases r1
  exact ⟨z0, z1, rfl, hw0, hw1⟩

theorem ex_int : intP 1000 9 100 60 360 = (15, 1, true) := by
  unfold intP
  rw [if_pos (by unfold okI; omega)]
  rfl
theorem ex_disc : discP 1000 9 100 60 360 = (985, 15, true) := by
  unfold discP
  rw [ex_int]
  rfl

set_option maxHeartbeats 1000000 in
theorem awake_any (w : World) : Calls Tryd.prog 4 #[] w fun e w' => e = .returned (.bool true) ∧ Below w.heap.size w w' := by
  have HI := Lib.hid (fun w => interest_any 1000 9 100 60 360 w)
  have HD := Lib.hid (fun w => discount_any 1000 9 100 60 360 w)
  rw [ex_int] at HI
  rw [ex_disc] at HD
  unfold vR v3 at *
  go_enter Tryd.func4, Tryd.ntmps4
  go_wp2_with fail
  refine (HI.out _).mono ?_
  rintro e w1 ⟨rfl, hb1⟩
  have HB1 := Lib.hid hb1
  clear hb1
  go_wp2_with fail
  refine (HD.out _).mono ?_
  rintro e w2 ⟨rfl, hb2⟩
  have c1 := hb2.cell (p := ⟨w1.heap.size, 0, none⟩) (by simp)
  have c2 := hb2.cell (p := ⟨w1.heap.size, 1, none⟩) (by simp)
  have HB2 := Lib.hid (btd (HB1.out.alloc HB1.out.size _) hb2)
  clear hb2
  go_wp2
  go_ret
  exact ⟨rfl, HB2.out⟩

theorem two_cells {w1 w2 : World} {t : TypeId} {u v : Value} (h : Below (w1.alloc (.cells #[u, v] t)).heap.size (w1.alloc (.cells #[u, v] t)) w2) :
    w2.cell? ⟨w1.heap.size, 0, none⟩ = some u ∧ w2.cell? ⟨w1.heap.size, 1, none⟩ = some v ∧ w1.heap.size < w2.heap.size := by
  refine ⟨?_, ?_, ?_⟩
  · rw [h.cell (p := ⟨w1.heap.size, 0, none⟩) (by simp)]; simp
  · rw [h.cell (p := ⟨w1.heap.size, 1, none⟩) (by simp)]; simp
  · have := h.size; simp at this; omega
theorem next_cells {w1 w2 : World} {b : Nat} {u v : Value} (h : w1.cell? ⟨b, 0, none⟩ = some u ∧ w1.cell? ⟨b, 1, none⟩ = some v ∧ b < w1.heap.size) (hb : Below w1.heap.size w1 w2) :
    w2.cell? ⟨b, 0, none⟩ = some u ∧ w2.cell? ⟨b, 1, none⟩ = some v ∧ b < w2.heap.size :=
  ⟨(hb.cell (p := ⟨b, 0, none⟩) h.2.2).trans h.1, (hb.cell (p := ⟨b, 1, none⟩) h.2.2).trans h.2.1, Nat.lt_of_lt_of_le h.2.2 hb.size⟩
theorem bta {W w w' : World} {o : Obj} (h1 : Below W.heap.size W w) (h2 : Below (w.alloc o).heap.size (w.alloc o) w') : Below W.heap.size W w' := btd (h1.alloc h1.size _) h2

namespace discountInterest
end discountInterest
end Go.Proofs.YtbehepeebffmoaaDoor
