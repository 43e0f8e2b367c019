/-
  The example of layer 39; DiscountInterest.
-/
import Derived.Test.YtbehepeebffmoaaDisc2
import Derived.Lib.SmallJoins
namespace Go.Proofs.Ytbehepeebffmoaa
open Go Go.RowKit
set_option linter.unusedVariables false
set_option linter.unusedSimpArgs false

def Is23 (w : World) (v : Value) : Prop := ∃ N D : Int, v = .agg #[.int .i64 N, .int .i64 D] ∧ (Lit.int .i64 N).wf = true ∧ (Lit.int .i64 D).wf = true
theorem open23 {H : Type} {enc : TypeId × Value → H} {W : World} {base : Nat} {v : Value} {d : DataW H} {p : List MemPlace} (hval : Value.okWide Try.prog W .any base 23 v)
    (h : DataW.Trod enc Try.prog W 0 (fun _ => true) true 23 v d p) : Is23 W v := by
  obtain ⟨c0, c1, y0, y1, m, rfl, rfl, rfl, hy0, hy1⟩ := Joins.open_agg2 Try.underlying23 (by kernel_rfl) (by kernel_rfl) hval h
  obtain ⟨z0, r0, _, hw0⟩ := DataW.trod_int Try.underlying2 hy0
  obtain ⟨z1, r1, _, hw1⟩ := DataW.trod_int Try.underlying2 hy1
  cases r0; cases r1
  exact ⟨z0, z1, rfl, hw0, hw1⟩

theorem ex_int : intP 1000 9 100 60 360 = (15, 1, true) := by
  unfold intP
  rw [if_pos (by unfold okI; omega)]
  rfl
theorem ex_disc : discP 1000 9 100 60 360 = (985, 15, true) := by
  unfold discP
  rw [ex_int]
  rfl

set_option maxHeartbeats 1000000 in
theorem awake39_any (w : World) : Calls Try.prog 10 #[] w fun e w' => e = .returned (.bool true) ∧ Below w.heap.size w w' := by
  have HI := Lib.hid (fun w => interest_any 1000 9 100 60 360 w)
  have HD := Lib.hid (fun w => discount_any 1000 9 100 60 360 w)
  rw [ex_int] at HI
  rw [ex_disc] at HD
  unfold vR v3 at *
  go_enter Try.func10, Try.ntmps10
  go_wp2_with fail
  refine (HI.out _).mono ?_
  rintro e w1 ⟨rfl, hb1⟩
  have HB1 := Lib.hid hb1
  clear hb1
  go_wp2_with fail
  refine (HD.out _).mono ?_
  rintro e w2 ⟨rfl, hb2⟩
  have c1 := hb2.cell (p := ⟨w1.heap.size, 0, none⟩) (by simp)
  have c2 := hb2.cell (p := ⟨w1.heap.size, 1, none⟩) (by simp)
  have HB2 := Lib.hid (btd (HB1.out.alloc HB1.out.size _) hb2)
  clear hb2
  go_wp2
  go_ret
  exact ⟨rfl, HB2.out⟩

theorem two_cells {w1 w2 : World} {t : TypeId} {u v : Value} (h : Below (w1.alloc (.cells #[u, v] t)).heap.size (w1.alloc (.cells #[u, v] t)) w2) :
    w2.cell? ⟨w1.heap.size, 0, none⟩ = some u ∧ w2.cell? ⟨w1.heap.size, 1, none⟩ = some v ∧ w1.heap.size < w2.heap.size := by
  refine ⟨?_, ?_, ?_⟩
  · rw [h.cell (p := ⟨w1.heap.size, 0, none⟩) (by simp)]; simp
  · rw [h.cell (p := ⟨w1.heap.size, 1, none⟩) (by simp)]; simp
  · have := h.size; simp at this; omega
theorem next_cells {w1 w2 : World} {b : Nat} {u v : Value} (h : w1.cell? ⟨b, 0, none⟩ = some u ∧ w1.cell? ⟨b, 1, none⟩ = some v ∧ b < w1.heap.size) (hb : Below w1.heap.size w1 w2) :
    w2.cell? ⟨b, 0, none⟩ = some u ∧ w2.cell? ⟨b, 1, none⟩ = some v ∧ b < w2.heap.size :=
  ⟨(hb.cell (p := ⟨b, 0, none⟩) h.2.2).trans h.1, (hb.cell (p := ⟨b, 1, none⟩) h.2.2).trans h.2.1, Nat.lt_of_lt_of_le h.2.2 hb.size⟩
theorem bta {W w w' : World} {o : Obj} (h1 : Below W.heap.size W w) (h2 : Below (w.alloc o).heap.size (w.alloc o) w') : Below W.heap.size W w' := btd (h1.alloc h1.size _) h2

namespace discountInterest
set_option maxRecDepth 100000 in
set_option maxHeartbeats 4000000 in
theorem body (S N D T B : Int) (w : World) :
    Calls Try.prog 3 #[.int .i64 S, .agg #[.int .i64 N, .int .i64 D], .int .i64 T, .int .i64 B] w fun e w' => e = .returned (.bool true) ∧ Below w.heap.size w w' := by
  have HI := Lib.hid (fun w => interest_any S N D T B w)
  have HR := Lib.hid (fun w => rinterest_any S N D T B w)
  have HD := Lib.hid (fun w => discount_any S N D T B w)
  have HE := Lib.hid (fun w => rdiscount_any S N D T B w)
  have HF := Lib.hid (fun w => rebate_any S N D T B w)
  have HG := Lib.hid (fun w => rrebate_any S N D T B w)
  generalize intP S N D T B = x at *
  generalize discP S N D T B = y at *
  generalize rebP S N D T B = z at *
  obtain ⟨p, q, ok⟩ := x
  obtain ⟨n, t, on⟩ := y
  obtain ⟨r, by'⟩ := z
  unfold vR v3 v2 at *
  go_enter Try.func3, Try.ntmps3
  go_wp2_with fail
  refine (awake39_any _).mono ?_
  rintro e w1 ⟨rfl, hb⟩
  have HC := Lib.hid (two_cells hb)
  have HB := Lib.hid (bta (Below.refl _ _) hb)
  obtain ⟨b, hb0⟩ : ∃ b, b = w.heap.size := ⟨_, rfl⟩
  rw [← hb0] at HC ⊢
  have HX := Lib.hid hb0
  obtain ⟨c1, c2, -⟩ := HC.out
  clear hb hb0
  go_wp2_with fail
  refine (HI.out _).mono ?_
  rintro e w2 ⟨rfl, hb⟩
  have HC2 := Lib.hid (next_cells HC.out hb)
  have HB2 := Lib.hid (btd HB.out hb)
  clear hb c1 c2
  obtain ⟨c1, c2, -⟩ := HC2.out
  obtain ⟨d1, d2, -⟩ := next_cells HC2.out ((Below.refl _ _).alloc (Nat.le_refl _) (.cells #[.int .i64 p, .int .i64 q] 23))
  go_wp2_with fail
  refine (HR.out _).mono ?_
  rintro e w3 ⟨rfl, hb⟩
  have HP := Lib.hid (two_cells hb)
  have HC3 := Lib.hid (next_cells (next_cells HC2.out ((Below.refl _ _).alloc (Nat.le_refl _) _)) hb)
  have HB3 := Lib.hid (bta HB2.out hb)
  obtain ⟨k, hk⟩ : ∃ k, k = w2.heap.size := ⟨_, rfl⟩
  rw [← hk] at HP ⊢
  clear hb c1 c2 d1 d2 hk
  obtain ⟨c1, c2, -⟩ := HC3.out
  obtain ⟨d1, d2, -⟩ := next_cells HC3.out ((Below.refl _ _).alloc (Nat.le_refl _) (.cells #[.int .i64 p, .int .i64 q] 23))
  go_wp2_with fail
  refine (HD.out _).mono ?_
  rintro e w4 ⟨rfl, hb⟩
  have HL := Lib.hid (two_cells hb)
  have HP4 := Lib.hid (next_cells (next_cells HP.out ((Below.refl _ _).alloc (Nat.le_refl _) _)) hb)
  have HC4 := Lib.hid (next_cells (next_cells HC3.out ((Below.refl _ _).alloc (Nat.le_refl _) _)) hb)
  have HB4 := Lib.hid (bta HB3.out hb)
  obtain ⟨l, hl⟩ : ∃ k, k = w3.heap.size := ⟨_, rfl⟩
  rw [← hl] at HL ⊢
  clear hb c1 c2 d1 d2 hl
  obtain ⟨c1, c2, -⟩ := HC4.out
  go_wp2_with fail
  refine (HE.out _).mono ?_
  rintro e w5 ⟨rfl, hb⟩
  have HL5 := Lib.hid (next_cells HL.out hb)
  have HP5 := Lib.hid (next_cells HP4.out hb)
  have HC5 := Lib.hid (next_cells HC4.out hb)
  have HB5 := Lib.hid (btd HB4.out hb)
  clear hb c1 c2
  obtain ⟨c1, c2, -⟩ := HC5.out
  go_wp2_with fail
  refine (HF.out _).mono ?_
  rintro e w6 ⟨rfl, hb⟩
  have HL6 := Lib.hid (next_cells HL5.out hb)
  have HP6 := Lib.hid (next_cells HP5.out hb)
  have HC6 := Lib.hid (next_cells HC5.out hb)
  have HB6 := Lib.hid (btd HB5.out hb)
  clear hb c1 c2
  obtain ⟨c1, c2, -⟩ := HC6.out
  go_wp2_with fail
  refine (HG.out _).mono ?_
  rintro e w7 ⟨rfl, hb⟩
  obtain ⟨c3, c4, -⟩ := next_cells HL6.out hb
  obtain ⟨c5, c6, -⟩ := next_cells HP6.out hb
  have HB7 := Lib.hid (btd HB6.out hb)
  clear hb c1 c2
  go_wp2
  go_ret
  exact ⟨rfl, HB7.out⟩
theorem walk (S : Int) (v : Value) (T B : Int) (w : World) (_ : (Lit.int .i64 S).wf = true) (hv : Is23 w v) (_ : (Lit.int .i64 T).wf = true) (_ : (Lit.int .i64 B).wf = true) :
    Calls Try.prog 3 #[.int .i64 S, v, .int .i64 T, .int .i64 B] w fun e w' => e = .returned (.bool true) ∧ Below w.heap.size w w' := by
  obtain ⟨N, D, rfl, _⟩ := hv
  exact body S N D T B w
end discountInterest
end Go.Proofs.Ytbehepeebffmoaa
