/-
  money.worth, money.Compare, at fractions that may be.
-/
import Derived.Test.YtbehepeebffmoaaD2
import Derived.Deep.RegionHeld3
namespace Go.Proofs.Ytbehepeebffmoaa
open Go Go.RowKit
set_option linter.unusedVariables false
set_option linter.unusedSimpArgs false

def cmpI (N1 D1 N2 D2 : Nat) : Int := if N1 * D2 < N2 * D1 then -1 else if N1 * D2 = N2 * D1 then 0 else 1

set_option maxHeartbeats 1000000 in
theorem worth_ok (N D : Nat) (hD : 1 ≤ D) (w : World) :
    Calls Try.prog 33 #[.agg #[.int .i64 (N : Int), .int .i64 (D : Int)]] w fun e w' => e = .returned (.agg #[.int .i64 (N : Int), .int .i64 (D : Int)]) ∧ Below w.heap.size w w' := by
  have HI := Lib.hid (fun w => misratio_any (N : Int) (D : Int) w true (by symm; rw [decide_eq_true_iff]; omega))
  clear hD
  go_enter Try.func33, Try.ntmps33
  go_wp2_with fail
  refine (HI.out _).mono ?_
  rintro e w1 ⟨rfl, hb⟩
  obtain ⟨c1, c2, c5, c6, c7, c8, lt⟩ := (inout w _ _ _).below hb
  have HB := Lib.hid (btd (below2 _ _ _) hb)
  clear hb lt
  obtain ⟨b, hb⟩ : ∃ b, b = w.heap.size := ⟨_, rfl⟩
  rw [← hb] at c1 c2 c5 c6 c7 c8 ⊢
  have HX := Lib.hid hb
  clear hb
  go_wp2
  refine bodyPost_ret (v := .agg #[.int .i64 (N : Int), .int .i64 (D : Int)]) (by simp [results, Try.results33, go_sem, c5, c6, c7, c8]) rfl ⟨rfl, ?_⟩
  exact (HB.out.setCell (p := ⟨b + 1, 0, none⟩) (by rw [HX.out]; exact Nat.le_succ _) _).setCell (p := ⟨b + 1, 1, none⟩) (by rw [HX.out]; exact Nat.le_succ _) _

/-- Two fractions, each in its block. -/
def Prs (b : Nat) (w0 : World) (x1 x2 x3 x4 : Value) (w : World) : Prop :=
  w.cell? ⟨b, 0, none⟩ = some x1 ∧ w.cell? ⟨b, 1, none⟩ = some x2 ∧ w.cell? ⟨b + 1, 0, none⟩ = some x3 ∧ w.cell? ⟨b + 1, 1, none⟩ = some x4 ∧
  w.frozen? ⟨b, 0, none⟩ = false ∧ w.frozen? ⟨b, 1, none⟩ = false ∧ w.frozen? ⟨b + 1, 0, none⟩ = false ∧ w.frozen? ⟨b + 1, 1, none⟩ = false ∧ (b + 1 < w.heap.size ∧ Below w0.heap.size w0 w)
theorem Prs.below {b : Nat} {w0 w w' : World} {x1 x2 x3 x4 : Value} (h : Prs b w0 x1 x2 x3 x4 w) (hb : Below w.heap.size w w') : Prs b w0 x1 x2 x3 x4 w' := by
  obtain ⟨c1, c2, c5, c6, f1, f2, c7, c8, lt, h0⟩ := h
  refine ⟨?_, ?_, ?_, ?_, ?_, ?_, ?_, ?_, Nat.lt_of_lt_of_le lt hb.size, btd h0 hb⟩
  · rw [hb.cell (by show b < _; omega)]; exact c1
  · rw [hb.cell (by show b < _; omega)]; exact c2
  · rw [hb.cell (by show b + 1 < _; omega)]; exact c5
  · rw [hb.cell (by show b + 1 < _; omega)]; exact c6
  · rw [hb.frozen (by show b < _; omega)]; exact f1
  · rw [hb.frozen (by show b < _; omega)]; exact f2
  · rw [hb.frozen (by show b + 1 < _; omega)]; exact c7
  · rw [hb.frozen (by show b + 1 < _; omega)]; exact c8
theorem Prs.drew {b : Nat} {w0 w : World} {x1 x2 x3 x4 : Value} (h : Prs b w0 x1 x2 x3 x4 w) : Prs b w0 x1 x2 x3 x4 w.drew := by
  obtain ⟨c1, c2, c5, c6, f1, f2, c7, c8, lt, h0⟩ := h
  exact ⟨c1, c2, c5, c6, f1, f2, c7, c8, lt, h0.drew⟩
theorem Prs.at1 {b : Nat} {w0 w : World} {x1 x2 x3 x4 : Value} (h : Prs b w0 x1 x2 x3 x4 w) (hb : w0.heap.size ≤ b) : Prs b w0 x1 x2 x3 x4 ((w.setCell ⟨b, 0, none⟩ x1).setCell ⟨b, 1, none⟩ x2) := by
  obtain ⟨c1, c2, c5, c6, f1, f2, c7, c8, lt, h0⟩ := h
  refine ⟨?_, ?_, ?_, ?_, ?_, ?_, ?_, ?_, ?_, (h0.setCell (p := ⟨b, 0, none⟩) hb _).setCell (p := ⟨b, 1, none⟩) hb _⟩ <;> first | (simp [go_sem, *]; done) | (simpa [World.setCell] using lt)
theorem Prs.at2 {b : Nat} {w0 w : World} {x1 x2 x3 x4 : Value} (h : Prs b w0 x1 x2 x3 x4 w) (hb : w0.heap.size ≤ b) : Prs b w0 x1 x2 x3 x4 ((w.setCell ⟨b + 1, 0, none⟩ x3).setCell ⟨b + 1, 1, none⟩ x4) := by
  obtain ⟨c1, c2, c5, c6, f1, f2, c7, c8, lt, h0⟩ := h
  refine ⟨?_, ?_, ?_, ?_, ?_, ?_, ?_, ?_, ?_, (h0.setCell (p := ⟨b + 1, 0, none⟩) (by show _ ≤ b + 1; omega) _).setCell (p := ⟨b + 1, 1, none⟩) (by show _ ≤ b + 1; omega) _⟩ <;> first | (simp [go_sem, *]; done) | (simpa [World.setCell] using lt)
theorem prs_new (w : World) (t : TypeId) (x1 x2 x3 x4 : Value) : Prs w.heap.size w x1 x2 x3 x4 ((w.alloc (.cells #[x1, x2] t)).alloc (.cells #[x3, x4] t)) := by
  have hC : (((w.alloc (.cells #[x1, x2] t)).alloc (.cells #[x3, x4] t))).heap[w.heap.size + 1]? = some (.cells #[x3, x4] t (0, 0)) := by
    have := heap_alloc_new (w.alloc (.cells #[x1, x2] t)) (.cells #[x3, x4] t)
    simpa using this
  have hA : (((w.alloc (.cells #[x1, x2] t)).alloc (.cells #[x3, x4] t))).heap[w.heap.size]? = some (.cells #[x1, x2] t (0, 0)) := by
    rw [((Below.refl (((w.alloc (.cells #[x1, x2] t)))).heap.size _).alloc (Nat.le_refl _) _).block _ (by simp)]
    exact heap_alloc_new _ _
  have hB := below2 w (.cells #[x1, x2] t) (.cells #[x3, x4] t)
  generalize ((w.alloc (.cells #[x1, x2] t)).alloc (.cells #[x3, x4] t)) = W at *
  refine ⟨?_, ?_, ?_, ?_, ?_, ?_, ?_, ?_, ?_, hB⟩ <;> first | (simp [World.cell?, hA]; done) | (simp [World.cell?, hC]; done) | (simp [World.frozen?, hC]; done) | (simp [World.frozen?, hA]; done) | skip
  rcases Nat.lt_or_ge (w.heap.size + 1) W.heap.size with g | g
  · exact g
  · rw [Array.getElem?_eq_none g] at hC; cases hC

set_option maxHeartbeats 4000000 in
theorem compare_ok (N1 D1 N2 D2 : Nat) (h1 : N1 < 9223372036854775808) (h2 : D1 < 9223372036854775808) (h3 : N2 < 9223372036854775808) (h4 : D2 < 9223372036854775808) (h5 : 1 ≤ D1) (h6 : 1 ≤ D2) (w : World) :
    Calls Try.prog 17 #[.agg #[.int .i64 (N1 : Int), .int .i64 (D1 : Int)], .agg #[.int .i64 (N2 : Int), .int .i64 (D2 : Int)]] w fun e w' => e = .returned (.int .i64 (cmpI N1 D1 N2 D2)) ∧ Below w.heap.size w w' := by
  have HP := Lib.hid (prs_new w 23 (.int .i64 (N1 : Int)) (.int .i64 (D1 : Int)) (.int .i64 (N2 : Int)) (.int .i64 (D2 : Int)))
  have HW1 := Lib.hid (fun (b : Nat) (W : World) (h : Prs b w (.int .i64 (N1 : Int)) (.int .i64 (D1 : Int)) (.int .i64 (N2 : Int)) (.int .i64 (D2 : Int)) W) => (worth_ok N1 D1 h5 W).mono fun e w' hh => (show e = .returned (.agg #[.int .i64 (N1 : Int), .int .i64 (D1 : Int)]) ∧ Prs b w (.int .i64 (N1 : Int)) (.int .i64 (D1 : Int)) (.int .i64 (N2 : Int)) (.int .i64 (D2 : Int)) w' from ⟨hh.1, h.below hh.2⟩))
  have HW2 := Lib.hid (fun (b : Nat) (W : World) (h : Prs b w (.int .i64 (N1 : Int)) (.int .i64 (D1 : Int)) (.int .i64 (N2 : Int)) (.int .i64 (D2 : Int)) W) => (worth_ok N2 D2 h6 W).mono fun e w' hh => (show e = .returned (.agg #[.int .i64 (N2 : Int), .int .i64 (D2 : Int)]) ∧ Prs b w (.int .i64 (N1 : Int)) (.int .i64 (D1 : Int)) (.int .i64 (N2 : Int)) (.int .i64 (D2 : Int)) w' from ⟨hh.1, h.below hh.2⟩))
  have HM1 := Lib.hid (fun w => mul_any N1 D2 (by omega) (by omega) w)
  have HM2 := Lib.hid (fun w => mul_any N2 D1 (by omega) (by omega) w)
  have e1 : IntKind.u64.wrap (N1 : Int) = (N1 : Int) := wrapN _ (by omega)
  have e2 : IntKind.u64.wrap (D1 : Int) = (D1 : Int) := wrapN _ (by omega)
  have e3 : IntKind.u64.wrap (N2 : Int) = (N2 : Int) := wrapN _ (by omega)
  have e4 : IntKind.u64.wrap (D2 : Int) = (D2 : Int) := wrapN _ (by omega)
  have HC := Lib.hid (show cmpI N1 D1 N2 D2 = if N1 * D2 < N2 * D1 then -1 else if N1 * D2 = N2 * D1 then 0 else 1 from rfl)
  generalize cmpI N1 D1 N2 D2 = v at *
  obtain ⟨x, hx⟩ : ∃ x, x = N1 * D2 := ⟨_, rfl⟩
  obtain ⟨y, hy⟩ : ∃ x, x = N2 * D1 := ⟨_, rfl⟩
  rw [← hx, ← hy] at HC
  rw [← hx] at HM1
  rw [← hy] at HM2
  obtain ⟨xh, hxh⟩ : ∃ z, z = x / 18446744073709551616 := ⟨_, rfl⟩
  obtain ⟨xl, hxl⟩ : ∃ z, z = x % 18446744073709551616 := ⟨_, rfl⟩
  obtain ⟨yh, hyh⟩ : ∃ z, z = y / 18446744073709551616 := ⟨_, rfl⟩
  obtain ⟨yl, hyl⟩ : ∃ z, z = y % 18446744073709551616 := ⟨_, rfl⟩
  rw [← hxh, ← hxl] at HM1
  rw [← hyh, ← hyl] at HM2
  have HX := Lib.hid (show (x < y ↔ xh < yh ∨ xh = yh ∧ xl < yl) ∧ (x = y ↔ xh = yh ∧ xl = yl) by omega)
  clear h1 h2 h3 h4 h5 h6 hx hy hxh hxl hyh hyl
  go_enter Try.func17, Try.ntmps17
  go_wp2_with fail
  generalize (w.alloc (.cells #[.int .i64 (N1 : Int), .int .i64 (D1 : Int)] 23)).alloc (.cells #[.int .i64 (N2 : Int), .int .i64 (D2 : Int)] 23) = w1 at *
  obtain ⟨b, hb⟩ : ∃ b, b = w.heap.size := ⟨_, rfl⟩
  rw [← hb] at HP ⊢
  have HLe := Lib.hid (show w.heap.size ≤ b by omega)
  clear hb
  have hS0 := HP.out
  go_region_held3 (fun W => W.cell? ⟨b, 0, none⟩ = some (.int .i64 (N1 : Int)) ∧ W.cell? ⟨b, 1, none⟩ = some (.int .i64 (D1 : Int)) ∧ W.cell? ⟨b + 1, 0, none⟩ = some (.int .i64 (N2 : Int)) ∧ W.cell? ⟨b + 1, 1, none⟩ = some (.int .i64 (D2 : Int)) ∧
    W.frozen? ⟨b, 0, none⟩ = false ∧ W.frozen? ⟨b, 1, none⟩ = false ∧ W.frozen? ⟨b + 1, 0, none⟩ = false ∧ W.frozen? ⟨b + 1, 1, none⟩ = false ∧ (b + 1 < W.heap.size ∧ Below w.heap.size w W)) (first | (show Prs b w (.int .i64 (N1 : Int)) (.int .i64 (D1 : Int)) (.int .i64 (N2 : Int)) (.int .i64 (D2 : Int)) _; with_reducible first | exact hS9 | exact Prs.drew hS0 | (refine Prs.at1 ?_ HLe.out; unfold Prs; assumption) | (refine Prs.at2 ?_ HLe.out; unfold Prs; assumption)) | (with_reducible assumption))
    (first | (go_at_call_of 33 (Value.agg #[.int .i64 (N1 : Int), .int .i64 (D1 : Int)]); refine (HW1.out b _ ?_).mono ?_; (unfold Prs; with_reducible first | assumption | exact ⟨by assumption, by assumption, by assumption, by assumption, by assumption, by assumption, by assumption, by assumption, by assumption⟩); rintro e w9 ⟨rfl, hS9⟩) | (go_at_call_of 33 (Value.agg #[.int .i64 (N2 : Int), .int .i64 (D2 : Int)]); refine (HW2.out b _ ?_).mono ?_; (unfold Prs; with_reducible first | assumption | exact ⟨by assumption, by assumption, by assumption, by assumption, by assumption, by assumption, by assumption, by assumption, by assumption⟩); rintro e w9 ⟨rfl, hS9⟩))
  go_wp2_with fail
  refine (HM1.out _).mono ?_
  rintro e w2 ⟨rfl, rfl⟩
  go_wp2_with fail
  refine (HM2.out _).mono ?_
  rintro e w2 ⟨rfl, rfl⟩
  obtain ⟨-, -, -, -, -, -, -, -, -, hB⟩ := ‹_ ∧ _ ∧ _ ∧ _ ∧ _ ∧ _ ∧ _ ∧ _ ∧ _ ∧ _›
  have HB := Lib.hid hB
  clear hB
  obtain ⟨hx1, hx2⟩ := HX.out
  have hv := HC.out
  by_cases g1 : xh < yh
  · have hvv : v = -1 := by rw [hv, if_pos (hx1.2 (.inl g1))]
    have d1 : decide (xh < yh) = true := by rw [decide_eq_true_iff]; exact g1
    clear hv hx1 hx2
    subst hvv
    go_wp2
    go_ret
    exact ⟨rfl, HB.out⟩
  · have d1 : decide (xh < yh) = false := by rw [decide_eq_false_iff_not]; exact g1
    by_cases g2 : xh = yh
    · subst g2
      have d2 : ((xh : Int) == (xh : Int)) = true := by simp
      by_cases g3 : xl < yl
      · have hvv : v = -1 := by rw [hv, if_pos (hx1.2 (.inr ⟨rfl, g3⟩))]
        have d3 : decide (xl < yl) = true := by rw [decide_eq_true_iff]; exact g3
        clear hv hx1 hx2
        subst hvv
        go_wp2
        go_ret
        exact ⟨rfl, HB.out⟩
      · have d3 : decide (xl < yl) = false := by rw [decide_eq_false_iff_not]; exact g3
        by_cases g4 : xl = yl
        · subst g4
          have hvv : v = 0 := by rw [hv, if_neg (fun h => by have := hx1.1 h; omega), if_pos (hx2.2 ⟨rfl, rfl⟩)]
          clear hv hx1 hx2
          subst hvv
          go_wp2
          go_ret
          exact ⟨rfl, HB.out⟩
        · have d4 : ((xl : Int) == (yl : Int)) = false := by rw [beq_eq_false_iff_ne]; omega
          have hvv : v = 1 := by rw [hv, if_neg (fun h => by have := hx1.1 h; omega), if_neg (fun h => by have := hx2.1 h; omega)]
          clear hv hx1 hx2 g4
          subst hvv
          go_wp2
          go_ret
          exact ⟨rfl, HB.out⟩
    · have d2 : ((xh : Int) == (yh : Int)) = false := by rw [beq_eq_false_iff_ne]; omega
      have hvv : v = 1 := by rw [hv, if_neg (fun h => by have := hx1.1 h; omega), if_neg (fun h => by have := hx2.1 h; omega)]
      clear hv hx1 hx2 g2
      subst hvv
      go_wp2
      go_ret
      exact ⟨rfl, HB.out⟩
end Go.Proofs.Ytbehepeebffmoaa
