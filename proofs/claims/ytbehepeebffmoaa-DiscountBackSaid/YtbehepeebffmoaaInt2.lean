/-
  discount.Interest, where there is none.
-/
import Derived.Test.YtbehepeebffmoaaInt
namespace Go.Proofs.Ytbehepeebffmoaa
open Go Go.RowKit
set_option linter.unusedVariables false
set_option linter.unusedSimpArgs false

def okI (S N D T B : Int) : Prop := 0 ≤ S ∧ S ≤ 1099511627776 ∧ 0 ≤ N ∧ N ≤ 1048576 ∧ 1 ≤ D ∧ D ≤ 1048576 ∧ 0 ≤ T ∧ T ≤ 1048576 ∧ (B = 360 ∨ B = 365)

theorem noR_ret (w w1 : World) (b : Nat) (hb : b = w.heap.size) (h : Below w.heap.size w w1) : Below w.heap.size w ((w1.setCell ⟨b + 1, 0, none⟩ (.int .i64 0)).setCell ⟨b + 1, 1, none⟩ (.int .i64 0)) :=
  (h.setCell (p := ⟨b + 1, 0, none⟩) (by rw [hb]; exact Nat.le_succ _) _).setCell (p := ⟨b + 1, 1, none⟩) (by rw [hb]; exact Nat.le_succ _) _

set_option maxHeartbeats 4000000 in
theorem interest_bad1 (S N D T B : Int) (w : World) (h : S < 0 ∨ 1099511627776 < S ∨ T < 0 ∨ 1048576 < T) :
    Calls Try.prog 11 #[.int .i64 S, .agg #[.int .i64 N, .int .i64 D], .int .i64 T, .int .i64 B] w fun e w' =>
      e = .returned noR ∧ Below w.heap.size w w' := by
  have H := Lib.hid h
  clear h
  have HBe := Lib.hid (below2 w (.cells #[.int .i64 N, .int .i64 D] 23) (.cells #[.int .i64 0, .int .i64 0] 23))
  cases k1 : decide (S < 0) with
  | true =>
    go_enter Try.func11, Try.ntmps11
    go_wp2
    refine bodyPost_ret (v := noR) (by simp [results, Try.results11, go_sem, noR]) rfl ⟨rfl, ?_⟩
    exact HBe.out
  | false =>
    cases k2 : decide (1099511627776 < S) with
    | true =>
      go_enter Try.func11, Try.ntmps11
      go_wp2
      refine bodyPost_ret (v := noR) (by simp [results, Try.results11, go_sem, noR]) rfl ⟨rfl, ?_⟩
      exact HBe.out
    | false =>
      cases k3 : decide (T < 0) with
      | true =>
        go_enter Try.func11, Try.ntmps11
        go_wp2
        refine bodyPost_ret (v := noR) (by simp [results, Try.results11, go_sem, noR]) rfl ⟨rfl, ?_⟩
        exact HBe.out
      | false =>
        have k4 : decide (1048576 < T) = true := by
          rw [decide_eq_false_iff_not] at k1 k2 k3
          rw [decide_eq_true_iff]
          have := H.out
          omega
        go_enter Try.func11, Try.ntmps11
        go_wp2
        refine bodyPost_ret (v := noR) (by simp [results, Try.results11, go_sem, noR]) rfl ⟨rfl, ?_⟩
        exact HBe.out

theorem old_cells {b : Nat} {w2 : World} {t : TypeId} (c5 : w2.cell? ⟨b + 1, 0, none⟩ = some (.int .i64 0)) (c6 : w2.cell? ⟨b + 1, 1, none⟩ = some (.int .i64 0)) (c7 : w2.frozen? ⟨b + 1, 0, none⟩ = false) (c8 : w2.frozen? ⟨b + 1, 1, none⟩ = false) (lt : b + 1 < w2.heap.size) :
    (((w2.setCell ⟨b + 1, 0, none⟩ (.int .i64 0)).setCell ⟨b + 1, 1, none⟩ (.int .i64 0)).alloc (.cells #[.int .i64 0, .int .i64 0] t)).cell? ⟨b + 1, 0, none⟩ = some (.int .i64 0) ∧
    (((w2.setCell ⟨b + 1, 0, none⟩ (.int .i64 0)).setCell ⟨b + 1, 1, none⟩ (.int .i64 0)).alloc (.cells #[.int .i64 0, .int .i64 0] t)).cell? ⟨b + 1, 1, none⟩ = some (.int .i64 0) := by
  constructor
  · rw [((Below.refl _ ((w2.setCell ⟨b + 1, 0, none⟩ (.int .i64 0)).setCell ⟨b + 1, 1, none⟩ (.int .i64 0))).alloc (Nat.le_refl _) _).cell (by simpa [World.setCell] using lt)]
    simp [go_sem, c5, c6, c7, c8]
  · rw [((Below.refl _ ((w2.setCell ⟨b + 1, 0, none⟩ (.int .i64 0)).setCell ⟨b + 1, 1, none⟩ (.int .i64 0))).alloc (Nat.le_refl _) _).cell (by simpa [World.setCell] using lt)]
    simp [go_sem, c5, c6, c7, c8]

set_option maxHeartbeats 4000000 in
theorem interest_bad2 (S N D T B : Int) (w : World) (h1 : 0 ≤ S) (h2 : S ≤ 1099511627776) (h3 : 0 ≤ T) (h4 : T ≤ 1048576) (h : ¬ okI S N D T B) :
    Calls Try.prog 11 #[.int .i64 S, .agg #[.int .i64 N, .int .i64 D], .int .i64 T, .int .i64 B] w fun e w' =>
      e = .returned noR ∧ Below w.heap.size w w' := by
  have k1 : decide (S < 0) = false := by rw [decide_eq_false_iff_not]; omega
  have k2 : decide (1099511627776 < S) = false := by rw [decide_eq_false_iff_not]; omega
  have k3 : decide (T < 0) = false := by rw [decide_eq_false_iff_not]; omega
  have k4 : decide (1048576 < T) = false := by rw [decide_eq_false_iff_not]; omega
  have HBs := Lib.hid (fun w => isbase_any B w _ rfl)
  obtain ⟨x, hx⟩ : ∃ x, x = decide (B = 360 ∨ B = 365) := ⟨_, rfl⟩
  rw [← hx] at HBs
  have H := Lib.hid (show B = 360 ∨ B = 365 → ¬ (N ≤ 1048576 ∧ D ≤ 1048576 ∧ 0 ≤ N ∧ 1 ≤ D) by
    rintro hB ⟨a1, a2, a3, a4⟩; exact h ⟨h1, h2, a3, a1, a4, a2, h3, h4, hB⟩)
  have HX := Lib.hid hx
  clear hx h1 h2 h3 h4 h
  go_enter Try.func11, Try.ntmps11
  go_wp2_with fail
  refine (HBs.out _).mono ?_
  rintro e w1 ⟨rfl, rfl⟩
  have I1 := inout w 23 (.int .i64 N) (.int .i64 D)
  have HB := Lib.hid (below2 w (.cells #[.int .i64 N, .int .i64 D] 23) (.cells #[.int .i64 0, .int .i64 0] 23))
  generalize (w.alloc (.cells #[.int .i64 N, .int .i64 D] 23)).alloc (.cells #[.int .i64 0, .int .i64 0] 23) = w1 at *
  obtain ⟨b, hb⟩ : ∃ b, b = w.heap.size := ⟨_, rfl⟩
  rw [← hb] at I1 ⊢
  have HXb := Lib.hid hb
  have HI1 := Lib.hid I1
  obtain ⟨c1, c2, c5, c6, c7, c8, lt⟩ := I1
  clear hb lt
  cases x with
  | false =>
    go_wp2
    refine bodyPost_ret (v := noR) (by simp [results, Try.results11, go_sem, noR, c5, c6, c7, c8]) rfl ⟨rfl, ?_⟩
    exact noR_ret _ _ _ HXb.out HB.out
  | true =>
    have HN := Lib.hid (H.out (of_decide_eq_true HX.out.symm))
    cases k5 : decide (1048576 < N) with
    | true =>
      go_wp2
      refine bodyPost_ret (v := noR) (by simp [results, Try.results11, go_sem, noR, c5, c6, c7, c8]) rfl ⟨rfl, ?_⟩
      exact noR_ret _ _ _ HXb.out HB.out
    | false =>
      cases k6 : decide (1048576 < D) with
      | true =>
        go_wp2
        refine bodyPost_ret (v := noR) (by simp [results, Try.results11, go_sem, noR, c5, c6, c7, c8]) rfl ⟨rfl, ?_⟩
        exact noR_ret _ _ _ HXb.out HB.out
      | false =>
        have HRd := Lib.hid (fun w => reduce_bad N D w (by
          rw [decide_eq_false_iff_not] at k5 k6
          intro hh; exact HN.out ⟨by omega, by omega, hh.1, hh.2⟩))
        unfold noR at HRd
        go_wp2_with fail
        refine (HRd.out _).mono ?_
        rintro e w2 ⟨rfl, hb⟩
        have HI2 := HI1.out.below hb
        have HB2 := Lib.hid (btd HB.out hb)
        clear c1 c2 c5 c6 c7 c8
        obtain ⟨c1, c2, c5, c6, c7, c8, lt⟩ := HI2
        have J := (Below.refl w2.heap.size w2).alloc (Nat.le_refl _) (.cells #[.int .i64 0, .int .i64 0] 23)
        have HI3 : InOut b (w2.alloc (.cells #[.int .i64 0, .int .i64 0] 23)) (.int .i64 N) (.int .i64 D) := InOut.below ⟨c1, c2, c5, c6, c7, c8, lt⟩ J
        obtain ⟨f1, f2, f5, f6, f7, f8, _⟩ := HI3
        have HB3 := Lib.hid (btd HB2.out J)
        clear hb J lt
        go_wp2
        generalize w2.alloc (.cells #[.int .i64 0, .int .i64 0] 23) = w3 at *
        refine bodyPost_ret (v := noR) (by simp [results, Try.results11, go_sem, noR, f5, f6, f7, f8]) rfl ⟨rfl, ?_⟩
        exact noR_ret _ _ _ HXb.out HB3.out

theorem interest_bad (S N D T B : Int) (w : World) (h : ¬ okI S N D T B) :
    Calls Try.prog 11 #[.int .i64 S, .agg #[.int .i64 N, .int .i64 D], .int .i64 T, .int .i64 B] w fun e w' =>
      e = .returned noR ∧ Below w.heap.size w w' := by
  by_cases h1 : S < 0 ∨ 1099511627776 < S ∨ T < 0 ∨ 1048576 < T
  · exact interest_bad1 S N D T B w h1
  · exact interest_bad2 S N D T B w (by omega) (by omega) (by omega) (by omega) h
end Go.Proofs.Ytbehepeebffmoaa
