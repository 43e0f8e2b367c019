/-
  The document's Interest, where there is none; Near.
-/
import Derived.Test.YtbehepeebffmoaaRInt
namespace Go.Proofs.Ytbehepeebffmoaa
open Go Go.RowKit
set_option linter.unusedVariables false
set_option linter.unusedSimpArgs false

theorem rinterest_bad (S N D T B : Int) (w : World) (h : ¬ okI S N D T B) :
    Calls Try.prog 12 #[.int .i64 S, .agg #[.int .i64 N, .int .i64 D], .int .i64 T, .int .i64 B] w fun e w' =>
      e = .returned noR ∧ Below w.heap.size w w' := by
  have HRt := Lib.hid (fun w => right_any S N D T B w _ rfl)
  rw [decide_eq_false h] at HRt
  clear h
  go_enter Try.func12, Try.ntmps12
  go_wp2_with fail
  refine (HRt.out _).mono ?_
  rintro e w1 ⟨rfl, hb⟩
  obtain ⟨c1, c2, c5, c6, c7, c8, lt⟩ := (inout w 23 (.int .i64 N) (.int .i64 D)).below hb
  have HB := Lib.hid (btd (below2 w _ _) hb)
  clear hb lt
  obtain ⟨b, hb⟩ : ∃ b, b = w.heap.size := ⟨_, rfl⟩
  rw [← hb] at c1 c2 c5 c6 c7 c8 ⊢
  have HX := Lib.hid hb
  clear hb
  go_wp2
  refine bodyPost_ret (v := noR) (by simp [results, Try.results12, go_sem, noR, c5, c6, c7, c8]) rfl ⟨rfl, ?_⟩
  exact noR_ret _ _ _ HX.out HB.out
end Go.Proofs.Ytbehepeebffmoaa
