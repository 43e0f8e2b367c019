/-
  bay: has.
-/
import Derived.Test.YtllaahdbngjigaaDoorPutA
import Derived.IntWalk
namespace Go.Proofs.YtllaahdbngjigaaDoor
open Go Go.RowKit
set_option linter.unusedVariables false
set_option linter.unusedSimpArgs false

theorem below_drewN {B : Nat} {w w' : World} (h : Below B w w') (n : Nat) : Below B w (w'.drewN n) := ⟨h.os, h.tape, h.output, h.size, h.block⟩
theorem isFrom_q {w : World} {n : Nat} (a b c : Int) (r : Bool) (h : (decide (b ≤ a) && decide (a ≤ c)) = r) : Calls Tryd.prog 64 #[.int .i64 a, .int .i64 b, .int .i64 c] (w.drewN n) fun e w'' => e = .returned (.bool r) ∧ ∃ m, w'' = w.drewN m :=
  Calls.quiet_of_same ((isFrom_is a b c r h _).mono fun e w' h => ⟨h.1, h.2.symm⟩)

set_option maxRecDepth 100000 in
set_option maxHeartbeats 4000000 in
theorem has_core (xb xr xt sb sr st : Int) (w : World) (bh : Nat) (c1 : w.cell? ⟨bh, 1, none⟩ = some (.int .i64 sb)) (c2 : w.cell? ⟨bh, 2, none⟩ = some (.int .i64 sr)) (c3 : w.cell? ⟨bh, 3, none⟩ = some (.int .i64 st))
    (k1 : 1 ≤ sb ∧ sb ≤ 3) (k2 : 1 ≤ sr ∧ sr ≤ 3) (k3 : 1 ≤ st ∧ st ≤ 3) (m1 : 0 ≤ xb) (m2 : 0 ≤ xr) (m3 : 0 ≤ xt) :
    Calls Tryd.prog 32 #[.pointer (some ⟨bh, 0, none⟩), .agg #[.int .i64 xb, .int .i64 xr, .int .i64 xt]] w fun e w' => e = .returned (.bool (decide (xb ≤ sb - 1) && decide (xr ≤ sr - 1) && decide (xt ≤ st - 1))) ∧ Below w.heap.size w w' := by
  have c1 := cell_alloc c1 (.cells #[.int .i64 xb, .int .i64 xr, .int .i64 xt] 35)
  have c2 := cell_alloc c2 (.cells #[.int .i64 xb, .int .i64 xr, .int .i64 xt] 35)
  have c3 := cell_alloc c3 (.cells #[.int .i64 xb, .int .i64 xr, .int .i64 xt] 35)
  have H1 := Lib.hid (fun w n => isFrom_q (w := w) (n := n) xb 0 (sb - 1) (decide (xb ≤ sb - 1)) (by simp; omega))
  have H2 := Lib.hid (fun w n => isFrom_q (w := w) (n := n) xr 0 (sr - 1) (decide (xr ≤ sr - 1)) (by simp; omega))
  have H3 := Lib.hid (fun w n => isFrom_q (w := w) (n := n) xt 0 (st - 1) (decide (xt ≤ st - 1)) (by simp; omega))
  have v1 : IntKind.i64.wrap (sb - 1) = sb - 1 := IntWalk.i64_in _ (by omega)
  have v2 : IntKind.i64.wrap (sr - 1) = sr - 1 := IntWalk.i64_in _ (by omega)
  have v3 : IntKind.i64.wrap (st - 1) = st - 1 := IntWalk.i64_in _ (by omega)
  clear k1 k2 k3 m1 m2 m3
  obtain ⟨r1, hr1⟩ : ∃ r, r = decide (xb ≤ sb - 1) := ⟨_, rfl⟩
  obtain ⟨r2, hr2⟩ : ∃ r, r = decide (xr ≤ sr - 1) := ⟨_, rfl⟩
  obtain ⟨r3, hr3⟩ : ∃ r, r = decide (xt ≤ st - 1) := ⟨_, rfl⟩
  rw [← hr1] at H1
  rw [← hr2] at H2
  rw [← hr3] at H3
  rw [← hr1, ← hr2, ← hr3]
  clear hr1 hr2 hr3
  have HA := Lib.hid ((Below.refl w.heap.size w).alloc (Nat.le_refl _) (.cells #[.int .i64 xb, .int .i64 xr, .int .i64 xt] 35))
  cases r1 with
  | false =>
    go_enter Tryd.func32, Tryd.ntmps32
    go_wp2_with fail
    go_quiet ((go_at_call 64; exact H1.out _ _))
    go_wp2
    go_ret
    exact ⟨rfl, below_drewN HA.out _⟩
  | true =>
    cases r2 with
    | false =>
      go_enter Tryd.func32, Tryd.ntmps32
      go_wp2_with fail
      go_quiet ((go_at_call 64; with_reducible first | exact H1.out _ _ | exact H2.out _ _))
      go_wp2
      go_ret
      exact ⟨rfl, below_drewN HA.out _⟩
    | true =>
      go_enter Tryd.func32, Tryd.ntmps32
      go_wp2_with fail
      go_quiet ((go_at_call 64; with_reducible first | exact H1.out _ _ | exact H2.out _ _ | exact H3.out _ _))
      go_wp2
      go_ret
      exact ⟨rfl, below_drewN HA.out _⟩
end Go.Proofs.YtllaahdbngjigaaDoor
