/-
  The walks of layer term: what each function computes.
-/
import Derived.Test.YtofkeipfkglljaaDoorTermTab
import Derived.Deep.QuietTactic
import Derived.BigQuiet
import Derived.Lib.Hide
namespace Go.Proofs.YtofkeipfkglljaaDoor
open Go.RowKit
set_option linter.unusedVariables false
set_option linter.unusedSimpArgs false

set_option maxHeartbeats 400000 in
theorem passes_no (t : Int) (w : World) (h : t < 0 ∨ 8 ≤ t) :
    Calls Tryd.prog 30 #[.int .i64 t] w fun e w' => e = .returned (.tuple #[.int .i64 0, .int .i64 0]) ∧ w = w' := by
  rcases h with h | h
  · have hd : decide (0 ≤ t) = false := by simp; omega
    go_enter Tryd.func30, Tryd.ntmps30
    go_wp2
    go_ret2
    exact ⟨rfl, rfl⟩
  · have hd : decide (t < 8) = false := by simp; omega
    go_enter Tryd.func30, Tryd.ntmps30
    go_wp2
    go_ret2
    exact ⟨rfl, rfl⟩

set_option maxHeartbeats 400000 in
theorem passes_ok (t : Nat) (w : World) (ht : t < 8) (hw : Terms w) :
    Calls Tryd.prog 30 #[.int .i64 t] w fun e w' => e = .returned (.tuple #[.int .i64 (costT t), .int .i64 (riskT t)]) ∧ ∃ n, w' = w.drewN n := by
  have h1 := hw.cost t ht
  have h2 := hw.risk t ht
  have h3 : (0 : Int) ≤ t := by omega
  have h4 : (t : Int) < 8 := by omega
  generalize costT t = c at *
  generalize riskT t = r at *
  clear hw ht
  go_enter Tryd.func30, Tryd.ntmps30
  go_wp2
  go_quiet (fail)
  go_wp2
  go_ret2
  exact ⟨rfl, _, rfl⟩

/-- Whose it is at a stage, by the stage from which on it is the buyer's. -/
def whoT (t s f : Int) : ByteArray := if 0 ≤ t ∧ t < 8 ∧ 0 ≤ s ∧ s < 8 then (if f ≤ s then ⟨#[98, 117, 121, 101, 114]⟩ else ⟨#[115, 101, 108, 108, 101, 114]⟩) else ⟨#[]⟩

set_option maxHeartbeats 400000 in
theorem whose_any (t s f : Int) (w : World) :
    Calls Tryd.prog 31 #[.int .i64 t, .int .i64 s, .int .i64 f] w fun e w' => e = .returned (.string (whoT t s f)) ∧ w = w' := by
  obtain ⟨v, hv⟩ : ∃ v, v = whoT t s f := ⟨_, rfl⟩
  rw [← hv]
  by_cases a : 0 ≤ t
  · have a' : decide (0 ≤ t) = true := by simpa using a
    by_cases b : t < 8
    · have b' : decide (t < 8) = true := by simpa using b
      by_cases c : 0 ≤ s
      · have c' : decide (0 ≤ s) = true := by simpa using c
        by_cases d : s < 8
        · have d' : decide (s < 8) = true := by simpa using d
          by_cases g : f ≤ s
          · have hv' := Lib.hid (hv.trans (show whoT t s f = _ from by rw [whoT, if_pos ⟨a, b, c, d⟩, if_pos g]))
            clear hv
            go_enter Tryd.func31, Tryd.ntmps31
            go_wp2
            go_ret
            exact ⟨by rw [hv'.out]; rfl, rfl⟩
          · have hv' := Lib.hid (hv.trans (show whoT t s f = _ from by rw [whoT, if_pos ⟨a, b, c, d⟩, if_neg g]))
            clear hv
            go_enter Tryd.func31, Tryd.ntmps31
            go_wp2
            go_ret
            exact ⟨by rw [hv'.out]; rfl, rfl⟩
        · have d' : decide (s < 8) = false := by simpa using d
          have hv' := Lib.hid (hv.trans (show whoT t s f = _ from by rw [whoT, if_neg (by omega)]))
          clear hv
          go_enter Tryd.func31, Tryd.ntmps31
          go_wp2
          go_ret
          exact ⟨by rw [hv'.out]; rfl, rfl⟩
      · have c' : decide (0 ≤ s) = false := by simpa using c
        have hv' := Lib.hid (hv.trans (show whoT t s f = _ from by rw [whoT, if_neg (by omega)]))
        clear hv
        go_enter Tryd.func31, Tryd.ntmps31
        go_wp2
        go_ret
        exact ⟨by rw [hv'.out]; rfl, rfl⟩
    · have b' : decide (t < 8) = false := by simpa using b
      have hv' := Lib.hid (hv.trans (show whoT t s f = _ from by rw [whoT, if_neg (by omega)]))
      clear hv
      go_enter Tryd.func31, Tryd.ntmps31
      go_wp2
      go_ret
      exact ⟨by rw [hv'.out]; rfl, rfl⟩
  · have a' : decide (0 ≤ t) = false := by simpa using a
    have hv' := Lib.hid (hv.trans (show whoT t s f = _ from by rw [whoT, if_neg (by omega)]))
    clear hv
    go_enter Tryd.func31, Tryd.ntmps31
    go_wp2
    go_ret
    exact ⟨by rw [hv'.out]; rfl, rfl⟩

/-- The stages of a term, whatever its number. -/
def cosT (t : Int) : Int := if 0 ≤ t ∧ t < 8 then costT t.toNat else 0
def risT (t : Int) : Int := if 0 ≤ t ∧ t < 8 then riskT t.toNat else 0

theorem passes_any (t : Int) (w : World) (hw : Terms w) :
    Calls Tryd.prog 30 #[.int .i64 t] w fun e w' => e = .returned (.tuple #[.int .i64 (cosT t), .int .i64 (risT t)]) ∧ ∃ n, w' = w.drewN n := by
  by_cases h : 0 ≤ t ∧ t < 8
  · obtain ⟨n, rfl⟩ := Int.eq_ofNat_of_zero_le h.1
    have := passes_ok n w (by omega) hw
    unfold cosT risT
    rw [if_pos h, if_pos h]
    exact this
  · unfold cosT risT
    rw [if_neg h, if_neg h]
    exact (passes_no t w (by omega)).mono fun e w' ⟨a, b⟩ => ⟨a, 0, by rw [← b]; rfl⟩

def paysT (t s : Int) : ByteArray := whoT t s (cosT t)
def bearT (t s : Int) : ByteArray := whoT t s (risT t)

set_option maxHeartbeats 400000 in
theorem risk_any (t s : Int) (w : World) (hw : Terms w) :
    Calls Tryd.prog 19 #[.int .i64 t, .int .i64 s] w fun e w' => e = .returned (.string (bearT t s)) ∧ ∃ n, w' = w.drewN n := by
  have h1 := Lib.hid (passes_any t w hw)
  clear hw
  go_enter Tryd.func19, Tryd.ntmps19
  go_wp2_with fail
  refine h1.out.mono ?_
  rintro e w' ⟨rfl, n, rfl⟩
  go_wp2_with fail
  refine (whose_any _ _ _ _).mono ?_
  rintro e w' ⟨rfl, rfl⟩
  go_wp2
  go_ret
  exact ⟨rfl, n, rfl⟩
end Go.Proofs.YtofkeipfkglljaaDoor
