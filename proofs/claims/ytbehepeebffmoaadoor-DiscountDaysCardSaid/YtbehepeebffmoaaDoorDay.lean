/-
  The day's year, month and day of the month, by the program and by the document.
-/
import Derived.Test.YtbehepeebffmoaaDoorDayP
import Derived.Test.YtbehepeebffmoaaDoorD1
import Derived.LaidMore
import Derived.Stop.Joined
import Derived.OwnWalk
namespace Go.Proofs.YtbehepeebffmoaaDoor
open Go Go.RowKit
set_option linter.unusedVariables false
set_option linter.unusedSimpArgs false

/-- The table of months in memory. -/
def Mths (w : World) : Prop := ∀ i, i < 12 → w.cell? ⟨0, i, none⟩ = some (.int .i64 ((mtab.getD i 0 : Nat) : Int))
theorem Mths.below {w w' : World} (h : Mths w) (hb : Below w.heap.size w w') : Mths w' := fun i hi => cell_later hb (h i hi)

theorem rem4 (y : Nat) : ((y : Int).tmod 4 = ((y % 4 : Nat) : Int)) ∧ ((y : Int).tmod 100 = ((y % 100 : Nat) : Int)) ∧ ((y : Int).tmod 400 = ((y % 400 : Nat) : Int)) :=
  ⟨(Int.ofNat_tmod y 4).symm, (Int.ofNat_tmod y 100).symm, (Int.ofNat_tmod y 400).symm⟩

theorem long_any (y : Nat) (hy : y ≤ 1000000) (w : World) (x : Bool) (hx : x = leapB y) :
    Calls Tryd.prog 25 #[.int .i64 (y : Int)] w fun e w' => e = .returned (.bool x) ∧ w' = w := by
  have hl := leap_iff y
  by_cases h4 : y % 4 = 0
  · have d4 : ((y : Int) % 4 == 0) = true := by rw [beq_iff_eq]; omega
    by_cases h100 : y % 100 = 0
    · have d100 : ((y : Int) % 100 == 0) = true := by rw [beq_iff_eq]; omega
      have d100b : ((y : Int) % 100 != 0) = false := by rw [bne, d100]; rfl
      by_cases h400 : y % 400 = 0
      · have d400 : ((y : Int) % 400 == 0) = true := by rw [beq_iff_eq]; omega
        obtain rfl : x = true := by rw [hx, hl]; exact .inr h400
        clear hx hl h4 h100 h400
        go_enter Tryd.func25, Tryd.ntmps25
        go_wp2
        go_ret
        exact ⟨rfl, rfl⟩
      · have d400 : ((y : Int) % 400 == 0) = false := by rw [beq_eq_false_iff_ne]; omega
        obtain rfl : x = false := by rw [hx, ← Bool.not_eq_true, hl]; omega
        clear hx hl h4 h100 h400
        go_enter Tryd.func25, Tryd.ntmps25
        go_wp2
        go_ret
        exact ⟨rfl, rfl⟩
    · have d100 : ((y : Int) % 100 == 0) = false := by rw [beq_eq_false_iff_ne]; omega
      have d100b : ((y : Int) % 100 != 0) = true := by rw [bne, d100]; rfl
      obtain rfl : x = true := by rw [hx, hl]; exact .inl ⟨h4, h100⟩
      clear hx hl h4 h100
      go_enter Tryd.func25, Tryd.ntmps25
      go_wp2
      go_ret
      exact ⟨rfl, rfl⟩
  · have d4 : ((y : Int) % 4 == 0) = false := by rw [beq_eq_false_iff_ne]; omega
    have d400 : ((y : Int) % 400 == 0) = false := by rw [beq_eq_false_iff_ne]; omega
    obtain rfl : x = false := by rw [hx, ← Bool.not_eq_true, hl]; omega
    clear hx hl h4
    go_enter Tryd.func25, Tryd.ntmps25
    go_wp2
    go_ret
    exact ⟨rfl, rfl⟩

theorem rleap_any (y : Nat) (hy : y ≤ 1000000) (w : World) (x : Bool) (hx : x = leapB y) :
    Calls Tryd.prog 26 #[.int .i64 (y : Int)] w fun e w' => e = .returned (.bool x) ∧ w' = w := by
  have hl := leap_iff y
  by_cases h4 : y % 4 = 0
  · have d4 : ((y : Int) % 4 == 0) = true := by rw [beq_iff_eq]; omega
    by_cases h100 : y % 100 = 0
    · have d100 : ((y : Int) % 100 == 0) = true := by rw [beq_iff_eq]; omega
      have d100b : ((y : Int) % 100 != 0) = false := by rw [bne, d100]; rfl
      by_cases h400 : y % 400 = 0
      · have d400 : ((y : Int) % 400 == 0) = true := by rw [beq_iff_eq]; omega
        obtain rfl : x = true := by rw [hx, hl]; exact .inr h400
        clear hx hl h4 h100 h400
        go_enter Tryd.func26, Tryd.ntmps26
        go_wp2
        go_ret
        exact ⟨rfl, rfl⟩
      · have d400 : ((y : Int) % 400 == 0) = false := by rw [beq_eq_false_iff_ne]; omega
        obtain rfl : x = false := by rw [hx, ← Bool.not_eq_true, hl]; omega
        clear hx hl h4 h100 h400
        go_enter Tryd.func26, Tryd.ntmps26
        go_wp2
        go_ret
        exact ⟨rfl, rfl⟩
    · have d100 : ((y : Int) % 100 == 0) = false := by rw [beq_eq_false_iff_ne]; omega
      have d100b : ((y : Int) % 100 != 0) = true := by rw [bne, d100]; rfl
      obtain rfl : x = true := by rw [hx, hl]; exact .inl ⟨h4, h100⟩
      clear hx hl h4 h100
      go_enter Tryd.func26, Tryd.ntmps26
      go_wp2
      go_ret
      exact ⟨rfl, rfl⟩
  · have d4 : ((y : Int) % 4 == 0) = false := by rw [beq_eq_false_iff_ne]; omega
    have d400 : ((y : Int) % 400 == 0) = false := by rw [beq_eq_false_iff_ne]; omega
    obtain rfl : x = false := by rw [hx, ← Bool.not_eq_true, hl]; omega
    clear hx hl h4
    go_enter Tryd.func26, Tryd.ntmps26
    go_wp2
    go_ret
    exact ⟨rfl, rfl⟩

theorem daysof_any (y : Nat) (hy : y ≤ 1000000) (w : World) :
    Calls Tryd.prog 19 #[.int .i64 (y : Int)] w fun e w' => e = .returned (.int .i64 (ydN y : Nat)) ∧ w' = w := by
  have HL := Lib.hid (fun w => long_any y hy w _ rfl)
  obtain ⟨n, hn⟩ : ∃ n, n = ydN y := ⟨_, rfl⟩
  rw [← hn]
  unfold ydN at hn
  cases hl : leapB y with
  | true =>
    rw [if_pos hl] at hn
    rw [hl] at HL
    subst hn
    clear hl hy
    go_enter Tryd.func19, Tryd.ntmps19
    go_wp2_with fail
    refine (HL.out _).mono ?_
    rintro e w1 ⟨rfl, rfl⟩
    go_wp2
    go_ret
    exact ⟨rfl, rfl⟩
  | false =>
    rw [if_neg (by rw [hl]; simp)] at hn
    rw [hl] at HL
    subst hn
    clear hl hy
    go_enter Tryd.func19, Tryd.ntmps19
    go_wp2_with fail
    refine (HL.out _).mono ?_
    rintro e w1 ⟨rfl, rfl⟩
    go_wp2
    go_ret
    exact ⟨rfl, rfl⟩

theorem ryear_any (y : Nat) (hy : y ≤ 1000000) (w : World) :
    Calls Tryd.prog 21 #[.int .i64 (y : Int)] w fun e w' => e = .returned (.int .i64 (ydN y : Nat)) ∧ w' = w := by
  have HL := Lib.hid (fun w => rleap_any y hy w _ rfl)
  obtain ⟨n, hn⟩ : ∃ n, n = ydN y := ⟨_, rfl⟩
  rw [← hn]
  unfold ydN at hn
  cases hl : leapB y with
  | true =>
    rw [if_pos hl] at hn
    rw [hl] at HL
    subst hn
    clear hl hy
    go_enter Tryd.func21, Tryd.ntmps21
    go_wp2_with fail
    refine (HL.out _).mono ?_
    rintro e w1 ⟨rfl, rfl⟩
    go_wp2
    go_ret
    exact ⟨rfl, rfl⟩
  | false =>
    rw [if_neg (by rw [hl]; simp)] at hn
    rw [hl] at HL
    subst hn
    clear hl hy
    go_enter Tryd.func21, Tryd.ntmps21
    go_wp2_with fail
    refine (HL.out _).mono ?_
    rintro e w1 ⟨rfl, rfl⟩
    go_wp2
    go_ret
    exact ⟨rfl, rfl⟩

theorem ml_eq {y m : Nat} (h : ¬ (m = 2 ∧ leapB y = true)) : mlN y m = mtab.getD (m - 1) 0 := by unfold mlN; rw [if_neg h]

theorem length_any (y m : Nat) (hy : y ≤ 1000000) (h1 : 1 ≤ m) (h2 : m ≤ 12) (w : World) (hM : Mths w) :
    Calls Tryd.prog 20 #[.int .i64 (y : Int), .int .i64 (m : Int)] w fun e w' => e = .returned (.int .i64 (mlN y m : Nat)) ∧ w' = w := by
  have HL := Lib.hid (fun w => long_any y hy w _ rfl)
  obtain ⟨n, hn⟩ : ∃ n, n = mlN y m := ⟨_, rfl⟩
  rw [← hn]
  have c1 := hM (m - 1) (by omega)
  have v1 : IntKind.i64.wrap ((m : Int) - 1) = ((m - 1 : Nat) : Int) := by rw [IntWalk.i64_in _ (by omega)]; omega
  by_cases hm : m = 2
  · subst hm
    cases hl : leapB y with
    | true =>
      have hn2 : n = 29 := by rw [hn]; unfold mlN; rw [if_pos ⟨rfl, hl⟩]
      rw [hl] at HL
      subst hn2
      clear hl hy hn hM c1 v1
      go_enter Tryd.func20, Tryd.ntmps20
      go_wp2_with fail
      refine (HL.out _).mono ?_
      rintro e w1 ⟨rfl, rfl⟩
      go_wp2
      go_ret
      exact ⟨rfl, rfl⟩
    | false =>
      rw [ml_eq (by rw [hl]; simp)] at hn
      rw [← hn] at c1
      rw [hl] at HL
      clear hl hy hn hM v1
      go_enter Tryd.func20, Tryd.ntmps20
      go_wp2_with fail
      refine (HL.out _).mono ?_
      rintro e w1 ⟨rfl, rfl⟩
      go_wp2
      go_ret
      exact ⟨rfl, rfl⟩
  · rw [ml_eq (fun h => hm h.1)] at hn
    rw [← hn] at c1
    have d1 : ((m : Int) == 2) = false := by rw [beq_eq_false_iff_ne]; omega
    obtain ⟨i, hi⟩ : ∃ i, i = m - 1 := ⟨_, rfl⟩
    rw [← hi] at c1 v1
    have l1 : (i : Int) < 12 := by omega
    have l0 : (0 : Int) ≤ (i : Int) := by omega
    clear hy hn hM hi hm h1 h2
    go_enter Tryd.func20, Tryd.ntmps20
    go_wp2
    go_ret
    exact ⟨rfl, rfl⟩

theorem rdays_any (y m : Nat) (hy : y ≤ 1000000) (h1 : 1 ≤ m) (h2 : m ≤ 12) (w : World) :
    Calls Tryd.prog 22 #[.int .i64 (y : Int), .int .i64 (m : Int)] w fun e w' => e = .returned (.int .i64 (mlN y m : Nat)) ∧ w' = w := by
  have HL := Lib.hid (fun w => rleap_any y hy w _ rfl)
  obtain ⟨n, hn⟩ : ∃ n, n = mlN y m := ⟨_, rfl⟩
  rw [← hn]
  by_cases hm : m = 2
  · subst hm
    cases hl : leapB y with
    | true =>
      have hn2 : n = 29 := by rw [hn]; unfold mlN; rw [if_pos ⟨rfl, hl⟩]
      rw [hl] at HL
      subst hn2
      clear hl hy hn
      go_enter Tryd.func22, Tryd.ntmps22
      go_wp2_with fail
      refine (HL.out _).mono ?_
      rintro e w1 ⟨rfl, rfl⟩
      go_wp2
      go_ret
      exact ⟨rfl, rfl⟩
    | false =>
      rw [ml_eq (by rw [hl]; simp)] at hn
      have hn2 : n = 28 := hn
      subst hn2
      rw [hl] at HL
      clear hl hy hn
      go_enter Tryd.func22, Tryd.ntmps22
      go_wp2_with fail
      refine (HL.out _).mono ?_
      rintro e w1 ⟨rfl, rfl⟩
      go_wp2
      go_ret
      exact ⟨rfl, rfl⟩
  · rw [ml_eq (fun h => hm h.1)] at hn
    have hc : m = 1 ∨ m = 3 ∨ m = 4 ∨ m = 5 ∨ m = 6 ∨ m = 7 ∨ m = 8 ∨ m = 9 ∨ m = 10 ∨ m = 11 ∨ m = 12 := by omega
    clear hy hm h1 h2
    rcases hc with rfl | rfl | rfl | rfl | rfl | rfl | rfl | rfl | rfl | rfl | rfl
    all_goals
      have hn2 := hn
      simp only [mtab] at hn2
      first | (have hn3 : n = 31 := hn2; clear hn hn2; subst hn3) | (have hn3 : n = 30 := hn2; clear hn hn2; subst hn3)
      go_enter Tryd.func22, Tryd.ntmps22
      go_wp2
      go_ret
      exact ⟨rfl, rfl⟩
end Go.Proofs.YtbehepeebffmoaaDoor
