/-
  DiscountDays: the days from any day to any other one, by any base.
-/
import Derived.Test.YtbehepeebffmoaaDoorMonth
import Derived.Test.YtbehepeebffmoaaDoorLaw
namespace Go.Proofs.YtbehepeebffmoaaDoor
open Go Go.RowKit
set_option linter.unusedVariables false
set_option linter.unusedSimpArgs false

def cntN (k r : Nat) : Nat := 360 * (2000 + k) + 30 * (monN (2000 + k) 12 1 r).1 + min ((monN (2000 + k) 12 1 r).2 + 1) 30

set_option maxHeartbeats 1000000 in
theorem count_any (d k r : Nat) (hd : d ≤ 1048576) (h1 : ahead k + r = d) (h2 : r < ydN (2000 + k)) (w : World) (hM : Mths w) :
    Calls Tryd.prog 10 #[.int .i64 (d : Int)] w fun e w' => e = .returned (.int .i64 (cntN k r : Nat)) ∧ w' = w := by
  have HM := Lib.hid (month_any d k r hd h1 h2 w hM)
  have hk : k ≤ 2872 := by have := year_le h1; omega
  have hin := mon_in (y := 2000 + k) (f := 12) (m := 1) (r := r) rfl (Nat.le_refl _) (by decide) (by simpa [cumN] using h2)
  have hml := ml_pos (2000 + k) (monN (2000 + k) 12 1 r).1 hin.1 hin.2.1
  unfold monV at HM
  obtain ⟨y, hy⟩ : ∃ y, y = 2000 + k := ⟨_, rfl⟩
  have hcnt : cntN k r = 360 * y + 30 * (monN y 12 1 r).1 + min ((monN y 12 1 r).2 + 1) 30 := by rw [hy]; rfl
  rw [← hy] at HM hin hml
  obtain ⟨m, hm⟩ : ∃ m, m = (monN y 12 1 r).1 := ⟨_, rfl⟩
  obtain ⟨o, ho⟩ : ∃ m, m = (monN y 12 1 r).2 + 1 := ⟨_, rfl⟩
  rw [← hm, ← ho] at HM hcnt
  rw [← hm] at hin hml
  have hyb : y ≤ 4872 := by omega
  have hmb : m ≤ 12 := hin.2.1
  have hob : o ≤ 31 := by omega
  rw [hcnt]
  by_cases h30 : o ≤ 30
  · rw [Nat.min_eq_left h30]
    have v3 : ((360 * y + 30 * m + o : Nat) : Int) = 360 * (y : Int) + 30 * (m : Int) + (o : Int) := by omega
    rw [v3]
    clear hd h1 h2 hM hin hml hcnt hy hm ho hk v3
    go_enter Tryd.func10, Tryd.ntmps10
    go_wp2_with fail
    refine HM.out.mono ?_
    rintro e w1 ⟨rfl, rfl⟩
    go_wp2
    go_ret
    exact ⟨rfl, rfl⟩
  · have h31 : o = 31 := by omega
    subst h31
    have v3 : ((360 * y + 30 * m + min 31 30 : Nat) : Int) = 360 * (y : Int) + 30 * (m : Int) + 30 := by omega
    rw [v3]
    clear hd h1 h2 hM hin hml hcnt hy hm ho hk v3 h30
    go_enter Tryd.func10, Tryd.ntmps10
    go_wp2_with fail
    refine HM.out.mono ?_
    rintro e w1 ⟨rfl, rfl⟩
    go_wp2
    go_ret
    exact ⟨rfl, rfl⟩

def badD (f t B : Int) : Prop := f < 0 ∨ t < f ∨ 1048576 < t ∨ ¬ (B = 360 ∨ B = 365)
def zeroD : Value := .tuple #[.int .i64 0, .bool false]

set_option maxHeartbeats 1000000 in
theorem days_bad (f t B : Int) (w : World) (h : badD f t B) :
    Calls Tryd.prog 5 #[.int .i64 f, .int .i64 t, .int .i64 B] w fun e w' => e = .returned zeroD ∧ w' = w := by
  have HB := Lib.hid (fun w => isbase_any B w _ rfl)
  obtain ⟨x, hx⟩ : ∃ x, x = decide (B = 360 ∨ B = 365) := ⟨_, rfl⟩
  rw [← hx] at HB
  have H := Lib.hid (show decide (f < 0) = false → decide (t < f) = false → decide (1048576 < t) = false → x = false by
    intro a1 a2 a3
    rw [decide_eq_false_iff_not] at a1 a2 a3
    rw [hx, decide_eq_false_iff_not]
    unfold badD at h
    omega)
  clear h hx
  unfold zeroD
  cases a1 : decide (f < 0) with
  | true =>
    go_enter Tryd.func5, Tryd.ntmps5
    go_wp2; go_ret2; exact ⟨rfl, rfl⟩
  | false =>
  cases a2 : decide (t < f) with
  | true =>
    go_enter Tryd.func5, Tryd.ntmps5
    go_wp2; go_ret2; exact ⟨rfl, rfl⟩
  | false =>
  cases a3 : decide (1048576 < t) with
  | true =>
    go_enter Tryd.func5, Tryd.ntmps5
    go_wp2; go_ret2; exact ⟨rfl, rfl⟩
  | false =>
  obtain rfl := H.out a1 a2 a3
  go_enter Tryd.func5, Tryd.ntmps5
  go_wp2_with fail
  refine (HB.out _).mono ?_
  rintro e w1 ⟨rfl, rfl⟩
  go_wp2; go_ret2; exact ⟨rfl, rfl⟩

set_option maxHeartbeats 1000000 in
theorem rdays_bad (f t B : Int) (w : World) (h : badD f t B) :
    Calls Tryd.prog 6 #[.int .i64 f, .int .i64 t, .int .i64 B] w fun e w' => e = .returned zeroD ∧ w' = w := by
  have HF := Lib.hid (fun w => day_any f w _ rfl)
  have HT := Lib.hid (fun w => day_any t w _ rfl)
  obtain ⟨x, hx⟩ : ∃ x, x = decide (0 ≤ f ∧ f ≤ 1048576) := ⟨_, rfl⟩
  obtain ⟨y, hy⟩ : ∃ x, x = decide (0 ≤ t ∧ t ≤ 1048576) := ⟨_, rfl⟩
  rw [← hx] at HF
  rw [← hy] at HT
  have H := Lib.hid (show x = true → y = true → decide (t < f) = false → (B == 360) = false ∧ (B == 365) = false by
    intro a1 a2 a3
    rw [hx, decide_eq_true_iff] at a1
    rw [hy, decide_eq_true_iff] at a2
    rw [decide_eq_false_iff_not] at a3
    rw [beq_eq_false_iff_ne, beq_eq_false_iff_ne]
    unfold badD at h
    omega)
  clear h hx hy
  unfold zeroD
  cases x with
  | false =>
    go_enter Tryd.func6, Tryd.ntmps6
    go_wp2_with fail
    refine (HF.out _).mono ?_
    rintro e w1 ⟨rfl, rfl⟩
    go_wp2; go_ret2; exact ⟨rfl, rfl⟩
  | true =>
  cases y with
  | false =>
    go_enter Tryd.func6, Tryd.ntmps6
    go_wp2_with fail
    refine (HF.out _).mono ?_
    rintro e w1 ⟨rfl, rfl⟩
    go_wp2_with fail
    refine (HT.out _).mono ?_
    rintro e w1 ⟨rfl, rfl⟩
    go_wp2; go_ret2; exact ⟨rfl, rfl⟩
  | true =>
  cases a3 : decide (t < f) with
  | true =>
    go_enter Tryd.func6, Tryd.ntmps6
    go_wp2_with fail
    refine (HF.out _).mono ?_
    rintro e w1 ⟨rfl, rfl⟩
    go_wp2_with fail
    refine (HT.out _).mono ?_
    rintro e w1 ⟨rfl, rfl⟩
    go_wp2; go_ret2; exact ⟨rfl, rfl⟩
  | false =>
  obtain ⟨b1, b2⟩ := H.out rfl rfl a3
  have b3 : (B != 360) = true := by rw [bne, b1]; rfl
  have b4 : (B != 365) = true := by rw [bne, b2]; rfl
  go_enter Tryd.func6, Tryd.ntmps6
  go_wp2_with fail
  refine (HF.out _).mono ?_
  rintro e w1 ⟨rfl, rfl⟩
  go_wp2_with fail
  refine (HT.out _).mono ?_
  rintro e w1 ⟨rfl, rfl⟩
  go_wp2; go_ret2; exact ⟨rfl, rfl⟩

set_option maxHeartbeats 1000000 in
theorem days_365 (f t : Nat) (w : World) (h1 : f ≤ t) (h2 : t ≤ 1048576) :
    Calls Tryd.prog 5 #[.int .i64 (f : Int), .int .i64 (t : Int), .int .i64 365] w fun e w' => e = .returned (.tuple #[.int .i64 ((t - f : Nat) : Int), .bool true]) ∧ w' = w := by
  have HB := Lib.hid (fun w => isbase_any 365 w true (by decide))
  have v1 : IntKind.i64.wrap ((t : Int) - (f : Int)) = ((t - f : Nat) : Int) := i64d (by omega) (by omega)
  have a2 : decide (t < f) = false := by rw [decide_eq_false_iff_not]; omega
  go_enter Tryd.func5, Tryd.ntmps5
  go_wp2_with fail
  refine (HB.out _).mono ?_
  rintro e w1 ⟨rfl, rfl⟩
  go_wp2; go_ret2; exact ⟨by first | rfl | (simp; done) | (simp; omega), rfl⟩

set_option maxHeartbeats 1000000 in
theorem rdays_365 (f t : Nat) (w : World) (h1 : f ≤ t) (h2 : t ≤ 1048576) :
    Calls Tryd.prog 6 #[.int .i64 (f : Int), .int .i64 (t : Int), .int .i64 365] w fun e w' => e = .returned (.tuple #[.int .i64 ((t - f : Nat) : Int), .bool true]) ∧ w' = w := by
  have HF := Lib.hid (fun w => day_any (f : Int) w true (by symm; rw [decide_eq_true_iff]; omega))
  have HT := Lib.hid (fun w => day_any (t : Int) w true (by symm; rw [decide_eq_true_iff]; omega))
  have v1 : IntKind.i64.wrap ((t : Int) - (f : Int)) = ((t - f : Nat) : Int) := i64d (by omega) (by omega)
  have a2 : decide (t < f) = false := by rw [decide_eq_false_iff_not]; omega
  go_enter Tryd.func6, Tryd.ntmps6
  go_wp2_with fail
  refine (HF.out _).mono ?_
  rintro e w1 ⟨rfl, rfl⟩
  go_wp2_with fail
  refine (HT.out _).mono ?_
  rintro e w1 ⟨rfl, rfl⟩
  go_wp2; go_ret2; exact ⟨by first | rfl | (simp; done) | (simp; omega), rfl⟩

theorem cnt_le {d k r : Nat} (hd : d ≤ 1048576) (h1 : ahead k + r = d) (h2 : r < ydN (2000 + k)) : cntN k r ≤ 2000000 := by
  have hk : k ≤ 2872 := by have := year_le h1; omega
  have hin := mon_in (y := 2000 + k) (f := 12) (m := 1) (r := r) rfl (Nat.le_refl _) (by decide) (by simpa [cumN] using h2)
  unfold cntN
  have : min ((monN (2000 + k) 12 1 r).2 + 1) 30 ≤ 30 := Nat.min_le_right _ _
  omega

set_option maxHeartbeats 1000000 in
theorem days_360 (f t k1 r1 k2 r2 : Nat) (w : World) (h1 : f ≤ t) (h2 : t ≤ 1048576) (g1 : ahead k1 + r1 = f) (g2 : r1 < ydN (2000 + k1)) (g3 : ahead k2 + r2 = t) (g4 : r2 < ydN (2000 + k2)) (hM : Mths w) :
    Calls Tryd.prog 5 #[.int .i64 (f : Int), .int .i64 (t : Int), .int .i64 360] w fun e w' => e = .returned (.tuple #[.int .i64 ((cntN k2 r2 : Int) - (cntN k1 r1 : Int)), .bool true]) ∧ w' = w := by
  have HB := Lib.hid (fun w => isbase_any 360 w true (by decide))
  have HC1 := Lib.hid (count_any f k1 r1 (by omega) g1 g2 w hM)
  have HC2 := Lib.hid (count_any t k2 r2 (by omega) g3 g4 w hM)
  have b1 := cnt_le (by omega) g1 g2
  have b2 := cnt_le (by omega) g3 g4
  generalize cntN k1 r1 = n1 at *
  generalize cntN k2 r2 = n2 at *
  have v1 : IntKind.i64.wrap ((n2 : Int) - (n1 : Int)) = (n2 : Int) - (n1 : Int) := IntWalk.i64_in _ (by omega)
  have a2 : decide (t < f) = false := by rw [decide_eq_false_iff_not]; omega
  clear g1 g2 g3 g4 hM b1 b2
  go_enter Tryd.func5, Tryd.ntmps5
  go_wp2_with fail
  refine (HB.out _).mono ?_
  rintro e w1 ⟨rfl, rfl⟩
  go_wp2_with fail
  refine HC2.out.mono ?_
  rintro e w1 ⟨rfl, rfl⟩
  go_wp2_with fail
  refine HC1.out.mono ?_
  rintro e w1 ⟨rfl, rfl⟩
  go_wp2; go_ret2; exact ⟨rfl, rfl⟩

set_option maxHeartbeats 1000000 in
theorem rdays_360 (f t k1 r1 k2 r2 : Nat) (w : World) (h1 : f ≤ t) (h2 : t ≤ 1048576) (g1 : ahead k1 + r1 = f) (g2 : r1 < ydN (2000 + k1)) (g3 : ahead k2 + r2 = t) (g4 : r2 < ydN (2000 + k2)) :
    Calls Tryd.prog 6 #[.int .i64 (f : Int), .int .i64 (t : Int), .int .i64 360] w fun e w' => e = .returned (.tuple #[.int .i64 ((cntN k2 r2 : Int) - (cntN k1 r1 : Int)), .bool true]) ∧ w' = w := by
  have HF := Lib.hid (fun w => day_any (f : Int) w true (by symm; rw [decide_eq_true_iff]; omega))
  have HT := Lib.hid (fun w => day_any (t : Int) w true (by symm; rw [decide_eq_true_iff]; omega))
  have HM1 := Lib.hid (fun w => rmonth_any f k1 r1 (by omega) g1 g2 w)
  have HM2 := Lib.hid (fun w => rmonth_any t k2 r2 (by omega) g3 g4 w)
  have k1b : k1 ≤ 2872 := by have := year_le g1; omega
  have k2b : k2 ≤ 2872 := by have := year_le g3; omega
  have hin1 := mon_in (y := 2000 + k1) (f := 12) (m := 1) (r := r1) rfl (Nat.le_refl _) (by decide) (by simpa [cumN] using g2)
  have hin2 := mon_in (y := 2000 + k2) (f := 12) (m := 1) (r := r2) rfl (Nat.le_refl _) (by decide) (by simpa [cumN] using g4)
  have hml1 := ml_pos (2000 + k1) _ hin1.1 hin1.2.1
  have hml2 := ml_pos (2000 + k2) _ hin2.1 hin2.2.1
  unfold monV at HM1 HM2
  have c1 : cntN k1 r1 = 360 * (2000 + k1) + 30 * (monN (2000 + k1) 12 1 r1).1 + min ((monN (2000 + k1) 12 1 r1).2 + 1) 30 := rfl
  have c2 : cntN k2 r2 = 360 * (2000 + k2) + 30 * (monN (2000 + k2) 12 1 r2).1 + min ((monN (2000 + k2) 12 1 r2).2 + 1) 30 := rfl
  obtain ⟨o1, ho1⟩ : ∃ o, o = (monN (2000 + k1) 12 1 r1).2 + 1 := ⟨_, rfl⟩
  obtain ⟨o2, ho2⟩ : ∃ o, o = (monN (2000 + k2) 12 1 r2).2 + 1 := ⟨_, rfl⟩
  rw [← ho1] at HM1 c1
  rw [← ho2] at HM2 c2
  have ob1 : o1 ≤ 31 := by omega
  have ob2 : o2 ≤ 31 := by omega
  have mb1 := hin1.2.1
  have mb2 := hin2.2.1
  have ma1 := hin1.1
  have ma2 := hin2.1
  generalize (monN (2000 + k1) 12 1 r1).1 = m1 at *
  generalize (monN (2000 + k2) 12 1 r2).1 = m2 at *
  generalize cntN k1 r1 = n1 at *
  generalize cntN k2 r2 = n2 at *
  obtain ⟨y1, hy1⟩ : ∃ y, y = 2000 + k1 := ⟨_, rfl⟩
  obtain ⟨y2, hy2⟩ : ∃ y, y = 2000 + k2 := ⟨_, rfl⟩
  rw [← hy1] at HM1 c1
  rw [← hy2] at HM2 c2
  have yb1 : y1 ≤ 4872 := by omega
  have yb2 : y2 ≤ 4872 := by omega
  have a2 : decide (t < f) = false := by rw [decide_eq_false_iff_not]; omega
  have v1 : IntKind.i64.wrap ((y2 : Int) - (y1 : Int)) = (y2 : Int) - (y1 : Int) := IntWalk.i64_in _ (by omega)
  have v2 : IntKind.i64.wrap (360 * ((y2 : Int) - (y1 : Int))) = 360 * ((y2 : Int) - (y1 : Int)) := IntWalk.i64_in _ (by omega)
  have v3 : IntKind.i64.wrap ((m2 : Int) - (m1 : Int)) = (m2 : Int) - (m1 : Int) := IntWalk.i64_in _ (by omega)
  have v4 : IntKind.i64.wrap (30 * ((m2 : Int) - (m1 : Int))) = 30 * ((m2 : Int) - (m1 : Int)) := IntWalk.i64_in _ (by omega)
  have v5 : IntKind.i64.wrap (360 * ((y2 : Int) - (y1 : Int)) + 30 * ((m2 : Int) - (m1 : Int))) = 360 * ((y2 : Int) - (y1 : Int)) + 30 * ((m2 : Int) - (m1 : Int)) := IntWalk.i64_in _ (by omega)
  obtain ⟨p1, hp1⟩ : ∃ p : Int, p = ((min o1 30 : Nat) : Int) := ⟨_, rfl⟩
  obtain ⟨p2, hp2⟩ : ∃ p : Int, p = ((min o2 30 : Nat) : Int) := ⟨_, rfl⟩
  obtain ⟨X, hX⟩ : ∃ X, X = (n2 : Int) - (n1 : Int) := ⟨_, rfl⟩
  rw [← hX]
  have hXX : X = 360 * ((y2 : Int) - (y1 : Int)) + 30 * ((m2 : Int) - (m1 : Int)) + p2 - p1 := by omega
  have v6 : IntKind.i64.wrap (360 * ((y2 : Int) - (y1 : Int)) + 30 * ((m2 : Int) - (m1 : Int)) + p2) = 360 * ((y2 : Int) - (y1 : Int)) + 30 * ((m2 : Int) - (m1 : Int)) + p2 := IntWalk.i64_in _ (by omega)
  have v7 : IntKind.i64.wrap (360 * ((y2 : Int) - (y1 : Int)) + 30 * ((m2 : Int) - (m1 : Int)) + p2 - p1) = X := by rw [hXX]; exact IntWalk.i64_in _ (by omega)
  by_cases h30 : o1 ≤ 30
  · have d1 : decide (30 < o1) = false := by rw [decide_eq_false_iff_not]; omega
    have d1b : decide (30 < (o1 : Int)) = false := by rw [decide_eq_false_iff_not]; omega
    obtain rfl : p1 = (o1 : Int) := by omega
    by_cases h31 : o2 ≤ 30
    · have d2 : decide (30 < o2) = false := by rw [decide_eq_false_iff_not]; omega
      have d2b : decide (30 < (o2 : Int)) = false := by rw [decide_eq_false_iff_not]; omega
      obtain rfl : p2 = (o2 : Int) := by omega
      clear h1 h2 g1 g2 g3 g4 k1b k2b hin1 hin2 hml1 hml2 c1 c2 ho1 ho2 ob1 ob2 mb1 mb2 ma1 ma2 hy1 hy2 yb1 yb2 hp1 hp2 hX hXX h30 h31
      go_enter Tryd.func6, Tryd.ntmps6
      go_wp2_with fail
      refine (HF.out _).mono ?_
      rintro e w1 ⟨rfl, rfl⟩
      go_wp2_with fail
      refine (HT.out _).mono ?_
      rintro e w1 ⟨rfl, rfl⟩
      go_wp2_with fail
      refine (HM1.out _).mono ?_
      rintro e w1 ⟨rfl, rfl⟩
      go_wp2_with fail
      refine (HM2.out _).mono ?_
      rintro e w1 ⟨rfl, rfl⟩
      go_wp2; go_ret2; exact ⟨by first | rfl | (simp; done), rfl⟩
    · have d2 : decide (30 < o2) = true := by rw [decide_eq_true_iff]; omega
      have d2b : decide (30 < (o2 : Int)) = true := by rw [decide_eq_true_iff]; omega
      obtain rfl : p2 = 30 := by omega
      clear h1 h2 g1 g2 g3 g4 k1b k2b hin1 hin2 hml1 hml2 c1 c2 ho1 ho2 ob1 ob2 mb1 mb2 ma1 ma2 hy1 hy2 yb1 yb2 hp1 hp2 hX hXX h30 h31
      go_enter Tryd.func6, Tryd.ntmps6
      go_wp2_with fail
      refine (HF.out _).mono ?_
      rintro e w1 ⟨rfl, rfl⟩
      go_wp2_with fail
      refine (HT.out _).mono ?_
      rintro e w1 ⟨rfl, rfl⟩
      go_wp2_with fail
      refine (HM1.out _).mono ?_
      rintro e w1 ⟨rfl, rfl⟩
      go_wp2_with fail
      refine (HM2.out _).mono ?_
      rintro e w1 ⟨rfl, rfl⟩
      go_wp2; go_ret2; exact ⟨by first | rfl | (simp; done), rfl⟩
  · have d1 : decide (30 < o1) = true := by rw [decide_eq_true_iff]; omega
    have d1b : decide (30 < (o1 : Int)) = true := by rw [decide_eq_true_iff]; omega
    obtain rfl : p1 = 30 := by omega
    by_cases h31 : o2 ≤ 30
    · have d2 : decide (30 < o2) = false := by rw [decide_eq_false_iff_not]; omega
      have d2b : decide (30 < (o2 : Int)) = false := by rw [decide_eq_false_iff_not]; omega
      obtain rfl : p2 = (o2 : Int) := by omega
      clear h1 h2 g1 g2 g3 g4 k1b k2b hin1 hin2 hml1 hml2 c1 c2 ho1 ho2 ob1 ob2 mb1 mb2 ma1 ma2 hy1 hy2 yb1 yb2 hp1 hp2 hX hXX h30 h31
      go_enter Tryd.func6, Tryd.ntmps6
      go_wp2_with fail
      refine (HF.out _).mono ?_
      rintro e w1 ⟨rfl, rfl⟩
      go_wp2_with fail
      refine (HT.out _).mono ?_
      rintro e w1 ⟨rfl, rfl⟩
      go_wp2_with fail
      refine (HM1.out _).mono ?_
      rintro e w1 ⟨rfl, rfl⟩
      go_wp2_with fail
      refine (HM2.out _).mono ?_
      rintro e w1 ⟨rfl, rfl⟩
      go_wp2; go_ret2; exact ⟨by first | rfl | (simp; done), rfl⟩
    · have d2 : decide (30 < o2) = true := by rw [decide_eq_true_iff]; omega
      have d2b : decide (30 < (o2 : Int)) = true := by rw [decide_eq_true_iff]; omega
      obtain rfl : p2 = 30 := by omega
      obtain rfl : X = 360 * ((y2 : Int) - (y1 : Int)) + 30 * ((m2 : Int) - (m1 : Int)) := by omega
      clear h1 h2 g1 g2 g3 g4 k1b k2b hin1 hin2 hml1 hml2 c1 c2 ho1 ho2 ob1 ob2 mb1 mb2 ma1 ma2 hy1 hy2 yb1 yb2 hp1 hp2 v7 hX hXX h30 h31
      go_enter Tryd.func6, Tryd.ntmps6
      go_wp2_with fail
      refine (HF.out _).mono ?_
      rintro e w1 ⟨rfl, rfl⟩
      go_wp2_with fail
      refine (HT.out _).mono ?_
      rintro e w1 ⟨rfl, rfl⟩
      go_wp2_with fail
      refine (HM1.out _).mono ?_
      rintro e w1 ⟨rfl, rfl⟩
      go_wp2_with fail
      refine (HM2.out _).mono ?_
      rintro e w1 ⟨rfl, rfl⟩
      go_wp2; go_ret2; exact ⟨by first | rfl | (simp; done), rfl⟩

namespace discountDays
set_option maxHeartbeats 1000000 in
theorem join (f t B : Int) (V : Int) (x : Bool) (w : World) (hM : Mths w)
    (H1 : ∀ w, Mths w → Calls Tryd.prog 5 #[.int .i64 f, .int .i64 t, .int .i64 B] w fun e w' => e = .returned (.tuple #[.int .i64 V, .bool x]) ∧ w' = w)
    (H2 : ∀ w, Calls Tryd.prog 6 #[.int .i64 f, .int .i64 t, .int .i64 B] w fun e w' => e = .returned (.tuple #[.int .i64 V, .bool x]) ∧ w' = w) :
    Calls Tryd.prog 3 #[.int .i64 f, .int .i64 t, .int .i64 B] w fun e w' => e = .returned (.bool true) ∧ Below w.heap.size w w' := by
  have H1 := Lib.hid H1
  have H2 := Lib.hid H2
  have HM := Lib.hid hM
  clear hM
  go_enter Tryd.func3, Tryd.ntmps3
  go_wp2_with fail
  refine (awake_any _).mono ?_
  rintro e w1 ⟨rfl, hb⟩
  have HM1 := Lib.hid (HM.out.below hb)
  have HB := Lib.hid hb
  clear hb
  go_wp2_with fail
  refine (H1.out _ HM1.out).mono ?_
  rintro e w2 ⟨rfl, rfl⟩
  go_wp2_with fail
  refine (H2.out _).mono ?_
  rintro e w3 ⟨rfl, rfl⟩
  go_wp2
  go_ret
  exact ⟨rfl, HB.out⟩

theorem walk (f t B : Int) (w : World) (_ : (Lit.int .i64 f).wf = true) (_ : (Lit.int .i64 t).wf = true) (_ : (Lit.int .i64 B).wf = true) (hM : Mths w) :
    Calls Tryd.prog 3 #[.int .i64 f, .int .i64 t, .int .i64 B] w fun e w' => e = .returned (.bool true) ∧ Below w.heap.size w w' := by
  by_cases h : badD f t B
  · exact join f t B 0 false w hM (fun w _ => days_bad f t B w h) (fun w => rdays_bad f t B w h)
  · unfold badD at h
    obtain ⟨f, rfl⟩ : ∃ n : Nat, f = (n : Int) := ⟨f.toNat, by omega⟩
    obtain ⟨t, rfl⟩ : ∃ n : Nat, t = (n : Int) := ⟨t.toNat, by omega⟩
    by_cases h5 : B = 365
    · subst h5
      exact join _ _ _ _ _ w hM (fun w _ => days_365 f t w (by omega) (by omega)) (fun w => rdays_365 f t w (by omega) (by omega))
    · obtain rfl : B = 360 := by omega
      obtain ⟨k1, r1, g1, g2⟩ := year_some f
      obtain ⟨k2, r2, g3, g4⟩ := year_some t
      exact join _ _ _ _ _ w hM (fun w hw => days_360 f t k1 r1 k2 r2 w (by omega) (by omega) g1 g2 g3 g4 hw) (fun w => rdays_360 f t k1 r1 k2 r2 w (by omega) (by omega) g1 g2 g3 g4)

theorem tMonths : (Tryd.prog.globals[0]?).map (·.type) = some 49 := by kernel_rfl
theorem cArr : Tryd.prog.cellsOf 49 = 12 := by kernel_rfl
theorem cInt : Tryd.prog.cellsOf 3 = 1 := by kernel_rfl
theorem laidVars_mem {P : Program} {w : World} {n : String} {d : DataW Unit} : ∀ {l : List (String × DataW Unit)} {ps : List MemPlace}, DataW.LaidVars P w l ps → (n, d) ∈ l →
    ∃ g t cs fuel p, P.globalNamed n = some g ∧ (P.globals[g]?).map (·.type) = some t ∧ w.var? P n = some cs ∧ DataW.trod (fun _ => ()) P w 0 (fun _ => true) false fuel t cs.toList = some (d, p)
  | [], _, _, hm => by cases hm
  | (n', d') :: r, ps, h, hm => by
    obtain ⟨g, t, cs, fuel, p, q, h1, h2, h3, h4, h5, _⟩ := h
    rcases List.mem_cons.1 hm with e | hm
    · cases e; exact ⟨g, t, cs, fuel, p, h1, h2, h3, h4⟩
    · exact laidVars_mem h5 hm
theorem mths_of_laid {W : World} {l : List (String × DataW Unit)} {n : String} (hm : (n, Rows.laid_supercargo_day_months) ∈ l) (gM : Tryd.prog.globalNamed n = some 0) (h : laidMet Tryd.prog l W) : Mths W := by
  obtain ⟨ps, hl, _⟩ := h
  obtain ⟨g, t, cs, fuel, p, hg, ht, hv, hd⟩ := laidVars_mem hl hm
  obtain rfl := Option.some.inj (gM.symm.trans hg)
  obtain rfl := Option.some.inj (tMonths.symm.trans ht)
  have hc := World.var?_cell hg hv
  obtain ⟨xs, m1, rfl, hx1, hlen, hn, hel⟩ := DataW.trod_array Tryd.underlying49 hd
  have hx : Rows.laid_supercargo_day_months = DataW.agg (xs.map (·.1)) := congrArg Prod.fst hx1
  unfold Rows.laid_supercargo_day_months at hx
  simp only [DataW.agg.injEq] at hx
  rw [cArr] at hlen
  rw [cInt] at hel
  intro i hi
  have he := hel i hi
  have hxi : i < xs.length := by
    have := congrArg List.length hx
    simp at this; omega
  rw [List.getElem?_eq_getElem hxi] at he
  obtain ⟨z, q0, hz, _⟩ := DataW.trod_int Tryd.underlying3 he
  have hd : xs[i].1 = .lit (.int .i64 ((mtab.getD i 0 : Nat) : Int)) := by
    have h2 := congrArg (·[i]?) hx
    simp only [List.getElem?_map, List.getElem?_eq_getElem hxi, Option.map_some] at h2
    match i, hi with
    | 0, _ => exact (Option.some.inj h2).symm
    | 1, _ => exact (Option.some.inj h2).symm
    | 2, _ => exact (Option.some.inj h2).symm
    | 3, _ => exact (Option.some.inj h2).symm
    | 4, _ => exact (Option.some.inj h2).symm
    | 5, _ => exact (Option.some.inj h2).symm
    | 6, _ => exact (Option.some.inj h2).symm
    | 7, _ => exact (Option.some.inj h2).symm
    | 8, _ => exact (Option.some.inj h2).symm
    | 9, _ => exact (Option.some.inj h2).symm
    | 10, _ => exact (Option.some.inj h2).symm
    | 11, _ => exact (Option.some.inj h2).symm
  have hzz : z = ((mtab.getD i 0 : Nat) : Int) := by
    rw [hz] at hd
    simpa using hd
  rw [hc i, ← hzz]
  rw [Nat.mul_one] at q0
  have h3 := congrArg (·[0]?) q0
  simpa [List.getElem?_take, List.getElem?_drop] using h3
theorem terms_met {W : World} (h : laidMetH Tryd.prog Rows.discountDaysRow.laid W) : Mths W :=
  mths_of_laid List.mem_cons_self (by kernel_rfl) (MakeChecks.laidMetH_plain _ _ _ (by kernel_rfl) ▸ h)
end discountDays
end Go.Proofs.YtbehepeebffmoaaDoor
