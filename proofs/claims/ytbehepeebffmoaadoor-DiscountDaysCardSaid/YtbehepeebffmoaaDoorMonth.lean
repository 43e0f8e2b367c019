/-
  Month: the day's year, month and day of the month.
-/
import Derived.Test.YtbehepeebffmoaaDoorDay
namespace Go.Proofs.YtbehepeebffmoaaDoor
open Go Go.RowKit
set_option linter.unusedVariables false
set_option linter.unusedSimpArgs false

theorem pday_any (d : Int) (w : World) (x : Bool) (hx : x = decide (0 ≤ d ∧ d ≤ 1048576)) :
    Calls Tryd.prog 18 #[.int .i64 d] w fun e w' => e = .returned (.bool x) ∧ w' = w := by
  by_cases h1 : 0 ≤ d
  · have d1 : decide (0 ≤ d) = true := by rw [decide_eq_true_iff]; exact h1
    by_cases h2 : d ≤ 1048576
    · have d2 : decide (d ≤ 1048576) = true := by rw [decide_eq_true_iff]; exact h2
      obtain rfl : x = true := by rw [hx, decide_eq_true_iff]; exact ⟨h1, h2⟩
      clear hx
      go_enter Tryd.func18, Tryd.ntmps18
      go_wp2
      go_ret
      exact ⟨rfl, rfl⟩
    · have d2 : decide (d ≤ 1048576) = false := by rw [decide_eq_false_iff_not]; exact h2
      obtain rfl : x = false := by rw [hx, decide_eq_false_iff_not]; omega
      clear hx
      go_enter Tryd.func18, Tryd.ntmps18
      go_wp2
      go_ret
      exact ⟨rfl, rfl⟩
  · have d1 : decide (0 ≤ d) = false := by rw [decide_eq_false_iff_not]; exact h1
    obtain rfl : x = false := by rw [hx, decide_eq_false_iff_not]; omega
    clear hx
    go_enter Tryd.func18, Tryd.ntmps18
    go_wp2
    go_ret
    exact ⟨rfl, rfl⟩

/-- What Month tells of a day: k years behind 2000, the r-th day of that year. -/
def monV (k r : Nat) : Value := .tuple #[.int .i64 ((2000 + k : Nat) : Int), .int .i64 (((monN (2000 + k) 12 1 r).1 : Nat) : Int), .int .i64 (((monN (2000 + k) 12 1 r).2 + 1 : Nat) : Int)]
theorem year_before {d k r k2 r2 : Nat} (h1 : ahead k + r = d) (h2 : r < ydN (2000 + k)) (h3 : ahead k2 + r2 = d) : k2 ≤ k := by
  rcases Nat.lt_or_ge k k2 with g | g
  · have := ahead_mono g; omega
  · exact g

set_option maxHeartbeats 4000000 in
theorem month_any (d k r : Nat) (hd : d ≤ 1048576) (h1 : ahead k + r = d) (h2 : r < ydN (2000 + k)) (w : World) (hM : Mths w) :
    Calls Tryd.prog 11 #[.int .i64 (d : Int)] w fun e w' => e = .returned (monV k r) ∧ w' = w := by
  have H1 := Lib.hid h1
  have H0 := Lib.hid hd
  have H2 := Lib.hid h2
  have HK := Lib.hid (show k ≤ 2872 by have := year_le h1; omega)
  obtain ⟨R, hR⟩ : ∃ R, R = monN (2000 + k) 12 1 r := ⟨_, rfl⟩
  have HRin := Lib.hid (show 1 ≤ R.1 ∧ R.1 ≤ 12 ∧ R.2 < mlN (2000 + k) R.1 by rw [hR]; exact mon_in rfl (Nat.le_refl _) (by decide) (by show 0 + 0 + r < _; simpa [cumN] using h2))
  obtain ⟨V, hV⟩ : ∃ V, V = monV k r := ⟨_, rfl⟩
  rw [← hV]
  have HV := Lib.hid hV
  clear hV
  have HR := Lib.hid hR
  have HMt := Lib.hid hM
  have HI := Lib.hid (fun w => pday_any (d : Int) w true (by symm; rw [decide_eq_true_iff]; omega))
  obtain ⟨c, hc⟩ : ∃ c, c = d / 146097 := ⟨_, rfl⟩
  obtain ⟨f, hf⟩ : ∃ c, c = d % 146097 := ⟨_, rfl⟩
  have t1 : (d : Int).tdiv 146097 = (c : Int) := by rw [hc]; exact (Int.ofNat_tdiv d 146097).symm
  have t1b : (d : Int) / 146097 = (c : Int) := by rw [hc]; exact (Int.natCast_ediv d 146097).symm
  have t2 : (d : Int).tmod 146097 = (f : Int) := by rw [hf]; exact (Int.ofNat_tmod d 146097).symm
  have t2b : (d : Int) % 146097 = (f : Int) := by rw [hf]; exact (Int.natCast_emod d 146097).symm
  have hcb : c ≤ 7 := by omega
  have hfb : f < 146097 := by omega
  have HS := Lib.hid (show ahead (400 * c) + f = d by rw [ahead_cycle]; omega)
  have HSk := Lib.hid (year_before h1 h2 HS.out)
  have w1' : IntKind.i64.wrap (c : Int) = (c : Int) := i64d rfl (by omega)
  have w2' : IntKind.i64.wrap (f : Int) = (f : Int) := i64d rfl (by omega)
  have w3' : IntKind.i64.wrap ((c : Int) * 400) = ((400 * c : Nat) : Int) := i64d (by omega) (by omega)
  have w4' : IntKind.i64.wrap (2000 + ((400 * c : Nat) : Int)) = ((2000 + 400 * c : Nat) : Int) := i64d (by omega) (by omega)
  clear hd h1 h2 hR hc hf hM
  go_enter Tryd.func11, Tryd.ntmps11
  go_wp2_with fail
  refine (HI.out _).mono ?_
  rintro e w0 ⟨rfl, rfl⟩
  go_wp2_with fail
  go_loop [0, 2] (fun t0 t2 => ∃ k' r' : Nat, t0 = .int .i64 (r' : Int) ∧ t2 = .int .i64 ((2000 + k' : Nat) : Int) ∧ Hid (ahead k' + r' = d) ∧ Hid (k' ≤ k)) (fun _ t2 => (2000 + k) - (intOf t2).toNat)
  case atStart => exact ⟨400 * c, f, rfl, by first | rfl | go_num, HS, HSk⟩
  case round =>
    obtain ⟨k', r', rfl, rfl, ha, hk⟩ := hrel
    obtain ⟨y, hy⟩ : ∃ y, y = 2000 + k' := ⟨_, rfl⟩
    have hyb : y ≤ 4872 := by have := HK.out; have := hk.out; omega
    have HD := Lib.hid (fun w => daysof_any y (by omega) w)
    obtain ⟨n, hn⟩ : ∃ n, n = ydN y := ⟨_, rfl⟩
    rw [← hn] at HD
    rw [← hy]
    by_cases hlt : r' < n
    · have d1 : decide (n ≤ r') = false := by rw [decide_eq_false_iff_not]; omega
      have hkk : k' = k ∧ r' = r := year_one ha.out (by rw [← hy, ← hn]; exact hlt) H1.out H2.out
      obtain ⟨hk1, hr1⟩ := hkk
      subst hk1 hr1
      have HY := Lib.hid hy
      rw [← hy] at HR HRin H2
      have HYB := Lib.hid hyb
      clear hn hlt hyb hy
      go_wp2_with fail
      refine (HD.out _).mono ?_
      rintro e w1 ⟨rfl, rfl⟩
      go_wp2_with fail
      go_loop [0, 3] (fun t0 t3 => ∃ m r2 : Nat, t0 = .int .i64 (r2 : Int) ∧ t3 = .int .i64 (m : Int) ∧ Hid (1 ≤ m ∧ m ≤ 12) ∧ Hid (monN y (12 - m + 1) m r2 = R) ∧ Hid (cumN y m + r2 < ydN y)) (fun _ t3 => 13 - (intOf t3).toNat)
      case atStart => exact ⟨1, r', rfl, rfl, Lib.hid ⟨Nat.le_refl _, by decide⟩, Lib.hid HR.out.symm, Lib.hid (by have := H2.out; simpa [cumN] using this)⟩
      case round =>
        obtain ⟨m, r2, rfl, rfl, hm, hmon, hcum⟩ := hrel
        have HLn := Lib.hid (length_any y m (by have := HYB.out; omega) hm.out.1 hm.out.2 _ HMt.out)
        obtain ⟨l, hl⟩ : ∃ l, l = mlN y m := ⟨_, rfl⟩
        rw [← hl] at HLn
        by_cases hlt : r2 < l
        · have d2 : decide (l ≤ r2) = false := by rw [decide_eq_false_iff_not]; omega
          have hRR : (m, r2) = R := by rw [← hmon.out, mon_stop (by rw [← hl]; exact hlt)]
          subst hRR
          have hr31 : r2 ≤ 31 := by have := ml_pos y m hm.out.1 hm.out.2; omega
          have v1 : IntKind.i64.wrap ((r2 : Int) + 1) = ((r2 + 1 : Nat) : Int) := i64d (by omega) (by omega)
          clear hl hlt hr31
          go_wp2_with fail
          refine (HLn.out).mono ?_
          rintro e w2 ⟨rfl, rfl⟩
          go_wp2
          go_ret3
          have hV : V = .tuple #[.int .i64 (y : Int), .int .i64 (m : Int), .int .i64 ((r2 : Int) + 1)] := by
            rw [HV.out]; unfold monV; rw [← HY.out, ← HR.out]; rfl
          exact ⟨by rw [hV]; rfl, rfl⟩
        · have d2 : decide (l ≤ r2) = true := by rw [decide_eq_true_iff]; omega
          have hm12 : m < 12 := by
            rcases Nat.lt_or_ge m 12 with g | g
            · exact g
            · exfalso
              obtain rfl : m = 12 := by have := hm.out; omega
              have e1 := cum_last y
              have e2 := hcum.out
              omega
          have HN1 := Lib.hid (show monN y (12 - (m + 1) + 1) (m + 1) (r2 - l) = R by
            have h9 := hmon.out
            rw [mon_go (by rw [← hl]; exact hlt), ← hl] at h9
            rw [show 12 - (m + 1) + 1 = 12 - m by omega]
            exact h9)
          have HN2 := Lib.hid (show cumN y (m + 1) + (r2 - l) < ydN y by
            have e1 := cum_succ y m hm.out.1 hm12
            have e2 := hcum.out
            omega)
          have hb2 : r2 ≤ 366 := by have := hcum.out; have := yd_pos y; omega
          have v1 : IntKind.i64.wrap ((r2 : Int) - (l : Int)) = ((r2 - l : Nat) : Int) := i64d (by omega) (by omega)
          have v2 : IntKind.i64.wrap ((m : Int) + 1) = ((m + 1 : Nat) : Int) := i64d (by omega) (by omega)
          have HM12 := Lib.hid hm12
          clear hl hlt hm12 hb2
          go_wp2_with fail
          refine (HLn.out).mono ?_
          rintro e w2 ⟨rfl, rfl⟩
          go_wp2_with fail
          refine (HLn.out).mono ?_
          rintro e w2 ⟨rfl, rfl⟩
          go_wp2
          go_round
          case rel => exact ⟨m + 1, r2 - l, rfl, by go_num, Lib.hid ⟨by omega, by have := HM12.out; omega⟩, HN1, HN2⟩
          case measure => have := HM12.out; simp [intOf]; omega
    · have d1 : decide (n ≤ r') = true := by rw [decide_eq_true_iff]; omega
      have hlt2 : k' < k := by
        rcases Nat.lt_or_ge k' k with g | g
        · exact g
        · exfalso
          have := hk.out
          obtain rfl : k' = k := by omega
          have e1 := H1.out
          have e2 := ha.out
          have e3 := H2.out
          rw [hn, hy] at hlt
          omega
      have HA := Lib.hid (show ahead (k' + 1) + (r' - n) = d by rw [ahead_succ, ← hy, ← hn]; have := ha.out; omega)
      have hrb : r' ≤ 1048576 := by have := ha.out; have := H0.out; omega
      have v1 : IntKind.i64.wrap ((r' : Int) - (n : Int)) = ((r' - n : Nat) : Int) := i64d (by omega) (by omega)
      have v2 : IntKind.i64.wrap ((y : Int) + 1) = ((y + 1 : Nat) : Int) := i64d (by omega) (by omega)
      have HLT := Lib.hid hlt2
      have HY := Lib.hid hy
      clear hn hlt hlt2 hrb hyb hy
      go_wp2_with fail
      refine (HD.out _).mono ?_
      rintro e w1 ⟨rfl, rfl⟩
      go_wp2_with fail
      refine (HD.out _).mono ?_
      rintro e w1 ⟨rfl, rfl⟩
      go_wp2
      go_round
      case rel => exact ⟨k' + 1, r' - n, rfl, by rw [HY.out]; rfl, HA, Lib.hid (by have := HLT.out; omega)⟩
      case measure => have := HLT.out; have := HY.out; simp [intOf]; omega

set_option maxHeartbeats 4000000 in
theorem rmonth_any (d k r : Nat) (hd : d ≤ 1048576) (h1 : ahead k + r = d) (h2 : r < ydN (2000 + k)) (w : World) :
    Calls Tryd.prog 13 #[.int .i64 (d : Int)] w fun e w' => e = .returned (monV k r) ∧ w' = w := by
  have H1 := Lib.hid h1
  have H0 := Lib.hid hd
  have H2 := Lib.hid h2
  have HK := Lib.hid (show k ≤ 2872 by have := year_le h1; omega)
  obtain ⟨R, hR⟩ : ∃ R, R = monN (2000 + k) 12 1 r := ⟨_, rfl⟩
  have HRin := Lib.hid (show 1 ≤ R.1 ∧ R.1 ≤ 12 ∧ R.2 < mlN (2000 + k) R.1 by rw [hR]; exact mon_in rfl (Nat.le_refl _) (by decide) (by show 0 + 0 + r < _; simpa [cumN] using h2))
  obtain ⟨V, hV⟩ : ∃ V, V = monV k r := ⟨_, rfl⟩
  rw [← hV]
  have HV := Lib.hid hV
  clear hV
  have HR := Lib.hid hR
  have HS := Lib.hid (show ahead 0 + d = d by simp [ahead])
  clear hd h1 h2 hR
  go_enter Tryd.func13, Tryd.ntmps13
  go_wp2_with fail
  go_loop [0, 5] (fun t0 t2 => ∃ k' r' : Nat, t0 = .int .i64 (r' : Int) ∧ t2 = .int .i64 ((2000 + k' : Nat) : Int) ∧ Hid (ahead k' + r' = d) ∧ Hid (k' ≤ k)) (fun _ t2 => (2000 + k) - (intOf t2).toNat)
  case atStart => exact ⟨0, d, rfl, rfl, HS, Lib.hid (Nat.zero_le _)⟩
  case round =>
    obtain ⟨k', r', rfl, rfl, ha, hk⟩ := hrel
    obtain ⟨y, hy⟩ : ∃ y, y = 2000 + k' := ⟨_, rfl⟩
    have hyb : y ≤ 4872 := by have := HK.out; have := hk.out; omega
    have HD := Lib.hid (fun w => ryear_any y (by omega) w)
    obtain ⟨n, hn⟩ : ∃ n, n = ydN y := ⟨_, rfl⟩
    rw [← hn] at HD
    rw [← hy]
    by_cases hlt : r' < n
    · have d1 : decide (n ≤ r') = false := by rw [decide_eq_false_iff_not]; omega
      have hkk : k' = k ∧ r' = r := year_one ha.out (by rw [← hy, ← hn]; exact hlt) H1.out H2.out
      obtain ⟨hk1, hr1⟩ := hkk
      subst hk1 hr1
      have HY := Lib.hid hy
      rw [← hy] at HR HRin H2
      have HYB := Lib.hid hyb
      clear hn hlt hyb hy
      go_wp2_with fail
      refine (HD.out _).mono ?_
      rintro e w1 ⟨rfl, rfl⟩
      go_wp2_with fail
      go_loop [0, 6] (fun t0 t3 => ∃ m r2 : Nat, t0 = .int .i64 (r2 : Int) ∧ t3 = .int .i64 (m : Int) ∧ Hid (1 ≤ m ∧ m ≤ 12) ∧ Hid (monN y (12 - m + 1) m r2 = R) ∧ Hid (cumN y m + r2 < ydN y)) (fun _ t3 => 13 - (intOf t3).toNat)
      case atStart => exact ⟨1, r', rfl, rfl, Lib.hid ⟨Nat.le_refl _, by decide⟩, Lib.hid HR.out.symm, Lib.hid (by have := H2.out; simpa [cumN] using this)⟩
      case round =>
        obtain ⟨m, r2, rfl, rfl, hm, hmon, hcum⟩ := hrel
        have HLn := Lib.hid (fun w => rdays_any y m (by have := HYB.out; omega) hm.out.1 hm.out.2 w)
        obtain ⟨l, hl⟩ : ∃ l, l = mlN y m := ⟨_, rfl⟩
        rw [← hl] at HLn
        by_cases hlt : r2 < l
        · have d2 : decide (l ≤ r2) = false := by rw [decide_eq_false_iff_not]; omega
          have hRR : (m, r2) = R := by rw [← hmon.out, mon_stop (by rw [← hl]; exact hlt)]
          subst hRR
          have hr31 : r2 ≤ 31 := by have := ml_pos y m hm.out.1 hm.out.2; omega
          have v1 : IntKind.i64.wrap ((r2 : Int) + 1) = ((r2 + 1 : Nat) : Int) := i64d (by omega) (by omega)
          clear hl hlt hr31
          go_wp2_with fail
          refine (HLn.out _).mono ?_
          rintro e w2 ⟨rfl, rfl⟩
          go_wp2
          go_ret3
          have hV : V = .tuple #[.int .i64 (y : Int), .int .i64 (m : Int), .int .i64 ((r2 : Int) + 1)] := by
            rw [HV.out]; unfold monV; rw [← HY.out, ← HR.out]; rfl
          exact ⟨by rw [hV]; rfl, rfl⟩
        · have d2 : decide (l ≤ r2) = true := by rw [decide_eq_true_iff]; omega
          have hm12 : m < 12 := by
            rcases Nat.lt_or_ge m 12 with g | g
            · exact g
            · exfalso
              obtain rfl : m = 12 := by have := hm.out; omega
              have e1 := cum_last y
              have e2 := hcum.out
              omega
          have HN1 := Lib.hid (show monN y (12 - (m + 1) + 1) (m + 1) (r2 - l) = R by
            have h9 := hmon.out
            rw [mon_go (by rw [← hl]; exact hlt), ← hl] at h9
            rw [show 12 - (m + 1) + 1 = 12 - m by omega]
            exact h9)
          have HN2 := Lib.hid (show cumN y (m + 1) + (r2 - l) < ydN y by
            have e1 := cum_succ y m hm.out.1 hm12
            have e2 := hcum.out
            omega)
          have hb2 : r2 ≤ 366 := by have := hcum.out; have := yd_pos y; omega
          have v1 : IntKind.i64.wrap ((r2 : Int) - (l : Int)) = ((r2 - l : Nat) : Int) := i64d (by omega) (by omega)
          have v2 : IntKind.i64.wrap ((m : Int) + 1) = ((m + 1 : Nat) : Int) := i64d (by omega) (by omega)
          have HM12 := Lib.hid hm12
          clear hl hlt hm12 hb2
          go_wp2_with fail
          refine (HLn.out _).mono ?_
          rintro e w2 ⟨rfl, rfl⟩
          go_wp2_with fail
          refine (HLn.out _).mono ?_
          rintro e w2 ⟨rfl, rfl⟩
          go_wp2
          go_round
          case rel => exact ⟨m + 1, r2 - l, rfl, by go_num, Lib.hid ⟨by omega, by have := HM12.out; omega⟩, HN1, HN2⟩
          case measure => have := HM12.out; simp [intOf]; omega
    · have d1 : decide (n ≤ r') = true := by rw [decide_eq_true_iff]; omega
      have hlt2 : k' < k := by
        rcases Nat.lt_or_ge k' k with g | g
        · exact g
        · exfalso
          have := hk.out
          obtain rfl : k' = k := by omega
          have e1 := H1.out
          have e2 := ha.out
          have e3 := H2.out
          rw [hn, hy] at hlt
          omega
      have HA := Lib.hid (show ahead (k' + 1) + (r' - n) = d by rw [ahead_succ, ← hy, ← hn]; have := ha.out; omega)
      have hrb : r' ≤ 1048576 := by have := ha.out; have := H0.out; omega
      have v1 : IntKind.i64.wrap ((r' : Int) - (n : Int)) = ((r' - n : Nat) : Int) := i64d (by omega) (by omega)
      have v2 : IntKind.i64.wrap ((y : Int) + 1) = ((y + 1 : Nat) : Int) := i64d (by omega) (by omega)
      have HLT := Lib.hid hlt2
      have HY := Lib.hid hy
      clear hn hlt hlt2 hrb hyb hy
      go_wp2_with fail
      refine (HD.out _).mono ?_
      rintro e w1 ⟨rfl, rfl⟩
      go_wp2_with fail
      refine (HD.out _).mono ?_
      rintro e w1 ⟨rfl, rfl⟩
      go_wp2
      go_round
      case rel => exact ⟨k' + 1, r' - n, rfl, by rw [HY.out]; rfl, HA, Lib.hid (by have := HLT.out; omega)⟩
      case measure => have := HLT.out; have := HY.out; simp [intOf]; omega
end Go.Proofs.YtbehepeebffmoaaDoor
