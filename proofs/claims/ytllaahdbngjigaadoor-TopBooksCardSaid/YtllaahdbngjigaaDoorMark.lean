/-
  mark.Name and the document's.
-/
import Derived.Test.YtllaahdbngjigaaDoorIns
namespace Go.Proofs.YtllaahdbngjigaaDoor
open Go Go.RowKit
set_option linter.unusedVariables false
set_option linter.unusedSimpArgs false

theorem isLetter_any (z : Int) (w : World) :
    Calls Tryd.prog 98 #[.int .u8 z] w fun e w' => e = .returned (.bool (letB z)) ∧ w' = w := by
  unfold letB
  cases h1 : decide (97 ≤ z) with
  | true =>
    go_enter Tryd.func98, Tryd.ntmps98
    go_wp2
    go_ret
    exact ⟨by rw [Bool.true_and]; rfl, rfl⟩
  | false =>
    go_enter Tryd.func98, Tryd.ntmps98
    go_wp2
    go_ret
    exact ⟨by rw [Bool.false_and]; rfl, rfl⟩

theorem isDigit_any (z : Int) (w : World) :
    Calls Tryd.prog 99 #[.int .u8 z] w fun e w' => e = .returned (.bool (digB z)) ∧ w' = w := by
  unfold digB
  cases h1 : decide (48 ≤ z) with
  | true =>
    go_enter Tryd.func99, Tryd.ntmps99
    go_wp2
    go_ret
    exact ⟨by rw [Bool.true_and]; rfl, rfl⟩
  | false =>
    go_enter Tryd.func99, Tryd.ntmps99
    go_wp2
    go_ret
    exact ⟨by rw [Bool.false_and]; rfl, rfl⟩

set_option maxHeartbeats 1000000 in
theorem name_any (s : ByteArray) (w : World) :
    Calls Tryd.prog 75 #[.string s] w fun e w' => e = .returned (.bool (nameB s)) ∧ w' = w := by
  obtain ⟨x, hx⟩ : ∃ x, x = nameB s := ⟨_, rfl⟩
  rw [← hx]
  have HX := Lib.hid hx
  clear hx
  obtain ⟨n, HN⟩ : ∃ n, Hid (n = s.size) := ⟨_, Lib.hid rfl⟩
  have e0 : s.size = n := HN.out.symm
  by_cases h1 : n < 1
  · have d1 : decide ((n : Int) < 1) = true := by rw [decide_eq_true_iff]; omega
    have HR := Lib.hid (show x = false by rw [HX.out]; exact name_out (by omega))
    go_enter Tryd.func75, Tryd.ntmps75
    go_wp2
    go_ret
    exact ⟨by rw [HR.out]; rfl, rfl⟩
  · have d1 : decide ((n : Int) < 1) = false := by rw [decide_eq_false_iff_not]; omega
    by_cases h2 : 16 < n
    · have d2 : decide ((16 : Int) < (n : Int)) = true := by rw [decide_eq_true_iff]; omega
      have HR := Lib.hid (show x = false by rw [HX.out]; exact name_out (by omega))
      go_enter Tryd.func75, Tryd.ntmps75
      go_wp2
      go_ret
      exact ⟨by rw [HR.out]; rfl, rfl⟩
    · have d2 : decide ((16 : Int) < (n : Int)) = false := by rw [decide_eq_false_iff_not]; omega
      have HL := Lib.hid (fun z w => isLetter_any z w)
      have HD := Lib.hid (fun z w => isDigit_any z w)
      go_enter Tryd.func75, Tryd.ntmps75
      go_wp2
      go_loopw [14] (fun i wr => ∃ k : Nat, k ≤ n ∧ i = .int .i64 (k : Int) ∧ Hid (∀ j, j < k → chB (byt s j) = true) ∧ Hid (wr = w)) (fun i _ => n - (intOf i).toNat)
      case atStart => exact ⟨0, Nat.zero_le _, rfl, Lib.hid (fun j hj => by omega), Lib.hid rfl⟩
      case round =>
        obtain ⟨k, hk, rfl, hp, hw⟩ := hrel
        by_cases hlt : k < n
        · have l1 : (k : Int) < (n : Int) := by omega
          have HI := byt_run (P := Tryd.prog) 9 s k Tryd.underlying9 (by omega)
          have HC := Lib.hid (show chB (byt s k) = (letB (byt s k) || digB (byt s k) || byt s k == 45) from rfl)
          have HB := Lib.hid (fun h => name_bad (s := s) (k := k) (by omega) h)
          obtain ⟨z, hz⟩ : ∃ z, z = byt s k := ⟨_, rfl⟩
          rw [← hz] at HC HB
          rw [← hz] at HI
          have HZ := Lib.hid hz
          clear hz
          have HP := Lib.hid (show chB z = true → ∀ j, j < k + 1 → chB (byt s j) = true from fun h j hj => by
            by_cases e : j = k
            · subst e; rw [← HZ.out]; exact h
            · exact hp.out j (by omega))
          cases g1 : letB z with
          | true =>
            have HQ := Lib.hid (HP.out (by rw [HC.out, g1]; rfl))
            go_wp2_with fail
            refine (HL.out _ _).mono ?_
            rintro e w1 ⟨rfl, rfl⟩
            go_wp2
            go_roundw
            case rel => exact ⟨k + 1, by omega, by go_num, HQ, hw⟩
            case measure => simp [intOf]; omega
          | false =>
            cases g2 : digB z with
            | true =>
              have HQ := Lib.hid (HP.out (by rw [HC.out, g1, g2]; rfl))
              go_wp2_with fail
              refine (HL.out _ _).mono ?_
              rintro e w1 ⟨rfl, rfl⟩
              go_wp2_with fail
              refine (HD.out _ _).mono ?_
              rintro e w1 ⟨rfl, rfl⟩
              go_wp2
              go_roundw
              case rel => exact ⟨k + 1, by omega, by go_num, HQ, hw⟩
              case measure => simp [intOf]; omega
            | false =>
              cases g3 : (z == 45) with
              | true =>
                have g4 : (z != 45) = false := by simp [bne, g3]
                have HQ := Lib.hid (HP.out (by rw [HC.out, g1, g2, g3]; rfl))
                go_wp2_with fail
                refine (HL.out _ _).mono ?_
                rintro e w1 ⟨rfl, rfl⟩
                go_wp2_with fail
                refine (HD.out _ _).mono ?_
                rintro e w1 ⟨rfl, rfl⟩
                go_wp2
                go_roundw
                case rel => exact ⟨k + 1, by omega, by go_num, HQ, hw⟩
                case measure => simp [intOf]; omega
              | false =>
                have g4 : (z != 45) = true := by simp [bne, g3]
                have HR := Lib.hid (show x = false by rw [HX.out]; exact HB.out (by rw [HC.out, g1, g2, g3]; rfl))
                go_wp2_with fail
                refine (HL.out _ _).mono ?_
                rintro e w1 ⟨rfl, rfl⟩
                go_wp2_with fail
                refine (HD.out _ _).mono ?_
                rintro e w1 ⟨rfl, rfl⟩
                go_wp2
                go_ret
                exact ⟨by rw [HR.out]; rfl, hw.out⟩
        · obtain rfl : k = n := by omega
          have HR := Lib.hid (show x = true by rw [HX.out, name_iff]; exact ⟨by omega, by omega, fun j hj => hp.out j (by omega)⟩)
          go_wp2
          go_ret
          exact ⟨by rw [HR.out]; rfl, hw.out⟩

end Go.Proofs.YtllaahdbngjigaaDoor
