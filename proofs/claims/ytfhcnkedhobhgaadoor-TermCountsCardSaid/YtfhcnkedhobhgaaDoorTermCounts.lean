/-
  TermCounts.
-/
import Derived.Test.YtfhcnkedhobhgaaDoorTermAwake
import Derived.Handy
namespace Go.Proofs.YtfhcnkedhobhgaaDoor.termCounts
open Go.RowKit
set_option linter.unusedVariables false
set_option linter.unusedSimpArgs false

theorem st : (⟨#[115, 101, 108, 108, 101, 114]⟩ : ByteArray).toList = [115, 101, 108, 108, 101, 114] := by decide +kernel
theorem bt : (⟨#[98, 117, 121, 101, 114]⟩ : ByteArray).toList = [98, 117, 121, 101, 114] := by decide +kernel
theorem nt : (⟨#[]⟩ : ByteArray).toList = [] := by decide +kernel

theorem tab (t : Int) : 0 ≤ risT t ∧ risT t ≤ cosT t ∧ cosT t ≤ 7 := by
  unfold cosT risT
  by_cases h : 0 ≤ t ∧ t < 8
  · rw [if_pos h, if_pos h]
    have : t.toNat ≤ 7 := by omega
    generalize t.toNat = n at *
    match n, this with
    | 0, _ | 1, _ | 2, _ | 3, _ | 4, _ | 5, _ | 6, _ | 7, _ => decide
  · rw [if_neg h, if_neg h]; decide

theorem who {t s f : Int} (h0 : 0 ≤ s) (h8 : s < 8) (hf : ¬ (0 ≤ t ∧ t < 8) → f = 0) :
    (s < f → whoT t s f = ⟨#[115, 101, 108, 108, 101, 114]⟩) ∧ (f ≤ s → ((whoT t s f).toList == [115, 101, 108, 108, 101, 114]) = false) := by
  unfold whoT
  constructor
  · intro h
    have : 0 ≤ t ∧ t < 8 := by
      by_cases h' : 0 ≤ t ∧ t < 8
      · exact h'
      · have := hf h'; omega
    rw [if_pos (by omega), if_neg (by omega)]
  · intro h
    split
    · first | (rw [bt]; decide) | (rw [if_pos h, bt]; decide)
    · rw [nt]; decide

theorem cos0 {t : Int} (h : ¬ (0 ≤ t ∧ t < 8)) : cosT t = 0 := by unfold cosT; rw [if_neg h]
theorem ris0 {t : Int} (h : ¬ (0 ≤ t ∧ t < 8)) : risT t = 0 := by unfold risT; rw [if_neg h]

set_option maxHeartbeats 1000000 in
theorem core (t : Int) (c r : Nat) (w : World) (hrc : r ≤ c) (hc7 : c ≤ 7)
    (h1 : Hid (Calls Tryd.prog 10 #[] w fun e w' => e = .returned (.bool true) ∧ ∃ n, w' = w.drewN n))
    (hq : Hid (∀ n, Calls Tryd.prog 14 #[.int .i64 t] (w.drewN n) fun e w' => e = .returned (.tuple #[.int .i64 c, .int .i64 r]) ∧ ∃ m, w' = (w.drewN n).drewN m))
    (hp : Hid (∀ (s : Int), 0 ≤ s → s < 8 → ∃ v : ByteArray, (∀ n, Calls Tryd.prog 12 #[.int .i64 t, .int .i64 s] (w.drewN n) fun e w' => e = .returned (.string v) ∧ ∃ m, w' = (w.drewN n).drewN m) ∧ (s < c → v = ⟨#[115, 101, 108, 108, 101, 114]⟩) ∧ ((c : Int) ≤ s → (v.toList == [115, 101, 108, 108, 101, 114]) = false)))
    (hr : Hid (∀ (s : Int), 0 ≤ s → s < 8 → ∃ v : ByteArray, (∀ n, Calls Tryd.prog 13 #[.int .i64 t, .int .i64 s] (w.drewN n) fun e w' => e = .returned (.string v) ∧ ∃ m, w' = (w.drewN n).drewN m) ∧ (s < r → v = ⟨#[115, 101, 108, 108, 101, 114]⟩) ∧ ((r : Int) ≤ s → (v.toList == [115, 101, 108, 108, 101, 114]) = false))) :
    Calls Tryd.prog 4 #[.int .i64 t] w fun e w' => e = .returned (.bool true) ∧ ∃ n, w' = w.drewN n := by
  go_enter Tryd.func4, Tryd.ntmps4
  go_wp2_with fail
  refine h1.out.mono ?_
  rintro e w' ⟨rfl, n, rfl⟩
  go_wp2_with fail
  refine (hq.out _).mono ?_
  rintro e w' ⟨rfl, n, rfl⟩
  simp only [World.drewN_drewN]
  clear h1 hq
  go_wp2_with fail
  go_loopw [5, 6, 7] (fun p b s wr => ∃ k : Nat, k ≤ 8 ∧ s = .int .i64 k ∧ p = .int .i64 (min k c : Nat) ∧ b = .int .i64 (min k r : Nat) ∧ ∃ n, wr = w.drewN n) (fun _ _ s _ => 8 - (intOf s).toNat)
  case atStart => exact ⟨0, by omega, rfl, by simp, by simp, _, rfl⟩
  case round =>
    obtain ⟨k, hk, rfl, rfl, rfl, n, rfl⟩ := hrel
    by_cases hk8 : k < 8
    · obtain ⟨v, hv, hv1, hv2⟩ := hp.out k (by omega) (by omega)
      obtain ⟨u, hu, hu1, hu2⟩ := hr.out k (by omega) (by omega)
      have HV := Lib.hid hv
      have HU := Lib.hid hu
      clear hv hu hp hr
      have m1 : min k c ≤ 8 := by omega
      have m2 : min k r ≤ 8 := by omega
      by_cases a : (k : Int) < c
      · have e := hv1 a
        subst e
        clear hv1 hv2
        by_cases b : (k : Int) < r
        · have e := hu1 b
          subst e
          clear hu1 hu2
          have e1 : min (k + 1) c = min k c + 1 := by omega
          have e2 : min (k + 1) r = min k r + 1 := by omega
          have E1 := Lib.hid e1
          have E2 := Lib.hid e2
          clear e1 e2
          go_wp2_with (first | (go_at_call 12; refine (HV.out _).mono ?_; rintro e w' ⟨rfl, n, rfl⟩; simp only [World.drewN_drewN]) | (go_at_call 13; refine (HU.out _).mono ?_; rintro e w' ⟨rfl, n, rfl⟩; simp only [World.drewN_drewN]))
          go_roundw
          case rel => exact ⟨k + 1, by omega, by go_num, by rw [E1.out]; go_num, by rw [E2.out]; go_num, _, rfl⟩
          case measure => simp [intOf]; omega
        · have e := hu2 (by omega)
          clear hu1 hu2
          have E1 := Lib.hid (show min (k + 1) c = min k c + 1 by omega)
          have E2 := Lib.hid (show min (k + 1) r = min k r by omega)
          go_wp2_with (first | (go_at_call 12; refine (HV.out _).mono ?_; rintro e w' ⟨rfl, n, rfl⟩; simp only [World.drewN_drewN]) | (go_at_call 13; refine (HU.out _).mono ?_; rintro e w' ⟨rfl, n, rfl⟩; simp only [World.drewN_drewN]))
          go_roundw
          case rel => exact ⟨k + 1, by omega, by go_num, by rw [E1.out]; go_num, by rw [E2.out], _, rfl⟩
          case measure => simp [intOf]; omega
      · have e := hv2 (by omega)
        have e' := hu2 (by omega)
        clear hv1 hv2 hu1 hu2
        have E1 := Lib.hid (show min (k + 1) c = min k c by omega)
        have E2 := Lib.hid (show min (k + 1) r = min k r by omega)
        go_wp2_with (first | (go_at_call 12; refine (HV.out _).mono ?_; rintro e w' ⟨rfl, n, rfl⟩; simp only [World.drewN_drewN]) | (go_at_call 13; refine (HU.out _).mono ?_; rintro e w' ⟨rfl, n, rfl⟩; simp only [World.drewN_drewN]))
        go_roundw
        case rel => exact ⟨k + 1, by omega, by go_num, by rw [E1.out], by rw [E2.out], _, rfl⟩
        case measure => simp [intOf]; omega
    · obtain rfl : k = 8 := by omega
      have e1 : min 8 c = c := by omega
      have e2 : min 8 r = r := by omega
      clear hp hr
      rw [e1, e2]
      clear e1 e2
      go_wp2
      go_ret
      exact ⟨by simp, n, rfl⟩

theorem walk (a0 : Int) (w : World) (w0 : (Lit.int .i64 a0).wf = true) (hw : Terms w) :
    Calls Tryd.prog 4 #[.int .i64 a0] w fun e w' => e = .returned (.bool true) ∧ Below w.heap.size w w' := by
  obtain ⟨c1, c2, c3⟩ := tab a0
  have hpw := fun s h0 h8 => who (t := a0) (s := s) (f := cosT a0) h0 h8 cos0
  have hrw := fun s h0 h8 => who (t := a0) (s := s) (f := risT a0) h0 h8 ris0
  have ec : (((cosT a0).toNat : Nat) : Int) = cosT a0 := by omega
  have er : (((risT a0).toNat : Nat) : Int) = risT a0 := by omega
  refine (core a0 (cosT a0).toNat (risT a0).toNat w (by omega) (by omega) (Lib.hid (awake_any w hw)) (Lib.hid fun n => by rw [ec, er]; exact passes_any a0 _ (hw.drewN n))
    (Lib.hid fun s h0 h8 => ⟨paysT a0 s, fun n => pays_any a0 s _ (hw.drewN n), by rw [ec]; exact hpw s h0 h8⟩)
    (Lib.hid fun s h0 h8 => ⟨bearT a0 s, fun n => risk_any a0 s _ (hw.drewN n), by rw [er]; exact hrw s h0 h8⟩)).mono fun e w' ⟨h1, n, h2⟩ => ⟨h1, h2 ▸ below_drewN (Below.refl _ _) n⟩

theorem terms_met {W : World} (h : laidMetH Tryd.prog Rows.termCountsRow.laid W) : Terms W := terms_metH List.mem_cons_self (by kernel_rfl) (by kernel_rfl) h
end Go.Proofs.YtfhcnkedhobhgaaDoor.termCounts
