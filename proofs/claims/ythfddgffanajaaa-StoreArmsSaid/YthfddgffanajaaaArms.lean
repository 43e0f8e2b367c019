/-
  StoreArms: the walk.
-/
import Derived.Test.YthfddgffanajaaaLasts
namespace Go.Proofs.Ythfddgffanajaaa.storeArms
open Go Go.RowKit
set_option linter.unusedVariables false
set_option linter.unusedSimpArgs false

/-- The store after k writes of one text, under a fuse. -/
def stA (f : Int) (t : ByteArray) (k : Nat) : St :=
  if f < 0 then ⟨List.replicate k t, 0, false, 0, false⟩ else if (k : Int) ≤ f then ⟨List.replicate k t, 0, true, f - k, false⟩ else ⟨List.replicate f.toNat t, 0, true, 0, true⟩

theorem stA_neg {f : Int} {t : ByteArray} {k : Nat} (h : f < 0) : stA f t k = ⟨List.replicate k t, 0, false, 0, false⟩ := if_pos h
theorem stA_in {f : Int} {t : ByteArray} {k : Nat} (h : ¬ f < 0) (hk : (k : Int) ≤ f) : stA f t k = ⟨List.replicate k t, 0, true, f - k, false⟩ := by unfold stA; rw [if_neg h, if_pos hk]
theorem stA_out {f : Int} {t : ByteArray} {k : Nat} (h : ¬ f < 0) (hk : ¬ (k : Int) ≤ f) : stA f t k = ⟨List.replicate f.toNat t, 0, true, 0, true⟩ := by unfold stA; rw [if_neg h, if_neg hk]

theorem arm_new {f : Int} {t : ByteArray} : St.new.arm f = stA f t 0 := by
  by_cases h : f < 0
  · rw [stA_neg h]; unfold St.arm St.new; simp; omega
  · rw [stA_in h (by omega)]; unfold St.arm St.new; simp; omega

theorem wr_step {f : Int} {t : ByteArray} {k : Nat} (ht : t.size ≤ 200) (hk : k < 4096) : (stA f t k).wr t = (stA f t (k + 1), if f < 0 ∨ (k : Int) < f then 0 else 14) := by
  by_cases h : f < 0
  · rw [stA_neg h, stA_neg h, wr_ok (by omega) (by simpa using hk), if_pos (.inl h), List.replicate_succ']
  · by_cases h1 : (k : Int) < f
    · rw [stA_in h (by omega), stA_in h (by omega), if_pos (.inr h1)]
      unfold St.wr
      rw [if_neg (by simp), if_neg (by omega), if_neg (by simp; omega), if_pos rfl, if_neg (by simp; omega)]
      simp [List.replicate_succ']; omega
    · rw [if_neg (by omega), stA_out (k := k + 1) h (by omega)]
      by_cases h2 : (k : Int) = f
      · rw [stA_in h (by omega)]
        unfold St.wr
        rw [if_neg (by simp), if_neg (by omega), if_neg (by simp; omega), if_pos rfl, if_pos (by simp; omega)]
        have e1 : f - (k : Int) = 0 := by omega
        have e2 : f.toNat = k := by omega
        simp [e1, e2]
      · rw [stA_out h (by omega)]
        unfold St.wr
        rw [if_pos rfl]

set_option maxRecDepth 100000 in
set_option maxHeartbeats 4000000 in
theorem core (f : Int) (n : Nat) (t : ByteArray) (w : World) (hf0 : -128 ≤ f) (hf1 : f ≤ 127) (hn : n ≤ 255) (ht : t.size ≤ 200) :
    Calls Try.prog 7 #[.int .i8 f, .int .u8 n, .string t] w fun e w' => e = .returned (.bool true) ∧ Below w.heap.size w w' := by
  have d1 : decide ((200 : Int) < (t.size : Int)) = false := by simp; omega
  have HARM := Lib.hid (fun W w' b (h : One W w' b St.new) => by have := o_arm f (by omega) h; rwa [arm_new (t := t)] at this)
  have HWR := Lib.hid (fun W w' b k (hk : k < 4096) (h : One W w' b (stA f t k)) => by have := o_write t h; rwa [wr_step ht hk] at this)
  clear ht
  go_enter Try.func7, Try.ntmps7
  go_wp2_with fail
  refine (awake_any _).mono ?_
  rintro e w1 ⟨rfl, hb1⟩
  go_wp2_with fail
  refine One.new.mono ?_
  rintro e w2 ⟨b, rfl, ho2⟩
  go_wp2_with fail
  refine (HARM.out _ _ _ ho2).mono ?_
  rintro e w3 ⟨rfl, ho3⟩
  have HO3 := Lib.hid ho3
  clear ho2 ho3 HARM
  go_wp2_with fail
  go_loopw [8, 9, 10] (fun i _ _ wr => ∃ k : Nat, k ≤ n ∧ i = .int .i64 k ∧ One w1 wr b (stA f t k)) (fun i _ _ _ => n - (intOf i).toNat)
  case atStart => exact ⟨0, Nat.zero_le _, rfl, HO3.out⟩
  case round =>
    obtain ⟨k, hk, rfl, ho⟩ := hrel
    have HO := Lib.hid ho
    clear ho HO3
    by_cases hlt : k < n
    · have HW := Lib.hid (HWR.out _ _ _ k (by omega) HO.out)
      by_cases hneg : f < 0
      · have g1 : decide (f < 0) = true := by simpa using hneg
        have HW' := Lib.hid (show Calls _ _ _ _ _ from by have := HW.out; rwa [if_pos (.inl hneg)] at this)
        clear HW HWR
        go_wp2_with fail
        refine HW'.out.mono ?_
        rintro e w4 ⟨rfl, ho4⟩
        have HO4 := Lib.hid ho4
        clear ho4 HW' HO
        go_wp2
        go_roundw
        case rel => exact ⟨k + 1, by omega, by go_num, HO4.out⟩
        case measure => simp [intOf]; omega
      · have g1 : decide (f < 0) = false := by simpa using hneg
        by_cases hkf : (k : Int) < f
        · have g2 : decide ((k : Int) < f) = true := by simpa using hkf
          have HW' := Lib.hid (show Calls _ _ _ _ _ from by have := HW.out; rwa [if_pos (.inr hkf)] at this)
          clear HW HWR
          go_wp2_with fail
          refine HW'.out.mono ?_
          rintro e w4 ⟨rfl, ho4⟩
          have HO4 := Lib.hid ho4
          clear ho4 HW' HO
          go_wp2
          go_roundw
          case rel => exact ⟨k + 1, by omega, by go_num, HO4.out⟩
          case measure => simp [intOf]; omega
        · have g2 : decide ((k : Int) < f) = false := by simpa using hkf
          have HW' := Lib.hid (show Calls _ _ _ _ _ from by have := HW.out; rwa [if_neg (by omega)] at this)
          clear HW HWR
          go_wp2_with fail
          refine HW'.out.mono ?_
          rintro e w4 ⟨rfl, ho4⟩
          have HO4 := Lib.hid ho4
          clear ho4 HW' HO
          go_wp2
          go_roundw
          case rel => exact ⟨k + 1, by omega, by go_num, HO4.out⟩
          case measure => simp [intOf]; omega
    · obtain rfl : k = n := by omega
      clear HWR
      by_cases hd : 0 ≤ f ∧ f < (k : Int)
      · obtain ⟨q1, q2⟩ := hd
        obtain ⟨g, rfl⟩ := Int.eq_ofNat_of_zero_le q1
        have e1 := stA_out (t := t) (k := k) (show ¬ (g : Int) < 0 by omega) (by omega)
        rw [show ((g : Int)).toNat = g from rfl] at e1
        rw [e1] at HO
        have z1 : decide ((0 : Int) ≤ (g : Int)) = true := by simp
        have z2 : decide ((g : Int) < (k : Int)) = true := by simp; omega
        have R1 := Lib.hid (show Calls _ _ _ _ fun e w' => e = .returned (.tuple #[.string ⟨#[]⟩, .int .i64 14]) ∧ wr = w' from o_read 0 HO.out)
        have R2 := Lib.hid (show Calls _ _ _ _ fun e w' => e = .returned (.bool true) ∧ wr = w' from o_down HO.out)
        have R3 := Lib.hid (show Calls _ _ _ _ fun e w' => e = .returned (.int .i64 14) ∧ One w1 w' b ⟨List.replicate g t, 0, true, 0, true⟩ from o_sync HO.out)
        have R4 := Lib.hid (fun w (h : One w1 w b ⟨List.replicate g t, 0, true, 0, true⟩) => show Calls _ _ _ _ fun e w' => e = .returned (.tuple #[]) ∧ One w1 w' b ⟨List.replicate g t, g, false, 0, false⟩ from by
          have := o_crash 1000 h
          rwa [show (⟨List.replicate g t, 0, true, 0, true⟩ : St).crash 1000 = ⟨List.replicate g t, g, false, 0, false⟩ by
            unfold St.crash; simp only [List.length_replicate]
            have : (min (max (1000 : Int) 0) ((g : Int) - ((0 : Nat) : Int))).toNat = g := by omega
            rw [this]; simp] at this)
        have R5 := Lib.hid (fun w (h : One w1 w b ⟨List.replicate g t, g, false, 0, false⟩) => show Calls _ _ _ _ fun e w' => e = .returned (.bool false) ∧ w = w' from o_down h)
        have R6 := Lib.hid (fun w (h : One w1 w b ⟨List.replicate g t, g, false, 0, false⟩) => show Calls _ _ _ _ fun e w' => e = .returned (.int .i64 g) ∧ w = w' from by have := o_len h; rwa [List.length_replicate] at this)
        have R7 := Lib.hid (fun w (h : One w1 w b ⟨List.replicate g t, g, false, 0, false⟩) => show Calls _ _ _ _ fun e w' => e = .returned (.int .i64 g) ∧ w = w' from o_last h)
        have R8 := Lib.hid (fun w (h : One w1 w b ⟨List.replicate g t, g, false, 0, false⟩) => show Calls _ _ _ _ fun e w' => e = .returned (.int .i64 0) ∧ One w1 w' b ⟨List.replicate g t, g, false, 0, false⟩ from by have := o_sync h; rwa [sy_ok, List.length_replicate] at this)
        clear e1
        go_wp2_with fail
        refine R1.out.mono ?_
        rintro e w4 ⟨rfl, rfl⟩
        go_wp2_with fail
        refine R2.out.mono ?_
        rintro e w4 ⟨rfl, rfl⟩
        go_wp2_with fail
        refine R3.out.mono ?_
        rintro e w4 ⟨rfl, ho4⟩
        go_wp2_with fail
        refine (R4.out _ ho4).mono ?_
        rintro e w5 ⟨rfl, ho5⟩
        go_wp2_with fail
        refine (R5.out _ ho5).mono ?_
        rintro e w6 ⟨rfl, rfl⟩
        go_wp2_with fail
        refine (R6.out _ ho5).mono ?_
        rintro e w6 ⟨rfl, rfl⟩
        go_wp2_with fail
        refine (R7.out _ ho5).mono ?_
        rintro e w6 ⟨rfl, rfl⟩
        go_wp2_with fail
        refine (R8.out _ ho5).mono ?_
        rintro e w6 ⟨rfl, ho6⟩
        go_wp2
        go_ret
        exact ⟨rfl, bt hb1 ho6.bel⟩
      · obtain ⟨a, c, HS⟩ : ∃ (a : Bool) (c : Int), Hid (stA f t k = ⟨List.replicate k t, 0, a, c, false⟩ ∧ ¬ (a = true ∧ c < 0)) := by
          by_cases h : f < 0
          · exact ⟨_, _, stA_neg h, by simp⟩
          · exact ⟨_, _, stA_in h (by omega), by simp; omega⟩
        rw [HS.out.1] at HO
        obtain ⟨rv, re, HRV⟩ : ∃ rv re, Hid (rdV ((⟨List.replicate k t, 0, a, c, false⟩ : St).rd 0) = .tuple #[.string rv, .int .i64 re]) := ⟨_, _, rfl⟩
        have R1 := Lib.hid (show Calls _ _ _ _ fun e w' => e = .returned (.tuple #[.string rv, .int .i64 re]) ∧ wr = w' from by have := o_read 0 HO.out; rwa [HRV.out] at this)
        have R2 := Lib.hid (show Calls _ _ _ _ fun e w' => e = .returned (.bool false) ∧ wr = w' from o_down HO.out)
        have R4 := Lib.hid (show Calls _ _ _ _ fun e w' => e = .returned (.tuple #[]) ∧ One w1 w' b ⟨List.replicate k t, k, false, 0, false⟩ from by
          have := o_crash 1000 HO.out
          rwa [show (⟨List.replicate k t, 0, a, c, false⟩ : St).crash 1000 = ⟨List.replicate k t, k, false, 0, false⟩ by
            unfold St.crash; simp only [List.length_replicate]
            have : (min (max (1000 : Int) 0) ((k : Int) - ((0 : Nat) : Int))).toNat = k := by omega
            rw [this]; simp] at this)
        have R5 := Lib.hid (fun w (h : One w1 w b ⟨List.replicate k t, k, false, 0, false⟩) => show Calls _ _ _ _ fun e w' => e = .returned (.bool false) ∧ w = w' from o_down h)
        have R6 := Lib.hid (fun w (h : One w1 w b ⟨List.replicate k t, k, false, 0, false⟩) => show Calls _ _ _ _ fun e w' => e = .returned (.int .i64 k) ∧ w = w' from by have := o_len h; rwa [List.length_replicate] at this)
        have R7 := Lib.hid (fun w (h : One w1 w b ⟨List.replicate k t, k, false, 0, false⟩) => show Calls _ _ _ _ fun e w' => e = .returned (.int .i64 k) ∧ w = w' from o_last h)
        have R8 := Lib.hid (fun w (h : One w1 w b ⟨List.replicate k t, k, false, 0, false⟩) => show Calls _ _ _ _ fun e w' => e = .returned (.int .i64 0) ∧ One w1 w' b ⟨List.replicate k t, k, false, 0, false⟩ from by have := o_sync h; rwa [sy_ok, List.length_replicate] at this)
        clear HRV HS HO
        by_cases hp : 0 ≤ f
        · have z1 : decide ((0 : Int) ≤ f) = true := by simpa using hp
          have z2 : decide (f < (k : Int)) = false := by simp; omega
          clear hd
          go_wp2_with fail
          refine R1.out.mono ?_
          rintro e w4 ⟨rfl, rfl⟩
          go_wp2_with fail
          refine R2.out.mono ?_
          rintro e w4 ⟨rfl, rfl⟩
          go_wp2_with fail
          refine R4.out.mono ?_
          rintro e w5 ⟨rfl, ho5⟩
          go_wp2_with fail
          refine (R5.out _ ho5).mono ?_
          rintro e w6 ⟨rfl, rfl⟩
          go_wp2_with fail
          refine (R6.out _ ho5).mono ?_
          rintro e w6 ⟨rfl, rfl⟩
          go_wp2_with fail
          refine (R7.out _ ho5).mono ?_
          rintro e w6 ⟨rfl, rfl⟩
          go_wp2_with fail
          refine (R8.out _ ho5).mono ?_
          rintro e w6 ⟨rfl, ho6⟩
          go_wp2
          go_ret
          exact ⟨rfl, bt hb1 ho6.bel⟩
        · have z1 : decide ((0 : Int) ≤ f) = false := by simpa using hp
          clear hd
          go_wp2_with fail
          refine R1.out.mono ?_
          rintro e w4 ⟨rfl, rfl⟩
          go_wp2_with fail
          refine R2.out.mono ?_
          rintro e w4 ⟨rfl, rfl⟩
          go_wp2_with fail
          refine R4.out.mono ?_
          rintro e w5 ⟨rfl, ho5⟩
          go_wp2_with fail
          refine (R5.out _ ho5).mono ?_
          rintro e w6 ⟨rfl, rfl⟩
          go_wp2_with fail
          refine (R6.out _ ho5).mono ?_
          rintro e w6 ⟨rfl, rfl⟩
          go_wp2_with fail
          refine (R7.out _ ho5).mono ?_
          rintro e w6 ⟨rfl, rfl⟩
          go_wp2_with fail
          refine (R8.out _ ho5).mono ?_
          rintro e w6 ⟨rfl, ho6⟩
          go_wp2
          go_ret
          exact ⟨rfl, bt hb1 ho6.bel⟩

theorem walk (a0 a1 : Int) (a2 : ByteArray) (w : World) (w0 : (Lit.int .i8 a0).wf = true) (w1 : (Lit.int .u8 a1).wf = true) (w2 : a2.size ≤ maxLen) :
    Calls Try.prog 7 #[.int .i8 a0, .int .u8 a1, .string a2] w fun e w' => e = .returned (.bool true) ∧ Below w.heap.size w w' := by
  have b0 := bounds_i8 w0
  have b1 := bounds_u8 w1
  obtain ⟨n, rfl⟩ := Int.eq_ofNat_of_zero_le b1.1
  by_cases h : a2.size ≤ 200
  · exact core a0 n a2 w b0.1 b0.2 (by omega) h
  · have d1 : decide ((200 : Int) < (a2.size : Int)) = true := by simp; omega
    clear w0 w1 w2 b0 b1
    go_enter Try.func7, Try.ntmps7
    go_wp2_with fail
    refine (awake_any _).mono ?_
    rintro e w1 ⟨rfl, hb1⟩
    go_wp2
    go_ret
    exact ⟨rfl, hb1⟩
end Go.Proofs.Ythfddgffanajaaa.storeArms
