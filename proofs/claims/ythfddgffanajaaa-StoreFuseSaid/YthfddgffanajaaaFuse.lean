/-
  StoreFuse: the walk.
-/
import Derived.Test.YthfddgffanajaaaZeros
import Derived.Test.YthfddgffanajaaaArgB
namespace Go.Proofs.Ythfddgffanajaaa.storeFuse
open Go Go.RowKit
set_option linter.unusedVariables false
set_option linter.unusedSimpArgs false

theorem arg_wr {ws : List ByteArray} {m : Nat} {f : Int} : (⟨ws, m, true, f, false⟩ : St).wr (zer 4097) = (⟨ws, m, true, f, false⟩, 1) := by
  unfold St.wr; rw [if_neg (by simp), if_pos (by rw [zer_size]; omega)]
theorem down_wr {ws : List ByteArray} {m : Nat} {f : Int} {t : ByteArray} : (⟨ws, m, true, f, true⟩ : St).wr t = (⟨ws, m, true, f, true⟩, 14) := by
  unfold St.wr; rw [if_pos rfl]
theorem in_wr {ws : List ByteArray} {m : Nat} {f : Int} (hl : ws.length < 4096) (hf : 0 < f) : (⟨ws, m, true, f, false⟩ : St).wr sA = (⟨ws ++ [sA], m, true, f - 1, false⟩, 0) := by
  unfold St.wr; rw [if_neg (by simp), if_neg (by simp [sA, ByteArray.size]), if_neg (by simp; omega), if_pos rfl, if_neg (by simp; omega)]
theorem in_sy {ws : List ByteArray} {m : Nat} {f : Int} (hf : 0 < f) : (⟨ws, m, true, f, false⟩ : St).sy = (⟨ws, ws.length, true, f - 1, false⟩, 0) := by
  unfold St.sy; rw [if_neg (by simp), if_pos rfl, if_neg (by simp; omega)]
theorem out_sy {ws : List ByteArray} {m : Nat} : (⟨ws, m, true, 0, false⟩ : St).sy = (⟨ws, m, true, 0, true⟩, 14) := by
  unfold St.sy; rw [if_neg (by simp), if_pos rfl, if_pos (by simp)]

set_option maxHeartbeats 2000000 in
theorem core (g : Nat) (l : List Bool) (v : Value) (w : World) (hg : g ≤ 255) (h1 : Bools w v l) (hl : l.length ≤ 100) :
    Calls Try.prog 8 #[.int .u8 g, v] w fun e w' => e = .returned (.bool true) ∧ Below w.heap.size w w' := by
  obtain ⟨ao, cap, e1, k1, k2, _⟩ := h1.shape
  obtain ⟨n, HN⟩ : ∃ n, Hid (n = l.length) := ⟨_, rfl⟩
  rw [← HN.out] at e1 hl
  subst e1
  have H1 := Lib.hid h1
  clear h1 k1 k2
  have d1 : decide ((100 : Int) < (n : Int)) = false := by simp; omega
  have HARM := Lib.hid (fun W w' b (h : One W w' b St.new) => show Calls Try.prog 22 #[.pointer (some ⟨b, 0, none⟩), .int .i64 g] w' fun e w'' => e = .returned (.tuple #[]) ∧ One W w'' b ⟨[], 0, true, g, false⟩ from by
    have := o_arm g (by omega) h
    rwa [show St.new.arm (g : Int) = ⟨[], 0, true, g, false⟩ by unfold St.arm St.new; simp] at this)
  have HARG := Lib.hid (fun W w' b ws m f (h : One W w' b ⟨ws, m, true, f, false⟩) => show Calls Try.prog 12 #[.pointer (some ⟨b, 0, none⟩), .string (zer 4097)] w' fun e w'' => e = .returned (.int .i64 1) ∧ One W w'' b ⟨ws, m, true, f, false⟩ from by
    have := o_write (zer 4097) h; rwa [arg_wr] at this)
  have HDWN := Lib.hid (fun W w' b ws m f (h : One W w' b ⟨ws, m, true, f, true⟩) => show Calls Try.prog 12 #[.pointer (some ⟨b, 0, none⟩), .string (zer 4097)] w' fun e w'' => e = .returned (.int .i64 14) ∧ One W w'' b ⟨ws, m, true, f, true⟩ from by
    have := o_write (zer 4097) h; rwa [down_wr] at this)
  obtain ⟨i0, hi, hz0, hz1, hz2⟩ := info_parts info5
  go_enter Try.func8, Try.ntmps8
  go_wp2_with fail
  refine (awake_any _).mono ?_
  rintro e w1 ⟨rfl, hb1⟩
  go_wp2_with fail
  refine One.new.mono ?_
  rintro e w2 ⟨b, rfl, ho2⟩
  go_wp2_with fail
  refine (HARM.out _ _ _ ho2).mono ?_
  rintro e w3 ⟨rfl, ho3⟩
  go_wp2_with (at_make; refine wpList_make_full _ rfl _ _ 36 rfl w3.heap.size 5 i0 (.int .u8 0) 1 Try.underlying36 hi hz0 hz1 .i64 .i64 _ _ 4097 rfl rfl rfl rfl (by rw [hz2]; decide) (by unfold maxLen; decide) (Nat.le_refl _) ?_)
  intro w4 hown hgrow
  have ho4 := ho3.grown hgrow
  have hback := conv_zeros hown
  have HO4 := Lib.hid ho4
  obtain ⟨tz, HT⟩ : ∃ t, Hid (t = zer 4097) := ⟨_, rfl⟩
  rw [← HT.out] at HARG HDWN hback
  clear ho2 ho3 ho4 hown hgrow HARM
  go_wp2_with fail
  go_loopw [7] (fun i wr => ∃ (k m : Nat) (ws : List ByteArray), k ≤ n ∧ k ≤ g ∧ i = .int .i64 k ∧ ws.length ≤ k ∧ One w1 wr b ⟨ws, m, true, (g : Int) - k, false⟩) (fun i _ => n - (intOf i).toNat)
  case atStart => exact ⟨0, 0, [], Nat.zero_le _, Nat.zero_le _, rfl, Nat.zero_le _, by simpa using HO4.out⟩
  case round =>
    obtain ⟨k, m, ws, hk, hkg, rfl, hws, ho⟩ := hrel
    have HO := Lib.hid ho
    have HWS := Lib.hid hws
    clear ho HO4 hws
    by_cases hlt : k < n
    · by_cases hgk : k < g
      · have g1 : decide ((g : Int) ≤ (k : Int)) = false := by simp; omega
        have m1 : IntKind.i64.wrap ((k : Int) + 1) = (k : Int) + 1 := IntWalk.i64_in _ (by omega)
        have hkl : k < l.length := by rw [← HN.out]; exact hlt
        have HW := Lib.hid (fun w (h : One w1 w b ⟨ws, m, true, (g : Int) - k, false⟩) => show Calls Try.prog 12 #[.pointer (some ⟨b, 0, none⟩), .string ⟨#[97]⟩] w fun e w'' => e = .returned (.int .i64 0) ∧ One w1 w'' b ⟨ws ++ [sA], m, true, (g : Int) - k - 1, false⟩ from by
          have := o_write sA h; rwa [in_wr (by have := HWS.out; omega) (by omega)] at this)
        have HS := Lib.hid (fun w (h : One w1 w b ⟨ws, m, true, (g : Int) - k, false⟩) => show Calls Try.prog 13 #[.pointer (some ⟨b, 0, none⟩)] w fun e w'' => e = .returned (.int .i64 0) ∧ One w1 w'' b ⟨ws, ws.length, true, (g : Int) - k - 1, false⟩ from by
          have := o_sync h; rwa [in_sy (by omega)] at this)
        have HE := Lib.hid (show (g : Int) - k - 1 = (g : Int) - (k + 1 : Nat) by omega)
        go_wp2_with fail
        refine (HARG.out _ _ _ _ _ _ HO.out).mono ?_
        rintro e w5 ⟨rfl, ho5⟩
        obtain ⟨bk, off, cap', e, _, _, _, hc⟩ := (H1.out.below (bt hb1 ho5.bel)).at (by omega)
        have c1 := hc k hkl
        rw [← HN.out] at e
        cases e
        clear hc
        by_cases hbk : l[k] = true
        · rw [hbk] at c1
          go_wp2_with fail
          refine (HW.out _ ho5).mono ?_
          rintro e w6 ⟨rfl, ho6⟩
          have HO6 := Lib.hid ho6
          clear ho6 ho5 HO c1 HW HS HARG HDWN
          go_wp2
          go_roundw
          case rel => exact ⟨k + 1, m, ws ++ [sA], by omega, by omega, by go_num, by have := HWS.out; simp; omega, by rw [← HE.out]; exact HO6.out⟩
          case measure => simp [intOf]; omega
        · rw [Bool.not_eq_true] at hbk
          rw [hbk] at c1
          go_wp2_with fail
          refine (HS.out _ ho5).mono ?_
          rintro e w6 ⟨rfl, ho6⟩
          have HO6 := Lib.hid ho6
          clear ho6 ho5 HO c1 HW HS HARG HDWN
          go_wp2
          go_roundw
          case rel => exact ⟨k + 1, ws.length, ws, by omega, by omega, by go_num, by have := HWS.out; omega, by rw [← HE.out]; exact HO6.out⟩
          case measure => simp [intOf]; omega
      · obtain rfl : k = g := by omega
        have g1 : decide ((k : Int) ≤ (k : Int)) = true := by simp
        have HS := Lib.hid (fun w (h : One w1 w b ⟨ws, m, true, (k : Int) - k, false⟩) => show Calls Try.prog 13 #[.pointer (some ⟨b, 0, none⟩)] w fun e w'' => e = .returned (.int .i64 14) ∧ One w1 w'' b ⟨ws, m, true, 0, true⟩ from by
          rw [Int.sub_self] at h
          have := o_sync h; rwa [out_sy] at this)
        go_wp2_with fail
        refine (HARG.out _ _ _ _ _ _ HO.out).mono ?_
        rintro e w5 ⟨rfl, ho5⟩
        go_wp2_with fail
        refine (HS.out _ ho5).mono ?_
        rintro e w6 ⟨rfl, ho6⟩
        go_wp2_with fail
        refine (HDWN.out _ _ _ _ _ _ ho6).mono ?_
        rintro e w7 ⟨rfl, ho7⟩
        go_wp2
        go_ret
        exact ⟨rfl, bt hb1 ho7.bel⟩
    · obtain rfl : k = n := by omega
      have HD := Lib.hid (show Calls Try.prog 23 #[.pointer (some ⟨b, 0, none⟩)] wr fun e w'' => e = .returned (.bool false) ∧ wr = w'' from o_down HO.out)
      go_wp2_with fail
      refine HD.out.mono ?_
      rintro e w5 ⟨rfl, rfl⟩
      go_wp2
      go_ret
      exact ⟨rfl, bt hb1 HO.out.bel⟩

set_option maxHeartbeats 1000000 in
theorem core1 (g : Nat) (ao : Option Addr) (n cap : Nat) (w : World) (h : 100 < n) :
    Calls Try.prog 8 #[.int .u8 g, .slice ao n cap] w fun e w' => e = .returned (.bool true) ∧ Below w.heap.size w w' := by
  have d1 : decide ((100 : Int) < (n : Int)) = true := by simp; omega
  go_enter Try.func8, Try.ntmps8
  go_wp2_with fail
  refine (awake_any _).mono ?_
  rintro e w1 ⟨rfl, hb1⟩
  go_wp2
  go_ret
  exact ⟨rfl, hb1⟩

theorem walk (a0 : Int) (v1 : Value) (w : World) (w0 : (Lit.int .u8 a0).wf = true) (w1 : Is51 w v1) :
    Calls Try.prog 8 #[.int .u8 a0, v1] w fun e w' => e = .returned (.bool true) ∧ Below w.heap.size w w' := by
  obtain ⟨l, h1⟩ := w1
  have b1 := bounds_u8 w0
  obtain ⟨g, rfl⟩ := Int.eq_ofNat_of_zero_le b1.1
  by_cases h : l.length ≤ 100
  · exact core g l v1 w (by omega) h1 h
  · obtain ⟨ao, cap, rfl, _⟩ := h1.shape
    exact core1 g ao _ cap w (by omega)
end Go.Proofs.Ythfddgffanajaaa.storeFuse
