/-
  StoreFull: the walk.
-/
import Derived.Test.YthfddgffanajaaaZeros
namespace Go.Proofs.Ythfddgffanajaaa.storeFull
open Go Go.RowKit
set_option linter.unusedVariables false
set_option linter.unusedSimpArgs false

def em : ByteArray := ⟨#[]⟩
def atL (n k : Nat) : Nat := if n < k then n + 1 else 0

theorem full_wr {ws : List ByteArray} {m : Nat} {t : ByteArray} (ht : t.size ≤ 4096) (hl : ws.length = 4096) : (⟨ws, m, false, 0, false⟩ : St).wr t = (⟨ws, m, false, 0, false⟩, 7) := by
  unfold St.wr; rw [if_neg (by simp), if_neg (by omega), if_pos (by simp; omega)]
theorem one_wr (n : Nat) : (St.new.wr (zer n)).2 = if n ≤ 4096 then 0 else 1 := by
  unfold St.wr St.new
  rw [if_neg (by simp), zer_size]
  by_cases h : n ≤ 4096
  · rw [if_neg (by omega), if_neg (by simp), if_neg (by simp), if_pos h]
  · rw [if_pos (by omega), if_neg h]
theorem crash_all {ws : List ByteArray} (k : Int) (hl : ws.length = 4096) : (⟨ws, 4096, false, 0, false⟩ : St).crash k = ⟨ws, 4096, false, 0, false⟩ := by
  rw [storeLasts.crash_is (by omega)]
  have : (min (max k 0) ((ws.length : Int) - (4096 : Nat))).toNat = 0 := by omega
  rw [this, Nat.add_zero, List.take_of_length_le (by omega)]

set_option maxHeartbeats 4000000 in
theorem core (la ke sz : Nat) (w : World) (hla : la ≤ 65535) (hke : ke ≤ 65535) (hsz : sz ≤ 65535) :
    Calls Try.prog 4 #[.int .u16 la, .int .u16 ke, .int .u16 sz] w fun e w' => e = .returned (.bool true) ∧ Below w.heap.size w w' := by
  obtain ⟨i0, hi, hz0, hz1, hz2⟩ := info_parts info5
  go_enter Try.func4, Try.ntmps4
  go_wp2_with fail
  refine (awake_any _).mono ?_
  rintro e w1 ⟨rfl, hb1⟩
  go_wp2_with fail
  refine One.new.mono ?_
  rintro e w2 ⟨b, rfl, ho2⟩
  obtain ⟨w3, hrun, hown, hgrow⟩ := run_make_full (P := Try.prog) w2 w2.heap.size 36 5 i0 (.int .u8 0) 1 Try.underlying36 hi hz0 hz1 .u16 .u16 sz (by rw [hz2]; omega) (by unfold maxLen; omega) (Nat.le_refl _)
  have ho3 := ho2.grown hgrow
  have hback := conv_zeros hown
  have hw3 := o_write (zer sz) ho3
  rw [one_wr] at hw3
  have hx : ∃ (e1 : Int) (b1 : Bool), (if sz ≤ 4096 then (0 : Int) else 1) = e1 ∧ (e1 == 0) = b1 ∧ decide ((sz : Int) ≤ 4096) = b1 := by
    by_cases h : sz ≤ 4096
    · exact ⟨0, true, if_pos h, rfl, by simp; omega⟩
    · exact ⟨1, false, if_neg h, rfl, by simp; omega⟩
  obtain ⟨e1, b1, hx1, hx2, hx3⟩ := hx
  rw [hx1] at hw3
  obtain ⟨tz, HT⟩ : ∃ t, Hid (t = zer sz) := ⟨_, rfl⟩
  rw [← HT.out] at hback hw3
  have HW3 := Lib.hid hw3
  clear ho2 ho3 hown hgrow hw3 hx1
  go_wp2_with fail
  refine HW3.out.mono ?_
  rintro e w4 ⟨rfl, ho4⟩
  have HB4 := Lib.hid (bt hb1 ho4.bel)
  clear ho4 HW3
  go_wp2_with fail
  refine One.new.mono ?_
  rintro e w5 ⟨c, rfl, ho5⟩
  have HO5 := Lib.hid ho5
  clear ho5 hx2 hx3 hback HT hz0 hz1 hz2 hi
  have HSY := Lib.hid (fun w ws m (h : One w4 w c ⟨ws, m, false, 0, false⟩) => show Calls Try.prog 13 #[.pointer (some ⟨c, 0, none⟩)] w fun e w'' => e = .returned (.int .i64 0) ∧ One w4 w'' c ⟨ws, ws.length, false, 0, false⟩ from by
    have := o_sync h; rwa [sy_ok] at this)
  go_wp2_with fail
  go_loopw [8] (fun i wr => ∃ (k : Nat), k ≤ 4096 ∧ i = .int .i64 k ∧ One w4 wr c ⟨List.replicate k em, atL la k, false, 0, false⟩) (fun i _ => 4096 - (intOf i).toNat)
  case atStart => exact ⟨0, Nat.zero_le _, rfl, HO5.out⟩
  case round =>
    obtain ⟨k, hk, rfl, ho⟩ := hrel
    have HO := Lib.hid ho
    clear ho HO5
    by_cases hlt : k < 4096
    · have g0 : decide ((k : Int) < 4096) = true := by simp; omega
      have m1 : IntKind.i64.wrap ((k : Int) + 1) = (k : Int) + 1 := IntWalk.i64_in _ (by omega)
      have HW := Lib.hid (show Calls Try.prog 12 #[.pointer (some ⟨c, 0, none⟩), .string ⟨#[]⟩] wr fun e w'' => e = .returned (.int .i64 0) ∧ One w4 w'' c ⟨List.replicate (k + 1) em, atL la k, false, 0, false⟩ from by
        have := o_write em HO.out
        rwa [wr_ok (by simp [em, ByteArray.size]) (by simpa using hlt), ← List.replicate_succ'] at this)
      by_cases hl : k = la
      · have g1 : ((k : Int) == (la : Int)) = true := by simp [hl]
        have HE := Lib.hid (show (List.replicate (k + 1) em).length = atL la (k + 1) by unfold atL; rw [if_pos (by omega)]; simp [hl])
        clear hl
        go_wp2_with fail
        refine HW.out.mono ?_
        rintro e w6 ⟨rfl, ho6⟩
        go_wp2_with fail
        refine (HSY.out _ _ _ ho6).mono ?_
        rintro e w7 ⟨rfl, ho7⟩
        rw [HE.out] at ho7
        have HO7 := Lib.hid ho7
        clear ho7 ho6 HW HO
        go_wp2
        go_roundw
        case rel => exact ⟨k + 1, by omega, by go_num, HO7.out⟩
        case measure => simp [intOf]; omega
      · have g1 : ((k : Int) == (la : Int)) = false := by simp; omega
        have HE := Lib.hid (show atL la (k + 1) = atL la k by unfold atL; by_cases h : la < k <;> simp [h] <;> omega)
        clear hl
        go_wp2_with fail
        refine HW.out.mono ?_
        rintro e w6 ⟨rfl, ho6⟩
        rw [← HE.out] at ho6
        have HO6 := Lib.hid ho6
        clear ho6 HW HO
        go_wp2
        go_roundw
        case rel => exact ⟨k + 1, by omega, by go_num, HO6.out⟩
        case measure => simp [intOf]; omega
    · obtain rfl : k = 4096 := by omega
      have g0 : decide (((4096 : Nat) : Int) < 4096) = false := by simp
      obtain ⟨ws, hws⟩ : ∃ ws, Hid (ws = List.replicate 4096 em) := ⟨_, rfl⟩
      obtain ⟨q, hq⟩ : ∃ q, Hid (q = atL la 4096) := ⟨_, rfl⟩
      have hl : Hid (ws.length = 4096) := Lib.hid (by rw [hws.out]; exact List.length_replicate)
      rw [← hws.out, ← hq.out] at HO
      clear hws hq
      have HW := Lib.hid (show Calls Try.prog 12 #[.pointer (some ⟨c, 0, none⟩), .string ⟨#[]⟩] wr fun e w'' => e = .returned (.int .i64 7) ∧ One w4 w'' c ⟨ws, q, false, 0, false⟩ from by
        have := o_write em HO.out
        rwa [full_wr (by simp [em, ByteArray.size]) hl.out] at this)
      have HL := Lib.hid (fun w m (h : One w4 w c ⟨ws, m, false, 0, false⟩) => show Calls Try.prog 16 #[.pointer (some ⟨c, 0, none⟩)] w fun e w'' => e = .returned (.int .i64 4096) ∧ w = w'' from by
        have := o_len h
        rwa [show (⟨ws, m, false, 0, false⟩ : St).ws.length = 4096 from hl.out] at this)
      have HS := Lib.hid (fun w m (h : One w4 w c ⟨ws, m, false, 0, false⟩) => show Calls Try.prog 13 #[.pointer (some ⟨c, 0, none⟩)] w fun e w'' => e = .returned (.int .i64 0) ∧ One w4 w'' c ⟨ws, 4096, false, 0, false⟩ from by
        have := o_sync h
        rwa [sy_ok, hl.out] at this)
      have HC := Lib.hid (fun w (h : One w4 w c ⟨ws, 4096, false, 0, false⟩) => show Calls Try.prog 15 #[.pointer (some ⟨c, 0, none⟩), .int .i64 ke] w fun e w'' => e = .returned (.tuple #[]) ∧ One w4 w'' c ⟨ws, 4096, false, 0, false⟩ from by
        have := o_crash ke h
        rwa [crash_all _ hl.out] at this)
      have HX := Lib.hid (fun w (h : One w4 w c ⟨ws, 4096, false, 0, false⟩) => show Calls Try.prog 12 #[.pointer (some ⟨c, 0, none⟩), .string ⟨#[120]⟩] w fun e w'' => e = .returned (.int .i64 7) ∧ One w4 w'' c ⟨ws, 4096, false, 0, false⟩ from by
        have := o_write ⟨#[120]⟩ h
        rwa [full_wr (by simp [ByteArray.size]) hl.out] at this)
      clear HSY
      go_wp2_with fail
      refine HW.out.mono ?_
      rintro e w6 ⟨rfl, ho6⟩
      go_wp2_with fail
      refine (HL.out _ _ ho6).mono ?_
      rintro e w7 ⟨rfl, rfl⟩
      go_wp2_with fail
      refine (HS.out _ _ ho6).mono ?_
      rintro e w7 ⟨rfl, ho7⟩
      go_wp2_with fail
      refine (HC.out _ ho7).mono ?_
      rintro e w8 ⟨rfl, ho8⟩
      go_wp2_with fail
      refine (HL.out _ _ ho8).mono ?_
      rintro e w9 ⟨rfl, rfl⟩
      go_wp2_with fail
      refine (HX.out _ ho8).mono ?_
      rintro e w9 ⟨rfl, ho9⟩
      go_wp2
      go_ret
      exact ⟨rfl, HB4.out.trans (ho9.bel.mono HB4.out.size)⟩

theorem walk (a0 a1 a2 : Int) (w : World) (w0 : (Lit.int .u16 a0).wf = true) (w1 : (Lit.int .u16 a1).wf = true) (w2 : (Lit.int .u16 a2).wf = true) :
    Calls Try.prog 4 #[.int .u16 a0, .int .u16 a1, .int .u16 a2] w fun e w' => e = .returned (.bool true) ∧ Below w.heap.size w w' := by
  have b0 := bounds_u16 w0
  have b1 := bounds_u16 w1
  have b2 := bounds_u16 w2
  obtain ⟨x, rfl⟩ := Int.eq_ofNat_of_zero_le b0.1
  obtain ⟨y, rfl⟩ := Int.eq_ofNat_of_zero_le b1.1
  obtain ⟨z, rfl⟩ := Int.eq_ofNat_of_zero_le b2.1
  exact core x y z w (by omega) (by omega) (by omega)
end Go.Proofs.Ythfddgffanajaaa.storeFull
