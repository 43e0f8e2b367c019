/-
  StoreReads: the walk.
-/
import Derived.Test.YthfddgffanajaaaLasts
namespace Go.Proofs.Ythfddgffanajaaa.storeReads
open Go Go.RowKit
set_option linter.unusedVariables false
set_option linter.unusedSimpArgs false

def lastOf (n k : Nat) : Nat := if n ≤ k then n else 0

set_option maxRecDepth 100000 in
set_option maxHeartbeats 4000000 in
theorem core (l mm : List ByteArray) (v1 v2 : Value) (w : World) (h1 : Strs w v1 l) (h2 : Strs w v2 mm) (hl : l.length ≤ 40) (ha : mm.length ≤ 40) :
    Calls Try.prog 5 #[v1, v2] w fun e w' => e = .returned (.bool true) ∧ Below w.heap.size w w' := by
  obtain ⟨ao, cap, e1, k1, k2, _⟩ := h1.shape
  obtain ⟨ao2, cap2, e2, k3, k4, _⟩ := h2.shape
  obtain ⟨n, HN⟩ : ∃ n, Hid (n = l.length) := ⟨_, rfl⟩
  obtain ⟨m, HM⟩ : ∃ m, Hid (m = mm.length) := ⟨_, rfl⟩
  rw [← HN.out] at e1 hl
  rw [← HM.out] at e2 ha
  subst e1
  subst e2
  have H1 := Lib.hid h1
  have H2 := Lib.hid h2
  have HA := Lib.hid (show (l ++ mm).length = n + m by rw [List.length_append, HN.out, HM.out])
  have d1 : decide ((40 : Int) < (n : Int)) = false := by simp; omega
  have d2 : decide ((40 : Int) < (m : Int)) = false := by simp; omega
  clear h1 h2 k1 k2 k3 k4
  go_enter Try.func5, Try.ntmps5
  go_wp2_with fail
  refine (awake_any _).mono ?_
  rintro e w1 ⟨rfl, hb1⟩
  go_wp2_with fail
  refine One.new.mono ?_
  rintro e w2 ⟨b, rfl, ho2⟩
  have HO2 := Lib.hid ho2
  clear ho2
  go_wp2_with fail
  go_loopw [6, 7] (fun i _ wr => ∃ k : Nat, k ≤ n + m ∧ i = .int .i64 k ∧ One w1 wr b ⟨(l ++ mm).take k, lastOf n k, false, 0, false⟩) (fun i _ _ => n + m - (intOf i).toNat)
  case atStart => exact ⟨0, Nat.zero_le _, rfl, by have := HO2.out; rwa [show (⟨(l ++ mm).take 0, lastOf n 0, false, 0, false⟩ : St) = St.new by unfold lastOf St.new; split <;> simp; omega]⟩
  case round =>
    obtain ⟨k, hk, rfl, ho⟩ := hrel
    have HO := Lib.hid ho
    clear ho HO2
    by_cases hlt : k < n + m
    · have hka : k < (l ++ mm).length := by rw [HA.out]; exact hlt
      have T1 := Lib.hid (take_snoc (l ++ mm) k hka)
      have key : ∀ x : ByteArray, x = (l ++ mm)[k] → x.size ≤ 300 → Calls Try.prog 12 #[.pointer (some ⟨b, 0, none⟩), .string x] wr fun e w' => e = .returned (.int .i64 0) ∧ One w1 w' b ⟨(l ++ mm).take (k + 1), lastOf n k, false, 0, false⟩ := by
        rintro _ rfl hs
        have hw := wr_ok (ws := (l ++ mm).take k) (m := lastOf n k) (t := (l ++ mm)[k]) (by omega) (by rw [List.length_take]; omega)
        have := o_write (l ++ mm)[k] HO.out
        rwa [hw, ← T1.out] at this
      have HLen := Lib.hid (fun w q (h : One w1 w b ⟨(l ++ mm).take (k + 1), q, false, 0, false⟩) => show Calls _ _ _ w fun e w' => e = .returned (.int .i64 ((k : Int) + 1)) ∧ w = w' from by
        have := o_len h
        rwa [show ((l ++ mm).take (k + 1)).length = k + 1 by rw [List.length_take]; omega, show (((k + 1 : Nat) : Int)) = (k : Int) + 1 by omega] at this)
      have hne : (((k : Int) + 1) != ((k : Int) + 1)) = false := by simp
      by_cases hkn : k < n
      · have hkl : k < l.length := by rw [← HN.out]; exact hkn
        obtain ⟨bk, off, cap', e, _, _, _, hc⟩ := (H1.out.below (bt hb1 HO.out.bel)).at (by omega)
        have c1 := hc k hkl
        rw [← HN.out] at e
        cases e
        have ex : l[k] = (l ++ mm)[k] := by rw [List.getElem_append_left hkl]
        obtain ⟨x, ec⟩ : ∃ x, l[k] = x := ⟨_, rfl⟩
        rw [ec] at c1 ex
        have KEY := Lib.hid (key _ ex)
        clear key hc ec ex
        have m1 : IntKind.i64.wrap ((k : Int) + 1) = (k : Int) + 1 := IntWalk.i64_in _ (by omega)
        have m2 : IntKind.i64.wrap ((n : Int) + m) = (n : Int) + m := IntWalk.i64_in _ (by omega)
        have m3 : IntKind.i64.wrap ((n : Int) - 1) = (n : Int) - 1 := IntWalk.i64_in _ (by omega)
        have m4 : decide ((k : Int) < (n : Int) + m) = true := by simp; omega
        by_cases hx : 300 < x.size
        · have g1 : decide ((300 : Int) < (x.size : Int)) = true := by simp; omega
          clear KEY HLen hne
          go_wp2
          go_ret
          exact ⟨rfl, bt hb1 HO.out.bel⟩
        · have g1 : decide ((300 : Int) < (x.size : Int)) = false := by simp; omega
          have HW := Lib.hid (KEY.out (by omega))
          clear KEY
          by_cases hlast : k + 1 = n
          · have hsy := Lib.hid (fun w q (h : One w1 w b ⟨(l ++ mm).take (k + 1), q, false, 0, false⟩) => show Calls Try.prog 13 #[.pointer (some ⟨b, 0, none⟩)] w fun e w' => e = .returned (.int .i64 0) ∧ One w1 w' b ⟨(l ++ mm).take (k + 1), k + 1, false, 0, false⟩ from by
              have := o_sync h
              rwa [sy_ok, show ((l ++ mm).take (k + 1)).length = k + 1 by rw [List.length_take, HA.out]; omega] at this)
            have g2 : ((k : Int) == (n : Int) - 1) = true := by simp; omega
            have HE := Lib.hid (show lastOf n (k + 1) = k + 1 by unfold lastOf; rw [if_pos (by omega)]; exact hlast.symm)
            clear hlast
            go_wp2_with fail
            refine HW.out.mono ?_
            rintro e w3 ⟨rfl, ho3⟩
            go_wp2_with fail
            refine (HLen.out _ _ ho3).mono ?_
            rintro e w4 ⟨rfl, rfl⟩
            go_wp2_with fail
            refine (hsy.out _ _ ho3).mono ?_
            rintro e w4 ⟨rfl, ho4⟩
            go_wp2_with fail
            refine (hsy.out _ _ ho4).mono ?_
            rintro e w5 ⟨rfl, ho5⟩
            have HO5 := Lib.hid ho5
            clear ho5 ho4 ho3 HO HW HLen hsy c1 hne
            go_wp2
            go_roundw
            case rel => exact ⟨k + 1, by omega, by go_num, by rw [HE.out]; exact HO5.out⟩
            case measure => simp [intOf]; omega
          · have g2 : ((k : Int) == (n : Int) - 1) = false := by simp; omega
            have HE := Lib.hid (show lastOf n (k + 1) = lastOf n k by unfold lastOf; rw [if_neg (by omega), if_neg (by omega)])
            go_wp2_with fail
            refine HW.out.mono ?_
            rintro e w3 ⟨rfl, ho3⟩
            have HO3 := Lib.hid ho3
            clear ho3
            go_wp2_with fail
            refine (HLen.out _ _ HO3.out).mono ?_
            rintro e w4 ⟨rfl, rfl⟩
            clear HO HW HLen c1 hne
            go_wp2
            go_roundw
            case rel => exact ⟨k + 1, by omega, by go_num, by rw [HE.out]; exact HO3.out⟩
            case measure => simp [intOf]; omega
      · have hkm : k - n < mm.length := by rw [← HM.out]; omega
        obtain ⟨bk, off, cap', e, _, _, _, hc⟩ := (H2.out.below (bt hb1 HO.out.bel)).at (by omega)
        have c1 := hc (k - n) hkm
        rw [← HM.out] at e
        cases e
        have ex : mm[k - n] = (l ++ mm)[k] := by rw [List.getElem_append_right (by rw [← HN.out]; omega)]; simp only [← HN.out]
        obtain ⟨x, ec⟩ : ∃ x, mm[k - n] = x := ⟨_, rfl⟩
        rw [ec] at c1 ex
        have KEY := Lib.hid (key _ ex)
        clear key hc ec ex
        have g0 : decide ((k : Int) < (n : Int)) = false := by simp; omega
        have m1 : IntKind.i64.wrap ((k : Int) + 1) = (k : Int) + 1 := IntWalk.i64_in _ (by omega)
        have m2 : IntKind.i64.wrap ((n : Int) + m) = (n : Int) + m := IntWalk.i64_in _ (by omega)
        have m3 : IntKind.i64.wrap ((n : Int) - 1) = (n : Int) - 1 := IntWalk.i64_in _ (by omega)
        have m4 : decide ((k : Int) < (n : Int) + m) = true := by simp; omega
        have m5 : IntKind.i64.wrap ((k : Int) - n) = ((k - n : Nat) : Int) := by rw [IntWalk.i64_in _ (by omega)]; omega
        have m6 : (0 : Int) ≤ ((k - n : Nat) : Int) := by omega
        have m7 : ((k - n : Nat) : Int).toNat = k - n := by omega
        have m8 : decide (((k - n : Nat) : Int) < (m : Int)) = true := by simp; omega
        have g2 : ((k : Int) == (n : Int) - 1) = false := by simp; omega
        by_cases hx : 300 < x.size
        · have g1 : decide ((300 : Int) < (x.size : Int)) = true := by simp; omega
          clear KEY HLen hne
          go_wp2
          go_ret
          exact ⟨rfl, bt hb1 HO.out.bel⟩
        · have g1 : decide ((300 : Int) < (x.size : Int)) = false := by simp; omega
          have HW := Lib.hid (KEY.out (by omega))
          have HE := Lib.hid (show lastOf n (k + 1) = lastOf n k by unfold lastOf; rw [if_pos (by omega), if_pos (by omega)])
          clear KEY
          go_wp2_with fail
          refine HW.out.mono ?_
          rintro e w3 ⟨rfl, ho3⟩
          have HO3 := Lib.hid ho3
          clear ho3
          go_wp2_with fail
          refine (HLen.out _ _ HO3.out).mono ?_
          rintro e w4 ⟨rfl, rfl⟩
          clear HO HW HLen c1 hne
          go_wp2
          go_roundw
          case rel => exact ⟨k + 1, by omega, by go_num, by rw [HE.out]; exact HO3.out⟩
          case measure => simp [intOf]; omega
    · obtain rfl : k = n + m := by omega
      have hat : (l ++ mm).take (n + m) = l ++ mm := List.take_of_length_le (by rw [HA.out]; exact Nat.le_refl _)
      have hlo : lastOf n (n + m) = n := by unfold lastOf; rw [if_pos (by omega)]
      rw [hat, hlo] at HO
      clear hat hlo
      go_wp2_with fail
      go_loopw [8] (fun i wx => ∃ j : Nat, j ≤ n ∧ i = .int .i64 j ∧ wx = wr) (fun i _ => n - (intOf i).toNat)
      case atStart => exact ⟨0, Nat.zero_le _, rfl, rfl⟩
      case round =>
        obtain ⟨j, hj, rfl, rfl⟩ := hrel
        by_cases hjn : j < n
        · have hjl : j < l.length := by rw [← HN.out]; exact hjn
          obtain ⟨bk, off, cap', e, _, _, _, hc⟩ := (H1.out.below (bt hb1 HO.out.bel)).at (by omega)
          have c1 := hc j hjl
          rw [← HN.out] at e
          cases e
          have HR := Lib.hid (show Calls _ _ _ wr fun e w' => e = .returned (.tuple #[.string l[j], .int .i64 0]) ∧ wr = w' from by
            have := o_read j HO.out
            rwa [show rdV (St.rd j ⟨l ++ mm, n, false, 0, false⟩) = .tuple #[.string l[j], .int .i64 0] by
              unfold St.rd rdV
              rw [if_neg (by simp), if_neg (by simp only [HA.out]; omega)]
              simp [List.getElem?_append_left hjl, hjl]] at this)
          generalize l[j] = x at *
          have g4 : (x.toList == x.toList) = true := by simp
          clear hc hjl
          go_wp2_with fail
          refine HR.out.mono ?_
          rintro e w6 ⟨rfl, rfl⟩
          go_wp2
          go_roundw
          case rel =>
            repeat apply Exists.intro
            refine ⟨?_, rfl⟩
            exact ⟨j + 1, by omega, by go_num, trivial⟩
          case measure => simp [intOf]; omega
        · obtain rfl : j = n := by omega
          have HLas := Lib.hid (show Calls _ _ _ wr fun e w' => e = .returned (.int .i64 j) ∧ wr = w' from o_last HO.out)
          have HC := Lib.hid (show Calls _ _ _ wr fun e w' => e = .returned (.tuple #[]) ∧ One w1 w' b ⟨l, j, false, 0, false⟩ from by
            have := o_crash 0 HO.out
            rwa [storeLasts.crash_is (by rw [HA.out]; omega), show (min (max (0 : Int) 0) (((l ++ mm).length : Int) - j)).toNat = 0 by rw [HA.out]; omega, Nat.add_zero, show (l ++ mm).take j = l by rw [HN.out]; simp] at this)
          have HLen := Lib.hid (fun w (h : One w1 w b ⟨l, j, false, 0, false⟩) => show Calls _ _ _ w fun e w' => e = .returned (.int .i64 j) ∧ w = w' from by have := o_len h; rwa [show l.length = j from HN.out.symm] at this)
          go_wp2_with fail
          refine HLas.out.mono ?_
          rintro e w6 ⟨rfl, rfl⟩
          go_wp2_with fail
          refine HC.out.mono ?_
          rintro e w6 ⟨rfl, ho6⟩
          have HO6 := Lib.hid ho6
          clear ho6
          go_wp2_with fail
          refine (HLen.out _ HO6.out).mono ?_
          rintro e w7 ⟨rfl, rfl⟩
          go_wp2
          go_ret
          exact ⟨by simp, bt hb1 HO6.out.bel⟩

set_option maxHeartbeats 1000000 in
theorem core1 (ao ao2 : Option Addr) (n m cap cap2 : Nat) (w : World) (h : 40 < n ∨ 40 < m) :
    Calls Try.prog 5 #[.slice ao n cap, .slice ao2 m cap2] w fun e w' => e = .returned (.bool true) ∧ Below w.heap.size w w' := by
  by_cases h1 : 40 < n
  · have d1 : decide ((40 : Int) < (n : Int)) = true := by simp; omega
    go_enter Try.func5, Try.ntmps5
    go_wp2_with fail
    refine (awake_any _).mono ?_
    rintro e w1 ⟨rfl, hb1⟩
    go_wp2
    go_ret
    exact ⟨rfl, hb1⟩
  · have d1 : decide ((40 : Int) < (n : Int)) = false := by simp; omega
    have d2 : decide ((40 : Int) < (m : Int)) = true := by simp; omega
    go_enter Try.func5, Try.ntmps5
    go_wp2_with fail
    refine (awake_any _).mono ?_
    rintro e w1 ⟨rfl, hb1⟩
    go_wp2
    go_ret
    exact ⟨rfl, hb1⟩

theorem walk (v0 v1 : Value) (w : World) (w0 : Is22 w v0) (w1 : Is22 w v1) :
    Calls Try.prog 5 #[v0, v1] w fun e w' => e = .returned (.bool true) ∧ Below w.heap.size w w' := by
  obtain ⟨l, h1, _⟩ := w0
  obtain ⟨mm, h2, _⟩ := w1
  by_cases h : l.length ≤ 40 ∧ mm.length ≤ 40
  · exact core l mm v0 v1 w h1 h2 h.1 h.2
  · obtain ⟨ao, cap, rfl, _⟩ := h1.shape
    obtain ⟨ao2, cap2, rfl, _⟩ := h2.shape
    exact core1 ao ao2 _ _ cap cap2 w (by omega)
end Go.Proofs.Ythfddgffanajaaa.storeReads
