/-
  StoreLasts: the walk.
-/
import Derived.Test.YthfddgffanajaaaStoreLaw
import Derived.Test.YthfddgffanajaaaArgS
import Derived.Test.YthfddgffanajaaaArgI
namespace Go.Proofs.Ythfddgffanajaaa.storeLasts
open Go Go.RowKit
set_option linter.unusedVariables false
set_option linter.unusedSimpArgs false

theorem crash_is {ws : List ByteArray} {m : Nat} {keep : Int} (hm : m ≤ ws.length) :
    (⟨ws, m, false, 0, false⟩ : St).crash keep = ⟨ws.take (m + (min (max keep 0) ((ws.length : Int) - m)).toNat), m + (min (max keep 0) ((ws.length : Int) - m)).toNat, false, 0, false⟩ := rfl
theorem crash_again {ws : List ByteArray} {again : Int} : (⟨ws, ws.length, false, 0, false⟩ : St).crash again = ⟨ws, ws.length, false, 0, false⟩ := by
  rw [crash_is (Nat.le_refl _)]
  have : (min (max again 0) ((ws.length : Int) - ws.length)).toNat = 0 := by omega
  rw [this]; simp

set_option maxRecDepth 100000 in
set_option maxHeartbeats 4000000 in
theorem core (l : List ByteArray) (at' : List Int) (v1 v2 : Value) (keep again : Int) (w : World) (h1 : Strs w v1 l) (h2 : Ints w v2 at') (hl : l.length ≤ 60) (ha : at'.length ≤ 60) :
    Calls Try.prog 3 #[v1, v2, .int .i64 keep, .int .i64 again] w fun e w' => e = .returned (.bool true) ∧ Below w.heap.size w w' := by
  obtain ⟨ao, cap, e1, k1, k2, _⟩ := h1.shape
  obtain ⟨ao2, cap2, e2, k3, k4, _⟩ := h2.shape
  obtain ⟨n, HN⟩ : ∃ n, Hid (n = l.length) := ⟨_, rfl⟩
  obtain ⟨m, HM⟩ : ∃ m, Hid (m = at'.length) := ⟨_, rfl⟩
  rw [← HN.out] at e1 hl
  rw [← HM.out] at e2 ha
  subst e1
  subst e2
  have H1 := Lib.hid h1
  have H2 := Lib.hid h2
  have d1 : decide ((60 : Int) < (n : Int)) = false := by simp; omega
  have d2 : decide ((60 : Int) < (m : Int)) = false := by simp; omega
  clear h1 h2 k1 k2 k3 k4
  go_enter Try.func3, Try.ntmps3
  go_wp2_with fail
  refine (awake_any _).mono ?_
  rintro e w1 ⟨rfl, hb1⟩
  go_wp2_with fail
  refine One.new.mono ?_
  rintro e w2 ⟨b, rfl, ho2⟩
  have HO2 := Lib.hid ho2
  clear ho2
  go_wp2_with fail
  go_loopw [10, 11, 12] (fun la i _ wr => ∃ k q : Nat, k ≤ n ∧ q ≤ k ∧ i = .int .i64 k ∧ la = .int .i64 q ∧ One w1 wr b ⟨l.take k, q, false, 0, false⟩) (fun _ i _ _ => n - (intOf i).toNat)
  case atStart => exact ⟨0, 0, Nat.zero_le _, Nat.le_refl _, rfl, rfl, HO2.out⟩
  case round =>
    obtain ⟨k, q, hk, hq, rfl, rfl, ho⟩ := hrel
    have HO := Lib.hid ho
    clear ho HO2
    by_cases hlt : k < n
    · have hkl : k < l.length := by rw [← HN.out]; exact hlt
      obtain ⟨bk, off, cap', e, _, _, _, hc⟩ := (H1.out.below (bt hb1 HO.out.bel)).at (by omega)
      have c1 := hc k hkl
      have t1 := take_snoc l k hkl
      rw [← HN.out] at e
      cases e
      generalize l[k] = x at *
      have T1 := Lib.hid t1
      clear hc t1
      by_cases hx : 200 < x.size
      · have g1 : decide ((200 : Int) < (x.size : Int)) = true := by simp; omega
        go_wp2
        go_ret
        exact ⟨rfl, bt hb1 HO.out.bel⟩
      · have g1 : decide ((200 : Int) < (x.size : Int)) = false := by simp; omega
        have hw := wr_ok (ws := l.take k) (m := q) (t := x) (by omega) (by rw [List.length_take]; omega)
        have HW := Lib.hid (show Calls _ _ _ wr fun e w' => e = .returned (.int .i64 0) ∧ One w1 w' b ⟨l.take (k + 1), q, false, 0, false⟩ from by have := o_write x HO.out; rwa [hw, ← T1.out] at this)
        clear hw hkl
        go_wp2_with fail
        refine HW.out.mono ?_
        rintro e w3 ⟨rfl, ho3⟩
        have HO3 := Lib.hid ho3
        clear ho3 HO HW c1
        go_wp2_with fail
        go_loopw [10, 12] (fun la i wr => ∃ j q : Nat, j ≤ m ∧ q ≤ k + 1 ∧ i = .int .i64 j ∧ la = .int .i64 q ∧ One w1 wr b ⟨l.take (k + 1), q, false, 0, false⟩) (fun _ i _ => m - (intOf i).toNat)
        case atStart => exact ⟨0, q, Nat.zero_le _, by omega, rfl, rfl, HO3.out⟩
        case round =>
          obtain ⟨j, q, hj, hq, rfl, rfl, ho⟩ := hrel
          have HO := Lib.hid ho
          clear ho HO3
          by_cases hjm : j < m
          · have hja : j < at'.length := by rw [← HM.out]; exact hjm
            obtain ⟨bk2, off2, cap2', e, _, _, _, hc⟩ := (H2.out.below (bt hb1 HO.out.bel)).at (by omega)
            have c2 := hc j hja
            rw [← HM.out] at e
            cases e
            generalize at'[j] = y at *
            clear hc hja
            by_cases hy : y = (k : Int)
            · have g2 : (y == (k : Int)) = true := by simpa using hy
              have HS := Lib.hid (show Calls _ _ _ wr fun e w' => e = .returned (.int .i64 0) ∧ One w1 w' b ⟨l.take (k + 1), k + 1, false, 0, false⟩ from by
                have := o_sync HO.out
                rwa [sy_ok, show (l.take (k + 1)).length = k + 1 by rw [List.length_take, ← HN.out]; omega] at this)
              clear hy
              go_wp2_with fail
              refine HS.out.mono ?_
              rintro e w4 ⟨rfl, ho4⟩
              have HO4 := Lib.hid ho4
              clear ho4 HO HS c2
              go_wp2
              go_roundw
              case rel => exact ⟨j + 1, k + 1, by omega, Nat.le_refl _, by go_num, by go_num, HO4.out⟩
              case measure => simp [intOf]; omega
            · have g2 : (y == (k : Int)) = false := by simpa using hy
              clear hy
              go_wp2
              go_roundw
              case rel => exact ⟨j + 1, q, by omega, hq, by go_num, rfl, HO.out⟩
              case measure => simp [intOf]; omega
          · have HO5 := HO
            clear HO
            go_wp2
            go_roundw
            case rel => exact ⟨k + 1, q, by omega, hq, by go_num, rfl, HO5.out⟩
            case measure => simp [intOf]; omega
    · obtain rfl : k = n := by omega
      have hll : l.take k = l := List.take_of_length_le (by rw [← HN.out]; exact Nat.le_refl _)
      rw [hll] at HO
      obtain ⟨z, HZ⟩ : ∃ z : Nat, Hid (z = (min (max keep 0) ((l.length : Int) - q)).toNat) := ⟨_, rfl⟩
      have hz := HZ.out
      rw [← HN.out] at hz
      have hzk : q + z ≤ k := by omega
      obtain ⟨kk, E0⟩ : ∃ kk, (if keep < 0 then (0 : Int) else keep) = kk := ⟨_, rfl⟩
      have E1 : (if (k : Int) - q < kk then (k : Int) - q else kk) = (z : Int) := by
        rw [← E0, hz]; split <;> split <;> omega
      have HCR := Lib.hid (crash_is (keep := keep) (show q ≤ l.length by rw [← HN.out]; exact hq))
      have HL := Lib.hid (o_last HO.out)
      have HC := Lib.hid (show Calls _ _ _ wr fun e w' => e = .returned (.tuple #[]) ∧ One w1 w' b ⟨l.take (q + z), q + z, false, 0, false⟩ from by have := o_crash keep HO.out; rwa [HCR.out, ← HZ.out] at this)
      clear hll HCR hz
      go_wp2_with fail
      refine HL.out.mono ?_
      rintro e w3 ⟨rfl, rfl⟩
      go_wp2_with fail
      refine HC.out.mono ?_
      rintro e w4 ⟨rfl, ho4⟩
      have HO4 := Lib.hid ho4
      clear ho4 HO HC HL
      go_wp2_with fail
      have hlt : (l.take (q + z)).length = q + z := by rw [List.length_take, ← HN.out]; omega
      have HLen := Lib.hid (show Calls _ _ _ w4 fun e w' => e = .returned (.int .i64 ((q : Int) + z)) ∧ w4 = w' from by have := o_len HO4.out; rwa [hlt, show (((q + z : Nat) : Int)) = (q : Int) + z by omega] at this)
      have HLas := Lib.hid (show Calls _ _ _ w4 fun e w' => e = .returned (.int .i64 ((q : Int) + z)) ∧ w4 = w' from by have := o_last HO4.out; rwa [show (((q + z : Nat) : Int)) = (q : Int) + z by omega] at this)
      have HCA := Lib.hid (show Calls _ _ _ w4 fun e w' => e = .returned (.tuple #[]) ∧ One w1 w' b ⟨l.take (q + z), q + z, false, 0, false⟩ from by
        have := o_crash again HO4.out
        have e := crash_again (ws := l.take (q + z)) (again := again)
        rw [hlt] at e
        rwa [e] at this)
      have HT := Lib.hid hlt
      clear hlt
      refine HLen.out.mono ?_
      rintro e w5 ⟨rfl, rfl⟩
      have g3 : (((q : Int) + z) != ((q : Int) + z)) = false := by simp
      go_wp2_with fail
      refine HLas.out.mono ?_
      rintro e w5 ⟨rfl, rfl⟩
      go_wp2_with fail
      refine HCA.out.mono ?_
      rintro e w5 ⟨rfl, ho5⟩
      have HO5 := Lib.hid ho5
      clear ho5 HO4 HLen HLas HCA
      obtain ⟨y, HY⟩ : ∃ y, Hid (y = q + z) := ⟨_, rfl⟩
      have hyk : y ≤ k := by rw [HY.out]; exact hzk
      have ey : (q : Int) + z = (y : Int) := by rw [HY.out]; omega
      rw [ey] at *
      clear ey
      rw [← HY.out] at HO5 HT
      clear g3 E0 E1 hzk HZ HY
      go_wp2_with fail
      go_loop [14, 15, 16] (fun i _ _ => ∃ j : Nat, j ≤ y ∧ i = .int .i64 j) (fun i _ _ => y - (intOf i).toNat)
      case atStart => exact ⟨0, Nat.zero_le _, rfl⟩
      case round =>
        obtain ⟨j, hj, rfl⟩ := hrel
        by_cases hjy : j < y
        · have hjl : j < l.length := by rw [← HN.out]; omega
          obtain ⟨bk, off, cap', e, _, _, _, hc⟩ := (H1.out.below (bt hb1 HO5.out.bel)).at (by omega)
          have c1 := hc j hjl
          rw [← HN.out] at e
          cases e
          have HR := Lib.hid (show Calls _ _ _ w5 fun e w' => e = .returned (.tuple #[.string l[j], .int .i64 0]) ∧ w5 = w' from by
            have := o_read j HO5.out
            rwa [show rdV (St.rd j ⟨l.take y, y, false, 0, false⟩) = .tuple #[.string l[j], .int .i64 0] by
              unfold St.rd rdV
              rw [if_neg (by simp), if_neg (by simp only [HT.out]; omega)]
              simp [hjy, hjl]] at this)
          generalize l[j] = x at *
          have g4 : (x.toList == x.toList) = true := by simp
          clear hc hjl
          go_wp2_with fail
          refine HR.out.mono ?_
          rintro e w6 ⟨rfl, rfl⟩
          go_wp2
          go_round
          case rel => exact ⟨j + 1, by omega, by go_num⟩
          case measure => simp [intOf]; omega
        · obtain rfl : j = y := by omega
          have HR := Lib.hid (show Calls _ _ _ w5 fun e w' => e = .returned (.tuple #[.string ⟨#[]⟩, .int .i64 3]) ∧ w5 = w' from by
            have := o_read j HO5.out
            rwa [show rdV (St.rd j ⟨l.take j, j, false, 0, false⟩) = .tuple #[.string ⟨#[]⟩, .int .i64 3] by
              unfold St.rd rdV
              rw [if_neg (by simp), if_pos (.inr (by simp only [HT.out]; omega))]] at this)
          have HLen := Lib.hid (show Calls _ _ _ w5 fun e w' => e = .returned (.int .i64 j) ∧ w5 = w' from by have := o_len HO5.out; rwa [HT.out] at this)
          go_wp2_with fail
          refine HR.out.mono ?_
          rintro e w6 ⟨rfl, rfl⟩
          go_wp2_with fail
          refine HLen.out.mono ?_
          rintro e w6 ⟨rfl, rfl⟩
          go_wp2
          go_ret
          exact ⟨by simp, bt hb1 HO5.out.bel⟩

set_option maxHeartbeats 1000000 in
theorem core1 (ao ao2 : Option Addr) (n m cap cap2 : Nat) (keep again : Int) (w : World) (h : 60 < n ∨ 60 < m) :
    Calls Try.prog 3 #[.slice ao n cap, .slice ao2 m cap2, .int .i64 keep, .int .i64 again] w fun e w' => e = .returned (.bool true) ∧ Below w.heap.size w w' := by
  by_cases h1 : 60 < n
  · have d1 : decide ((60 : Int) < (n : Int)) = true := by simp; omega
    go_enter Try.func3, Try.ntmps3
    go_wp2_with fail
    refine (awake_any _).mono ?_
    rintro e w1 ⟨rfl, hb1⟩
    go_wp2
    go_ret
    exact ⟨rfl, hb1⟩
  · have d1 : decide ((60 : Int) < (n : Int)) = false := by simp; omega
    have d2 : decide ((60 : Int) < (m : Int)) = true := by simp; omega
    go_enter Try.func3, Try.ntmps3
    go_wp2_with fail
    refine (awake_any _).mono ?_
    rintro e w1 ⟨rfl, hb1⟩
    go_wp2
    go_ret
    exact ⟨rfl, hb1⟩

theorem walk (v0 v1 : Value) (a2 a3 : Int) (w : World) (w0 : Is22 w v0) (w1 : Is23 w v1) (w2 : (Lit.int .i64 a2).wf = true) (w3 : (Lit.int .i64 a3).wf = true) :
    Calls Try.prog 3 #[v0, v1, .int .i64 a2, .int .i64 a3] w fun e w' => e = .returned (.bool true) ∧ Below w.heap.size w w' := by
  obtain ⟨l, h1, _⟩ := w0
  obtain ⟨zs, h2, _⟩ := w1
  by_cases h : l.length ≤ 60 ∧ zs.length ≤ 60
  · exact core l zs v0 v1 a2 a3 w h1 h2 h.1 h.2
  · obtain ⟨ao, cap, rfl, _⟩ := h1.shape
    obtain ⟨ao2, cap2, rfl, _⟩ := h2.shape
    exact core1 ao ao2 _ _ cap cap2 a2 a3 w (by omega)
end Go.Proofs.Ythfddgffanajaaa.storeLasts
