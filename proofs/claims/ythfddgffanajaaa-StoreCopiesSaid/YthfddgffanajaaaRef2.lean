/-
  The document's store: Sync, Read, Crash.
-/
import Derived.Test.YthfddgffanajaaaRef
import Derived.Test.YthfddgffanajaaaLasts
namespace Go.Proofs.Ythfddgffanajaaa
open Go Go.RowKit
set_option linter.unusedVariables false
set_option linter.unusedSimpArgs false

theorem four_new (w : World) (x y z u : Obj) : Below w.heap.size w ((((w.alloc x).alloc y).alloc z).alloc u) := ((two_new w x y).alloc (by simp; omega) _).alloc (by simp; omega) _

theorem rsync_any (w : World) (a : Option Addr) (c : Nat) (s : St) (h : s.Ok) :
    Calls Try.prog 30 #[rfv a s.ws.length c s.last s.fu s.down] w fun e w' =>
      e = .returned (.tuple #[rfv a s.ws.length c s.sy.1.last s.sy.1.fu s.sy.1.down, .int .i64 s.sy.2]) ∧ Below w.heap.size w w' := by
  by_cases hd : s.down = true
  · rw [show s.sy = (s, 14) by unfold St.sy; rw [if_pos hd]]
    show Calls _ _ _ _ fun e w' => e = .returned (.tuple #[rfv a s.ws.length c s.last s.fu s.down, .int .i64 14]) ∧ _
    rw [hd]
    generalize s.fu = f
    generalize s.last = m
    generalize s.ws.length = n
    clear hd h
    unfold rfv
    go_enter Try.func30, Try.ntmps30
    go_wp2
    refine bodyPost_ret (v := .tuple #[.agg #[.slice a n c, .int .i64 m, .int .i64 f, .bool true], .int .i64 14]) (by simp [results, Try.results30, go_sem]) rfl ⟨rfl, ?_⟩
    exact two_new _ _ _
  · rw [Bool.not_eq_true] at hd
    by_cases ha : s.armed = true
    · by_cases hz : s.fuse = 0
      · rw [show s.sy = ({ s with down := true }, 14) by unfold St.sy; rw [if_neg (by simp [hd]), if_pos ha, if_pos hz]]
        show Calls _ _ _ _ fun e w' => e = .returned (.tuple #[rfv a s.ws.length c s.last s.fu true, .int .i64 14]) ∧ _
        rw [show s.fu = 0 by unfold St.fu; rw [if_pos ha]; exact hz]
        rw [hd]
        generalize s.last = m
        generalize s.ws.length = n
        clear hd h hz ha
        unfold rfv at *
        go_enter Try.func30, Try.ntmps30
        go_wp2_with (go_at_call 34; go_in)
        refine bodyPost_ret (v := .tuple #[.agg #[.slice a n c, .int .i64 m, .int .i64 0, .bool true], .int .i64 14]) (by simp [results, Try.results30, go_sem]) rfl ⟨rfl, ?_⟩
        exact four_new _ _ _ _ _
      · rw [show s.sy = ({ s with fuse := s.fuse - 1, last := s.ws.length }, 0) by unfold St.sy; rw [if_neg (by simp [hd]), if_pos ha, if_neg hz]]
        show Calls _ _ _ _ fun e w' => e = .returned (.tuple #[rfv a s.ws.length c s.ws.length (St.fu { s with fuse := s.fuse - 1, last := s.ws.length }) s.down, .int .i64 0]) ∧ _
        rw [show s.fu = s.fuse from if_pos ha, show St.fu { s with fuse := s.fuse - 1, last := s.ws.length } = s.fuse - 1 from if_pos ha]
        rw [hd]
        have h0 := h.f0
        have h1 := h.f1
        generalize s.fuse = f at *
        generalize s.last = m
        generalize s.ws.length = n
        clear hd h ha
        have g1 : (f == 0) = false := by simpa using hz
        have g2 : decide (0 < f) = true := by simp; omega
        have m1 : IntKind.i64.wrap (f - 1) = f - 1 := IntWalk.i64_in _ (by omega)
        unfold rfv at *
        go_enter Try.func30, Try.ntmps30
        go_wp2_with (go_at_call 34; go_in)
        refine bodyPost_ret (v := .tuple #[.agg #[.slice a n c, .int .i64 n, .int .i64 (f - 1), .bool false], .int .i64 0]) (by simp [results, Try.results30, go_sem]) rfl ⟨rfl, ?_⟩
        exact four_new _ _ _ _ _
    · rw [show s.sy = ({ s with last := s.ws.length }, 0) by unfold St.sy; rw [if_neg (by simp [hd]), if_neg ha]]
      show Calls _ _ _ _ fun e w' => e = .returned (.tuple #[rfv a s.ws.length c s.ws.length (St.fu { s with last := s.ws.length }) s.down, .int .i64 0]) ∧ _
      rw [show s.fu = -1 from if_neg ha, show St.fu { s with last := s.ws.length } = -1 from if_neg ha]
      rw [hd]
      generalize s.last = m
      generalize s.ws.length = n
      clear hd h ha
      unfold rfv at *
      go_enter Try.func30, Try.ntmps30
      go_wp2_with (go_at_call 34; go_in)
      refine bodyPost_ret (v := .tuple #[.agg #[.slice a n c, .int .i64 n, .int .i64 (-1), .bool false], .int .i64 0]) (by simp [results, Try.results30, go_sem]) rfl ⟨rfl, ?_⟩
      exact four_new _ _ _ _ _

theorem rread_any (w : World) (m : Value) (s : St) (i : Int) (h : IsRf w m s) :
    Calls Try.prog 33 #[m, .int .i64 i] w fun e w' => e = .returned (rdV (s.rd i)) ∧ Below w.heap.size w w' := by
  obtain ⟨a, c, rfl, h1⟩ := h
  by_cases hd : s.down = true
  · rw [show s.rd i = (⟨#[]⟩, 14) by unfold St.rd; rw [if_pos hd], hd]
    generalize s.fu = f
    generalize s.last = m
    generalize s.ws.length = n at *
    clear h1 hd
    unfold rfv rdV
    go_enter Try.func33, Try.ntmps33
    go_wp2
    go_ret2
    exact ⟨rfl, (Below.refl _ _).alloc (Nat.le_refl _) _⟩
  · rw [Bool.not_eq_true] at hd
    by_cases hr : i < 0 ∨ (s.ws.length : Int) ≤ i
    · rw [show s.rd i = (⟨#[]⟩, 3) by unfold St.rd; rw [if_neg (by simp [hd]), if_pos hr], hd]
      generalize s.fu = f
      generalize s.last = m
      generalize s.ws.length = n at *
      clear h1 hd
      unfold rfv rdV
      by_cases h0 : i < 0
      · have g1 : decide (i < 0) = true := by simpa using h0
        go_enter Try.func33, Try.ntmps33
        go_wp2
        go_ret2
        exact ⟨rfl, (Below.refl _ _).alloc (Nat.le_refl _) _⟩
      · have g1 : decide (i < 0) = false := by simpa using h0
        have g2 : decide ((n : Int) ≤ i) = true := by simp; omega
        go_enter Try.func33, Try.ntmps33
        go_wp2
        go_ret2
        exact ⟨rfl, (Below.refl _ _).alloc (Nat.le_refl _) _⟩
    · obtain ⟨k, rfl⟩ := Int.eq_ofNat_of_zero_le (show 0 ≤ i by omega)
      have hk : k < s.ws.length := by omega
      rw [show s.rd (k : Int) = (s.ws[k], 0) by unfold St.rd; rw [if_neg (by simp [hd]), if_neg hr]; simp [hk], hd]
      obtain ⟨bk, off, cap', e, _, _, _, hc⟩ := h1.at (by omega)
      have c1 := hc k hk
      cases e
      clear hc h1
      generalize s.ws[k] = x at *
      generalize s.fu = f
      generalize s.last = m
      generalize s.ws.length = n at *
      have g1 : decide ((k : Int) < 0) = false := by simp
      have g2 : decide ((n : Int) ≤ (k : Int)) = false := by simp; omega
      clear hd hr
      unfold rfv rdV
      go_enter Try.func33, Try.ntmps33
      go_wp2
      go_ret2
      exact ⟨rfl, (Below.refl _ _).alloc (Nat.le_refl _) _⟩

theorem rcrash_any (w : World) (m : Value) (s : St) (i : Int) (h : IsRf w m s) (hs : s.Ok) :
    Calls Try.prog 31 #[m, .int .i64 i] w fun e w' => ∃ m', e = .returned m' ∧ IsRf w m' (s.crash i) ∧ Rk w m m' ∧ Below w.heap.size w w' := by
  obtain ⟨a, c, rfl, h1⟩ := h
  obtain ⟨_, cap, e, hc1, hc2, hc3⟩ := h1.shape
  cases e
  have hl := hs.last
  have hln := hs.len
  have hE : s.crash i = ⟨s.ws.take (s.last + (min (max i 0) ((s.ws.length : Int) - s.last)).toNat), s.last + (min (max i 0) ((s.ws.length : Int) - s.last)).toNat, false, 0, false⟩ := rfl
  obtain ⟨k, HK⟩ : ∃ k, Hid (k = s.last + (min (max i 0) ((s.ws.length : Int) - s.last)).toNat) := ⟨_, rfl⟩
  rw [← HK.out] at hE
  have hk : k ≤ s.ws.length := by rw [HK.out]; omega
  have key : ∀ w' : World, Below w.heap.size w w' → ∃ m', Ending.returned (rfv a k c k (-1) false) = .returned m' ∧ IsRf w m' (s.crash i) ∧ Rk w (rfv a s.ws.length c s.last s.fu s.down) m' ∧ Below w.heap.size w w' := by
    intro w' hb
    refine ⟨_, rfl, ⟨a, c, ?_, ?_⟩, Rk.same hk, hb⟩
    · rw [hE]; simp [Nat.min_eq_left hk, St.fu]
    · rw [hE]
      obtain ⟨_, _, _, e, _, _, _, h6⟩ := h1
      cases e
      refine ⟨by simp [Nat.min_eq_left hk], a, c, rfl, by simp; omega, hc2, hc3, fun x hx j u hu => h6 x hx j u ?_⟩
      rw [show ((⟨s.ws.take k, k, false, 0, false⟩ : St).ws.map Value.string) = (s.ws.map Value.string).take k from List.map_take, List.getElem?_take] at hu
      split at hu
      · exact hu
      · cases hu
  have KEY := Lib.hid key
  clear key hE h1 hs
  generalize s.fu = f at *
  generalize s.down = d at *
  generalize s.last = m at *
  generalize s.ws.length = n at *
  have m1 : IntKind.i64.wrap ((n : Int) - m) = (n : Int) - m := IntWalk.i64_in _ (by omega)
  have hkc : k ≤ c := by omega
  have z0 : (0 : Int) ≤ (k : Int) := by omega
  have z1 : (k : Int).toNat = k := by omega
  unfold rfv at *
  by_cases h0 : i < 0
  · have g1 : decide (i < 0) = true := by simpa using h0
    have g2 : decide ((n : Int) - m < 0) = false := by simp; omega
    obtain rfl : k = m := by rw [HK.out]; omega
    have m2 : IntKind.i64.wrap (k : Int) = k := IntWalk.i64_in _ (by omega)
    clear HK h0
    go_enter Try.func31, Try.ntmps31
    go_wp2
    refine bodyPost_ret (v := .agg #[.slice a k c, .int .i64 k, .int .i64 (-1), .bool false]) (by simp [results, Try.results31, go_sem]) rfl ?_
    exact KEY.out _ (two_new _ _ _)
  · have g1 : decide (i < 0) = false := by simpa using h0
    by_cases h1 : (n : Int) - m < i
    · have g2 : decide ((n : Int) - m < i) = true := by simpa using h1
      obtain rfl : k = n := by rw [HK.out]; omega
      have m2 : IntKind.i64.wrap ((m : Int) + ((k : Int) - m)) = k := by rw [IntWalk.i64_in _ (by omega)]; omega
      clear HK h0 h1
      go_enter Try.func31, Try.ntmps31
      go_wp2
      refine bodyPost_ret (v := .agg #[.slice a k c, .int .i64 k, .int .i64 (-1), .bool false]) (by simp [results, Try.results31, go_sem]) rfl ?_
      exact KEY.out _ (two_new _ _ _)
    · have g2 : decide ((n : Int) - m < i) = false := by simpa using h1
      have m2 : IntKind.i64.wrap ((m : Int) + i) = k := by rw [IntWalk.i64_in _ (by omega), HK.out]; omega
      clear HK h0 h1
      go_enter Try.func31, Try.ntmps31
      go_wp2
      refine bodyPost_ret (v := .agg #[.slice a k c, .int .i64 k, .int .i64 (-1), .bool false]) (by simp [results, Try.results31, go_sem]) rfl ?_
      exact KEY.out _ (two_new _ _ _)
end Go.Proofs.Ythfddgffanajaaa
