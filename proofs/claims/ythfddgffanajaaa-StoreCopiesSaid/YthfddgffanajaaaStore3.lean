/-
  The store's methods: Sync, Arm, Read, Len, Lasting, Down, Crash, Copy.
-/
import Derived.Test.YthfddgffanajaaaStore2
namespace Go.Proofs.Ythfddgffanajaaa
open Go Go.RowKit
set_option linter.unusedVariables false
set_option linter.unusedSimpArgs false

def St.sy (s : St) : St × Int :=
  if s.down = true then (s, 14)
  else if s.armed = true then (if s.fuse = 0 then ({ s with down := true }, 14) else ({ s with fuse := s.fuse - 1, last := s.ws.length }, 0))
  else ({ s with last := s.ws.length }, 0)

set_option maxHeartbeats 1000000 in
theorem sync1_any (w : World) (b c1 : Nat) (v : Value) (s : St) (h : IsSt w b v s) (h1 : w.cell? ⟨c1, 0, none⟩ = some (.pointer (some ⟨b, 0, none⟩))) :
    Calls Try.prog 27 #[.pointer (some ⟨c1, 0, none⟩)] w fun e w' => e = .returned (.tuple #[]) ∧ IsSt w' b v { s with last := s.ws.length } ∧ Keep b v w v w' := by
  obtain ⟨ao, cap, e⟩ := own_shape h.row
  have H := Lib.hid h
  have k0 : w.cell? ⟨b, 0, none⟩ = some v := h.cell 0
  have k1 : w.cell? ⟨b, 1, none⟩ = some (.int .i64 s.last) := h.cell 1
  have kf : w.frozen? ⟨b, 1, none⟩ = false := h.free 1
  clear h
  subst e
  go_enter Try.func27, Try.ntmps27
  go_wp2
  go_region
  all_goals
    go_end0
    exact ⟨rfl, (show IsSt (w.setCell ⟨b, 1, none⟩ (.int .i64 s.ws.length)) b _ { s with last := s.ws.length } from H.out.one rfl rfl H.out.f0 H.out.f1 (Nat.le_refl _)).kept (S := fun _ => False) (Touch.refl _ _).drew id (fun _ _ => id), ⟨((Touch.refl _ _).setCell (.inl (.inl rfl)) _).drew, fun k h => .inl h⟩⟩

theorem one_x (w : World) (u : Value) (e : Nat) {n : Nat} (hn : n = w.heap.size) : (w.alloc (.cells #[u] e)).cell? ⟨n, 0, none⟩ = some u := by
  subst hn; unfold World.cell?; rw [heap_alloc_new]; rfl

set_option maxHeartbeats 2000000 in
theorem sync_any (w : World) (b : Nat) (v : Value) (s : St) (h : IsSt w b v s) :
    Calls Try.prog 13 #[.pointer (some ⟨b, 0, none⟩)] w fun e w' => e = .returned (.int .i64 s.sy.2) ∧ IsSt w' b v s.sy.1 ∧ Keep b v w v w' := by
  have H := Lib.hid h
  have hb := h.lt
  have k2 : w.cell? ⟨b, 2, none⟩ = some (.bool s.armed) := h.cell 2
  have k3 : w.cell? ⟨b, 3, none⟩ = some (.int .i64 s.fuse) := h.cell 3
  have k4 : w.cell? ⟨b, 4, none⟩ = some (.bool s.down) := h.cell 4
  have kf3 : w.frozen? ⟨b, 3, none⟩ = false := h.free 3
  have kf4 : w.frozen? ⟨b, 4, none⟩ = false := h.free 4
  have f0 := h.f0
  have F1 := Lib.hid h.f1
  have H2 := Lib.hid (h.alloc (.cells #[.pointer (some ⟨b, 0, none⟩)] 25))
  have K2 := Lib.hid ((Keep.refl b v w).alloc (.cells #[.pointer (some ⟨b, 0, none⟩)] 25))
  clear h
  cases hd : s.down with
  | true =>
    have HE := Lib.hid (show s.sy = (s, 14) by unfold St.sy; rw [if_pos hd])
    rw [hd] at k4
    clear hd
    go_enter Try.func13, Try.ntmps13
    go_wp2
    go_ret
    exact ⟨by rw [HE.out]; rfl, by rw [HE.out]; exact H2.out, K2.out⟩
  | false =>
    rw [hd] at k4
    cases ha : s.armed with
    | true =>
      rw [ha] at k2
      by_cases hf : s.fuse = 0
      · have HE := Lib.hid (show s.sy = ({ s with down := true }, 14) by unfold St.sy; rw [if_neg (by simp [hd]), if_pos ha, if_pos hf])
        have d3 : (s.fuse == 0) = true := by simpa using hf
        have HF := Lib.hid ((show IsSt (w.setCell ⟨b, 4, none⟩ (.bool true)) b v { s with down := true } from H.out.one rfl rfl f0 F1.out H.out.last).alloc (.cells #[.pointer (some ⟨b, 0, none⟩)] 25))
        have KF := Lib.hid (((Keep.refl b v w).set (i := 4) (.bool true)).alloc (.cells #[.pointer (some ⟨b, 0, none⟩)] 25))
        clear hd ha hf H2 K2
        go_enter Try.func13, Try.ntmps13
        go_wp2_with (go_at_call 25; go_in)
        go_ret
        exact ⟨by rw [HE.out]; rfl, by rw [HE.out]; exact HF.out, KF.out⟩
      · have HE := Lib.hid (show s.sy = ({ s with fuse := s.fuse - 1, last := s.ws.length }, 0) by unfold St.sy; rw [if_neg (by simp [hd]), if_pos ha, if_neg hf])
        have d3 : (s.fuse == 0) = false := by simpa using hf
        have m1 : wrap64 (s.fuse - 1) = s.fuse - 1 := IntWalk.wrap64_in _ (by have := F1.out; omega)
        have HF := Lib.hid ((show IsSt (w.setCell ⟨b, 3, none⟩ (.int .i64 (s.fuse - 1))) b v { s with fuse := s.fuse - 1 } from H.out.one rfl rfl (show 0 ≤ s.fuse - 1 by omega) (show s.fuse - 1 ≤ _ by have := F1.out; omega) H.out.last).alloc (.cells #[.pointer (some ⟨b, 0, none⟩)] 25))
        have KF := Lib.hid (((Keep.refl b v w).set (i := 3) (.int .i64 (s.fuse - 1))).alloc (.cells #[.pointer (some ⟨b, 0, none⟩)] 25))
        clear hd ha hf H2 K2
        go_enter Try.func13, Try.ntmps13
        go_wp2_with (go_at_call 25; go_in)
        refine (sync1_any _ b _ _ _ HF.out (one_x _ _ _ (by simp))).mono ?_
        rintro e w5 ⟨rfl, h5, k5⟩
        have H5 := Lib.hid h5
        clear h5
        go_wp2
        go_ret
        exact ⟨by rw [HE.out]; rfl, by rw [HE.out]; exact H5.out, KF.out.trans k5⟩
    | false =>
      rw [ha] at k2
      have HE := Lib.hid (show s.sy = ({ s with last := s.ws.length }, 0) by unfold St.sy; rw [if_neg (by simp [hd]), if_neg (by simp [ha])])
      clear hd ha
      go_enter Try.func13, Try.ntmps13
      go_wp2_with (go_at_call 25; go_in)
      refine (sync1_any _ b _ _ _ H2.out (one_x _ _ _ (by simp))).mono ?_
      rintro e w5 ⟨rfl, h5, k5⟩
      have H5 := Lib.hid h5
      clear h5
      go_wp2
      go_ret
      exact ⟨by rw [HE.out]; rfl, by rw [HE.out]; exact H5.out, K2.out.trans k5⟩

def St.arm (n : Int) (s : St) : St := { s with armed := decide (0 ≤ n), fuse := max n 0 }

set_option maxHeartbeats 1000000 in
theorem arm_any (w : World) (b : Nat) (v : Value) (s : St) (n : Int) (h : IsSt w b v s) (hn : n ≤ 9223372036854775807) :
    Calls Try.prog 22 #[.pointer (some ⟨b, 0, none⟩), .int .i64 n] w fun e w' => e = .returned (.tuple #[]) ∧ IsSt w' b v (s.arm n) ∧ Keep b v w v w' := by
  have H := Lib.hid h
  have k2 : w.cell? ⟨b, 2, none⟩ = some (.bool s.armed) := h.cell 2
  have k3 : w.cell? ⟨b, 3, none⟩ = some (.int .i64 s.fuse) := h.cell 3
  have kf2 : w.frozen? ⟨b, 2, none⟩ = false := h.free 2
  have kf3 : w.frozen? ⟨b, 3, none⟩ = false := h.free 3
  have HN := Lib.hid hn
  clear h hn
  by_cases h0 : 0 ≤ n
  · have e1 : s.arm n = { s with armed := true, fuse := n } := by unfold St.arm; rw [decide_eq_true h0, show max n 0 = n by omega]
    have E1 := Lib.hid e1
    have d0 : decide (0 ≤ n) = true := by simpa using h0
    clear e1
    go_enter Try.func22, Try.ntmps22
    go_wp2
    go_end0
    rw [E1.out]
    exact ⟨rfl, (show IsSt (w.setCell ⟨b, 2, none⟩ (.bool true)) b v { s with armed := true } from H.out.one rfl rfl H.out.f0 H.out.f1 H.out.last).one rfl rfl h0 HN.out H.out.last, ((Keep.refl b v w).set _).set _⟩
  · have e1 : s.arm n = { s with armed := false, fuse := 0 } := by unfold St.arm; rw [decide_eq_false h0, show max n 0 = 0 by omega]
    have E1 := Lib.hid e1
    have d0 : decide (0 ≤ n) = false := by simpa using h0
    clear e1
    go_enter Try.func22, Try.ntmps22
    go_wp2
    go_end0
    rw [E1.out]
    exact ⟨rfl, (show IsSt (w.setCell ⟨b, 2, none⟩ (.bool false)) b v { s with armed := false } from H.out.one rfl rfl H.out.f0 H.out.f1 H.out.last).one rfl rfl (show (0 : Int) ≤ 0 by decide) (show (0 : Int) ≤ _ by decide) H.out.last, ((Keep.refl b v w).set _).set _⟩

theorem len_any (w : World) (b : Nat) (v : Value) (s : St) (h : IsSt w b v s) :
    Calls Try.prog 16 #[.pointer (some ⟨b, 0, none⟩)] w fun e w' => e = .returned (.int .i64 s.ws.length) ∧ w = w' := by
  obtain ⟨ao, cap, e⟩ := own_shape h.row
  have k0 : w.cell? ⟨b, 0, none⟩ = some v := h.cell 0
  clear h
  subst e
  go_enter Try.func16, Try.ntmps16
  go_wp2
  go_ret
  exact ⟨rfl, rfl⟩
theorem lasting_any (w : World) (b : Nat) (v : Value) (s : St) (h : IsSt w b v s) :
    Calls Try.prog 14 #[.pointer (some ⟨b, 0, none⟩)] w fun e w' => e = .returned (.int .i64 s.last) ∧ w = w' := by
  have k0 : w.cell? ⟨b, 1, none⟩ = some (.int .i64 s.last) := h.cell 1
  clear h
  go_enter Try.func14, Try.ntmps14
  go_wp2
  go_ret
  exact ⟨rfl, rfl⟩
theorem down_any (w : World) (b : Nat) (v : Value) (s : St) (h : IsSt w b v s) :
    Calls Try.prog 23 #[.pointer (some ⟨b, 0, none⟩)] w fun e w' => e = .returned (.bool s.down) ∧ w = w' := by
  have k0 : w.cell? ⟨b, 4, none⟩ = some (.bool s.down) := h.cell 4
  clear h
  go_enter Try.func23, Try.ntmps23
  go_wp2
  go_ret
  exact ⟨rfl, rfl⟩

def St.rd (i : Int) (s : St) : ByteArray × Int := if s.down = true then (⟨#[]⟩, 14) else if i < 0 ∨ (s.ws.length : Int) ≤ i then (⟨#[]⟩, 3) else (s.ws.getD i.toNat ⟨#[]⟩, 0)
def rdV (x : ByteArray × Int) : Value := .tuple #[.string x.1, .int .i64 x.2]

set_option maxHeartbeats 1000000 in
theorem read_any (w : World) (b : Nat) (v : Value) (s : St) (i : Int) (h : IsSt w b v s) :
    Calls Try.prog 17 #[.pointer (some ⟨b, 0, none⟩), .int .i64 i] w fun e w' => e = .returned (rdV (s.rd i)) ∧ w = w' := by
  obtain ⟨ao, cap, e⟩ := own_shape h.row
  have H := Lib.hid h
  have k0 : w.cell? ⟨b, 0, none⟩ = some v := h.cell 0
  have k4 : w.cell? ⟨b, 4, none⟩ = some (.bool s.down) := h.cell 4
  obtain ⟨n, HN⟩ : ∃ n, Hid (n = s.ws.length) := ⟨_, rfl⟩
  rw [← HN.out] at e
  clear h
  cases hd : s.down with
  | true =>
    have HE := Lib.hid (show s.rd i = (⟨#[]⟩, 14) by unfold St.rd; rw [if_pos hd])
    rw [hd] at k4
    subst e
    clear hd
    go_enter Try.func17, Try.ntmps17
    go_wp2
    go_ret2
    exact ⟨by rw [HE.out]; rfl, rfl⟩
  | false =>
    rw [hd] at k4
    by_cases h0 : i < 0
    · have HE := Lib.hid (show s.rd i = (⟨#[]⟩, 3) by unfold St.rd; rw [if_neg (by simp [hd]), if_pos (.inl h0)])
      have d0 : decide (i < 0) = true := by simpa using h0
      subst e
      clear hd h0
      go_enter Try.func17, Try.ntmps17
      go_wp2
      go_ret2
      exact ⟨by rw [HE.out]; rfl, rfl⟩
    · have d0 : decide (i < 0) = false := by simp; omega
      by_cases h1 : (n : Int) ≤ i
      · have HE := Lib.hid (show s.rd i = (⟨#[]⟩, 3) by unfold St.rd; rw [if_neg (by simp [hd]), if_pos (.inr (by rw [← HN.out]; exact h1))])
        have d1 : decide ((n : Int) ≤ i) = true := by simpa using h1
        subst e
        clear hd h1
        go_enter Try.func17, Try.ntmps17
        go_wp2
        go_ret2
        exact ⟨by rw [HE.out]; rfl, rfl⟩
      · obtain ⟨j, rfl⟩ := Int.eq_ofNat_of_zero_le (show 0 ≤ i by omega)
        have hj : j < s.ws.length := by rw [← HN.out]; omega
        have hjn : j < n := by omega
        have d1 : decide ((n : Int) ≤ (j : Int)) = false := by simp; omega
        have HE := Lib.hid (show s.rd j = (s.ws[j], 0) by unfold St.rd; rw [if_neg (by simp [hd]), if_neg (by rw [← HN.out]; omega)]; simp [hj])
        obtain ⟨g, off, cap', e', _, _, _, hc⟩ := Row.at (Row.of_own H.out.row) (by simp; omega)
        rw [e, ← HN.out] at e'
        cases e'
        have c1 := hc j (by simpa using hj)
        rw [List.getElem_map] at c1
        generalize s.ws[j] = x at *
        subst e
        clear hc hd h1 hj
        go_enter Try.func17, Try.ntmps17
        go_wp2
        go_ret2
        exact ⟨by rw [HE.out]; rfl, rfl⟩

set_option maxHeartbeats 400000 in
theorem clone_any (zs : List ByteArray) (v : Value) (w : World) (hv : Row w v 1 zs.length (zs.map Value.string)) (hb : zs.length * 16 ≤ 140737488355328) :
    Calls Try.prog 28 #[v] w fun e w' => ∃ u, e = .returned u ∧ w'.ownsRow w.heap.size 9 1 u zs.length (zs.map Value.string) ∧ Below w.heap.size w w' := by
  obtain ⟨_, ao, cap, rfl, h1, h2, h3, hc⟩ := hv
  cases ao with
  | none =>
    obtain rfl := h3 rfl
    obtain rfl : zs = [] := List.eq_nil_of_length_eq_zero (by omega)
    have hn := @Lib.run_eql_slice_nil Try.prog
    go_enter Try.func28, Try.ntmps28
    go_wp2
    go_ret
    exact ⟨_, rfl, World.ownsRow_nil _ _ _ _, Below.refl _ _⟩
  | some a =>
    obtain ⟨i0, hi, hz0, hz1, hz2⟩ := info_parts Try.info9
    have hn := @Lib.run_eql_slice_nil Try.prog
    have hb1 : Below w.heap.size w (w.alloc (.cells #[] 9)) := (Below.refl _ _).alloc (Nat.le_refl _) _
    have HC := Lib.hid (show ∀ j u, (zs.map Value.string)[j]? = some u → (w.alloc (.cells #[] 9)).cell? (a.add j) = some u from fun j u hu => cell_later hb1 (hc a rfl j u hu))
    have H1 := Lib.hid (show ∀ u ∈ zs.map Value.string, u.oneCell' = true from fun u hu => by obtain ⟨z, _, rfl⟩ := List.mem_map.1 hu; rfl)
    have HB := Lib.hid hb1
    clear hb1
    have HO := Lib.hid (own_lit w 9 0 #[] (by unfold maxLen; omega) rfl)
    clear hc
    go_enter Try.func28, Try.ntmps28
    go_wp2_with (at_builtin; refine wpList_append_own _ rfl _ _ 22 rfl w.heap.size 9 i0 _ 1 16 Try.underlying22 hi hz0 hz1 hz2 rfl (by decide) _ _ _ rfl HO.out a zs.length cap (zs.map Value.string) rfl (by simp) HC.out H1.out (by simp only [maxLen]; omega) (by omega) (by simp) ?_; intro v' w1 hown hgrow hnil)
    go_ret
    exact ⟨_, rfl, by simpa using hown, HB.out.grown hgrow (by simp) (fun k hk => by cases hk; exact Nat.le_refl _)⟩
end Go.Proofs.Ythfddgffanajaaa
