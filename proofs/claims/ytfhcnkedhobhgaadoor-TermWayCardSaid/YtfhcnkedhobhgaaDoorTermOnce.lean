/-
  TermOnce.
-/
import Derived.Test.YtfhcnkedhobhgaaDoorTermAwake
import Derived.BigGuardPart
namespace Go.Proofs.YtfhcnkedhobhgaaDoor.termOnce
open Go.RowKit
set_option linter.unusedVariables false
set_option linter.unusedSimpArgs false

theorem bt : (⟨#[98, 117, 121, 101, 114]⟩ : ByteArray).toList = [98, 117, 121, 101, 114] := by decide +kernel
theorem st : (⟨#[115, 101, 108, 108, 101, 114]⟩ : ByteArray).toList = [115, 101, 108, 108, 101, 114] := by decide +kernel

theorem who_in {t s f : Int} (ht : isB t = true) (hs : isB s = true) : (whoT t s f).toList = if f ≤ s then [98, 117, 121, 101, 114] else [115, 101, 108, 108, 101, 114] := by
  simp [isB] at ht hs
  unfold whoT
  rw [if_pos (by omega)]
  split
  · exact bt
  · exact st

theorem tab {t : Int} (ht : isB t = true) : risT t ≤ cosT t := by
  simp [isB] at ht
  unfold cosT risT
  rw [if_pos (by omega), if_pos (by omega)]
  have : t.toNat ≤ 7 := by omega
  generalize t.toNat = n at *
  match n, this with
  | 0, _ | 1, _ | 2, _ | 3, _ | 4, _ | 5, _ | 6, _ | 7, _ => decide

theorem mono {t u : Int} (ht : isB t = true) (hu : isB u = true) (h : t ≤ u) : cosT t ≤ cosT u := by
  simp [isB] at ht hu
  unfold cosT
  rw [if_pos (by omega), if_pos (by omega)]
  have h1 : t.toNat ≤ u.toNat := by omega
  have h2 : u.toNat ≤ 7 := by omega
  generalize t.toNat = n at *
  generalize u.toNat = m at *
  revert n
  match m, h2 with
  | 0, _ | 1, _ | 2, _ | 3, _ | 4, _ | 5, _ | 6, _ | 7, _ => intro n hn; revert n; decide

theorem law {t u a b : Int} (ht : isB t = true) (hu : isB u = true) (ha : isB a = true) (hb : isB b = true) (hab : a ≤ b) :
    ((paysT t a).toList = [98, 117, 121, 101, 114] → (paysT t b).toList = [98, 117, 121, 101, 114]) ∧
    ((bearT t a).toList = [98, 117, 121, 101, 114] → (bearT t b).toList = [98, 117, 121, 101, 114]) ∧
    ((paysT t a).toList = [98, 117, 121, 101, 114] → (bearT t a).toList = [98, 117, 121, 101, 114]) ∧
    (t ≤ u → (paysT t a).toList = [115, 101, 108, 108, 101, 114] → (paysT u a).toList = [115, 101, 108, 108, 101, 114]) := by
  unfold paysT bearT
  rw [who_in ht ha, who_in ht hb, who_in ht ha, who_in ht hb, who_in hu ha]
  have h1 := tab ht
  refine ⟨?_, ?_, ?_, fun h => ?_⟩
  · by_cases h : cosT t ≤ a
    · rw [if_pos h, if_pos (by omega)]; exact id
    · rw [if_neg h]; intro h; cases h
  · by_cases h : risT t ≤ a
    · rw [if_pos h, if_pos (by omega)]; exact id
    · rw [if_neg h]; intro h; cases h
  · by_cases h : cosT t ≤ a
    · rw [if_pos h, if_pos (by omega)]; exact id
    · rw [if_neg h]; intro h; cases h
  · have h2 := mono ht hu h
    by_cases h : cosT t ≤ a
    · rw [if_pos h]; intro h; cases h
    · rw [if_neg h, if_neg (by omega)]; exact id

set_option maxHeartbeats 1000000 in
theorem walk_yes (t u a b : Int) (w : World) (ht : isB t = true) (hu : isB u = true) (ha : isB a = true) (hb : isB b = true) (hab : a ≤ b) (hw : Terms w) :
    Calls Tryd.prog 3 #[.int .i64 t, .int .i64 u, .int .i64 a, .int .i64 b] w fun e w' => e = .returned (.bool true) ∧ ∃ n, w' = w.drewN n := by
  have h1 := Lib.hid (awake_any w hw)
  have hp := Lib.hid (fun t s n => pays_any t s (w.drewN n) (hw.drewN n))
  have hr := Lib.hid (fun t s n => risk_any t s (w.drewN n) (hw.drewN n))
  clear hw
  have i1 := Lib.hid (fun w => ht ▸ is_any t w)
  have i2 := Lib.hid (fun w => hu ▸ is_any u w)
  have i3 := Lib.hid (fun w => ha ▸ is_any a w)
  have i4 := Lib.hid (fun w => hb ▸ is_any b w)
  have H := Lib.hid (And.intro ht (And.intro hu (And.intro ha hb)))
  clear ht hu ha hb
  go_enter Tryd.func3, Tryd.ntmps3
  go_wp2_with fail
  refine h1.out.mono ?_
  rintro e w' ⟨rfl, n, rfl⟩
  go_wp2_with fail
  refine (i1.out _).mono ?_
  rintro e w' ⟨rfl, rfl⟩
  go_wp2_with fail
  refine (i2.out _).mono ?_
  rintro e w' ⟨rfl, rfl⟩
  go_wp2_with fail
  refine (i3.out _).mono ?_
  rintro e w' ⟨rfl, rfl⟩
  go_wp2_with fail
  refine (i4.out _).mono ?_
  rintro e w' ⟨rfl, rfl⟩
  go_wp2_with (first | (go_at_call 12; refine (hp.out _ _ _).mono ?_; rintro e w' ⟨rfl, n, rfl⟩; simp only [World.drewN_drewN]) | (go_at_call 13; refine (hr.out _ _ _).mono ?_; rintro e w' ⟨rfl, n, rfl⟩; simp only [World.drewN_drewN]))
  all_goals
    obtain ⟨L1, L2, L3, L4⟩ := law H.out.1 H.out.2.1 H.out.2.2.1 H.out.2.2.2 hab
    clear H h1 hp hr i1 i2 i3 i4
    go_ret
    refine ⟨?_, _, rfl⟩
    simp_all

set_option maxHeartbeats 1000000 in
theorem walk_no (t u a b : Int) (w : World) (h : ¬ (isB t = true ∧ isB u = true ∧ isB a = true ∧ isB b = true ∧ a ≤ b)) (hw : Terms w) :
    Calls Tryd.prog 3 #[.int .i64 t, .int .i64 u, .int .i64 a, .int .i64 b] w fun e w' => e = .returned (.bool true) ∧ ∃ n, w' = w.drewN n := by
  have h1 := Lib.hid (awake_any w hw)
  clear hw
  have H := Lib.hid h
  clear h
  go_enter Tryd.func3, Tryd.ntmps3
  go_wp2_with fail
  refine h1.out.mono ?_
  rintro e w' ⟨rfl, n, rfl⟩
  clear h1
  go_wp2_with (go_at_call 11; refine (is_any _ _).mono ?_; rintro e w' ⟨rfl, rfl⟩)
  all_goals first
    | (go_ret; exact ⟨rfl, _, rfl⟩)
    | (exfalso; apply H.out; clear H; simp_all; done)
    | (exfalso; apply H.out; clear H; simp_all; omega)

theorem walk (a0 : Int) (a1 : Int) (a2 : Int) (a3 : Int) (w : World) (w0 : (Lit.int .i64 a0).wf = true) (w1 : (Lit.int .i64 a1).wf = true) (w2 : (Lit.int .i64 a2).wf = true) (w3 : (Lit.int .i64 a3).wf = true) (hw : Terms w) :
    Calls Tryd.prog 3 #[.int .i64 a0, .int .i64 a1, .int .i64 a2, .int .i64 a3] w fun e w' => e = .returned (.bool true) ∧ Below w.heap.size w w' := by
  have key : Calls Tryd.prog 3 #[.int .i64 a0, .int .i64 a1, .int .i64 a2, .int .i64 a3] w fun e w' => e = .returned (.bool true) ∧ ∃ n, w' = w.drewN n := by
    by_cases h : isB a0 = true ∧ isB a1 = true ∧ isB a2 = true ∧ isB a3 = true ∧ a2 ≤ a3
    · exact walk_yes a0 a1 a2 a3 w h.1 h.2.1 h.2.2.1 h.2.2.2.1 h.2.2.2.2 hw
    · exact walk_no a0 a1 a2 a3 w h hw
  exact key.mono fun e w' ⟨h1, n, h2⟩ => ⟨h1, h2 ▸ below_drewN (Below.refl _ _) n⟩

theorem terms_met {W : World} (h : laidMetH Tryd.prog Rows.termOnceRow.laid W) : Terms W := terms_metH List.mem_cons_self (by kernel_rfl) (by kernel_rfl) h
end Go.Proofs.YtfhcnkedhobhgaaDoor.termOnce
