/-
  bay: isFrom, isName, mayLoad, May.
-/
import Derived.Test.YtllaahdbngjigaaDoorHold
import Derived.Test.YtllaahdbngjigaaDoorIns
namespace Go.Proofs.YtllaahdbngjigaaDoor
open Go Go.RowKit
set_option linter.unusedVariables false
set_option linter.unusedSimpArgs false

theorem isFrom_any (n a b : Int) (w : World) : Calls Tryd.prog 64 #[.int .i64 n, .int .i64 a, .int .i64 b] w fun e w' => e = .returned (.bool (decide (a ≤ n) && decide (n ≤ b))) ∧ w = w' := by
  cases h1 : decide (a ≤ n) with
  | true =>
    go_enter Tryd.func64, Tryd.ntmps64
    go_wp2
    go_ret
    exact ⟨by rw [Bool.true_and]; rfl, rfl⟩
  | false =>
    go_enter Tryd.func64, Tryd.ntmps64
    go_wp2
    go_ret
    exact ⟨by rw [Bool.false_and]; rfl, rfl⟩
theorem isFrom_is (n a b : Int) (r : Bool) (h : (decide (a ≤ n) && decide (n ≤ b)) = r) (w : World) : Calls Tryd.prog 64 #[.int .i64 n, .int .i64 a, .int .i64 b] w fun e w' => e = .returned (.bool r) ∧ w = w' := by
  subst h
  exact isFrom_any n a b w

/-- A text of letters, 1 to 16. -/
structure Lets (s : ByteArray) : Prop where
  lo : 1 ≤ s.size
  hi : s.size ≤ 16
  all : ∀ k, k < s.size → 97 ≤ byt s k ∧ byt s k ≤ 122
set_option maxHeartbeats 1000000 in
theorem isName_ok (s : ByteArray) (h : Lets s) (w : World) : Calls Tryd.prog 65 #[.string s] w fun e w' => e = .returned (.bool true) ∧ w = w' := by
  obtain ⟨n, HN⟩ : ∃ n, Hid (n = s.size) := ⟨_, Lib.hid rfl⟩
  have e0 : s.size = n := HN.out.symm
  have h1 := h.lo
  have h2 := h.hi
  have HA := Lib.hid h.all
  clear h
  have d1 : decide ((n : Int) < 1) = false := by rw [decide_eq_false_iff_not]; omega
  have d2 : decide ((16 : Int) < (n : Int)) = false := by rw [decide_eq_false_iff_not]; omega
  go_enter Tryd.func65, Tryd.ntmps65
  go_wp2
  go_loopw [15] (fun i wr => ∃ k : Nat, k ≤ n ∧ i = .int .i64 (k : Int) ∧ Hid (wr = w)) (fun i _ => n - (intOf i).toNat)
  case atStart => exact ⟨0, Nat.zero_le _, rfl, Lib.hid rfl⟩
  case round =>
    obtain ⟨k, hk, rfl, hw⟩ := hrel
    by_cases hlt : k < n
    · have l1 : (k : Int) < (n : Int) := by omega
      have HI := byt_run (P := Tryd.prog) 9 s k Tryd.underlying9 (by omega)
      have HB := HA.out k (by omega)
      generalize byt s k = z at *
      obtain ⟨b1, b2⟩ := HB
      have g1 : decide (z < 97) = false := by rw [decide_eq_false_iff_not]; omega
      have g2 : decide (122 < z) = false := by rw [decide_eq_false_iff_not]; omega
      go_wp2
      go_roundw
      case rel => exact ⟨k + 1, by omega, by go_num, hw⟩
      case measure => simp [intOf]; omega
    · go_wp2
      go_ret
      exact ⟨rfl, hw.out.symm⟩

theorem ship_lets : Lets ⟨#[115, 104, 105, 112]⟩ := by
  refine ⟨by decide, by decide, ?_⟩
  intro k hk
  have : k < 4 := hk
  match k, this with
  | 0, _ => decide
  | 1, _ => decide
  | 2, _ => decide
  | 3, _ => decide

/-- A load of which mayLoad holds. -/
structure Ld.ok (x : Ld) : Prop where
  fine : x.fine
  name : Lets x.nm
set_option maxHeartbeats 1000000 in
theorem mayLoad_ok (x : Ld) (h : x.ok) (w : World) : Calls Tryd.prog 29 #[.agg #[.int .i64 x.b, .int .i64 x.r, .int .i64 x.t, .string x.nm, .int .i64 x.wt, .int .i64 x.cl, .int .i64 x.pt]] w fun e w' => e = .returned (.bool true) ∧ Below w.heap.size w w' := by
  have HN := Lib.hid (isName_ok x.nm h.name)
  have k1 := h.fine.wt
  have k2 := h.fine.cl
  have k3 := h.fine.pt
  have H1 := Lib.hid (isFrom_is x.wt 1 1048576 true (by simp; omega))
  have H2 := Lib.hid (isFrom_is x.cl 0 1048576 true (by simp; omega))
  have H3 := Lib.hid (isFrom_is x.pt 0 64 true (by simp; omega))
  clear h k1 k2 k3
  go_enter Tryd.func29, Tryd.ntmps29
  go_wp2_with fail
  refine (HN.out _).mono ?_
  rintro e w1 ⟨rfl, rfl⟩
  go_wp2_with fail
  refine (H1.out _).mono ?_
  rintro e w1 ⟨rfl, rfl⟩
  go_wp2_with fail
  refine (H2.out _).mono ?_
  rintro e w1 ⟨rfl, rfl⟩
  go_wp2_with fail
  refine (H3.out _).mono ?_
  rintro e w1 ⟨rfl, rfl⟩
  go_wp2
  go_ret
  exact ⟨rfl, (Below.refl _ _).alloc (Nat.le_refl _) _⟩
theorem idx3 (a b c : Int) (w : World) : (Instr.index 123 (.agg #[.int .i64 a, .int .i64 b, .int .i64 c]) (.int .i64 0)).run Tryd.prog w = .ok (.int .i64 a) w ∧ (Instr.index 123 (.agg #[.int .i64 a, .int .i64 b, .int .i64 c]) (.int .i64 1)).run Tryd.prog w = .ok (.int .i64 b) w ∧ (Instr.index 123 (.agg #[.int .i64 a, .int .i64 b, .int .i64 c]) (.int .i64 2)).run Tryd.prog w = .ok (.int .i64 c) w := ⟨by kernel_rfl, by kernel_rfl, by kernel_rfl⟩
theorem idx5 (a b c d f : Int) (w : World) : (Instr.index 125 (.agg #[.int .i64 a, .int .i64 b, .int .i64 c, .int .i64 d, .int .i64 f]) (.int .i64 0)).run Tryd.prog w = .ok (.int .i64 a) w ∧ (Instr.index 125 (.agg #[.int .i64 a, .int .i64 b, .int .i64 c, .int .i64 d, .int .i64 f]) (.int .i64 1)).run Tryd.prog w = .ok (.int .i64 b) w ∧ (Instr.index 125 (.agg #[.int .i64 a, .int .i64 b, .int .i64 c, .int .i64 d, .int .i64 f]) (.int .i64 2)).run Tryd.prog w = .ok (.int .i64 c) w ∧ (Instr.index 125 (.agg #[.int .i64 a, .int .i64 b, .int .i64 c, .int .i64 d, .int .i64 f]) (.int .i64 3)).run Tryd.prog w = .ok (.int .i64 d) w ∧ (Instr.index 125 (.agg #[.int .i64 a, .int .i64 b, .int .i64 c, .int .i64 d, .int .i64 f]) (.int .i64 4)).run Tryd.prog w = .ok (.int .i64 f) w := ⟨by kernel_rfl, by kernel_rfl, by kernel_rfl, by kernel_rfl, by kernel_rfl⟩
set_option maxHeartbeats 2000000 in
set_option maxRecDepth 100000 in
theorem shipMay_ok (s : Shp) (h : s.fine) (w : World) : Calls Tryd.prog 27 #[s.val] w fun e w' => e = .returned (.bool true) ∧ Below w.heap.size w w' := by
  have HN := Lib.hid (isName_ok _ ship_lets)
  have k1 := h.bays
  have k2 := h.rows
  have k3 := h.tiers
  have k4 := h.stack
  have k5 := h.most
  have H1 := Lib.hid (isFrom_is s.bays 1 32 true (by simp; omega))
  have H2 := Lib.hid (isFrom_is s.rows 1 32 true (by simp; omega))
  have H3 := Lib.hid (isFrom_is s.tiers 1 32 true (by simp; omega))
  have H4 := Lib.hid (isFrom_is s.stack 0 1048576 true (by simp; omega))
  have H5 := Lib.hid (isFrom_is 40 0 1048576 true (by decide))
  have H6 := Lib.hid (isFrom_is 60 0 1048576 true (by decide))
  have H7 := Lib.hid (isFrom_is s.most 0 1048576 true (by simp; omega))
  clear h k1 k2 k3 k4 k5
  have i3 := fun w => idx3 s.bays s.rows s.tiers w
  have i5 := fun w => idx5 s.stack 40 40 60 s.most w
  unfold Shp.val
  go_enter Tryd.func27, Tryd.ntmps27
  go_wp2
  refine wp_loop_rounds 4 ?_
  rw [rounds_succ]
  go_wp2_with fail
  refine (H1.out _).mono ?_
  rintro e w1 ⟨rfl, rfl⟩
  go_wp2
  rw [rounds_succ]
  go_wp2_with fail
  refine (H2.out _).mono ?_
  rintro e w1 ⟨rfl, rfl⟩
  go_wp2
  rw [rounds_succ]
  go_wp2_with fail
  refine (H3.out _).mono ?_
  rintro e w1 ⟨rfl, rfl⟩
  go_wp2
  rw [rounds_succ]
  go_wp2
  refine wp_loop_rounds 6 ?_
  rw [rounds_succ]
  go_wp2_with fail
  refine (H4.out _).mono ?_
  rintro e w1 ⟨rfl, rfl⟩
  go_wp2
  rw [rounds_succ]
  go_wp2_with fail
  refine (H5.out _).mono ?_
  rintro e w1 ⟨rfl, rfl⟩
  go_wp2
  rw [rounds_succ]
  go_wp2_with fail
  refine (H5.out _).mono ?_
  rintro e w1 ⟨rfl, rfl⟩
  go_wp2
  rw [rounds_succ]
  go_wp2_with fail
  refine (H6.out _).mono ?_
  rintro e w1 ⟨rfl, rfl⟩
  go_wp2
  rw [rounds_succ]
  go_wp2_with fail
  refine (H7.out _).mono ?_
  rintro e w1 ⟨rfl, rfl⟩
  go_wp2
  rw [rounds_succ]
  go_wp2_with fail
  refine (HN.out _).mono ?_
  rintro e w1 ⟨rfl, rfl⟩
  go_wp2
  go_ret
  exact ⟨rfl, (Below.refl _ _).alloc (Nat.le_refl _) _⟩
end Go.Proofs.YtllaahdbngjigaaDoor
