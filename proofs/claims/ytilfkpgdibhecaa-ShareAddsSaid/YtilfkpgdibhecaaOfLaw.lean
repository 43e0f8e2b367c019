/-
  ShareOf: a fraction of any total is rounded down, or isn't told.
-/
import Derived.Test.YtilfkpgdibhecaaOf
import Derived.Test.YtilfkpgdibhecaaTimes
import Derived.Lib.SmallJoins
namespace Go.Proofs.Ytilfkpgdibhecaa
open Go Go.RowKit
set_option linter.unusedVariables false
set_option linter.unusedSimpArgs false

def Is38 (w : World) (v : Value) : Prop := ∃ N D : Int, v = .agg #[.int .i64 N, .int .i64 D] ∧ (Lit.int .i64 N).wf = true ∧ (Lit.int .i64 D).wf = true
theorem open38 {H : Type} {enc : TypeId × Value → H} {W : World} {base : Nat} {v : Value} {d : DataW H} {p : List MemPlace} (hval : Value.okWide Try.prog W .any base 38 v)
    (h : DataW.Trod enc Try.prog W 0 (fun _ => true) true 38 v d p) : Is38 W v := by
  obtain ⟨c0, c1, y0, y1, m, rfl, rfl, rfl, hy0, hy1⟩ := Joins.open_agg2 Try.underlying38 (by kernel_rfl) (by kernel_rfl) hval h
  obtain ⟨z0, r0, _, hw0⟩ := DataW.trod_int Try.underlying2 hy0
  obtain ⟨z1, r1, _, hw1⟩ := DataW.trod_int Try.underlying2 hy1
  cases r0; cases r1
  exact ⟨z0, z1, rfl, hw0, hw1⟩

namespace shareOf
theorem bad (T N D : Int) (w : World) (h : ¬ (0 ≤ N ∧ 1 ≤ D ∧ 0 ≤ T ∧ T ≤ 1099511627776)) :
    Calls Try.prog 8 #[.int .i64 T, .agg #[.int .i64 N, .int .i64 D]] w fun e w' => e = .returned (.bool true) ∧ Below w.heap.size w w' := by
  have HO := Lib.hid (fun w => of_bad T N D w h)
  have HI := Lib.hid (fun w => may_any N D w _ rfl)
  obtain ⟨x, hx⟩ : ∃ x, x = decide (0 ≤ N ∧ 1 ≤ D) := ⟨_, rfl⟩
  rw [← hx] at HI
  have key : ∀ (d1 : x = true → decide (T < 0) = false → decide (1099511627776 < T) = true), Calls Try.prog 8 #[.int .i64 T, .agg #[.int .i64 N, .int .i64 D]] w fun e w' => e = .returned (.bool true) ∧ Below w.heap.size w w' := by
    intro d1
    have D1 := Lib.hid d1
    clear hx h d1
    go_enter Try.func8, Try.ntmps8
    go_wp2_with fail
    refine (awake_any _).mono ?_
    rintro e w1 ⟨rfl, hb1⟩
    obtain ⟨c1, c2⟩ := box_cells hb1
    have HB1 := Lib.hid (bt ((Below.refl _ _).alloc (Nat.le_refl _) _) hb1)
    have hlt := Lib.hid (show w.heap.size < w1.heap.size from Nat.lt_of_lt_of_le (by simp) hb1.size)
    clear hb1
    obtain ⟨b, hb⟩ : ∃ b, b = w.heap.size := ⟨_, rfl⟩
    rw [← hb] at c1 c2 hlt ⊢
    have HX := Lib.hid hb
    clear hb
    go_wp2_with fail
    refine (HO.out _).mono ?_
    rintro e w2 ⟨rfl, hb2⟩
    rw [← hb2.cell (p := ⟨b, 0, none⟩) hlt.out] at c1
    rw [← hb2.cell (p := ⟨b, 1, none⟩) hlt.out] at c2
    have HB2 := Lib.hid (bt HB1.out hb2)
    clear hb2
    go_wp2_with fail
    refine (HI.out _).mono ?_
    rintro e w3 ⟨rfl, hb3⟩
    have HB3 := Lib.hid (bt HB2.out hb3)
    clear hb3 c1 c2
    cases x with
    | false => go_wp2; go_ret; exact ⟨rfl, HB3.out⟩
    | true =>
      cases hd : decide (T < 0) with
      | true => go_wp2; go_ret; exact ⟨rfl, HB3.out⟩
      | false =>
        have d2 := D1.out rfl hd
        go_wp2; go_ret; exact ⟨rfl, HB3.out⟩
  apply key
  intro h1 h2
  rw [hx, decide_eq_true_iff] at h1
  rw [decide_eq_false_iff_not] at h2
  rw [decide_eq_true_iff]; omega

theorem whole_le {T N D : Nat} (hD : 1 ≤ D) : T * (N / D) ≤ T * N / D := by
  rw [Nat.le_div_iff_mul_le (by omega), Nat.mul_assoc]
  exact Nat.mul_le_mul_left _ (Nat.div_mul_le_self N D)
theorem split_div (T N D : Nat) (hD : 1 ≤ D) : T * N / D = T * (N / D) + T * (N % D) / D := by
  have h : T * N = T * (N % D) + D * (T * (N / D)) := by
    have := Nat.div_add_mod N D
    calc T * N = T * (D * (N / D) + N % D) := by rw [this]
      _ = _ := by rw [Nat.mul_add, Nat.mul_left_comm]; omega
  rw [h, Nat.add_mul_div_left _ _ (by omega)]; omega
theorem part_le (T N D : Nat) (hD : 1 ≤ D) : T * (N % D) / D ≤ T := by
  apply Nat.div_le_of_le_mul
  rw [Nat.mul_comm D]
  exact Nat.mul_le_mul_left _ (Nat.le_of_lt (Nat.mod_lt _ (by omega)))


theorem kw {T N D q : Nat} (hD : 1 ≤ D) (hq : q = N / D) (hT : 0 < T) (h : 1099511627776 / T < q) : ofV T N D = .tuple #[.int .i64 0, .bool false] := by
  unfold ofV
  rw [if_neg]
  have h1 := whole_le (T := T) (N := N) hD
  rw [← hq] at h1
  have h2 : 1099511627776 < T * q := by
    have := (Nat.div_lt_iff_lt_mul hT).1 h
    rwa [Nat.mul_comm] at this
  omega
theorem kn {T N D q : Nat} (hq : q = N / D) (hT : T ≤ 1099511627776) (h : 0 < T → ¬ 1099511627776 / T < q) : T * q ≤ 1099511627776 := by
  rcases Nat.eq_zero_or_pos T with h0 | h0
  · subst h0; omega
  · have := Nat.not_lt.1 (h h0)
    have := (Nat.le_div_iff_mul_le h0).1 this
    rwa [Nat.mul_comm] at this
theorem ku {T N D q : Nat} (hD : 1 ≤ D) (hq : q = N / D) : T * N / D ≤ T * (q + 1) := by
  rw [split_div T N D hD, ← hq]
  have := part_le T N D hD
  rw [Nat.mul_add, Nat.mul_one]; omega

theorem q_small {N D : Nat} (hN : N < 9223372036854775808) (hD : 4611686018427387904 < D) : N / D ≤ 1 := by
  have : N / D < 2 := (Nat.div_lt_iff_lt_mul (by omega)).2 (by omega)
  omega
theorem tr_small {T q : Nat} (hT : T ≤ 1099511627776) (hq : q ≤ 2) : T * q ≤ 2199023255552 := Nat.le_trans (Nat.mul_le_mul hT hq) (by decide)
set_option maxHeartbeats 4000000 in
theorem c000 (T N D q l : Nat) (w : World) (hT : T ≤ 1099511627776) (hN : N < 9223372036854775808) (hD0 : 1 ≤ D) (hD : D < 9223372036854775808) (hq : q = N / D) (hl : l = N % D)
    (hc : ¬ (0 < T ∧ 1099511627776 / T < q)) (hT0 : ¬ 0 < T) (hbig : D ≤ 4611686018427387904) (hok : ¬ T * N / D ≤ 1099511627776) :
    Calls Try.prog 8 #[.int .i64 (T : Int), .agg #[.int .i64 (N : Int), .int .i64 (D : Int)]] w fun e w' => e = .returned (.bool true) ∧ Below w.heap.size w w' := by
  have HO := Lib.hid (fun w => of_ok T N D w hT hN hD0 hD)
  have hV : ofV T N D = .tuple #[.int .i64 0, .bool false] := by unfold ofV; rw [if_neg hok]
  rw [hV] at HO
  have HI := Lib.hid (fun w => may_any N D w _ rfl)
  rw [decide_eq_true (show 0 ≤ (N : Int) ∧ 1 ≤ (D : Int) from ⟨by omega, by omega⟩)] at HI
  have d1 : decide ((T : Int) < 0) = false := by rw [decide_eq_false_iff_not]; omega
  have d2 : decide (1099511627776 < (T : Int)) = false := by rw [decide_eq_false_iff_not]; omega
  have hqb : q < 9223372036854775808 := by rw [hq]; exact Nat.lt_of_le_of_lt (Nat.div_le_self _ _) hN
  have e1 : (N : Int).tdiv (D : Int) = (q : Int) := by rw [hq]; exact (Int.ofNat_tdiv N D).symm
  have e1b : (N : Int) / (D : Int) = (q : Int) := by rw [hq]; exact (Int.natCast_ediv N D).symm
  have e2 : (N : Int).tmod (D : Int) = (l : Int) := by rw [hl]; exact (Int.ofNat_tmod N D).symm
  have e2b : (N : Int) % (D : Int) = (l : Int) := by rw [hl]; exact (Int.natCast_emod N D).symm
  have e3 : IntKind.i64.wrap (q : Int) = (q : Int) := IntWalk.i64_in _ (by omega)
  have g0 : decide (0 < (T : Int)) = false := by rw [decide_eq_false_iff_not]; omega
  have k1 := kn hq hT (fun h1 h2 => hc ⟨h1, h2⟩)
  have k2 := ku (T := T) hD0 hq
  have k3 := whole_le (T := T) (N := N) hD0
  have k4 := split_div T N D hD0
  have k5 := part_le T N D hD0
  rw [← hq] at k3 k4
  rw [← hl] at k4 k5
  obtain ⟨v, hv⟩ : ∃ v, v = T * N / D := ⟨_, rfl⟩
  rw [← hv] at k2 k3 k4 hok
  obtain ⟨tq, htq⟩ : ∃ tq, tq = T * q := ⟨_, rfl⟩
  rw [← htq] at k1 k3 k4
  have f1 : IntKind.i64.wrap ((T : Int) * (q : Int)) = (tq : Int) := i64_eq (by rw [htq]; simp) (by omega)
  have f4 : decide ((4611686018427387904 : Int) < (D : Int)) = false := by rw [decide_eq_false_iff_not]; omega
  have hlb : l < 9223372036854775808 := by rw [hl]; exact Nat.lt_of_le_of_lt (Nat.mod_le _ _) hN
  have HTM := Lib.hid (fun w => times_any T l D (by omega) hlb (by omega) hbig (by omega) w)
  obtain ⟨pt, hpt⟩ : ∃ pt, pt = T * l / D := ⟨_, rfl⟩
  obtain ⟨pr, hpr⟩ : ∃ pr, pr = T * l % D := ⟨_, rfl⟩
  rw [← hpt, ← hpr] at HTM
  rw [← hpt] at k4 k5
  have f2 : IntKind.i64.wrap ((tq : Int) + (pt : Int)) = (v : Int) := i64_eq (by omega) (by omega)
  have f5 : decide ((1099511627776 : Int) < (v : Int)) = true := by rw [decide_eq_true_iff]; omega
  clear hpt hpr hlb
  have HBI := Lib.hid (And.intro hbig hok)
  clear hq hl hqb hT hN hD hc hV k1 k2 k3 k4 k5 hv htq hbig hok
  go_enter Try.func8, Try.ntmps8
  go_wp2_with fail
  refine (awake_any _).mono ?_
  rintro e w1 ⟨rfl, hb1⟩
  obtain ⟨c1, c2⟩ := box_cells hb1
  have HB1 := Lib.hid (bt ((Below.refl _ _).alloc (Nat.le_refl _) _) hb1)
  have hlt := Lib.hid (show w.heap.size < w1.heap.size from Nat.lt_of_lt_of_le (by simp) hb1.size)
  clear hb1
  obtain ⟨b, hb⟩ : ∃ b, b = w.heap.size := ⟨_, rfl⟩
  rw [← hb] at c1 c2 hlt ⊢
  have HX := Lib.hid hb
  clear hb
  go_wp2_with fail
  refine (HO.out _).mono ?_
  rintro e w2 ⟨rfl, hb2⟩
  rw [← hb2.cell (p := ⟨b, 0, none⟩) hlt.out] at c1
  rw [← hb2.cell (p := ⟨b, 1, none⟩) hlt.out] at c2
  have HB2 := Lib.hid (bt HB1.out hb2)
  have hlt2 := Lib.hid (Nat.lt_of_lt_of_le hlt.out hb2.size)
  clear hb2
  go_wp2_with fail
  refine (HI.out _).mono ?_
  rintro e w3 ⟨rfl, hb3⟩
  rw [← hb3.cell (p := ⟨b, 0, none⟩) hlt2.out] at c1
  rw [← hb3.cell (p := ⟨b, 1, none⟩) hlt2.out] at c2
  have HB3 := Lib.hid (bt HB2.out hb3)
  clear hb3
  go_wp2_with fail
  go_quiet (fail)
  go_wp2_with fail
  refine (HTM.out _).mono ?_
  rintro e w4 ⟨rfl, rfl⟩
  go_wp2
  go_ret
  exact ⟨rfl, below_drewN HB3.out nq⟩
set_option maxHeartbeats 4000000 in
theorem c001 (T N D q l : Nat) (w : World) (hT : T ≤ 1099511627776) (hN : N < 9223372036854775808) (hD0 : 1 ≤ D) (hD : D < 9223372036854775808) (hq : q = N / D) (hl : l = N % D)
    (hc : ¬ (0 < T ∧ 1099511627776 / T < q)) (hT0 : ¬ 0 < T) (hbig : D ≤ 4611686018427387904) (hok : T * N / D ≤ 1099511627776) :
    Calls Try.prog 8 #[.int .i64 (T : Int), .agg #[.int .i64 (N : Int), .int .i64 (D : Int)]] w fun e w' => e = .returned (.bool true) ∧ Below w.heap.size w w' := by
  have HO := Lib.hid (fun w => of_ok T N D w hT hN hD0 hD)
  have hV : ofV T N D = .tuple #[.int .i64 ((T * N / D : Nat) : Int), .bool true] := by unfold ofV; rw [if_pos hok]
  rw [hV] at HO
  have HI := Lib.hid (fun w => may_any N D w _ rfl)
  rw [decide_eq_true (show 0 ≤ (N : Int) ∧ 1 ≤ (D : Int) from ⟨by omega, by omega⟩)] at HI
  have d1 : decide ((T : Int) < 0) = false := by rw [decide_eq_false_iff_not]; omega
  have d2 : decide (1099511627776 < (T : Int)) = false := by rw [decide_eq_false_iff_not]; omega
  have hqb : q < 9223372036854775808 := by rw [hq]; exact Nat.lt_of_le_of_lt (Nat.div_le_self _ _) hN
  have e1 : (N : Int).tdiv (D : Int) = (q : Int) := by rw [hq]; exact (Int.ofNat_tdiv N D).symm
  have e1b : (N : Int) / (D : Int) = (q : Int) := by rw [hq]; exact (Int.natCast_ediv N D).symm
  have e2 : (N : Int).tmod (D : Int) = (l : Int) := by rw [hl]; exact (Int.ofNat_tmod N D).symm
  have e2b : (N : Int) % (D : Int) = (l : Int) := by rw [hl]; exact (Int.natCast_emod N D).symm
  have e3 : IntKind.i64.wrap (q : Int) = (q : Int) := IntWalk.i64_in _ (by omega)
  have g0 : decide (0 < (T : Int)) = false := by rw [decide_eq_false_iff_not]; omega
  have k1 := kn hq hT (fun h1 h2 => hc ⟨h1, h2⟩)
  have k2 := ku (T := T) hD0 hq
  have k3 := whole_le (T := T) (N := N) hD0
  have k4 := split_div T N D hD0
  have k5 := part_le T N D hD0
  rw [← hq] at k3 k4
  rw [← hl] at k4 k5
  obtain ⟨v, hv⟩ : ∃ v, v = T * N / D := ⟨_, rfl⟩
  rw [← hv] at HO k2 k3 k4 hok
  obtain ⟨tq, htq⟩ : ∃ tq, tq = T * q := ⟨_, rfl⟩
  rw [← htq] at k1 k3 k4
  have f1 : IntKind.i64.wrap ((T : Int) * (q : Int)) = (tq : Int) := i64_eq (by rw [htq]; simp) (by omega)
  have f4 : decide ((4611686018427387904 : Int) < (D : Int)) = false := by rw [decide_eq_false_iff_not]; omega
  have hlb : l < 9223372036854775808 := by rw [hl]; exact Nat.lt_of_le_of_lt (Nat.mod_le _ _) hN
  have HTM := Lib.hid (fun w => times_any T l D (by omega) hlb (by omega) hbig (by omega) w)
  obtain ⟨pt, hpt⟩ : ∃ pt, pt = T * l / D := ⟨_, rfl⟩
  obtain ⟨pr, hpr⟩ : ∃ pr, pr = T * l % D := ⟨_, rfl⟩
  rw [← hpt, ← hpr] at HTM
  rw [← hpt] at k4 k5
  have f2 : IntKind.i64.wrap ((tq : Int) + (pt : Int)) = (v : Int) := i64_eq (by omega) (by omega)
  have f5 : decide ((1099511627776 : Int) < (v : Int)) = false := by rw [decide_eq_false_iff_not]; omega
  clear hpt hpr hlb
  have HBI := Lib.hid (And.intro hbig hok)
  clear hq hl hqb hT hN hD hc hV k1 k2 k3 k4 k5 hv htq hbig hok
  go_enter Try.func8, Try.ntmps8
  go_wp2_with fail
  refine (awake_any _).mono ?_
  rintro e w1 ⟨rfl, hb1⟩
  obtain ⟨c1, c2⟩ := box_cells hb1
  have HB1 := Lib.hid (bt ((Below.refl _ _).alloc (Nat.le_refl _) _) hb1)
  have hlt := Lib.hid (show w.heap.size < w1.heap.size from Nat.lt_of_lt_of_le (by simp) hb1.size)
  clear hb1
  obtain ⟨b, hb⟩ : ∃ b, b = w.heap.size := ⟨_, rfl⟩
  rw [← hb] at c1 c2 hlt ⊢
  have HX := Lib.hid hb
  clear hb
  go_wp2_with fail
  refine (HO.out _).mono ?_
  rintro e w2 ⟨rfl, hb2⟩
  rw [← hb2.cell (p := ⟨b, 0, none⟩) hlt.out] at c1
  rw [← hb2.cell (p := ⟨b, 1, none⟩) hlt.out] at c2
  have HB2 := Lib.hid (bt HB1.out hb2)
  have hlt2 := Lib.hid (Nat.lt_of_lt_of_le hlt.out hb2.size)
  clear hb2
  go_wp2_with fail
  refine (HI.out _).mono ?_
  rintro e w3 ⟨rfl, hb3⟩
  rw [← hb3.cell (p := ⟨b, 0, none⟩) hlt2.out] at c1
  rw [← hb3.cell (p := ⟨b, 1, none⟩) hlt2.out] at c2
  have HB3 := Lib.hid (bt HB2.out hb3)
  clear hb3
  go_wp2_with fail
  go_quiet (fail)
  go_wp2_with fail
  refine (HTM.out _).mono ?_
  rintro e w4 ⟨rfl, rfl⟩
  go_wp2
  go_ret
  exact ⟨rfl, below_drewN HB3.out nq⟩
set_option maxHeartbeats 4000000 in
theorem c010 (T N D q l : Nat) (w : World) (hT : T ≤ 1099511627776) (hN : N < 9223372036854775808) (hD0 : 1 ≤ D) (hD : D < 9223372036854775808) (hq : q = N / D) (hl : l = N % D)
    (hc : ¬ (0 < T ∧ 1099511627776 / T < q)) (hT0 : ¬ 0 < T) (hbig : 4611686018427387904 < D) (hok : ¬ T * N / D ≤ 1099511627776) :
    Calls Try.prog 8 #[.int .i64 (T : Int), .agg #[.int .i64 (N : Int), .int .i64 (D : Int)]] w fun e w' => e = .returned (.bool true) ∧ Below w.heap.size w w' := by
  have HO := Lib.hid (fun w => of_ok T N D w hT hN hD0 hD)
  have hV : ofV T N D = .tuple #[.int .i64 0, .bool false] := by unfold ofV; rw [if_neg hok]
  rw [hV] at HO
  have HI := Lib.hid (fun w => may_any N D w _ rfl)
  rw [decide_eq_true (show 0 ≤ (N : Int) ∧ 1 ≤ (D : Int) from ⟨by omega, by omega⟩)] at HI
  have d1 : decide ((T : Int) < 0) = false := by rw [decide_eq_false_iff_not]; omega
  have d2 : decide (1099511627776 < (T : Int)) = false := by rw [decide_eq_false_iff_not]; omega
  have hqb : q < 9223372036854775808 := by rw [hq]; exact Nat.lt_of_le_of_lt (Nat.div_le_self _ _) hN
  have e1 : (N : Int).tdiv (D : Int) = (q : Int) := by rw [hq]; exact (Int.ofNat_tdiv N D).symm
  have e1b : (N : Int) / (D : Int) = (q : Int) := by rw [hq]; exact (Int.natCast_ediv N D).symm
  have e2 : (N : Int).tmod (D : Int) = (l : Int) := by rw [hl]; exact (Int.ofNat_tmod N D).symm
  have e2b : (N : Int) % (D : Int) = (l : Int) := by rw [hl]; exact (Int.natCast_emod N D).symm
  have e3 : IntKind.i64.wrap (q : Int) = (q : Int) := IntWalk.i64_in _ (by omega)
  have g0 : decide (0 < (T : Int)) = false := by rw [decide_eq_false_iff_not]; omega
  have k1 := kn hq hT (fun h1 h2 => hc ⟨h1, h2⟩)
  have k2 := ku (T := T) hD0 hq
  have k3 := whole_le (T := T) (N := N) hD0
  have k4 := split_div T N D hD0
  have k5 := part_le T N D hD0
  rw [← hq] at k3 k4
  rw [← hl] at k4 k5
  obtain ⟨v, hv⟩ : ∃ v, v = T * N / D := ⟨_, rfl⟩
  rw [← hv] at k2 k3 k4 hok
  obtain ⟨tq, htq⟩ : ∃ tq, tq = T * q := ⟨_, rfl⟩
  rw [← htq] at k1 k3 k4
  have f1 : IntKind.i64.wrap ((T : Int) * (q : Int)) = (tq : Int) := i64_eq (by rw [htq]; simp) (by omega)
  have hq1 : q ≤ 1 := by rw [hq]; exact q_small hN hbig
  obtain ⟨q1, hq1e⟩ : ∃ q1, q1 = q + 1 := ⟨_, rfl⟩
  rw [← hq1e] at k2
  obtain ⟨tr, htr⟩ : ∃ tr, tr = T * q1 := ⟨_, rfl⟩
  rw [← htr] at k2
  have k6 : tr ≤ 2199023255552 := by rw [htr]; exact tr_small hT (by omega)
  have f2 : IntKind.i64.wrap ((q : Int) + 1) = (q1 : Int) := i64_eq (by omega) (by omega)
  have f3 : IntKind.i64.wrap ((T : Int) * (q1 : Int)) = (tr : Int) := i64_eq (by rw [htr]; simp) (by omega)
  have f4 : decide ((4611686018427387904 : Int) < (D : Int)) = true := by rw [decide_eq_true_iff]; omega
  have f5 : decide ((1099511627776 : Int) < (tr : Int)) = true := by rw [decide_eq_true_iff]; omega
  clear hq1 hq1e htr k6
  have HBI := Lib.hid (And.intro hbig hok)
  clear hq hl hqb hT hN hD hc hV k1 k2 k3 k4 k5 hv htq hbig hok
  go_enter Try.func8, Try.ntmps8
  go_wp2_with fail
  refine (awake_any _).mono ?_
  rintro e w1 ⟨rfl, hb1⟩
  obtain ⟨c1, c2⟩ := box_cells hb1
  have HB1 := Lib.hid (bt ((Below.refl _ _).alloc (Nat.le_refl _) _) hb1)
  have hlt := Lib.hid (show w.heap.size < w1.heap.size from Nat.lt_of_lt_of_le (by simp) hb1.size)
  clear hb1
  obtain ⟨b, hb⟩ : ∃ b, b = w.heap.size := ⟨_, rfl⟩
  rw [← hb] at c1 c2 hlt ⊢
  have HX := Lib.hid hb
  clear hb
  go_wp2_with fail
  refine (HO.out _).mono ?_
  rintro e w2 ⟨rfl, hb2⟩
  rw [← hb2.cell (p := ⟨b, 0, none⟩) hlt.out] at c1
  rw [← hb2.cell (p := ⟨b, 1, none⟩) hlt.out] at c2
  have HB2 := Lib.hid (bt HB1.out hb2)
  have hlt2 := Lib.hid (Nat.lt_of_lt_of_le hlt.out hb2.size)
  clear hb2
  go_wp2_with fail
  refine (HI.out _).mono ?_
  rintro e w3 ⟨rfl, hb3⟩
  rw [← hb3.cell (p := ⟨b, 0, none⟩) hlt2.out] at c1
  rw [← hb3.cell (p := ⟨b, 1, none⟩) hlt2.out] at c2
  have HB3 := Lib.hid (bt HB2.out hb3)
  clear hb3
  go_wp2_with fail
  go_quiet (fail)
  go_wp2
  go_ret
  exact ⟨rfl, below_drewN HB3.out nq⟩
set_option maxHeartbeats 4000000 in
theorem c011 (T N D q l : Nat) (w : World) (hT : T ≤ 1099511627776) (hN : N < 9223372036854775808) (hD0 : 1 ≤ D) (hD : D < 9223372036854775808) (hq : q = N / D) (hl : l = N % D)
    (hc : ¬ (0 < T ∧ 1099511627776 / T < q)) (hT0 : ¬ 0 < T) (hbig : 4611686018427387904 < D) (hok : T * N / D ≤ 1099511627776) :
    Calls Try.prog 8 #[.int .i64 (T : Int), .agg #[.int .i64 (N : Int), .int .i64 (D : Int)]] w fun e w' => e = .returned (.bool true) ∧ Below w.heap.size w w' := by
  have HO := Lib.hid (fun w => of_ok T N D w hT hN hD0 hD)
  have hV : ofV T N D = .tuple #[.int .i64 ((T * N / D : Nat) : Int), .bool true] := by unfold ofV; rw [if_pos hok]
  rw [hV] at HO
  have HI := Lib.hid (fun w => may_any N D w _ rfl)
  rw [decide_eq_true (show 0 ≤ (N : Int) ∧ 1 ≤ (D : Int) from ⟨by omega, by omega⟩)] at HI
  have d1 : decide ((T : Int) < 0) = false := by rw [decide_eq_false_iff_not]; omega
  have d2 : decide (1099511627776 < (T : Int)) = false := by rw [decide_eq_false_iff_not]; omega
  have hqb : q < 9223372036854775808 := by rw [hq]; exact Nat.lt_of_le_of_lt (Nat.div_le_self _ _) hN
  have e1 : (N : Int).tdiv (D : Int) = (q : Int) := by rw [hq]; exact (Int.ofNat_tdiv N D).symm
  have e1b : (N : Int) / (D : Int) = (q : Int) := by rw [hq]; exact (Int.natCast_ediv N D).symm
  have e2 : (N : Int).tmod (D : Int) = (l : Int) := by rw [hl]; exact (Int.ofNat_tmod N D).symm
  have e2b : (N : Int) % (D : Int) = (l : Int) := by rw [hl]; exact (Int.natCast_emod N D).symm
  have e3 : IntKind.i64.wrap (q : Int) = (q : Int) := IntWalk.i64_in _ (by omega)
  have g0 : decide (0 < (T : Int)) = false := by rw [decide_eq_false_iff_not]; omega
  have k1 := kn hq hT (fun h1 h2 => hc ⟨h1, h2⟩)
  have k2 := ku (T := T) hD0 hq
  have k3 := whole_le (T := T) (N := N) hD0
  have k4 := split_div T N D hD0
  have k5 := part_le T N D hD0
  rw [← hq] at k3 k4
  rw [← hl] at k4 k5
  obtain ⟨v, hv⟩ : ∃ v, v = T * N / D := ⟨_, rfl⟩
  rw [← hv] at HO k2 k3 k4 hok
  obtain ⟨tq, htq⟩ : ∃ tq, tq = T * q := ⟨_, rfl⟩
  rw [← htq] at k1 k3 k4
  have f1 : IntKind.i64.wrap ((T : Int) * (q : Int)) = (tq : Int) := i64_eq (by rw [htq]; simp) (by omega)
  have hq1 : q ≤ 1 := by rw [hq]; exact q_small hN hbig
  obtain ⟨q1, hq1e⟩ : ∃ q1, q1 = q + 1 := ⟨_, rfl⟩
  rw [← hq1e] at k2
  obtain ⟨tr, htr⟩ : ∃ tr, tr = T * q1 := ⟨_, rfl⟩
  rw [← htr] at k2
  have k6 : tr ≤ 2199023255552 := by rw [htr]; exact tr_small hT (by omega)
  have f2 : IntKind.i64.wrap ((q : Int) + 1) = (q1 : Int) := i64_eq (by omega) (by omega)
  have f3 : IntKind.i64.wrap ((T : Int) * (q1 : Int)) = (tr : Int) := i64_eq (by rw [htr]; simp) (by omega)
  have f4 : decide ((4611686018427387904 : Int) < (D : Int)) = true := by rw [decide_eq_true_iff]; omega
  have f5 : decide (tq ≤ v) = true := by rw [decide_eq_true_iff]; omega
  have f6 : decide (v ≤ tr) = true := by rw [decide_eq_true_iff]; omega
  clear hq1 hq1e htr k6
  have HBI := Lib.hid (And.intro hbig hok)
  clear hq hl hqb hT hN hD hc hV k1 k2 k3 k4 k5 hv htq hbig hok
  go_enter Try.func8, Try.ntmps8
  go_wp2_with fail
  refine (awake_any _).mono ?_
  rintro e w1 ⟨rfl, hb1⟩
  obtain ⟨c1, c2⟩ := box_cells hb1
  have HB1 := Lib.hid (bt ((Below.refl _ _).alloc (Nat.le_refl _) _) hb1)
  have hlt := Lib.hid (show w.heap.size < w1.heap.size from Nat.lt_of_lt_of_le (by simp) hb1.size)
  clear hb1
  obtain ⟨b, hb⟩ : ∃ b, b = w.heap.size := ⟨_, rfl⟩
  rw [← hb] at c1 c2 hlt ⊢
  have HX := Lib.hid hb
  clear hb
  go_wp2_with fail
  refine (HO.out _).mono ?_
  rintro e w2 ⟨rfl, hb2⟩
  rw [← hb2.cell (p := ⟨b, 0, none⟩) hlt.out] at c1
  rw [← hb2.cell (p := ⟨b, 1, none⟩) hlt.out] at c2
  have HB2 := Lib.hid (bt HB1.out hb2)
  have hlt2 := Lib.hid (Nat.lt_of_lt_of_le hlt.out hb2.size)
  clear hb2
  go_wp2_with fail
  refine (HI.out _).mono ?_
  rintro e w3 ⟨rfl, hb3⟩
  rw [← hb3.cell (p := ⟨b, 0, none⟩) hlt2.out] at c1
  rw [← hb3.cell (p := ⟨b, 1, none⟩) hlt2.out] at c2
  have HB3 := Lib.hid (bt HB2.out hb3)
  clear hb3
  go_wp2_with fail
  go_quiet (fail)
  go_wp2
  go_ret
  exact ⟨rfl, below_drewN HB3.out nq⟩
set_option maxHeartbeats 4000000 in
theorem c100 (T N D q l : Nat) (w : World) (hT : T ≤ 1099511627776) (hN : N < 9223372036854775808) (hD0 : 1 ≤ D) (hD : D < 9223372036854775808) (hq : q = N / D) (hl : l = N % D)
    (hc : ¬ (0 < T ∧ 1099511627776 / T < q)) (hT0 : 0 < T) (hbig : D ≤ 4611686018427387904) (hok : ¬ T * N / D ≤ 1099511627776) :
    Calls Try.prog 8 #[.int .i64 (T : Int), .agg #[.int .i64 (N : Int), .int .i64 (D : Int)]] w fun e w' => e = .returned (.bool true) ∧ Below w.heap.size w w' := by
  have HO := Lib.hid (fun w => of_ok T N D w hT hN hD0 hD)
  have hV : ofV T N D = .tuple #[.int .i64 0, .bool false] := by unfold ofV; rw [if_neg hok]
  rw [hV] at HO
  have HI := Lib.hid (fun w => may_any N D w _ rfl)
  rw [decide_eq_true (show 0 ≤ (N : Int) ∧ 1 ≤ (D : Int) from ⟨by omega, by omega⟩)] at HI
  have d1 : decide ((T : Int) < 0) = false := by rw [decide_eq_false_iff_not]; omega
  have d2 : decide (1099511627776 < (T : Int)) = false := by rw [decide_eq_false_iff_not]; omega
  have hqb : q < 9223372036854775808 := by rw [hq]; exact Nat.lt_of_le_of_lt (Nat.div_le_self _ _) hN
  have e1 : (N : Int).tdiv (D : Int) = (q : Int) := by rw [hq]; exact (Int.ofNat_tdiv N D).symm
  have e1b : (N : Int) / (D : Int) = (q : Int) := by rw [hq]; exact (Int.natCast_ediv N D).symm
  have e2 : (N : Int).tmod (D : Int) = (l : Int) := by rw [hl]; exact (Int.ofNat_tmod N D).symm
  have e2b : (N : Int) % (D : Int) = (l : Int) := by rw [hl]; exact (Int.natCast_emod N D).symm
  have e3 : IntKind.i64.wrap (q : Int) = (q : Int) := IntWalk.i64_in _ (by omega)
  have g0 : decide (0 < (T : Int)) = true := by rw [decide_eq_true_iff]; omega
  obtain ⟨m, hm⟩ : ∃ m, m = 1099511627776 / T := ⟨_, rfl⟩
  have g1 : (1099511627776 : Int).tdiv (T : Int) = (m : Int) := by rw [hm]; exact (Int.ofNat_tdiv 1099511627776 T).symm
  have g1b : (1099511627776 : Int) / (T : Int) = (m : Int) := by rw [hm]; exact (Int.natCast_ediv 1099511627776 T).symm
  have g2 : IntKind.i64.wrap (m : Int) = (m : Int) := IntWalk.i64_in _ (by have := Nat.div_le_self 1099511627776 T; omega)
  have g3 : decide (m < q) = false := by rw [decide_eq_false_iff_not, hm]; exact fun h => hc ⟨hT0, h⟩
  have k1 := kn hq hT (fun h1 h2 => hc ⟨h1, h2⟩)
  have k2 := ku (T := T) hD0 hq
  have k3 := whole_le (T := T) (N := N) hD0
  have k4 := split_div T N D hD0
  have k5 := part_le T N D hD0
  rw [← hq] at k3 k4
  rw [← hl] at k4 k5
  obtain ⟨v, hv⟩ : ∃ v, v = T * N / D := ⟨_, rfl⟩
  rw [← hv] at k2 k3 k4 hok
  obtain ⟨tq, htq⟩ : ∃ tq, tq = T * q := ⟨_, rfl⟩
  rw [← htq] at k1 k3 k4
  have f1 : IntKind.i64.wrap ((T : Int) * (q : Int)) = (tq : Int) := i64_eq (by rw [htq]; simp) (by omega)
  have f4 : decide ((4611686018427387904 : Int) < (D : Int)) = false := by rw [decide_eq_false_iff_not]; omega
  have hlb : l < 9223372036854775808 := by rw [hl]; exact Nat.lt_of_le_of_lt (Nat.mod_le _ _) hN
  have HTM := Lib.hid (fun w => times_any T l D (by omega) hlb (by omega) hbig (by omega) w)
  obtain ⟨pt, hpt⟩ : ∃ pt, pt = T * l / D := ⟨_, rfl⟩
  obtain ⟨pr, hpr⟩ : ∃ pr, pr = T * l % D := ⟨_, rfl⟩
  rw [← hpt, ← hpr] at HTM
  rw [← hpt] at k4 k5
  have f2 : IntKind.i64.wrap ((tq : Int) + (pt : Int)) = (v : Int) := i64_eq (by omega) (by omega)
  have f5 : decide ((1099511627776 : Int) < (v : Int)) = true := by rw [decide_eq_true_iff]; omega
  clear hpt hpr hlb
  have HBI := Lib.hid (And.intro hbig hok)
  clear hq hl hqb hT hN hD hc hV k1 k2 k3 k4 k5 hv htq hbig hok hm
  go_enter Try.func8, Try.ntmps8
  go_wp2_with fail
  refine (awake_any _).mono ?_
  rintro e w1 ⟨rfl, hb1⟩
  obtain ⟨c1, c2⟩ := box_cells hb1
  have HB1 := Lib.hid (bt ((Below.refl _ _).alloc (Nat.le_refl _) _) hb1)
  have hlt := Lib.hid (show w.heap.size < w1.heap.size from Nat.lt_of_lt_of_le (by simp) hb1.size)
  clear hb1
  obtain ⟨b, hb⟩ : ∃ b, b = w.heap.size := ⟨_, rfl⟩
  rw [← hb] at c1 c2 hlt ⊢
  have HX := Lib.hid hb
  clear hb
  go_wp2_with fail
  refine (HO.out _).mono ?_
  rintro e w2 ⟨rfl, hb2⟩
  rw [← hb2.cell (p := ⟨b, 0, none⟩) hlt.out] at c1
  rw [← hb2.cell (p := ⟨b, 1, none⟩) hlt.out] at c2
  have HB2 := Lib.hid (bt HB1.out hb2)
  have hlt2 := Lib.hid (Nat.lt_of_lt_of_le hlt.out hb2.size)
  clear hb2
  go_wp2_with fail
  refine (HI.out _).mono ?_
  rintro e w3 ⟨rfl, hb3⟩
  rw [← hb3.cell (p := ⟨b, 0, none⟩) hlt2.out] at c1
  rw [← hb3.cell (p := ⟨b, 1, none⟩) hlt2.out] at c2
  have HB3 := Lib.hid (bt HB2.out hb3)
  clear hb3
  go_wp2_with fail
  go_quiet (fail)
  go_wp2_with fail
  refine (HTM.out _).mono ?_
  rintro e w4 ⟨rfl, rfl⟩
  go_wp2
  go_ret
  exact ⟨rfl, below_drewN HB3.out nq⟩
set_option maxHeartbeats 4000000 in
theorem c101 (T N D q l : Nat) (w : World) (hT : T ≤ 1099511627776) (hN : N < 9223372036854775808) (hD0 : 1 ≤ D) (hD : D < 9223372036854775808) (hq : q = N / D) (hl : l = N % D)
    (hc : ¬ (0 < T ∧ 1099511627776 / T < q)) (hT0 : 0 < T) (hbig : D ≤ 4611686018427387904) (hok : T * N / D ≤ 1099511627776) :
    Calls Try.prog 8 #[.int .i64 (T : Int), .agg #[.int .i64 (N : Int), .int .i64 (D : Int)]] w fun e w' => e = .returned (.bool true) ∧ Below w.heap.size w w' := by
  have HO := Lib.hid (fun w => of_ok T N D w hT hN hD0 hD)
  have hV : ofV T N D = .tuple #[.int .i64 ((T * N / D : Nat) : Int), .bool true] := by unfold ofV; rw [if_pos hok]
  rw [hV] at HO
  have HI := Lib.hid (fun w => may_any N D w _ rfl)
  rw [decide_eq_true (show 0 ≤ (N : Int) ∧ 1 ≤ (D : Int) from ⟨by omega, by omega⟩)] at HI
  have d1 : decide ((T : Int) < 0) = false := by rw [decide_eq_false_iff_not]; omega
  have d2 : decide (1099511627776 < (T : Int)) = false := by rw [decide_eq_false_iff_not]; omega
  have hqb : q < 9223372036854775808 := by rw [hq]; exact Nat.lt_of_le_of_lt (Nat.div_le_self _ _) hN
  have e1 : (N : Int).tdiv (D : Int) = (q : Int) := by rw [hq]; exact (Int.ofNat_tdiv N D).symm
  have e1b : (N : Int) / (D : Int) = (q : Int) := by rw [hq]; exact (Int.natCast_ediv N D).symm
  have e2 : (N : Int).tmod (D : Int) = (l : Int) := by rw [hl]; exact (Int.ofNat_tmod N D).symm
  have e2b : (N : Int) % (D : Int) = (l : Int) := by rw [hl]; exact (Int.natCast_emod N D).symm
  have e3 : IntKind.i64.wrap (q : Int) = (q : Int) := IntWalk.i64_in _ (by omega)
  have g0 : decide (0 < (T : Int)) = true := by rw [decide_eq_true_iff]; omega
  obtain ⟨m, hm⟩ : ∃ m, m = 1099511627776 / T := ⟨_, rfl⟩
  have g1 : (1099511627776 : Int).tdiv (T : Int) = (m : Int) := by rw [hm]; exact (Int.ofNat_tdiv 1099511627776 T).symm
  have g1b : (1099511627776 : Int) / (T : Int) = (m : Int) := by rw [hm]; exact (Int.natCast_ediv 1099511627776 T).symm
  have g2 : IntKind.i64.wrap (m : Int) = (m : Int) := IntWalk.i64_in _ (by have := Nat.div_le_self 1099511627776 T; omega)
  have g3 : decide (m < q) = false := by rw [decide_eq_false_iff_not, hm]; exact fun h => hc ⟨hT0, h⟩
  have k1 := kn hq hT (fun h1 h2 => hc ⟨h1, h2⟩)
  have k2 := ku (T := T) hD0 hq
  have k3 := whole_le (T := T) (N := N) hD0
  have k4 := split_div T N D hD0
  have k5 := part_le T N D hD0
  rw [← hq] at k3 k4
  rw [← hl] at k4 k5
  obtain ⟨v, hv⟩ : ∃ v, v = T * N / D := ⟨_, rfl⟩
  rw [← hv] at HO k2 k3 k4 hok
  obtain ⟨tq, htq⟩ : ∃ tq, tq = T * q := ⟨_, rfl⟩
  rw [← htq] at k1 k3 k4
  have f1 : IntKind.i64.wrap ((T : Int) * (q : Int)) = (tq : Int) := i64_eq (by rw [htq]; simp) (by omega)
  have f4 : decide ((4611686018427387904 : Int) < (D : Int)) = false := by rw [decide_eq_false_iff_not]; omega
  have hlb : l < 9223372036854775808 := by rw [hl]; exact Nat.lt_of_le_of_lt (Nat.mod_le _ _) hN
  have HTM := Lib.hid (fun w => times_any T l D (by omega) hlb (by omega) hbig (by omega) w)
  obtain ⟨pt, hpt⟩ : ∃ pt, pt = T * l / D := ⟨_, rfl⟩
  obtain ⟨pr, hpr⟩ : ∃ pr, pr = T * l % D := ⟨_, rfl⟩
  rw [← hpt, ← hpr] at HTM
  rw [← hpt] at k4 k5
  have f2 : IntKind.i64.wrap ((tq : Int) + (pt : Int)) = (v : Int) := i64_eq (by omega) (by omega)
  have f5 : decide ((1099511627776 : Int) < (v : Int)) = false := by rw [decide_eq_false_iff_not]; omega
  clear hpt hpr hlb
  have HBI := Lib.hid (And.intro hbig hok)
  clear hq hl hqb hT hN hD hc hV k1 k2 k3 k4 k5 hv htq hbig hok hm
  go_enter Try.func8, Try.ntmps8
  go_wp2_with fail
  refine (awake_any _).mono ?_
  rintro e w1 ⟨rfl, hb1⟩
  obtain ⟨c1, c2⟩ := box_cells hb1
  have HB1 := Lib.hid (bt ((Below.refl _ _).alloc (Nat.le_refl _) _) hb1)
  have hlt := Lib.hid (show w.heap.size < w1.heap.size from Nat.lt_of_lt_of_le (by simp) hb1.size)
  clear hb1
  obtain ⟨b, hb⟩ : ∃ b, b = w.heap.size := ⟨_, rfl⟩
  rw [← hb] at c1 c2 hlt ⊢
  have HX := Lib.hid hb
  clear hb
  go_wp2_with fail
  refine (HO.out _).mono ?_
  rintro e w2 ⟨rfl, hb2⟩
  rw [← hb2.cell (p := ⟨b, 0, none⟩) hlt.out] at c1
  rw [← hb2.cell (p := ⟨b, 1, none⟩) hlt.out] at c2
  have HB2 := Lib.hid (bt HB1.out hb2)
  have hlt2 := Lib.hid (Nat.lt_of_lt_of_le hlt.out hb2.size)
  clear hb2
  go_wp2_with fail
  refine (HI.out _).mono ?_
  rintro e w3 ⟨rfl, hb3⟩
  rw [← hb3.cell (p := ⟨b, 0, none⟩) hlt2.out] at c1
  rw [← hb3.cell (p := ⟨b, 1, none⟩) hlt2.out] at c2
  have HB3 := Lib.hid (bt HB2.out hb3)
  clear hb3
  go_wp2_with fail
  go_quiet (fail)
  go_wp2_with fail
  refine (HTM.out _).mono ?_
  rintro e w4 ⟨rfl, rfl⟩
  go_wp2
  go_ret
  exact ⟨rfl, below_drewN HB3.out nq⟩
set_option maxHeartbeats 4000000 in
theorem c110 (T N D q l : Nat) (w : World) (hT : T ≤ 1099511627776) (hN : N < 9223372036854775808) (hD0 : 1 ≤ D) (hD : D < 9223372036854775808) (hq : q = N / D) (hl : l = N % D)
    (hc : ¬ (0 < T ∧ 1099511627776 / T < q)) (hT0 : 0 < T) (hbig : 4611686018427387904 < D) (hok : ¬ T * N / D ≤ 1099511627776) :
    Calls Try.prog 8 #[.int .i64 (T : Int), .agg #[.int .i64 (N : Int), .int .i64 (D : Int)]] w fun e w' => e = .returned (.bool true) ∧ Below w.heap.size w w' := by
  have HO := Lib.hid (fun w => of_ok T N D w hT hN hD0 hD)
  have hV : ofV T N D = .tuple #[.int .i64 0, .bool false] := by unfold ofV; rw [if_neg hok]
  rw [hV] at HO
  have HI := Lib.hid (fun w => may_any N D w _ rfl)
  rw [decide_eq_true (show 0 ≤ (N : Int) ∧ 1 ≤ (D : Int) from ⟨by omega, by omega⟩)] at HI
  have d1 : decide ((T : Int) < 0) = false := by rw [decide_eq_false_iff_not]; omega
  have d2 : decide (1099511627776 < (T : Int)) = false := by rw [decide_eq_false_iff_not]; omega
  have hqb : q < 9223372036854775808 := by rw [hq]; exact Nat.lt_of_le_of_lt (Nat.div_le_self _ _) hN
  have e1 : (N : Int).tdiv (D : Int) = (q : Int) := by rw [hq]; exact (Int.ofNat_tdiv N D).symm
  have e1b : (N : Int) / (D : Int) = (q : Int) := by rw [hq]; exact (Int.natCast_ediv N D).symm
  have e2 : (N : Int).tmod (D : Int) = (l : Int) := by rw [hl]; exact (Int.ofNat_tmod N D).symm
  have e2b : (N : Int) % (D : Int) = (l : Int) := by rw [hl]; exact (Int.natCast_emod N D).symm
  have e3 : IntKind.i64.wrap (q : Int) = (q : Int) := IntWalk.i64_in _ (by omega)
  have g0 : decide (0 < (T : Int)) = true := by rw [decide_eq_true_iff]; omega
  obtain ⟨m, hm⟩ : ∃ m, m = 1099511627776 / T := ⟨_, rfl⟩
  have g1 : (1099511627776 : Int).tdiv (T : Int) = (m : Int) := by rw [hm]; exact (Int.ofNat_tdiv 1099511627776 T).symm
  have g1b : (1099511627776 : Int) / (T : Int) = (m : Int) := by rw [hm]; exact (Int.natCast_ediv 1099511627776 T).symm
  have g2 : IntKind.i64.wrap (m : Int) = (m : Int) := IntWalk.i64_in _ (by have := Nat.div_le_self 1099511627776 T; omega)
  have g3 : decide (m < q) = false := by rw [decide_eq_false_iff_not, hm]; exact fun h => hc ⟨hT0, h⟩
  have k1 := kn hq hT (fun h1 h2 => hc ⟨h1, h2⟩)
  have k2 := ku (T := T) hD0 hq
  have k3 := whole_le (T := T) (N := N) hD0
  have k4 := split_div T N D hD0
  have k5 := part_le T N D hD0
  rw [← hq] at k3 k4
  rw [← hl] at k4 k5
  obtain ⟨v, hv⟩ : ∃ v, v = T * N / D := ⟨_, rfl⟩
  rw [← hv] at k2 k3 k4 hok
  obtain ⟨tq, htq⟩ : ∃ tq, tq = T * q := ⟨_, rfl⟩
  rw [← htq] at k1 k3 k4
  have f1 : IntKind.i64.wrap ((T : Int) * (q : Int)) = (tq : Int) := i64_eq (by rw [htq]; simp) (by omega)
  have hq1 : q ≤ 1 := by rw [hq]; exact q_small hN hbig
  obtain ⟨q1, hq1e⟩ : ∃ q1, q1 = q + 1 := ⟨_, rfl⟩
  rw [← hq1e] at k2
  obtain ⟨tr, htr⟩ : ∃ tr, tr = T * q1 := ⟨_, rfl⟩
  rw [← htr] at k2
  have k6 : tr ≤ 2199023255552 := by rw [htr]; exact tr_small hT (by omega)
  have f2 : IntKind.i64.wrap ((q : Int) + 1) = (q1 : Int) := i64_eq (by omega) (by omega)
  have f3 : IntKind.i64.wrap ((T : Int) * (q1 : Int)) = (tr : Int) := i64_eq (by rw [htr]; simp) (by omega)
  have f4 : decide ((4611686018427387904 : Int) < (D : Int)) = true := by rw [decide_eq_true_iff]; omega
  have f5 : decide ((1099511627776 : Int) < (tr : Int)) = true := by rw [decide_eq_true_iff]; omega
  clear hq1 hq1e htr k6
  have HBI := Lib.hid (And.intro hbig hok)
  clear hq hl hqb hT hN hD hc hV k1 k2 k3 k4 k5 hv htq hbig hok hm
  go_enter Try.func8, Try.ntmps8
  go_wp2_with fail
  refine (awake_any _).mono ?_
  rintro e w1 ⟨rfl, hb1⟩
  obtain ⟨c1, c2⟩ := box_cells hb1
  have HB1 := Lib.hid (bt ((Below.refl _ _).alloc (Nat.le_refl _) _) hb1)
  have hlt := Lib.hid (show w.heap.size < w1.heap.size from Nat.lt_of_lt_of_le (by simp) hb1.size)
  clear hb1
  obtain ⟨b, hb⟩ : ∃ b, b = w.heap.size := ⟨_, rfl⟩
  rw [← hb] at c1 c2 hlt ⊢
  have HX := Lib.hid hb
  clear hb
  go_wp2_with fail
  refine (HO.out _).mono ?_
  rintro e w2 ⟨rfl, hb2⟩
  rw [← hb2.cell (p := ⟨b, 0, none⟩) hlt.out] at c1
  rw [← hb2.cell (p := ⟨b, 1, none⟩) hlt.out] at c2
  have HB2 := Lib.hid (bt HB1.out hb2)
  have hlt2 := Lib.hid (Nat.lt_of_lt_of_le hlt.out hb2.size)
  clear hb2
  go_wp2_with fail
  refine (HI.out _).mono ?_
  rintro e w3 ⟨rfl, hb3⟩
  rw [← hb3.cell (p := ⟨b, 0, none⟩) hlt2.out] at c1
  rw [← hb3.cell (p := ⟨b, 1, none⟩) hlt2.out] at c2
  have HB3 := Lib.hid (bt HB2.out hb3)
  clear hb3
  go_wp2_with fail
  go_quiet (fail)
  go_wp2
  go_ret
  exact ⟨rfl, below_drewN HB3.out nq⟩
set_option maxHeartbeats 4000000 in
theorem c111 (T N D q l : Nat) (w : World) (hT : T ≤ 1099511627776) (hN : N < 9223372036854775808) (hD0 : 1 ≤ D) (hD : D < 9223372036854775808) (hq : q = N / D) (hl : l = N % D)
    (hc : ¬ (0 < T ∧ 1099511627776 / T < q)) (hT0 : 0 < T) (hbig : 4611686018427387904 < D) (hok : T * N / D ≤ 1099511627776) :
    Calls Try.prog 8 #[.int .i64 (T : Int), .agg #[.int .i64 (N : Int), .int .i64 (D : Int)]] w fun e w' => e = .returned (.bool true) ∧ Below w.heap.size w w' := by
  have HO := Lib.hid (fun w => of_ok T N D w hT hN hD0 hD)
  have hV : ofV T N D = .tuple #[.int .i64 ((T * N / D : Nat) : Int), .bool true] := by unfold ofV; rw [if_pos hok]
  rw [hV] at HO
  have HI := Lib.hid (fun w => may_any N D w _ rfl)
  rw [decide_eq_true (show 0 ≤ (N : Int) ∧ 1 ≤ (D : Int) from ⟨by omega, by omega⟩)] at HI
  have d1 : decide ((T : Int) < 0) = false := by rw [decide_eq_false_iff_not]; omega
  have d2 : decide (1099511627776 < (T : Int)) = false := by rw [decide_eq_false_iff_not]; omega
  have hqb : q < 9223372036854775808 := by rw [hq]; exact Nat.lt_of_le_of_lt (Nat.div_le_self _ _) hN
  have e1 : (N : Int).tdiv (D : Int) = (q : Int) := by rw [hq]; exact (Int.ofNat_tdiv N D).symm
  have e1b : (N : Int) / (D : Int) = (q : Int) := by rw [hq]; exact (Int.natCast_ediv N D).symm
  have e2 : (N : Int).tmod (D : Int) = (l : Int) := by rw [hl]; exact (Int.ofNat_tmod N D).symm
  have e2b : (N : Int) % (D : Int) = (l : Int) := by rw [hl]; exact (Int.natCast_emod N D).symm
  have e3 : IntKind.i64.wrap (q : Int) = (q : Int) := IntWalk.i64_in _ (by omega)
  have g0 : decide (0 < (T : Int)) = true := by rw [decide_eq_true_iff]; omega
  obtain ⟨m, hm⟩ : ∃ m, m = 1099511627776 / T := ⟨_, rfl⟩
  have g1 : (1099511627776 : Int).tdiv (T : Int) = (m : Int) := by rw [hm]; exact (Int.ofNat_tdiv 1099511627776 T).symm
  have g1b : (1099511627776 : Int) / (T : Int) = (m : Int) := by rw [hm]; exact (Int.natCast_ediv 1099511627776 T).symm
  have g2 : IntKind.i64.wrap (m : Int) = (m : Int) := IntWalk.i64_in _ (by have := Nat.div_le_self 1099511627776 T; omega)
  have g3 : decide (m < q) = false := by rw [decide_eq_false_iff_not, hm]; exact fun h => hc ⟨hT0, h⟩
  have k1 := kn hq hT (fun h1 h2 => hc ⟨h1, h2⟩)
  have k2 := ku (T := T) hD0 hq
  have k3 := whole_le (T := T) (N := N) hD0
  have k4 := split_div T N D hD0
  have k5 := part_le T N D hD0
  rw [← hq] at k3 k4
  rw [← hl] at k4 k5
  obtain ⟨v, hv⟩ : ∃ v, v = T * N / D := ⟨_, rfl⟩
  rw [← hv] at HO k2 k3 k4 hok
  obtain ⟨tq, htq⟩ : ∃ tq, tq = T * q := ⟨_, rfl⟩
  rw [← htq] at k1 k3 k4
  have f1 : IntKind.i64.wrap ((T : Int) * (q : Int)) = (tq : Int) := i64_eq (by rw [htq]; simp) (by omega)
  have hq1 : q ≤ 1 := by rw [hq]; exact q_small hN hbig
  obtain ⟨q1, hq1e⟩ : ∃ q1, q1 = q + 1 := ⟨_, rfl⟩
  rw [← hq1e] at k2
  obtain ⟨tr, htr⟩ : ∃ tr, tr = T * q1 := ⟨_, rfl⟩
  rw [← htr] at k2
  have k6 : tr ≤ 2199023255552 := by rw [htr]; exact tr_small hT (by omega)
  have f2 : IntKind.i64.wrap ((q : Int) + 1) = (q1 : Int) := i64_eq (by omega) (by omega)
  have f3 : IntKind.i64.wrap ((T : Int) * (q1 : Int)) = (tr : Int) := i64_eq (by rw [htr]; simp) (by omega)
  have f4 : decide ((4611686018427387904 : Int) < (D : Int)) = true := by rw [decide_eq_true_iff]; omega
  have f5 : decide (tq ≤ v) = true := by rw [decide_eq_true_iff]; omega
  have f6 : decide (v ≤ tr) = true := by rw [decide_eq_true_iff]; omega
  clear hq1 hq1e htr k6
  have HBI := Lib.hid (And.intro hbig hok)
  clear hq hl hqb hT hN hD hc hV k1 k2 k3 k4 k5 hv htq hbig hok hm
  go_enter Try.func8, Try.ntmps8
  go_wp2_with fail
  refine (awake_any _).mono ?_
  rintro e w1 ⟨rfl, hb1⟩
  obtain ⟨c1, c2⟩ := box_cells hb1
  have HB1 := Lib.hid (bt ((Below.refl _ _).alloc (Nat.le_refl _) _) hb1)
  have hlt := Lib.hid (show w.heap.size < w1.heap.size from Nat.lt_of_lt_of_le (by simp) hb1.size)
  clear hb1
  obtain ⟨b, hb⟩ : ∃ b, b = w.heap.size := ⟨_, rfl⟩
  rw [← hb] at c1 c2 hlt ⊢
  have HX := Lib.hid hb
  clear hb
  go_wp2_with fail
  refine (HO.out _).mono ?_
  rintro e w2 ⟨rfl, hb2⟩
  rw [← hb2.cell (p := ⟨b, 0, none⟩) hlt.out] at c1
  rw [← hb2.cell (p := ⟨b, 1, none⟩) hlt.out] at c2
  have HB2 := Lib.hid (bt HB1.out hb2)
  have hlt2 := Lib.hid (Nat.lt_of_lt_of_le hlt.out hb2.size)
  clear hb2
  go_wp2_with fail
  refine (HI.out _).mono ?_
  rintro e w3 ⟨rfl, hb3⟩
  rw [← hb3.cell (p := ⟨b, 0, none⟩) hlt2.out] at c1
  rw [← hb3.cell (p := ⟨b, 1, none⟩) hlt2.out] at c2
  have HB3 := Lib.hid (bt HB2.out hb3)
  clear hb3
  go_wp2_with fail
  go_quiet (fail)
  go_wp2
  go_ret
  exact ⟨rfl, below_drewN HB3.out nq⟩
set_option maxHeartbeats 4000000 in
theorem core (T N D : Nat) (w : World) (hT : T ≤ 1099511627776) (hN : N < 9223372036854775808) (hD0 : 1 ≤ D) (hD : D < 9223372036854775808) :
    Calls Try.prog 8 #[.int .i64 (T : Int), .agg #[.int .i64 (N : Int), .int .i64 (D : Int)]] w fun e w' => e = .returned (.bool true) ∧ Below w.heap.size w w' := by
  have HO := Lib.hid (fun w => of_ok T N D w hT hN hD0 hD)
  have HI := Lib.hid (fun w => may_any N D w _ rfl)
  rw [decide_eq_true (show 0 ≤ (N : Int) ∧ 1 ≤ (D : Int) from ⟨by omega, by omega⟩)] at HI
  have d1 : decide ((T : Int) < 0) = false := by rw [decide_eq_false_iff_not]; omega
  have d2 : decide (1099511627776 < (T : Int)) = false := by rw [decide_eq_false_iff_not]; omega
  obtain ⟨q, hq⟩ : ∃ q, q = N / D := ⟨_, rfl⟩
  obtain ⟨l, hl⟩ : ∃ l, l = N % D := ⟨_, rfl⟩
  have hqb : q < 9223372036854775808 := by rw [hq]; exact Nat.lt_of_le_of_lt (Nat.div_le_self _ _) hN
  have e0 : ((D : Int) == 0) = false := by rw [beq_eq_false_iff_ne]; omega
  have e0b : ((D : Int) = 0) = False := by simp; omega
  have e1 : (N : Int).tdiv (D : Int) = (q : Int) := by rw [hq]; exact (Int.ofNat_tdiv N D).symm
  have e1b : (N : Int) / (D : Int) = (q : Int) := by rw [hq]; exact (Int.natCast_ediv N D).symm
  have e2 : (N : Int).tmod (D : Int) = (l : Int) := by rw [hl]; exact (Int.ofNat_tmod N D).symm
  have e2b : (N : Int) % (D : Int) = (l : Int) := by rw [hl]; exact (Int.natCast_emod N D).symm
  have e3 : IntKind.i64.wrap (q : Int) = (q : Int) := IntWalk.i64_in _ (by omega)
  have HQ := Lib.hid hq
  have HL := Lib.hid hl
  have HB := Lib.hid (And.intro hT (And.intro hN (And.intro hD0 hD)))
  clear hq hl hqb hT hN hD
  by_cases hc : 0 < T ∧ 1099511627776 / T < q
  · have hV := kw HB.out.2.2.1 HQ.out hc.1 hc.2
    rw [hV] at HO
    obtain ⟨m, hm⟩ : ∃ m, m = 1099511627776 / T := ⟨_, rfl⟩
    have g0 : decide (0 < (T : Int)) = true := by rw [decide_eq_true_iff]; omega
    have g1 : (1099511627776 : Int).tdiv (T : Int) = (m : Int) := by rw [hm]; exact (Int.ofNat_tdiv 1099511627776 T).symm
    have g1b : (1099511627776 : Int) / (T : Int) = (m : Int) := by rw [hm]; exact (Int.natCast_ediv 1099511627776 T).symm
    have g2 : IntKind.i64.wrap (m : Int) = (m : Int) := IntWalk.i64_in _ (by have := Nat.div_le_self 1099511627776 T; omega)
    have g3 : decide (m < q) = true := by rw [decide_eq_true_iff, hm]; exact hc.2
    have g4 : ((T : Int) == 0) = false := by rw [beq_eq_false_iff_ne]; omega
    have g4b : ((T : Int) = 0) = False := by simp; omega
    have hT0 := hc.1
    clear hc hV hm
    go_enter Try.func8, Try.ntmps8
    go_wp2_with fail
    refine (awake_any _).mono ?_
    rintro e w1 ⟨rfl, hb1⟩
    obtain ⟨c1, c2⟩ := box_cells hb1
    have HB1 := Lib.hid (bt ((Below.refl _ _).alloc (Nat.le_refl _) _) hb1)
    have hlt := Lib.hid (show w.heap.size < w1.heap.size from Nat.lt_of_lt_of_le (by simp) hb1.size)
    clear hb1
    obtain ⟨b, hb⟩ : ∃ b, b = w.heap.size := ⟨_, rfl⟩
    rw [← hb] at c1 c2 hlt ⊢
    have HX := Lib.hid hb
    clear hb
    go_wp2_with fail
    refine (HO.out _).mono ?_
    rintro e w2 ⟨rfl, hb2⟩
    rw [← hb2.cell (p := ⟨b, 0, none⟩) hlt.out] at c1
    rw [← hb2.cell (p := ⟨b, 1, none⟩) hlt.out] at c2
    have HB2 := Lib.hid (bt HB1.out hb2)
    have hlt2 := Lib.hid (Nat.lt_of_lt_of_le hlt.out hb2.size)
    clear hb2
    go_wp2_with fail
    refine (HI.out _).mono ?_
    rintro e w3 ⟨rfl, hb3⟩
    rw [← hb3.cell (p := ⟨b, 0, none⟩) hlt2.out] at c1
    rw [← hb3.cell (p := ⟨b, 1, none⟩) hlt2.out] at c2
    have HB3 := Lib.hid (bt HB2.out hb3)
    clear hb3
    go_wp2_with fail
    go_quiet (fail)
    go_wp2
    go_ret
    exact ⟨rfl, below_drewN HB3.out nq⟩
  · by_cases hT0 : 0 < T
    · by_cases hbig : 4611686018427387904 < D
      · by_cases hok : T * N / D ≤ 1099511627776
        · exact c111 T N D q l w HB.out.1 HB.out.2.1 HB.out.2.2.1 HB.out.2.2.2 HQ.out HL.out hc hT0 hbig hok
        · exact c110 T N D q l w HB.out.1 HB.out.2.1 HB.out.2.2.1 HB.out.2.2.2 HQ.out HL.out hc hT0 hbig hok
      · by_cases hok : T * N / D ≤ 1099511627776
        · exact c101 T N D q l w HB.out.1 HB.out.2.1 HB.out.2.2.1 HB.out.2.2.2 HQ.out HL.out hc hT0 (by omega) hok
        · exact c100 T N D q l w HB.out.1 HB.out.2.1 HB.out.2.2.1 HB.out.2.2.2 HQ.out HL.out hc hT0 (by omega) hok
    · by_cases hbig : 4611686018427387904 < D
      · by_cases hok : T * N / D ≤ 1099511627776
        · exact c011 T N D q l w HB.out.1 HB.out.2.1 HB.out.2.2.1 HB.out.2.2.2 HQ.out HL.out hc hT0 hbig hok
        · exact c010 T N D q l w HB.out.1 HB.out.2.1 HB.out.2.2.1 HB.out.2.2.2 HQ.out HL.out hc hT0 hbig hok
      · by_cases hok : T * N / D ≤ 1099511627776
        · exact c001 T N D q l w HB.out.1 HB.out.2.1 HB.out.2.2.1 HB.out.2.2.2 HQ.out HL.out hc hT0 (by omega) hok
        · exact c000 T N D q l w HB.out.1 HB.out.2.1 HB.out.2.2.1 HB.out.2.2.2 HQ.out HL.out hc hT0 (by omega) hok

theorem walk (a0 : Int) (v1 : Value) (w : World) (w0 : (Lit.int .i64 a0).wf = true) (w1 : Is38 w v1) :
    Calls Try.prog 8 #[.int .i64 a0, v1] w fun e w' => e = .returned (.bool true) ∧ Below w.heap.size w w' := by
  obtain ⟨N, D, rfl, h1, h2⟩ := w1
  by_cases h : 0 ≤ N ∧ 1 ≤ D ∧ 0 ≤ a0 ∧ a0 ≤ 1099511627776
  · have hN : N < 9223372036854775808 := by simp [Lit.wf, IntKind.min, IntKind.max, IntKind.bits, IntKind.signed] at h1; omega
    have hD : D < 9223372036854775808 := by simp [Lit.wf, IntKind.min, IntKind.max, IntKind.bits, IntKind.signed] at h2; omega
    obtain ⟨T, rfl⟩ : ∃ A : Nat, a0 = (A : Int) := ⟨a0.toNat, by omega⟩
    obtain ⟨N, rfl⟩ : ∃ A : Nat, N = (A : Int) := ⟨N.toNat, by omega⟩
    obtain ⟨D, rfl⟩ : ∃ A : Nat, D = (A : Int) := ⟨D.toNat, by omega⟩
    exact core T N D w (by omega) (by omega) (by omega) (by omega)
  · exact bad a0 N D w h
end shareOf
end Go.Proofs.Ytilfkpgdibhecaa
