/-
  ShareAdds: the sum of any two fractions is theirs, reduced, or isn't told.
-/
import Derived.Test.YtilfkpgdibhecaaAdd
import Derived.Test.YtilfkpgdibhecaaOfLaw
namespace Go.Proofs.Ytilfkpgdibhecaa
open Go Go.RowKit
set_option linter.unusedVariables false
set_option linter.unusedSimpArgs false

structure Two (b : Nat) (w : World) (u v : Value) : Prop where
  c1 : w.cell? ⟨b, 0, none⟩ = some u
  c2 : w.cell? ⟨b, 1, none⟩ = some v
  lt : b < w.heap.size
theorem Two.below {b : Nat} {w w' : World} {u v : Value} (h : Two b w u v) (hb : Below w.heap.size w w') : Two b w' u v :=
  ⟨by rw [hb.cell (p := ⟨b, 0, none⟩) h.lt]; exact h.c1, by rw [hb.cell (p := ⟨b, 1, none⟩) h.lt]; exact h.c2, Nat.lt_of_lt_of_le h.lt hb.size⟩
theorem two_new (w : World) (t : TypeId) (u v : Value) : Two w.heap.size (w.alloc (.cells #[u, v] t)) u v :=
  ⟨by unfold World.cell?; rw [heap_alloc_new]; rfl, by unfold World.cell?; rw [heap_alloc_new]; rfl, by simp⟩

namespace shareAdds
set_option maxHeartbeats 4000000 in
theorem coreNo (aN aD bN bD : Int) (m1 m2 : Bool) (w : World) (HA : Hid (∀ w, Calls Try.prog 22 #[.agg #[.int .i64 aN, .int .i64 aD], .agg #[.int .i64 bN, .int .i64 bD]] w fun e w' => e = .returned addNo ∧ Below w.heap.size w w'))
    (HA2 : Hid (∀ w, Calls Try.prog 22 #[.agg #[.int .i64 bN, .int .i64 bD], .agg #[.int .i64 aN, .int .i64 aD]] w fun e w' => e = .returned addNo ∧ Below w.heap.size w w'))
    (HM1 : Hid (∀ w, Calls Try.prog 20 #[.agg #[.int .i64 aN, .int .i64 aD]] w fun e w' => e = .returned (.bool m1) ∧ Below w.heap.size w w'))
    (HM2 : Hid (∀ w, Calls Try.prog 20 #[.agg #[.int .i64 bN, .int .i64 bD]] w fun e w' => e = .returned (.bool m2) ∧ Below w.heap.size w w'))
    (hc : Hid (m1 = true → m2 = true → decide (1073741824 < aN) = false → decide (1073741824 < aD) = false → decide (1073741824 < bN) = false → decide (1073741824 < bD) = true)) :
    Calls Try.prog 10 #[.agg #[.int .i64 aN, .int .i64 aD], .agg #[.int .i64 bN, .int .i64 bD]] w fun e w' => e = .returned (.bool true) ∧ Below w.heap.size w w' := by
  unfold addNo at HA HA2
  go_enter Try.func10, Try.ntmps10
  go_wp2_with fail
  refine (awake_any _).mono ?_
  rintro e w1 ⟨rfl, hb⟩
  have X0 := two_new w 38 (.int .i64 aN) (.int .i64 aD)
  have X1 := (X0.below ((Below.refl _ _).alloc (Nat.le_refl _) (.cells #[.int .i64 bN, .int .i64 bD] 38))).below hb
  have Y0 := two_new (w.alloc (.cells #[.int .i64 aN, .int .i64 aD] 38)) 38 (.int .i64 bN) (.int .i64 bD)
  rw [show (w.alloc (.cells #[.int .i64 aN, .int .i64 aD] 38)).heap.size = w.heap.size + 1 by simp] at Y0
  have Y1 := Y0.below hb
  have HB1 := Lib.hid (bt (((Below.refl w.heap.size w).alloc (Nat.le_refl _) (.cells #[.int .i64 aN, .int .i64 aD] 38)).alloc (by simp) (.cells #[.int .i64 bN, .int .i64 bD] 38)) hb)
  obtain ⟨b, hbb⟩ : ∃ b, b = w.heap.size := ⟨_, rfl⟩
  rw [← hbb] at X1 Y1 ⊢
  have HX1 := Lib.hid X1
  have HY1 := Lib.hid Y1
  obtain ⟨x1, x2, _⟩ := X1
  obtain ⟨y1, y2, _⟩ := Y1
  clear X0 Y0 hb hbb
  go_wp2_with fail
  refine (HA.out _).mono ?_
  rintro e w2 ⟨rfl, hb⟩
  have X2 := HX1.out.below hb
  have Y2 := HY1.out.below hb
  have HX2 := Lib.hid X2
  have HY2 := Lib.hid Y2
  have HB2 := Lib.hid (bt HB1.out hb)
  clear x1 x2 y1 y2 hb
  obtain ⟨x1, x2, _⟩ := X2
  obtain ⟨y1, y2, _⟩ := Y2
  go_wp2_with fail
  refine (HA2.out _).mono ?_
  rintro e w3 ⟨rfl, hb⟩
  have P3 := (two_new w2 38 (.int .i64 0) (.int .i64 0)).below hb
  have hba := (Below.refl w2.heap.size w2).alloc (Nat.le_refl _) (.cells #[.int .i64 0, .int .i64 0] 38)
  have X3 := HX2.out.below (bt hba hb)
  have Y3 := HY2.out.below (bt hba hb)
  have HB3 := Lib.hid (bt HB2.out (bt hba hb))
  obtain ⟨p, hpp⟩ : ∃ p, p = w2.heap.size := ⟨_, rfl⟩
  rw [← hpp] at P3 ⊢
  have HX3 := Lib.hid X3
  have HY3 := Lib.hid Y3
  have HP3 := Lib.hid P3
  clear x1 x2 y1 y2 hb hba hpp
  have hba := (Below.refl w3.heap.size w3).alloc (Nat.le_refl _) (.cells #[.int .i64 0, .int .i64 0] 38)
  have X3' := X3.below hba
  have Y3' := Y3.below hba
  have P3' := P3.below hba
  obtain ⟨x1, x2, _⟩ := X3
  obtain ⟨y1, y2, _⟩ := Y3
  obtain ⟨p1, p2, _⟩ := P3
  obtain ⟨x1', x2', _⟩ := X3'
  obtain ⟨y1', y2', _⟩ := Y3'
  obtain ⟨p1', p2', _⟩ := P3'
  clear hba
  go_wp2_with fail
  refine (HM1.out _).mono ?_
  rintro e w4 ⟨rfl, hb⟩
  have hba := (Below.refl w3.heap.size w3).alloc (Nat.le_refl _) (.cells #[.int .i64 0, .int .i64 0] 38)
  have X4 := HX3.out.below (bt hba hb)
  have Y4 := HY3.out.below (bt hba hb)
  have HB4 := Lib.hid (bt HB3.out (bt hba hb))
  have HX4 := Lib.hid X4
  have HY4 := Lib.hid Y4
  clear x1 x2 y1 y2 hb hba p1 p2 x1' x2' y1' y2' p1' p2'
  obtain ⟨x1, x2, lx⟩ := X4
  obtain ⟨y1, y2, ly⟩ := Y4
  clear lx ly
  cases m1 with
  | false => go_wp2; go_ret; exact ⟨rfl, HB4.out⟩
  | true =>
    go_wp2_with fail
    refine (HM2.out _).mono ?_
    rintro e w5 ⟨rfl, hb⟩
    have X5 := HX4.out.below hb
    have Y5 := HY4.out.below hb
    have HB5 := Lib.hid (bt HB4.out hb)
    clear x1 x2 y1 y2 hb
    obtain ⟨x1, x2, lx⟩ := X5
    obtain ⟨y1, y2, ly⟩ := Y5
    clear lx ly
    cases m2 with
    | false => go_wp2; go_ret; exact ⟨rfl, HB5.out⟩
    | true =>
      cases k1 : decide (1073741824 < aN) with
      | true => go_wp2; go_ret; exact ⟨rfl, HB5.out⟩
      | false =>
        cases k2 : decide (1073741824 < aD) with
        | true => go_wp2; go_ret; exact ⟨rfl, HB5.out⟩
        | false =>
          cases k3 : decide (1073741824 < bN) with
          | true => go_wp2; go_ret; exact ⟨rfl, HB5.out⟩
          | false =>
            have k4 : decide (1073741824 < bD) = true := by first | exact hc.out rfl rfl k1 k2 k3 | exact hc.out trivial trivial k1 k2 k3 | (have := hc.out; simp_all)
            go_wp2; go_ret; exact ⟨rfl, HB5.out⟩
theorem mul_small {a b : Nat} (ha : a ≤ 1048576) (hb : b ≤ 1048576) : a * b ≤ 1099511627776 := Nat.le_trans (Nat.mul_le_mul ha hb) (by decide)
set_option maxHeartbeats 4000000 in
theorem coreYes (aN aD bN bD rn rd : Nat) (w : World) (HA : Hid (∀ w, Calls Try.prog 22 #[.agg #[.int .i64 (aN : Int), .int .i64 (aD : Int)], .agg #[.int .i64 (bN : Int), .int .i64 (bD : Int)]] w fun e w' => e = .returned (.tuple #[.agg #[.int .i64 (rn : Int), .int .i64 (rd : Int)], .bool true]) ∧ Below w.heap.size w w'))
    (HA2 : Hid (∀ w, Calls Try.prog 22 #[.agg #[.int .i64 (bN : Int), .int .i64 (bD : Int)], .agg #[.int .i64 (aN : Int), .int .i64 (aD : Int)]] w fun e w' => e = .returned (.tuple #[.agg #[.int .i64 (rn : Int), .int .i64 (rd : Int)], .bool true]) ∧ Below w.heap.size w w'))
    (HM1 : Hid (∀ w, Calls Try.prog 20 #[.agg #[.int .i64 (aN : Int), .int .i64 (aD : Int)]] w fun e w' => e = .returned (.bool true) ∧ Below w.heap.size w w'))
    (HM2 : Hid (∀ w, Calls Try.prog 20 #[.agg #[.int .i64 (bN : Int), .int .i64 (bD : Int)]] w fun e w' => e = .returned (.bool true) ∧ Below w.heap.size w w'))
    (HD : Hid (∀ w, Calls Try.prog 23 #[.int .i64 (rn : Int), .int .i64 (rd : Int)] w fun e w' => e = .returned (.int .i64 1) ∧ w' = w)) (hrd : 1 ≤ rd) (hAD : 1 ≤ aD) (hBD : 1 ≤ bD)
    (hr1 : Hid (rn = (aN * bD + bN * aD) / Nat.gcd (aN * bD + bN * aD) (aD * bD))) (hr2 : Hid (rd = aD * bD / Nat.gcd (aN * bD + bN * aD) (aD * bD))) :
    Calls Try.prog 10 #[.agg #[.int .i64 (aN : Int), .int .i64 (aD : Int)], .agg #[.int .i64 (bN : Int), .int .i64 (bD : Int)]] w fun e w' => e = .returned (.bool true) ∧ Below w.heap.size w w' := by
  have q1 : decide ((rn : Int) < 0) = false := by rw [decide_eq_false_iff_not]; omega
  have q2 : decide ((rd : Int) < 1) = false := by rw [decide_eq_false_iff_not]; omega
  have HP0 := Lib.hid (And.intro hAD hBD)
  clear hrd hAD hBD
  go_enter Try.func10, Try.ntmps10
  go_wp2_with fail
  refine (awake_any _).mono ?_
  rintro e w1 ⟨rfl, hb⟩
  have X0 := two_new w 38 (.int .i64 (aN : Int)) (.int .i64 (aD : Int))
  have X1 := (X0.below ((Below.refl _ _).alloc (Nat.le_refl _) (.cells #[.int .i64 (bN : Int), .int .i64 (bD : Int)] 38))).below hb
  have Y0 := two_new (w.alloc (.cells #[.int .i64 (aN : Int), .int .i64 (aD : Int)] 38)) 38 (.int .i64 (bN : Int)) (.int .i64 (bD : Int))
  rw [show (w.alloc (.cells #[.int .i64 (aN : Int), .int .i64 (aD : Int)] 38)).heap.size = w.heap.size + 1 by simp] at Y0
  have Y1 := Y0.below hb
  have HB1 := Lib.hid (bt (((Below.refl w.heap.size w).alloc (Nat.le_refl _) (.cells #[.int .i64 (aN : Int), .int .i64 (aD : Int)] 38)).alloc (by simp) (.cells #[.int .i64 (bN : Int), .int .i64 (bD : Int)] 38)) hb)
  obtain ⟨b, hbb⟩ : ∃ b, b = w.heap.size := ⟨_, rfl⟩
  rw [← hbb] at X1 Y1 ⊢
  have HX1 := Lib.hid X1
  have HY1 := Lib.hid Y1
  obtain ⟨x1, x2, _⟩ := X1
  obtain ⟨y1, y2, _⟩ := Y1
  clear X0 Y0 hb hbb
  go_wp2_with fail
  refine (HA.out _).mono ?_
  rintro e w2 ⟨rfl, hb⟩
  have X2 := HX1.out.below hb
  have Y2 := HY1.out.below hb
  have HX2 := Lib.hid X2
  have HY2 := Lib.hid Y2
  have HB2 := Lib.hid (bt HB1.out hb)
  clear x1 x2 y1 y2 hb
  obtain ⟨x1, x2, _⟩ := X2
  obtain ⟨y1, y2, _⟩ := Y2
  go_wp2_with fail
  refine (HA2.out _).mono ?_
  rintro e w3 ⟨rfl, hb⟩
  have P3 := (two_new w2 38 (.int .i64 (rn : Int)) (.int .i64 (rd : Int))).below hb
  have hba := (Below.refl w2.heap.size w2).alloc (Nat.le_refl _) (.cells #[.int .i64 (rn : Int), .int .i64 (rd : Int)] 38)
  have X3 := HX2.out.below (bt hba hb)
  have Y3 := HY2.out.below (bt hba hb)
  have HB3 := Lib.hid (bt HB2.out (bt hba hb))
  obtain ⟨p, hpp⟩ : ∃ p, p = w2.heap.size := ⟨_, rfl⟩
  rw [← hpp] at P3 ⊢
  have HX3 := Lib.hid X3
  have HY3 := Lib.hid Y3
  have HP3 := Lib.hid P3
  clear x1 x2 y1 y2 hb hba hpp
  have hba := (Below.refl w3.heap.size w3).alloc (Nat.le_refl _) (.cells #[.int .i64 (rn : Int), .int .i64 (rd : Int)] 38)
  have X3' := X3.below hba
  have Y3' := Y3.below hba
  have P3' := P3.below hba
  obtain ⟨x1, x2, _⟩ := X3
  obtain ⟨y1, y2, _⟩ := Y3
  obtain ⟨p1, p2, _⟩ := P3
  obtain ⟨x1', x2', _⟩ := X3'
  obtain ⟨y1', y2', _⟩ := Y3'
  obtain ⟨p1', p2', _⟩ := P3'
  clear hba
  go_wp2_with fail
  refine (HM1.out _).mono ?_
  rintro e w4 ⟨rfl, hb⟩
  have hba := (Below.refl w3.heap.size w3).alloc (Nat.le_refl _) (.cells #[.int .i64 (rn : Int), .int .i64 (rd : Int)] 38)
  have X4 := HX3.out.below (bt hba hb)
  have Y4 := HY3.out.below (bt hba hb)
  have P4 := HP3.out.below (bt hba hb)
  have HB4 := Lib.hid (bt HB3.out (bt hba hb))
  have HX4 := Lib.hid X4
  have HY4 := Lib.hid Y4
  have HP4 := Lib.hid P4
  clear x1 x2 y1 y2 hb hba p1 p2 x1' x2' y1' y2' p1' p2'
  obtain ⟨x1, x2, _⟩ := X4
  obtain ⟨y1, y2, _⟩ := Y4
  obtain ⟨p1, p2, _⟩ := P4
  go_wp2_with fail
  refine (HM2.out _).mono ?_
  rintro e w5 ⟨rfl, hb⟩
  have X5 := HX4.out.below hb
  have Y5 := HY4.out.below hb
  have P5 := HP4.out.below hb
  have HB5 := Lib.hid (bt HB4.out hb)
  clear x1 x2 y1 y2 p1 p2 hb
  obtain ⟨x1, x2, _⟩ := X5
  obtain ⟨y1, y2, _⟩ := Y5
  obtain ⟨p1, p2, _⟩ := P5
  go_wp2_with fail
  refine (HD.out _).mono ?_
  rintro e w6 ⟨rfl, rfl⟩
  cases k1 : decide (1048576 < (aN : Int)) with
  | true => go_wp2; go_ret; exact ⟨rfl, HB5.out⟩
  | false =>
    cases k2 : decide (1048576 < (aD : Int)) with
    | true => go_wp2; go_ret; exact ⟨rfl, HB5.out⟩
    | false =>
      cases k3 : decide (1048576 < (bN : Int)) with
      | true => go_wp2; go_ret; exact ⟨rfl, HB5.out⟩
      | false =>
        cases k4 : decide (1048576 < (bD : Int)) with
        | true => go_wp2; go_ret; exact ⟨rfl, HB5.out⟩
        | false =>
          have l1 := of_decide_eq_false k1
          have l2 := of_decide_eq_false k2
          have l3 := of_decide_eq_false k3
          have l4 := of_decide_eq_false k4
          obtain ⟨u1, hu1⟩ : ∃ u, u = aN * bD := ⟨_, rfl⟩
          obtain ⟨u2, hu2⟩ : ∃ u, u = bN * aD := ⟨_, rfl⟩
          obtain ⟨Q, hQ⟩ : ∃ u, u = aD * bD := ⟨_, rfl⟩
          have b1 : u1 ≤ 1099511627776 := by rw [hu1]; exact mul_small (by omega) (by omega)
          have b2 : u2 ≤ 1099511627776 := by rw [hu2]; exact mul_small (by omega) (by omega)
          have b3 : Q ≤ 1099511627776 := by rw [hQ]; exact mul_small (by omega) (by omega)
          have b4 : 0 < Q := by rw [hQ]; exact Nat.mul_pos HP0.out.1 HP0.out.2
          obtain ⟨P, hP⟩ : ∃ u, u = u1 + u2 := ⟨_, rfl⟩
          obtain ⟨G, hG⟩ : ∃ u, u = Nat.gcd P Q := ⟨_, rfl⟩
          have g0 : 0 < G := by rw [hG]; exact Nat.gcd_pos_of_pos_right _ b4
          have HG := Lib.hid (fun w => rdivisor_any P Q (by omega) (by omega) w)
          rw [← hG] at HG
          have r1 := hr1.out
          have r2 := hr2.out
          rw [← hu1, ← hu2, ← hQ, ← hP, ← hG] at r1
          rw [← hu1, ← hu2, ← hQ, ← hP, ← hG] at r2
          have t1 : (P : Int).tdiv (G : Int) = (rn : Int) := by rw [r1]; exact (Int.ofNat_tdiv _ _).symm
          have t1b : (P : Int) / (G : Int) = (rn : Int) := by rw [r1]; exact (Int.natCast_ediv _ _).symm
          have t2 : (Q : Int).tdiv (G : Int) = (rd : Int) := by rw [r2]; exact (Int.ofNat_tdiv _ _).symm
          have t2b : (Q : Int) / (G : Int) = (rd : Int) := by rw [r2]; exact (Int.natCast_ediv _ _).symm
          have v1 : IntKind.i64.wrap ((aN : Int) * (bD : Int)) = (u1 : Int) := i64_eq (by rw [hu1]; simp) (by omega)
          have v2 : IntKind.i64.wrap ((bN : Int) * (aD : Int)) = (u2 : Int) := i64_eq (by rw [hu2]; simp) (by omega)
          have v3 : IntKind.i64.wrap ((u1 : Int) + (u2 : Int)) = (P : Int) := i64_eq (by omega) (by omega)
          have v4 : IntKind.i64.wrap ((aD : Int) * (bD : Int)) = (Q : Int) := i64_eq (by rw [hQ]; simp) (by omega)
          have rnb : rn ≤ P := by rw [r1]; exact Nat.div_le_self _ _
          have rdb : rd ≤ Q := by rw [r2]; exact Nat.div_le_self _ _
          have v5 : IntKind.i64.wrap (rn : Int) = (rn : Int) := i64_eq rfl (by omega)
          have v6 : IntKind.i64.wrap (rd : Int) = (rd : Int) := i64_eq rfl (by omega)
          clear l1 l2 l3 l4 hu1 hu2 hQ b1 b2 b3 b4 hP hG r1 r2 rnb rdb
          go_wp2_with fail
          go_quiet (fail)
          go_wp2_with fail
          refine (HG.out _).mono ?_
          rintro e w7 ⟨rfl, rfl⟩
          go_wp2_with fail
          go_quiet (fail)
          go_wp2
          go_ret
          exact ⟨rfl, below_drewN (below_drewN HB5.out _) _⟩
theorem addV_comm (aN aD bN bD : Nat) : addV bN bD aN aD = addV aN aD bN bD := by
  unfold addV
  rw [Nat.add_comm (bN * aD), Nat.mul_comm bD aD]
theorem small2 {a b : Nat} (ha : a ≤ 1073741824) (hb : b ≤ 1073741824) : a * b ≤ 1152921504606846976 := Nat.le_trans (Nat.mul_le_mul ha hb) (by decide)

theorem walk (v0 v1 : Value) (w : World) (w0 : Is38 w v0) (w1 : Is38 w v1) :
    Calls Try.prog 10 #[v0, v1] w fun e w' => e = .returned (.bool true) ∧ Below w.heap.size w w' := by
  obtain ⟨aN, aD, rfl, ha1, ha2⟩ := w0
  obtain ⟨bN, bD, rfl, hb1, hb2⟩ := w1
  have ha1 : aN < 9223372036854775808 := by simp [Lit.wf, IntKind.min, IntKind.max, IntKind.bits, IntKind.signed] at ha1; omega
  have ha2 : aD < 9223372036854775808 := by simp [Lit.wf, IntKind.min, IntKind.max, IntKind.bits, IntKind.signed] at ha2; omega
  have hb1 : bN < 9223372036854775808 := by simp [Lit.wf, IntKind.min, IntKind.max, IntKind.bits, IntKind.signed] at hb1; omega
  have hb2 : bD < 9223372036854775808 := by simp [Lit.wf, IntKind.min, IntKind.max, IntKind.bits, IntKind.signed] at hb2; omega
  by_cases h1 : 0 ≤ aN ∧ 1 ≤ aD
  · by_cases h2 : 0 ≤ bN ∧ 1 ≤ bD
    · obtain ⟨aN, rfl⟩ : ∃ A : Nat, aN = (A : Int) := ⟨aN.toNat, by omega⟩
      obtain ⟨aD, rfl⟩ : ∃ A : Nat, aD = (A : Int) := ⟨aD.toNat, by omega⟩
      obtain ⟨bN, rfl⟩ : ∃ A : Nat, bN = (A : Int) := ⟨bN.toNat, by omega⟩
      obtain ⟨bD, rfl⟩ : ∃ A : Nat, bD = (A : Int) := ⟨bD.toNat, by omega⟩
      have HA := fun w => add_ok aN aD bN bD w (by omega) (by omega) (by omega) (by omega) (by omega) (by omega)
      have HA2 := fun w => add_ok bN bD aN aD w (by omega) (by omega) (by omega) (by omega) (by omega) (by omega)
      rw [addV_comm aN aD bN bD] at HA2
      have HM1 := fun w => may_any aN aD w _ rfl
      have HM2 := fun w => may_any bN bD w _ rfl
      by_cases hv : (aN * bD + bN * aD) / Nat.gcd (aN * bD + bN * aD) (aD * bD) < 9223372036854775808 ∧ aD * bD / Nat.gcd (aN * bD + bN * aD) (aD * bD) < 9223372036854775808
      · unfold addV at HA HA2
        rw [if_pos hv] at HA HA2
        rw [decide_eq_true h1] at HM1
        rw [decide_eq_true h2] at HM2
        have hQ : 0 < aD * bD := Nat.mul_pos (by omega) (by omega)
        have hG : 0 < Nat.gcd (aN * bD + bN * aD) (aD * bD) := Nat.gcd_pos_of_pos_right _ hQ
        have hR : 1 ≤ aD * bD / Nat.gcd (aN * bD + bN * aD) (aD * bD) := Nat.div_pos (Nat.gcd_le_right _ hQ) hG
        refine coreYes aN aD bN bD _ _ w (Lib.hid HA) (Lib.hid HA2) (Lib.hid HM1) (Lib.hid HM2) (Lib.hid fun w => ?_) hR (by omega) (by omega) (Lib.hid rfl) (Lib.hid rfl)
        have := rdivisor_any _ _ hv.1 hv.2 w
        rw [red_cop hQ] at this
        exact this
      · unfold addV at HA HA2
        rw [if_neg hv] at HA HA2
        refine coreNo aN aD bN bD _ _ w (Lib.hid HA) (Lib.hid HA2) (Lib.hid HM1) (Lib.hid HM2) (Lib.hid fun _ _ k1 k2 k3 => ?_)
        rw [decide_eq_false_iff_not] at k1 k2 k3
        rw [decide_eq_true_iff]
        rcases Int.lt_or_le 1073741824 (bD : Int) with g | g
        · exact g
        · exfalso
          apply hv
          have s1 := small2 (a := aN) (b := bD) (by omega) (by omega)
          have s2 := small2 (a := bN) (b := aD) (by omega) (by omega)
          have s3 := small2 (a := aD) (b := bD) (by omega) (by omega)
          exact ⟨Nat.lt_of_le_of_lt (Nat.div_le_self _ _) (by omega), Nat.lt_of_le_of_lt (Nat.div_le_self _ _) (by omega)⟩
    · exact coreNo aN aD bN bD _ _ w (Lib.hid fun w => add_bad2 aN aD bN bD w h1 h2) (Lib.hid fun w => add_bad1 bN bD aN aD w h2) (Lib.hid fun w => may_any aN aD w _ rfl) (Lib.hid fun w => may_any bN bD w _ rfl)
        (Lib.hid fun _ k => by rw [decide_eq_true_iff] at k; exact absurd k h2)
  · refine coreNo aN aD bN bD _ _ w (Lib.hid fun w => add_bad1 aN aD bN bD w h1) (Lib.hid fun w => ?_) (Lib.hid fun w => may_any aN aD w _ rfl) (Lib.hid fun w => may_any bN bD w _ rfl)
        (Lib.hid fun k => by rw [decide_eq_true_iff] at k; exact absurd k h1)
    by_cases h2 : 0 ≤ bN ∧ 1 ≤ bD
    · exact add_bad2 bN bD aN aD w h2 h1
    · exact add_bad1 bN bD aN aD w h2
end shareAdds
end Go.Proofs.Ytilfkpgdibhecaa
