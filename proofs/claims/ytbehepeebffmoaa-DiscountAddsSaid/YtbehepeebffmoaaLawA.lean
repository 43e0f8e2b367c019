/-
  DiscountAdds.
-/
import Derived.Test.YtbehepeebffmoaaLawL
import Derived.Test.YtbehepeebffmoaaAdd
namespace Go.Proofs.Ytbehepeebffmoaa
open Go Go.RowKit
set_option linter.unusedVariables false
set_option linter.unusedSimpArgs false

theorem low_cross {A B : Nat} (hB : 0 < B) : A / Nat.gcd A B * B = A * (B / Nat.gcd A B) := by
  obtain ⟨g, x, y, g0, eg, en, ed, e1, e2, _⟩ := gcd_cop (a := A) hB
  rw [← eg, e1, e2, ed, en, Nat.mul_left_comm, Nat.mul_assoc]
theorem add_cross {c x1 x2 X1 X2 Y1 Y2 Z1 Z2 s t : Nat} (hc : 0 < c) (hX2 : 0 < X2) (hY2 : 0 < Y2) (h1 : X1 * c = x1 * X2) (h2 : Y1 * c = x2 * Y2) (h3 : Z1 * c = (x1 + x2) * Z2) (h4 : s * (X2 * Y2) = (X1 * Y2 + Y1 * X2) * t) : s * Z2 = Z1 * t := by
  have hp : 0 < X2 * Y2 * c := Nat.mul_pos (Nat.mul_pos hX2 hY2) hc
  refine Nat.eq_of_mul_eq_mul_right hp ?_
  have e1 : s * Z2 * (X2 * Y2 * c) = s * (X2 * Y2) * (Z2 * c) := by ac_rfl
  have e2 : (X1 * Y2 + Y1 * X2) * t * (Z2 * c) = (X1 * c * Y2 + Y1 * c * X2) * (t * Z2) := by
    rw [Nat.mul_assoc, show t * (Z2 * c) = c * (t * Z2) by ac_rfl, ← Nat.mul_assoc, Nat.add_mul]
    congr 2 <;> ac_rfl
  have e3 : Z1 * t * (X2 * Y2 * c) = Z1 * c * (t * X2 * Y2) := by ac_rfl
  rw [e1, h4, e2, h1, h2, e3, h3]
  rw [show x1 * X2 * Y2 = x1 * (X2 * Y2) by ac_rfl, show x2 * Y2 * X2 = x2 * (X2 * Y2) by ac_rfl, ← Nat.add_mul]
  ac_rfl
theorem cmp_same {s t P Q : Nat} (h : s * Q = P * t) : cmpI s t P Q = 0 := by
  unfold cmpI
  rw [if_neg (by omega), if_pos h]

/-- What share.Add tells of two interests. -/
theorem add_two {S N D T B S' N' D' T' B' p q p' q' : Int} {o o' : Bool} (h : intP S N D T B = (p, q, o)) (h' : intP S' N' D' T' B' = (p', q', o')) :
    ∃ (n d : Int) (k : Bool), Hid (∀ w, Calls Try.prog 20 #[.agg #[.int .i64 p, .int .i64 q], .agg #[.int .i64 p', .int .i64 q']] w fun e w' => e = .returned (.tuple #[.agg #[.int .i64 n, .int .i64 d], .bool k]) ∧ Below w.heap.size w w') ∧
      (k = true → o = true → o' = true → ∃ s t P Q P' Q' : Nat, n = s ∧ d = t ∧ p = P ∧ q = Q ∧ p' = P' ∧ q' = Q' ∧ s < 9223372036854775808 ∧ t < 9223372036854775808 ∧ 1 ≤ t ∧ s * (Q * Q') = (P * Q' + P' * Q) * t) := by
  cases o with
  | false =>
    obtain ⟨rfl, rfl⟩ := none_of h
    exact ⟨0, 0, false, Lib.hid fun w => add_bad1 0 0 p' q' w (by omega), fun h => by cases h⟩
  | true =>
    obtain ⟨P, Q, rfl, rfl, hf⟩ := fine_of h
    cases o' with
    | false =>
      obtain ⟨rfl, rfl⟩ := none_of h'
      have := hf.pos
      exact ⟨0, 0, false, Lib.hid fun w => add_bad2 P Q 0 0 w (by omega) (by omega), fun h => by cases h⟩
    | true =>
      obtain ⟨P', Q', rfl, rfl, hf'⟩ := fine_of h'
      have hc := fun w => add_ok P Q P' Q' w hf.lt (by have := hf.le; omega) hf'.lt (by have := hf'.le; omega) hf.pos hf'.pos
      have hQQ : 0 < Q * Q' := Nat.mul_pos hf.pos hf'.pos
      unfold addV at hc
      split at hc
      · rename_i hl
        refine ⟨_, _, true, Lib.hid hc, fun _ _ _ => ⟨_, _, P, Q, P', Q', rfl, rfl, rfl, rfl, rfl, rfl, hl.1, hl.2, ?_, low_cross hQQ⟩⟩
        exact Nat.div_pos (Nat.gcd_le_right _ hQQ) (Nat.gcd_pos_of_pos_right _ hQQ)
      · exact ⟨0, 0, false, Lib.hid hc, fun h => by cases h⟩

namespace discountAdds
set_option maxRecDepth 100000 in
set_option maxHeartbeats 4000000 in
/-- Where it says nothing. -/
theorem early (a b' N D T m B : Int) (w : World) (h : a < 0 ∨ b' < 0 ∨ 274877906944 < a ∨ 274877906944 < b' ∨ T < 0 ∨ m < 0 ∨ 262144 < T ∨ 262144 < m) :
    Calls Try.prog 7 #[.int .i64 a, .int .i64 b', .agg #[.int .i64 N, .int .i64 D], .int .i64 T, .int .i64 m, .int .i64 B] w fun e w' => e = .returned (.bool true) ∧ Below w.heap.size w w' := by
  have key : ∀ (k1 : decide (a < 0) = false → decide (b' < 0) = false → decide (274877906944 < a) = false → decide (274877906944 < b') = false → decide (T < 0) = false → decide (m < 0) = false → decide (262144 < T) = false → decide (262144 < m) = true), Calls Try.prog 7 #[.int .i64 a, .int .i64 b', .agg #[.int .i64 N, .int .i64 D], .int .i64 T, .int .i64 m, .int .i64 B] w fun e w' => e = .returned (.bool true) ∧ Below w.heap.size w w' := by
    intro k1
    have K := Lib.hid k1
    clear k1 h
    go_enter Try.func7, Try.ntmps7
    go_wp2_with fail
    refine (awake39_any _).mono ?_
    rintro e w1 ⟨rfl, hb⟩
    have HS := Lib.hid (bx_new hb)
    obtain ⟨b, hb0⟩ : ∃ b, b = w.heap.size := ⟨_, rfl⟩
    rw [← hb0] at HS ⊢
    clear hb hb0
    cases g1 : decide (a < 0) with
    | true => go_wp2; go_ret; exact ⟨rfl, HS.out.2.2.2⟩
    | false =>
    cases g2 : decide (b' < 0) with
    | true => go_wp2; go_ret; exact ⟨rfl, HS.out.2.2.2⟩
    | false =>
    cases g3 : decide (274877906944 < a) with
    | true => go_wp2; go_ret; exact ⟨rfl, HS.out.2.2.2⟩
    | false =>
    cases g4 : decide (274877906944 < b') with
    | true => go_wp2; go_ret; exact ⟨rfl, HS.out.2.2.2⟩
    | false =>
    cases g5 : decide (T < 0) with
    | true => go_wp2; go_ret; exact ⟨rfl, HS.out.2.2.2⟩
    | false =>
    cases g6 : decide (m < 0) with
    | true => go_wp2; go_ret; exact ⟨rfl, HS.out.2.2.2⟩
    | false =>
    cases g7 : decide (262144 < T) with
    | true => go_wp2; go_ret; exact ⟨rfl, HS.out.2.2.2⟩
    | false =>
    have g8 := K.out g1 g2 g3 g4 g5 g6 g7
    go_wp2; go_ret; exact ⟨rfl, HS.out.2.2.2⟩
  apply key
  intro a1 a2 a3 a4 a5 a6 a7
  rw [decide_eq_false_iff_not] at a1 a2 a3 a4 a5 a6 a7
  rw [decide_eq_true_iff]
  omega

/-- The first sum. -/
theorem sum1 {a b' N D T B : Int} {X1 X2 Y1 Y2 Z1 Z2 s t : Nat} (hx : Fine a N D T B X1 X2) (hy : Fine b' N D T B Y1 Y2) (hz : Fine (a + b') N D T B Z1 Z2) (h4 : s * (X2 * Y2) = (X1 * Y2 + Y1 * X2) * t) : cmpI s t Z1 Z2 = 0 := by
  obtain ⟨a1, a2, a3, a4, a5, a6, a7, a8, a9⟩ := hx.ok
  have b1 := hy.ok.1
  refine cmp_same (add_cross (c := D.toNat * B.toNat) (Nat.mul_pos (by omega) (by omega)) hx.pos hy.pos hx.cross hy.cross ?_ h4)
  rw [hz.cross, Int.toNat_add a1 b1, Nat.add_mul, Nat.add_mul]
theorem sum2 {a N D T m B : Int} {X1 X2 Y1 Y2 Z1 Z2 s t : Nat} (hx : Fine a N D T B X1 X2) (hy : Fine a N D m B Y1 Y2) (hz : Fine a N D (T + m) B Z1 Z2) (h4 : s * (X2 * Y2) = (X1 * Y2 + Y1 * X2) * t) : cmpI s t Z1 Z2 = 0 := by
  obtain ⟨a1, a2, a3, a4, a5, a6, a7, a8, a9⟩ := hx.ok
  have b1 := hy.ok.2.2.2.2.2.2.1
  refine cmp_same (add_cross (c := D.toNat * B.toNat) (Nat.mul_pos (by omega) (by omega)) hx.pos hy.pos hx.cross hy.cross ?_ h4)
  rw [hz.cross, Int.toNat_add a7 b1, Nat.mul_add]

theorem use1 {a b' N D T m B p1 q1 p2 q2 p3 q3 n d : Int} {o1 o2 o3 k : Bool} (h1 : intP a N D T B = (p1, q1, o1)) (h2 : intP b' N D T B = (p2, q2, o2)) (h3 : intP (a + b') N D T B = (p3, q3, o3))
    (h4 : k = true → o1 = true → o2 = true → ∃ s t P Q P' Q' : Nat, n = s ∧ d = t ∧ p1 = P ∧ q1 = Q ∧ p2 = P' ∧ q2 = Q' ∧ s < 9223372036854775808 ∧ t < 9223372036854775808 ∧ 1 ≤ t ∧ s * (Q * Q') = (P * Q' + P' * Q) * t) :
    k = true → o1 = true → o2 = true → o3 = true → Hid (∀ w, Calls Try.prog 17 #[.agg #[.int .i64 n, .int .i64 d], .agg #[.int .i64 p3, .int .i64 q3]] w fun e w' => e = .returned (.int .i64 0) ∧ Below w.heap.size w w') := by
  intro e1 e2 e3 e4
  obtain ⟨s, t, P, Q, P', Q', rfl, rfl, rfl, rfl, rfl, rfl, c1, c2, c3, c4⟩ := h4 e1 e2 e3
  subst e2 e3 e4
  obtain ⟨X1, X2, ex1, ex2, hx⟩ := fine_of h1
  obtain ⟨Y1, Y2, ey1, ey2, hy⟩ := fine_of h2
  obtain ⟨Z1, Z2, rfl, rfl, hz⟩ := fine_of h3
  obtain rfl : P = X1 := by omega
  obtain rfl : Q = X2 := by omega
  obtain rfl : P' = Y1 := by omega
  obtain rfl : Q' = Y2 := by omega
  have hc := sum1 hx hy hz c4
  have H := fun w => compare_ok s t Z1 Z2 c1 c2 hz.lt (by have := hz.le; omega) c3 hz.pos w
  rw [hc] at H
  exact Lib.hid H

theorem use2 {a b' N D T m B p1 q1 p2 q2 p3 q3 n d : Int} {o1 o2 o3 k : Bool} (h1 : intP a N D T B = (p1, q1, o1)) (h2 : intP a N D m B = (p2, q2, o2)) (h3 : intP a N D (T + m) B = (p3, q3, o3))
    (h4 : k = true → o1 = true → o2 = true → ∃ s t P Q P' Q' : Nat, n = s ∧ d = t ∧ p1 = P ∧ q1 = Q ∧ p2 = P' ∧ q2 = Q' ∧ s < 9223372036854775808 ∧ t < 9223372036854775808 ∧ 1 ≤ t ∧ s * (Q * Q') = (P * Q' + P' * Q) * t) :
    k = true → o1 = true → o2 = true → o3 = true → Hid (∀ w, Calls Try.prog 17 #[.agg #[.int .i64 n, .int .i64 d], .agg #[.int .i64 p3, .int .i64 q3]] w fun e w' => e = .returned (.int .i64 0) ∧ Below w.heap.size w w') := by
  intro e1 e2 e3 e4
  obtain ⟨s, t, P, Q, P', Q', rfl, rfl, rfl, rfl, rfl, rfl, c1, c2, c3, c4⟩ := h4 e1 e2 e3
  subst e2 e3 e4
  obtain ⟨X1, X2, ex1, ex2, hx⟩ := fine_of h1
  obtain ⟨Y1, Y2, ey1, ey2, hy⟩ := fine_of h2
  obtain ⟨Z1, Z2, rfl, rfl, hz⟩ := fine_of h3
  obtain rfl : P = X1 := by omega
  obtain rfl : Q = X2 := by omega
  obtain rfl : P' = Y1 := by omega
  obtain rfl : Q' = Y2 := by omega
  have hc := sum2 hx hy hz c4
  have H := fun w => compare_ok s t Z1 Z2 c1 c2 hz.lt (by have := hz.le; omega) c3 hz.pos w
  rw [hc] at H
  exact Lib.hid H

set_option maxRecDepth 100000 in
set_option maxHeartbeats 8000000 in
theorem body (a b' N D T m B : Int) (w : World) (ha : 0 ≤ a ∧ a ≤ 274877906944) (hb' : 0 ≤ b' ∧ b' ≤ 274877906944) (hT : 0 ≤ T ∧ T ≤ 262144) (hm : 0 ≤ m ∧ m ≤ 262144) :
    Calls Try.prog 7 #[.int .i64 a, .int .i64 b', .agg #[.int .i64 N, .int .i64 D], .int .i64 T, .int .i64 m, .int .i64 B] w fun e w' => e = .returned (.bool true) ∧ Below w.heap.size w w' := by
  have HI1 := Lib.hid (fun w => interest_any a N D T B w)
  have HI2 := Lib.hid (fun w => interest_any b' N D T B w)
  have HI3 := Lib.hid (fun w => interest_any (a + b') N D T B w)
  have HI4 := Lib.hid (fun w => interest_any a N D m B w)
  have HI5 := Lib.hid (fun w => interest_any a N D (T + m) B w)
  obtain ⟨p1, q1, o1, i1⟩ : ∃ p q o, intP a N D T B = (p, q, o) := ⟨_, _, _, rfl⟩
  obtain ⟨p2, q2, o2, i2⟩ : ∃ p q o, intP b' N D T B = (p, q, o) := ⟨_, _, _, rfl⟩
  obtain ⟨p3, q3, o3, i3⟩ : ∃ p q o, intP (a + b') N D T B = (p, q, o) := ⟨_, _, _, rfl⟩
  obtain ⟨p4, q4, o4, i4⟩ : ∃ p q o, intP a N D m B = (p, q, o) := ⟨_, _, _, rfl⟩
  obtain ⟨p5, q5, o5, i5⟩ : ∃ p q o, intP a N D (T + m) B = (p, q, o) := ⟨_, _, _, rfl⟩
  rw [i1] at HI1
  rw [i2] at HI2
  rw [i3] at HI3
  rw [i4] at HI4
  rw [i5] at HI5
  unfold vR at HI1 HI2 HI3 HI4 HI5
  dsimp only at HI1 HI2 HI3 HI4 HI5
  obtain ⟨n1, d1, k1, HA1, u1⟩ := add_two i1 i2
  obtain ⟨n2, d2, k2, HA2, u2⟩ := add_two i1 i4
  have HU1 := Lib.hid (use1 (m := m) i1 i2 i3 u1)
  have HU2 := Lib.hid (use2 (b' := b') i1 i4 i5 u2)
  have v1 : IntKind.i64.wrap (a + b') = a + b' := IntWalk.i64_in _ (by omega)
  have v2 : IntKind.i64.wrap (T + m) = T + m := IntWalk.i64_in _ (by omega)
  have g1 : decide (a < 0) = false := by rw [decide_eq_false_iff_not]; omega
  have g2 : decide (b' < 0) = false := by rw [decide_eq_false_iff_not]; omega
  have g3 : decide (274877906944 < a) = false := by rw [decide_eq_false_iff_not]; omega
  have g4 : decide (274877906944 < b') = false := by rw [decide_eq_false_iff_not]; omega
  have g5 : decide (T < 0) = false := by rw [decide_eq_false_iff_not]; omega
  have g6 : decide (m < 0) = false := by rw [decide_eq_false_iff_not]; omega
  have g7 : decide (262144 < T) = false := by rw [decide_eq_false_iff_not]; omega
  have g8 : decide (262144 < m) = false := by rw [decide_eq_false_iff_not]; omega
  clear i1 i2 i3 i4 i5 u1 u2 ha hb' hT hm
  go_enter Try.func7, Try.ntmps7
  go_wp2_with fail
  refine (awake39_any _).mono ?_
  rintro e w1 ⟨rfl, hb⟩
  have HS := Lib.hid (bx_new hb)
  obtain ⟨b, hb0⟩ : ∃ b, b = w.heap.size := ⟨_, rfl⟩
  rw [← hb0] at HS ⊢
  clear hb hb0
  obtain ⟨c1, c2, -, -⟩ := HS.out
  go_wp2_with fail
  refine (HI1.out _).mono ?_
  rintro e wa ⟨rfl, hb⟩
  have HS := Lib.hid ((HS.out.below hb).alloc (.cells #[.int .i64 p1, .int .i64 q1] 23))
  have HR1 : Hid (Bx wa.heap.size w (.int .i64 p1) (.int .i64 q1) (wa.alloc (.cells #[.int .i64 p1, .int .i64 q1] 23))) := Lib.hid (by
    obtain ⟨h1, h2, h3⟩ := two_cells (w1 := wa) (t := 23) (u := .int .i64 p1) (v := .int .i64 q1) (Below.refl _ _)
    exact ⟨h1, h2, h3, HS.out.2.2.2⟩)
  clear hb c1 c2
  go_upto_region 6 with fail
  generalize wa.alloc (.cells #[.int .i64 p1, .int .i64 q1] 23) = wb at *
  generalize wa.heap.size = r1 at *
  obtain ⟨c1, c2, -, -⟩ := HS.out
  go_wp2_with fail
  refine (HI2.out _).mono ?_
  rintro e wa ⟨rfl, hb⟩
  have HS := Lib.hid ((HS.out.below hb).alloc (.cells #[.int .i64 p2, .int .i64 q2] 23))
  have HR1 := Lib.hid ((HR1.out.below hb).alloc (.cells #[.int .i64 p2, .int .i64 q2] 23))
  have HR2 : Hid (Bx wa.heap.size w (.int .i64 p2) (.int .i64 q2) (wa.alloc (.cells #[.int .i64 p2, .int .i64 q2] 23))) := Lib.hid (by
    obtain ⟨h1, h2, h3⟩ := two_cells (w1 := wa) (t := 23) (u := .int .i64 p2) (v := .int .i64 q2) (Below.refl _ _)
    exact ⟨h1, h2, h3, HS.out.2.2.2⟩)
  clear hb c1 c2
  go_upto_region 7 with fail
  generalize wa.alloc (.cells #[.int .i64 p2, .int .i64 q2] 23) = wb at *
  generalize wa.heap.size = r2 at *
  obtain ⟨c1, c2, -, -⟩ := HS.out
  go_wp2_with fail
  refine (HI3.out _).mono ?_
  rintro e wa ⟨rfl, hb⟩
  have HS := Lib.hid ((HS.out.below hb).alloc (.cells #[.int .i64 p3, .int .i64 q3] 23))
  have HR1 := Lib.hid ((HR1.out.below hb).alloc (.cells #[.int .i64 p3, .int .i64 q3] 23))
  have HR2 := Lib.hid ((HR2.out.below hb).alloc (.cells #[.int .i64 p3, .int .i64 q3] 23))
  have HR3 : Hid (Bx wa.heap.size w (.int .i64 p3) (.int .i64 q3) (wa.alloc (.cells #[.int .i64 p3, .int .i64 q3] 23))) := Lib.hid (by
    obtain ⟨h1, h2, h3⟩ := two_cells (w1 := wa) (t := 23) (u := .int .i64 p3) (v := .int .i64 q3) (Below.refl _ _)
    exact ⟨h1, h2, h3, HS.out.2.2.2⟩)
  clear hb c1 c2
  go_upto_region 8 with fail
  generalize wa.alloc (.cells #[.int .i64 p3, .int .i64 q3] 23) = wb at *
  generalize wa.heap.size = r3 at *
  obtain ⟨c1, c2, -, -⟩ := HR1.out
  obtain ⟨c3, c4, -, -⟩ := HR2.out
  go_wp2_with fail
  refine (HA1.out _).mono ?_
  rintro e wa ⟨rfl, hb⟩
  have HS := Lib.hid ((HS.out.below hb).alloc (.cells #[.int .i64 n1, .int .i64 d1] 23))
  have HR1 := Lib.hid ((HR1.out.below hb).alloc (.cells #[.int .i64 n1, .int .i64 d1] 23))
  have HR3 := Lib.hid ((HR3.out.below hb).alloc (.cells #[.int .i64 n1, .int .i64 d1] 23))
  have HR4 : Hid (Bx wa.heap.size w (.int .i64 n1) (.int .i64 d1) (wa.alloc (.cells #[.int .i64 n1, .int .i64 d1] 23))) := Lib.hid (by
    obtain ⟨h1, h2, h3⟩ := two_cells (w1 := wa) (t := 23) (u := .int .i64 n1) (v := .int .i64 d1) (Below.refl _ _)
    exact ⟨h1, h2, h3, HS.out.2.2.2⟩)
  clear hb c1 c2 c3 c4
  go_upto_region 9 with fail
  generalize wa.alloc (.cells #[.int .i64 n1, .int .i64 d1] 23) = wb at *
  generalize wa.heap.size = r4 at *
  go_cut [106] from 91 (fun s wx => s = .bool false ∧ Hid (Bx b w (.int .i64 N) (.int .i64 D) wx) ∧ Hid (Bx r1 w (.int .i64 p1) (.int .i64 q1) wx))
  case first =>
    have HF := Lib.hid (show k1 = true → o1 = true → o2 = true → o3 = true → _ from HU1.out)
    cases k1 with
    | false => go_wp2; go_meet; exact ⟨rfl, HS, HR1⟩
    | true =>
    cases o1 with
    | false => go_wp2; go_meet; exact ⟨rfl, HS, HR1⟩
    | true =>
    cases o2 with
    | false => go_wp2; go_meet; exact ⟨rfl, HS, HR1⟩
    | true =>
    cases o3 with
    | false => go_wp2; go_meet; exact ⟨rfl, HS, HR1⟩
    | true =>
    have HCm := HF.out rfl rfl rfl rfl
    obtain ⟨c1, c2, -, -⟩ := HR4.out
    obtain ⟨c3, c4, -, -⟩ := HR3.out
    go_wp2_with fail
    refine (HCm.out _).mono ?_
    rintro e wa ⟨rfl, hb⟩
    go_wp2
    go_meet
    exact ⟨rfl, Lib.hid (HS.out.below hb), Lib.hid (HR1.out.below hb)⟩
  case rest =>
    obtain ⟨rfl, hs, hr1⟩ := hcut
    clear HS HR1
    have HS := hs
    have HR1 := hr1
    clear hs hr1 HR3 HR4
    obtain ⟨c1, c2, -, -⟩ := HS.out
    go_wp2_with fail
    refine (HI4.out _).mono ?_
    rintro e wa ⟨rfl, hb⟩
    have HS := Lib.hid ((HS.out.below hb).alloc (.cells #[.int .i64 p4, .int .i64 q4] 23))
    have HR1 := Lib.hid ((HR1.out.below hb).alloc (.cells #[.int .i64 p4, .int .i64 q4] 23))
    have HR5 : Hid (Bx wa.heap.size w (.int .i64 p4) (.int .i64 q4) (wa.alloc (.cells #[.int .i64 p4, .int .i64 q4] 23))) := Lib.hid (by
      obtain ⟨h1, h2, h3⟩ := two_cells (w1 := wa) (t := 23) (u := .int .i64 p4) (v := .int .i64 q4) (Below.refl _ _)
      exact ⟨h1, h2, h3, HS.out.2.2.2⟩)
    clear hb c1 c2
    go_upto_region 12 with fail
    generalize wa.alloc (.cells #[.int .i64 p4, .int .i64 q4] 23) = wb at *
    generalize wa.heap.size = r5 at *
    obtain ⟨c1, c2, -, -⟩ := HS.out
    go_wp2_with fail
    refine (HI5.out _).mono ?_
    rintro e wa ⟨rfl, hb⟩
    have HS := Lib.hid ((HS.out.below hb).alloc (.cells #[.int .i64 p5, .int .i64 q5] 23))
    have HR1 := Lib.hid ((HR1.out.below hb).alloc (.cells #[.int .i64 p5, .int .i64 q5] 23))
    have HR5 := Lib.hid ((HR5.out.below hb).alloc (.cells #[.int .i64 p5, .int .i64 q5] 23))
    have HR6 : Hid (Bx wa.heap.size w (.int .i64 p5) (.int .i64 q5) (wa.alloc (.cells #[.int .i64 p5, .int .i64 q5] 23))) := Lib.hid (by
      obtain ⟨h1, h2, h3⟩ := two_cells (w1 := wa) (t := 23) (u := .int .i64 p5) (v := .int .i64 q5) (Below.refl _ _)
      exact ⟨h1, h2, h3, HS.out.2.2.2⟩)
    clear hb c1 c2
    go_upto_region 13 with fail
    generalize wa.alloc (.cells #[.int .i64 p5, .int .i64 q5] 23) = wb at *
    generalize wa.heap.size = r6 at *
    obtain ⟨c1, c2, -, -⟩ := HR1.out
    obtain ⟨c3, c4, -, -⟩ := HR5.out
    go_wp2_with fail
    refine (HA2.out _).mono ?_
    rintro e wa ⟨rfl, hb⟩
    have HS := Lib.hid ((HS.out.below hb).alloc (.cells #[.int .i64 n2, .int .i64 d2] 23))
    have HR6 := Lib.hid ((HR6.out.below hb).alloc (.cells #[.int .i64 n2, .int .i64 d2] 23))
    have HR7 : Hid (Bx wa.heap.size w (.int .i64 n2) (.int .i64 d2) (wa.alloc (.cells #[.int .i64 n2, .int .i64 d2] 23))) := Lib.hid (by
      obtain ⟨h1, h2, h3⟩ := two_cells (w1 := wa) (t := 23) (u := .int .i64 n2) (v := .int .i64 d2) (Below.refl _ _)
      exact ⟨h1, h2, h3, HS.out.2.2.2⟩)
    clear hb c1 c2 c3 c4
    go_upto_region 14 with fail
    generalize wa.alloc (.cells #[.int .i64 n2, .int .i64 d2] 23) = wb at *
    generalize wa.heap.size = r7 at *
    go_cut [146] from 131 (fun s wx => s = .bool false ∧ Hid (Bx b w (.int .i64 N) (.int .i64 D) wx))
    case first =>
      have HF := Lib.hid (show k2 = true → o1 = true → o4 = true → o5 = true → _ from HU2.out)
      cases k2 with
      | false => go_wp2; go_meet; exact ⟨rfl, HS⟩
      | true =>
      cases o1 with
      | false => go_wp2; go_meet; exact ⟨rfl, HS⟩
      | true =>
      cases o4 with
      | false => go_wp2; go_meet; exact ⟨rfl, HS⟩
      | true =>
      cases o5 with
      | false => go_wp2; go_meet; exact ⟨rfl, HS⟩
      | true =>
      have HCm := HF.out rfl rfl rfl rfl
      obtain ⟨c1, c2, -, -⟩ := HR7.out
      obtain ⟨c3, c4, -, -⟩ := HR6.out
      go_wp2_with fail
      refine (HCm.out _).mono ?_
      rintro e wa ⟨rfl, hb⟩
      go_wp2
      go_meet
      exact ⟨rfl, Lib.hid (HS.out.below hb)⟩
    case rest =>
      obtain ⟨rfl, hs⟩ := hcut
      go_wp2
      go_ret
      exact ⟨rfl, hs.out.2.2.2⟩

theorem walk (a b : Int) (v : Value) (T m B : Int) (w : World) (_ : (Lit.int .i64 a).wf = true) (_ : (Lit.int .i64 b).wf = true) (hv : Is23 w v) (_ : (Lit.int .i64 T).wf = true) (_ : (Lit.int .i64 m).wf = true) (_ : (Lit.int .i64 B).wf = true) :
    Calls Try.prog 7 #[.int .i64 a, .int .i64 b, v, .int .i64 T, .int .i64 m, .int .i64 B] w fun e w' => e = .returned (.bool true) ∧ Below w.heap.size w w' := by
  obtain ⟨N, D, rfl, _⟩ := hv
  by_cases h : a < 0 ∨ b < 0 ∨ 274877906944 < a ∨ 274877906944 < b ∨ T < 0 ∨ m < 0 ∨ 262144 < T ∨ 262144 < m
  · exact early a b N D T m B w h
  · exact body a b N D T m B w (by omega) (by omega) (by omega) (by omega)
end discountAdds
end Go.Proofs.Ytbehepeebffmoaa
