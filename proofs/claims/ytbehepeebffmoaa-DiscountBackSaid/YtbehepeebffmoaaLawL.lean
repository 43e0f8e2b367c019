/-
  DiscountLonger.
-/
import Derived.Test.YtbehepeebffmoaaLawS
import Derived.Deep.DeepCutAuto
import Derived.Deep.CutBlock
namespace Go.Proofs.Ytbehepeebffmoaa
open Go Go.RowKit
set_option linter.unusedVariables false
set_option linter.unusedSimpArgs false

theorem longer_cross {c x1 x2 P1 Q1 P2 Q2 : Nat} (hc : 0 < c) (h1 : P1 * c = x1 * Q1) (h2 : P2 * c = x2 * Q2) (hx : x1 ≤ x2) : P1 * Q2 ≤ P2 * Q1 := by
  have h3 : P1 * Q2 * c ≤ P2 * Q1 * c := by
    rw [Nat.mul_right_comm, h1, Nat.mul_right_comm P2, h2, Nat.mul_assoc, Nat.mul_assoc, Nat.mul_comm Q2 Q1]
    exact Nat.mul_le_mul_right _ hx
  exact Nat.le_of_mul_le_mul_right h3 hc
theorem div_cross {P1 Q1 P2 Q2 : Nat} (h1 : 0 < Q1) (h2 : 0 < Q2) (h : P1 * Q2 ≤ P2 * Q1) : P1 / Q1 ≤ P2 / Q2 := by
  rw [Nat.le_div_iff_mul_le h2]
  have h3 : P1 / Q1 * Q1 ≤ P1 := Nat.div_mul_le_self _ _
  have h4 : P1 / Q1 * Q2 * Q1 ≤ P2 * Q1 := by
    rw [Nat.mul_right_comm]
    exact Nat.le_trans (Nat.mul_le_mul_right _ h3) h
  exact Nat.le_of_mul_le_mul_right h4 h1
theorem cmp_le {P1 Q1 P2 Q2 : Nat} (h : P1 * Q2 ≤ P2 * Q1) : cmpI P1 Q1 P2 Q2 ≤ 0 := by
  unfold cmpI
  by_cases h1 : P1 * Q2 < P2 * Q1
  · rw [if_pos h1]; decide
  · rw [if_neg h1, if_pos (by omega)]; decide

theorem Bx.setC {b k : Nat} {w0 w : World} {x1 x2 : Value} (h : Bx b w0 x1 x2 w) (hn : ¬ k = b) (hk : w0.heap.size ≤ k) (u : Value) : Bx b w0 x1 x2 (w.setCell ⟨k, 0, none⟩ u) := by
  obtain ⟨c1, c2, lt, h0⟩ := h
  have hn' : ¬ b = k := fun h => hn h.symm
  exact ⟨by simp [go_sem, c1, hn, hn'], by simp [go_sem, c2, hn, hn'], by simpa [World.setCell] using lt, h0.setCell (p := ⟨k, 0, none⟩) hk _⟩

namespace discountLonger
theorem low {S m N d T l D B : Int} {P1 Q1 P2 Q2 : Nat} (h1 : Fine S N D T B P1 Q1) (h2 : Fine (S + m) (N + d) D (T + l) B P2 Q2) (hm : 0 ≤ m) (hd : 0 ≤ d) (hl : 0 ≤ l) : P1 * Q2 ≤ P2 * Q1 := by
  obtain ⟨a1, a2, a3, a4, a5, a6, a7, a8, a9⟩ := h1.ok
  refine longer_cross (c := D.toNat * B.toNat) (Nat.mul_pos (by omega) (by omega)) h1.cross h2.cross ?_
  exact Nat.mul_le_mul (Nat.mul_le_mul (by omega) (by omega)) (by omega)

set_option maxRecDepth 100000 in
set_option maxHeartbeats 4000000 in
/-- Where it says nothing. -/
theorem early1 (S m N D d T l B : Int) (w : World) (h : m < 0 ∨ d < 0 ∨ l < 0 ∨ 1099511627776 < m ∨ 1048576 < d ∨ 1048576 < l) :
    Calls Try.prog 5 #[.int .i64 S, .int .i64 m, .agg #[.int .i64 N, .int .i64 D], .int .i64 d, .int .i64 T, .int .i64 l, .int .i64 B] w fun e w' => e = .returned (.bool true) ∧ Below w.heap.size w w' := by
  have H := Lib.hid h
  clear h
  have key : ∀ (k1 : decide (m < 0) = false → decide (d < 0) = false → decide (l < 0) = false → decide (1099511627776 < m) = false → decide (1048576 < d) = false → decide (1048576 < l) = true), Calls Try.prog 5 #[.int .i64 S, .int .i64 m, .agg #[.int .i64 N, .int .i64 D], .int .i64 d, .int .i64 T, .int .i64 l, .int .i64 B] w fun e w' => e = .returned (.bool true) ∧ Below w.heap.size w w' := by
    intro k1
    have K := Lib.hid k1
    clear k1
    go_enter Try.func5, Try.ntmps5
    go_wp2_with fail
    refine (awake39_any _).mono ?_
    rintro e w1 ⟨rfl, hb⟩
    have HS := Lib.hid (bx_new hb)
    obtain ⟨b, hb0⟩ : ∃ b, b = w.heap.size := ⟨_, rfl⟩
    rw [← hb0] at HS ⊢
    clear hb hb0
    cases g1 : decide (m < 0) with
    | true => go_wp2; go_ret; exact ⟨rfl, HS.out.2.2.2⟩
    | false =>
    cases g2 : decide (d < 0) with
    | true => go_wp2; go_ret; exact ⟨rfl, HS.out.2.2.2⟩
    | false =>
    cases g3 : decide (l < 0) with
    | true => go_wp2; go_ret; exact ⟨rfl, HS.out.2.2.2⟩
    | false =>
    cases g4 : decide (1099511627776 < m) with
    | true => go_wp2; go_ret; exact ⟨rfl, HS.out.2.2.2⟩
    | false =>
    cases g5 : decide (1048576 < d) with
    | true => go_wp2; go_ret; exact ⟨rfl, HS.out.2.2.2⟩
    | false =>
    have g6 := K.out g1 g2 g3 g4 g5
    go_wp2; go_ret; exact ⟨rfl, HS.out.2.2.2⟩
  apply key
  intro a1 a2 a3 a4 a5
  rw [decide_eq_false_iff_not] at a1 a2 a3 a4 a5
  rw [decide_eq_true_iff]
  have := H.out
  omega

set_option maxRecDepth 100000 in
set_option maxHeartbeats 4000000 in
theorem early2 (S m N D d T l B : Int) (w : World) (hN : -9223372036854775808 ≤ N ∧ N ≤ 9223372036854775807) (h : ¬ (m < 0 ∨ d < 0 ∨ l < 0 ∨ 1099511627776 < m ∨ 1048576 < d ∨ 1048576 < l)) (h2 : N < 0 ∨ 1048576 < N ∨ S < 0 ∨ 1099511627776 < S ∨ T < 0 ∨ 1048576 < T) :
    Calls Try.prog 5 #[.int .i64 S, .int .i64 m, .agg #[.int .i64 N, .int .i64 D], .int .i64 d, .int .i64 T, .int .i64 l, .int .i64 B] w fun e w' => e = .returned (.bool true) ∧ Below w.heap.size w w' := by
  have g1 : decide (m < 0) = false := by rw [decide_eq_false_iff_not]; omega
  have g2 : decide (d < 0) = false := by rw [decide_eq_false_iff_not]; omega
  have g3 : decide (l < 0) = false := by rw [decide_eq_false_iff_not]; omega
  have g4 : decide (1099511627776 < m) = false := by rw [decide_eq_false_iff_not]; omega
  have g5 : decide (1048576 < d) = false := by rw [decide_eq_false_iff_not]; omega
  have g6 : decide (1048576 < l) = false := by rw [decide_eq_false_iff_not]; omega
  have H2 := Lib.hid h2
  clear h2
  have hd0 : 0 ≤ d := by omega
  have hd1 : d ≤ 1048576 := by omega
  clear h
  go_enter Try.func5, Try.ntmps5
  go_wp2_with fail
  refine (awake39_any _).mono ?_
  rintro e w1 ⟨rfl, hb⟩
  have HS := Lib.hid (bx_new hb)
  obtain ⟨b, hb0⟩ : ∃ b, b = w.heap.size := ⟨_, rfl⟩
  rw [← hb0] at HS ⊢
  clear hb hb0
  obtain ⟨c1, c2, -, -⟩ := HS.out
  go_upto_region 6 with fail
  have HS6 := HS.out.alloc (.cells #[.int .i64 N, .int .i64 D] 23)
  obtain ⟨k1, k2, -⟩ := two_cells (w1 := w1) (t := 23) (u := .int .i64 N) (v := .int .i64 D) (Below.refl _ _)
  have k3 : (w1.alloc (.cells #[.int .i64 N, .int .i64 D] 23)).frozen? ⟨w1.heap.size, 0, none⟩ = false := by simp
  have n1 : ¬ b = w1.heap.size := by have := HS.out.2.2.1; omega
  generalize w1.alloc (.cells #[.int .i64 N, .int .i64 D] 23) = w6 at *
  have hkw : w.heap.size ≤ w1.heap.size := HS.out.2.2.2.size
  generalize w1.heap.size = k at *
  have n2 : ¬ k = b := fun h => n1 h.symm
  have HS6 := Lib.hid HS6
  have HK := Lib.hid hkw
  clear c1 c2 hkw
  obtain ⟨c1, c2, -, -⟩ := HS6.out
  rcases (by omega : N < 0 ∨ 1048576 < N ∨ (0 ≤ N ∧ N ≤ 1048576)) with g7 | g7 | ⟨g7, g8⟩
  · have e1 : (0 != N) = true := by rw [bne_iff_ne]; omega
    have e2 : ((0 : Int) == N) = false := by rw [beq_eq_false_iff_ne]; omega
    clear hN
    go_wp2
    go_ret
    exact ⟨rfl, HS6.out.2.2.2.setCell (p := ⟨k, 0, none⟩) HK.out _⟩
  · have e1 : (1048576 != N) = true := by rw [bne_iff_ne]; omega
    have e2 : ((1048576 : Int) == N) = false := by rw [beq_eq_false_iff_ne]; omega
    clear hN
    go_wp2
    go_ret
    exact ⟨rfl, HS6.out.2.2.2.setCell (p := ⟨k, 0, none⟩) HK.out _⟩
  · have v1 : IntKind.i64.wrap N = N := IntWalk.i64_in _ (by omega)
    have hk := Lib.hid (show decide (S < 0) = false → decide (1099511627776 < S) = false → decide (T < 0) = false → decide (1048576 < T) = true by
      intro a1 a2 a3
      rw [decide_eq_false_iff_not] at a1 a2 a3
      rw [decide_eq_true_iff]
      have := H2.out
      omega)
    clear hN
    cases a1 : decide (S < 0) with
    | true => go_wp2; go_ret; exact ⟨rfl, HS6.out.2.2.2.setCell (p := ⟨k, 0, none⟩) HK.out _⟩
    | false =>
    cases a2 : decide (1099511627776 < S) with
    | true => go_wp2; go_ret; exact ⟨rfl, HS6.out.2.2.2.setCell (p := ⟨k, 0, none⟩) HK.out _⟩
    | false =>
    cases a3 : decide (T < 0) with
    | true => go_wp2; go_ret; exact ⟨rfl, HS6.out.2.2.2.setCell (p := ⟨k, 0, none⟩) HK.out _⟩
    | false =>
    have a4 := hk.out a1 a2 a3
    go_wp2; go_ret; exact ⟨rfl, HS6.out.2.2.2.setCell (p := ⟨k, 0, none⟩) HK.out _⟩

set_option maxRecDepth 100000 in
set_option maxHeartbeats 8000000 in
theorem body (S m N D d T l B : Int) (w : World) (hm : 0 ≤ m ∧ m ≤ 1099511627776) (hd : 0 ≤ d ∧ d ≤ 1048576) (hl : 0 ≤ l ∧ l ≤ 1048576) (hN : 0 ≤ N ∧ N ≤ 1048576) (hS : 0 ≤ S ∧ S ≤ 1099511627776) (hT : 0 ≤ T ∧ T ≤ 1048576) :
    Calls Try.prog 5 #[.int .i64 S, .int .i64 m, .agg #[.int .i64 N, .int .i64 D], .int .i64 d, .int .i64 T, .int .i64 l, .int .i64 B] w fun e w' => e = .returned (.bool true) ∧ Below w.heap.size w w' := by
  have HI := Lib.hid (fun w => interest_any S N D T B w)
  have HJ := Lib.hid (fun w => interest_any (S + m) (N + d) D (T + l) B w)
  have HR := Lib.hid (fun w => rebate_any S N D T B w)
  have HQ := Lib.hid (fun w => rebate_any (S + m) (N + d) D (T + l) B w)
  obtain ⟨x, y, hx⟩ : ∃ x y, rebP S N D T B = (x, y) := ⟨_, _, rfl⟩
  obtain ⟨x2, y2, hx2⟩ : ∃ x y, rebP (S + m) (N + d) D (T + l) B = (x, y) := ⟨_, _, rfl⟩
  obtain ⟨p, q, ok, hi⟩ : ∃ p q ok, intP S N D T B = (p, q, ok) := ⟨_, _, _, rfl⟩
  obtain ⟨p2, q2, ok2, hi2⟩ : ∃ p q ok, intP (S + m) (N + d) D (T + l) B = (p, q, ok) := ⟨_, _, _, rfl⟩
  rw [hi] at HI
  rw [hi2] at HJ
  rw [hx] at HR
  rw [hx2] at HQ
  unfold rebP at hx hx2
  rw [hi] at hx
  rw [hi2] at hx2
  unfold vR at HI HJ
  unfold v2 at HR HQ
  have HXY := Lib.hid (show y = true → y2 = true → x ≤ x2 by
    intro h1 h2
    subst h1 h2
    cases ok with
    | false => simp at hx
    | true =>
      cases ok2 with
      | false => simp at hx2
      | true =>
        obtain ⟨P1, Q1, rfl, rfl, hf1⟩ := fine_of hi
        obtain ⟨P2, Q2, rfl, rfl, hf2⟩ := fine_of hi2
        have hlow := low hf1 hf2 hm.1 hd.1 hl.1
        have hdiv := div_cross hf1.pos hf2.pos hlow
        split at hx
        · split at hx2
          · simp only [Prod.mk.injEq, and_true] at hx hx2
            rw [← hx, ← hx2, ← Int.natCast_ediv, ← Int.natCast_ediv]
            omega
          · simp at hx2
        · simp at hx)
  have g1 : decide (m < 0) = false := by rw [decide_eq_false_iff_not]; omega
  have g2 : decide (d < 0) = false := by rw [decide_eq_false_iff_not]; omega
  have g3 : decide (l < 0) = false := by rw [decide_eq_false_iff_not]; omega
  have g4 : decide (1099511627776 < m) = false := by rw [decide_eq_false_iff_not]; omega
  have g5 : decide (1048576 < d) = false := by rw [decide_eq_false_iff_not]; omega
  have g6 : decide (1048576 < l) = false := by rw [decide_eq_false_iff_not]; omega
  have a1 : decide (S < 0) = false := by rw [decide_eq_false_iff_not]; omega
  have a2 : decide (1099511627776 < S) = false := by rw [decide_eq_false_iff_not]; omega
  have a3 : decide (T < 0) = false := by rw [decide_eq_false_iff_not]; omega
  have a4 : decide (1048576 < T) = false := by rw [decide_eq_false_iff_not]; omega
  have v1 : IntKind.i64.wrap N = N := IntWalk.i64_in _ (by omega)
  have v2 : IntKind.i64.wrap (S + m) = S + m := IntWalk.i64_in _ (by omega)
  have v3 : IntKind.i64.wrap (T + l) = T + l := IntWalk.i64_in _ (by omega)
  obtain ⟨hN0, hN1⟩ := hN
  obtain ⟨hd0, hd1⟩ := hd
  have HF := Lib.hid (show ok = true → ok2 = true → ∃ P1 Q1 P2 Q2 : Nat, p = P1 ∧ q = Q1 ∧ p2 = P2 ∧ q2 = Q2 ∧ P1 < 9223372036854775808 ∧ Q1 < 9223372036854775808 ∧ P2 < 9223372036854775808 ∧ Q2 < 9223372036854775808 ∧ 1 ≤ Q1 ∧ 1 ≤ Q2 ∧ cmpI P1 Q1 P2 Q2 ≤ 0 by
    intro h1 h2
    subst h1 h2
    obtain ⟨P1, Q1, rfl, rfl, hf1⟩ := fine_of hi
    obtain ⟨P2, Q2, rfl, rfl, hf2⟩ := fine_of hi2
    exact ⟨P1, Q1, P2, Q2, rfl, rfl, rfl, rfl, hf1.lt, by have := hf1.le; omega, hf2.lt, by have := hf2.le; omega, hf1.pos, hf2.pos, cmp_le (low hf1 hf2 hm.1 hd0 hl.1)⟩)
  clear hx hx2 hi hi2 hm hl hS hT
  go_enter Try.func5, Try.ntmps5
  go_wp2_with fail
  refine (awake39_any _).mono ?_
  rintro e w1 ⟨rfl, hb⟩
  have HS := Lib.hid (bx_new hb)
  obtain ⟨b, hb0⟩ : ∃ b, b = w.heap.size := ⟨_, rfl⟩
  rw [← hb0] at HS ⊢
  clear hb hb0
  obtain ⟨c1, c2, -, -⟩ := HS.out
  go_upto_region 6 with fail
  have HS6 := HS.out.alloc (.cells #[.int .i64 N, .int .i64 D] 23)
  obtain ⟨k1, k2, -⟩ := two_cells (w1 := w1) (t := 23) (u := .int .i64 N) (v := .int .i64 D) (Below.refl _ _)
  have k3 : (w1.alloc (.cells #[.int .i64 N, .int .i64 D] 23)).frozen? ⟨w1.heap.size, 0, none⟩ = false := by simp
  have n1 : ¬ b = w1.heap.size := by have := HS.out.2.2.1; omega
  generalize w1.alloc (.cells #[.int .i64 N, .int .i64 D] 23) = w6 at *
  have hkw : w.heap.size ≤ w1.heap.size := HS.out.2.2.2.size
  generalize w1.heap.size = k at *
  have n2 : ¬ k = b := fun h => n1 h.symm
  have HS7 := Lib.hid (HS6.setC n2 hkw (.int .i64 (N + d)))
  have HS6 := Lib.hid HS6
  have HK := Lib.hid hkw
  have HK7 : Bx k w (.int .i64 (N + d)) (.int .i64 D) (w6.setCell ⟨k, 0, none⟩ (.int .i64 (N + d))) := ⟨by simp [go_sem, k1, k3], by simp [go_sem, k2], by have := World.block_lt_of_cell? _ _ k1; simpa [World.setCell] using this, HS7.out.2.2.2⟩
  have HK7 := Lib.hid HK7
  clear hkw c1 c2
  obtain ⟨c1, c2, -, -⟩ := HS6.out
  go_upto_region 9 with fail
  clear c1 c2 k1 k2 k3
  generalize w6.setCell ⟨k, 0, none⟩ (.int .i64 (N + d)) = w7 at *
  obtain ⟨c1, c2, -, -⟩ := HS7.out
  go_wp2_with fail
  refine (HI.out _).mono ?_
  rintro e w8 ⟨rfl, hb⟩
  have HS8 := Lib.hid ((HS7.out.below hb).alloc (.cells #[.int .i64 p, .int .i64 q] 23))
  have HK8 := Lib.hid ((HK7.out.below hb).alloc (.cells #[.int .i64 p, .int .i64 q] 23))
  have HA8 : Hid (Bx w8.heap.size w (.int .i64 p) (.int .i64 q) (w8.alloc (.cells #[.int .i64 p, .int .i64 q] 23))) := Lib.hid (by
    obtain ⟨h1, h2, h3⟩ := two_cells (w1 := w8) (t := 23) (u := .int .i64 p) (v := .int .i64 q) (Below.refl _ _)
    exact ⟨h1, h2, h3, HS8.out.2.2.2⟩)
  clear hb c1 c2
  go_upto_region 10 with fail
  generalize w8.alloc (.cells #[.int .i64 p, .int .i64 q] 23) = w9 at *
  generalize w8.heap.size = r1 at *
  obtain ⟨c1, c2, -, -⟩ := HK8.out
  go_wp2_with fail
  refine (HJ.out _).mono ?_
  rintro e w10 ⟨rfl, hb⟩
  have HS10 := Lib.hid ((HS8.out.below hb).alloc (.cells #[.int .i64 p2, .int .i64 q2] 23))
  have HK10 := Lib.hid ((HK8.out.below hb).alloc (.cells #[.int .i64 p2, .int .i64 q2] 23))
  have HA10 := Lib.hid ((HA8.out.below hb).alloc (.cells #[.int .i64 p2, .int .i64 q2] 23))
  have HB10 : Hid (Bx w10.heap.size w (.int .i64 p2) (.int .i64 q2) (w10.alloc (.cells #[.int .i64 p2, .int .i64 q2] 23))) := Lib.hid (by
    obtain ⟨h1, h2, h3⟩ := two_cells (w1 := w10) (t := 23) (u := .int .i64 p2) (v := .int .i64 q2) (Below.refl _ _)
    exact ⟨h1, h2, h3, HS10.out.2.2.2⟩)
  clear hb c1 c2
  go_upto_region 11 with fail
  generalize w10.alloc (.cells #[.int .i64 p2, .int .i64 q2] 23) = w11 at *
  generalize w10.heap.size = r2 at *
  obtain ⟨c1, c2, -, -⟩ := HS10.out
  go_wp2_with fail
  refine (HR.out _).mono ?_
  rintro e w12 ⟨rfl, hb⟩
  have HK12 := Lib.hid (HK10.out.below hb)
  have HA12 := Lib.hid (HA10.out.below hb)
  have HB12 := Lib.hid (HB10.out.below hb)
  clear hb c1 c2
  obtain ⟨c1, c2, -, -⟩ := HK12.out
  go_wp2_with fail
  refine (HQ.out _).mono ?_
  rintro e w13 ⟨rfl, hb⟩
  have HA13 := Lib.hid (HA12.out.below hb)
  have HB13 := Lib.hid (HB12.out.below hb)
  clear hb c1 c2
  have hc : y = true → y2 = true → decide (x ≤ x2) = true := fun h1 h2 => by rw [decide_eq_true_iff]; exact HXY.out h1 h2
  have HC := Lib.hid hc
  clear hc
  cases ok with
  | false =>
    cases y with
    | false => go_wp2; go_ret; exact ⟨rfl, HA13.out.2.2.2⟩
    | true =>
    cases y2 with
    | false => go_wp2; go_ret; exact ⟨rfl, HA13.out.2.2.2⟩
    | true =>
    have h0 := HC.out rfl rfl
    go_wp2; go_ret; exact ⟨rfl, HA13.out.2.2.2⟩
  | true =>
  cases ok2 with
  | false =>
    cases y with
    | false => go_wp2; go_ret; exact ⟨rfl, HA13.out.2.2.2⟩
    | true =>
    cases y2 with
    | false => go_wp2; go_ret; exact ⟨rfl, HA13.out.2.2.2⟩
    | true =>
    have h0 := HC.out rfl rfl
    go_wp2; go_ret; exact ⟨rfl, HA13.out.2.2.2⟩
  | true =>
    obtain ⟨P1, Q1, P2, Q2, rfl, rfl, rfl, rfl, b1, b2, b3, b4, b5, b6, hle⟩ := HF.out rfl rfl
    have HCm := Lib.hid (fun w => compare_ok P1 Q1 P2 Q2 b1 b2 b3 b4 b5 b6 w)
    generalize cmpI P1 Q1 P2 Q2 = c at *
    have hle := decide_eq_true hle
    clear b1 b2 b3 b4 b5 b6 HF
    obtain ⟨c1, c2, -, -⟩ := HA13.out
    obtain ⟨c3, c4, -, -⟩ := HB13.out
    go_wp2_with fail
    refine (HCm.out _).mono ?_
    rintro e w14 ⟨rfl, hb⟩
    have HA14 := Lib.hid (HA13.out.below hb)
    clear hb c1 c2 c3 c4
    cases y with
    | false => go_wp2; go_ret; exact ⟨rfl, HA14.out.2.2.2⟩
    | true =>
    cases y2 with
    | false => go_wp2; go_ret; exact ⟨rfl, HA14.out.2.2.2⟩
    | true =>
    have h0 := HC.out rfl rfl
    go_wp2; go_ret; exact ⟨rfl, HA14.out.2.2.2⟩

theorem walk (S m : Int) (v : Value) (d T l B : Int) (w : World) (_ : (Lit.int .i64 S).wf = true) (_ : (Lit.int .i64 m).wf = true) (hv : Is23 w v) (_ : (Lit.int .i64 d).wf = true) (_ : (Lit.int .i64 T).wf = true) (_ : (Lit.int .i64 l).wf = true) (_ : (Lit.int .i64 B).wf = true) :
    Calls Try.prog 5 #[.int .i64 S, .int .i64 m, v, .int .i64 d, .int .i64 T, .int .i64 l, .int .i64 B] w fun e w' => e = .returned (.bool true) ∧ Below w.heap.size w w' := by
  obtain ⟨N, D, rfl, hN, _⟩ := hv
  have hN : -9223372036854775808 ≤ N ∧ N ≤ 9223372036854775807 := by simp [Lit.wf, IntKind.min, IntKind.max, IntKind.bits, IntKind.signed] at hN; omega
  by_cases h : m < 0 ∨ d < 0 ∨ l < 0 ∨ 1099511627776 < m ∨ 1048576 < d ∨ 1048576 < l
  · exact early1 S m N D d T l B w h
  · by_cases h2 : N < 0 ∨ 1048576 < N ∨ S < 0 ∨ 1099511627776 < S ∨ T < 0 ∨ 1048576 < T
    · exact early2 S m N D d T l B w hN h h2
    · exact body S m N D d T l B w (by omega) (by omega) (by omega) (by omega) (by omega) (by omega)
end discountLonger
end Go.Proofs.Ytbehepeebffmoaa
