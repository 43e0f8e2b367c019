/-
  The plain law of discount.Interest: six divisions make the lowest terms.
-/
import Derived.Test.YtbehepeebffmoaaD2
namespace Go.Proofs.Ytbehepeebffmoaa
open Go Go.RowKit
theorem dgcd_cop {a b : Nat} (h : 0 < b) : ∃ g x y, 0 < g ∧ g = Nat.gcd a b ∧ a = g * x ∧ b = g * y ∧ a / g = x ∧ b / g = y ∧ Nat.Coprime x y := by
  have hg : 0 < Nat.gcd a b := Nat.gcd_pos_of_pos_right _ h
  exact ⟨Nat.gcd a b, a / Nat.gcd a b, b / Nat.gcd a b, hg, rfl, (Nat.mul_div_cancel' (Nat.gcd_dvd_left a b)).symm, (Nat.mul_div_cancel' (Nat.gcd_dvd_right a b)).symm, rfl, rfl, Nat.coprime_div_gcd_div_gcd hg⟩
/-- One division of a number above and one below by what divides both. -/
def stp (s : List Nat × List Nat) (i j : Nat) : List Nat × List Nat :=
  (s.1.set i (s.1.getD i 0 / Nat.gcd (s.1.getD i 0) (s.2.getD j 0)), s.2.set j (s.2.getD j 0 / Nat.gcd (s.1.getD i 0) (s.2.getD j 0)))
/-- All divisions ahead of the k-th one. -/
def stN (s : List Nat × List Nat) : Nat → List Nat × List Nat
  | 0 => s
  | k + 1 => stp (stN s k) (k / 2) (k % 2)
theorem stp_len (s : List Nat × List Nat) (i j : Nat) : (stp s i j).1.length = s.1.length ∧ (stp s i j).2.length = s.2.length := by simp [stp]
theorem stN_len (s : List Nat × List Nat) : ∀ k, (stN s k).1.length = s.1.length ∧ (stN s k).2.length = s.2.length
  | 0 => ⟨rfl, rfl⟩
  | k + 1 => by
    have h1 := stN_len s k
    have h2 := stp_len (stN s k) (k / 2) (k % 2)
    exact ⟨h2.1.trans h1.1, h2.2.trans h1.2⟩
theorem pos_set {l : List Nat} (h : ∀ x ∈ l, 0 < x) {j y : Nat} (hy : 0 < y) : ∀ x ∈ l.set j y, 0 < x := by
  intro x hx
  rcases List.mem_or_eq_of_mem_set hx with h1 | h1
  · exact h x h1
  · omega
theorem stN_pos (s : List Nat × List Nat) (h : ∀ x ∈ s.2, 0 < x) (hl : s.2.length = 2) : ∀ k, ∀ x ∈ (stN s k).2, 0 < x
  | 0 => h
  | k + 1 => by
    have ih := stN_pos s h hl k
    have hlen := (stN_len s k).2
    have hb : 0 < (stN s k).2.getD (k % 2) 0 := by
      have hk : k % 2 < (stN s k).2.length := by omega
      rw [List.getD_eq_getElem?_getD, List.getElem?_eq_getElem hk]
      exact ih _ (List.getElem_mem _)
    exact pos_set ih (Nat.div_pos (Nat.gcd_le_right _ hb) (Nat.gcd_pos_of_pos_right _ hb))
theorem bnd_set {l : List Nat} {M : Nat} (h : ∀ x ∈ l, x ≤ M) {j d : Nat} : ∀ x ∈ l.set j (l.getD j 0 / d), x ≤ M := by
  intro x hx
  rcases List.mem_or_eq_of_mem_set hx with h1 | h1
  · exact h x h1
  · subst h1
    refine Nat.le_trans (Nat.div_le_self _ _) ?_
    rcases Nat.lt_or_ge j l.length with g | g
    · rw [List.getD_eq_getElem?_getD, List.getElem?_eq_getElem g]; exact h _ (List.getElem_mem _)
    · rw [List.getD_eq_getElem?_getD, List.getElem?_eq_none g]; exact Nat.zero_le _
theorem stN_bnd (s : List Nat × List Nat) {M : Nat} (h1 : ∀ x ∈ s.1, x ≤ M) (h2 : ∀ x ∈ s.2, x ≤ M) : ∀ k, (∀ x ∈ (stN s k).1, x ≤ M) ∧ (∀ x ∈ (stN s k).2, x ≤ M)
  | 0 => ⟨h1, h2⟩
  | k + 1 => ⟨bnd_set (stN_bnd s h1 h2 k).1, bnd_set (stN_bnd s h1 h2 k).2⟩

theorem low_unique {P Q c p q : Nat} (hc : 0 < c) (h1 : P = c * p) (h2 : Q = c * q) (h : Nat.Coprime p q) : P / Nat.gcd P Q = p ∧ Q / Nat.gcd P Q = q := by
  have hg : Nat.gcd P Q = c := by rw [h1, h2, Nat.gcd_mul_left, h, Nat.mul_one]
  rw [hg, h1, h2, Nat.mul_div_cancel_left _ hc, Nat.mul_div_cancel_left _ hc]
  exact ⟨rfl, rfl⟩
theorem fold3 {a b c : Nat} (ha : a ≤ 1099511627776) (hb : b ≤ 1048576) : foldP 1 [a, b, c] = if a * b * c < 9223372036854775808 then some (a * b * c) else none := by
  have h1 : a * b ≤ 1152921504606846976 := Nat.le_trans (Nat.mul_le_mul ha hb) (by decide)
  unfold foldP
  rw [Nat.one_mul, if_pos (by omega)]
  unfold foldP
  rw [if_pos (by omega)]
  unfold foldP
  rfl
theorem fold2 {a b : Nat} (ha : a ≤ 1048576) (hb : b ≤ 365) : foldP 1 [a, b] = some (a * b) := by
  have h1 : a * b ≤ 382730240 := Nat.le_trans (Nat.mul_le_mul ha hb) (by decide)
  unfold foldP
  rw [Nat.one_mul, if_pos (by omega)]
  unfold foldP
  rw [if_pos (by omega)]
  rfl
/-- Behind all six divisions: the fraction in its lowest terms. -/
theorem st6 (a0 a1 a2 b0 b1 : Nat) (h0 : 0 < b0) (h1 : 0 < b1) : ∃ x0 x1 x2 y0 y1 : Nat, stN ([a0, a1, a2], [b0, b1]) 6 = ([x0, x1, x2], [y0, y1]) ∧ x0 ≤ a0 ∧ x1 ≤ a1 ∧ x2 ≤ a2 ∧ y0 ≤ b0 ∧ y1 ≤ b1 ∧
    x0 * x1 * x2 = a0 * a1 * a2 / Nat.gcd (a0 * a1 * a2) (b0 * b1) ∧ y0 * y1 = b0 * b1 / Nat.gcd (a0 * a1 * a2) (b0 * b1) := by
  obtain ⟨g1, p1, q1, G1, E1, A1, B1, C1, D1, K1⟩ := dgcd_cop (a := a0) h0
  obtain ⟨g2, p2, q2, G2, E2, A2, B2, C2, D2, K2⟩ := dgcd_cop (a := p1) h1
  have hq1 : 0 < q1 := Nat.pos_of_mul_pos_left (by rw [← B1]; exact h0)
  have hq2 : 0 < q2 := Nat.pos_of_mul_pos_left (by rw [← B2]; exact h1)
  obtain ⟨g3, p3, q3, G3, E3, A3, B3, C3, D3, K3⟩ := dgcd_cop (a := a1) hq1
  obtain ⟨g4, p4, q4, G4, E4, A4, B4, C4, D4, K4⟩ := dgcd_cop (a := p3) hq2
  have hq3 : 0 < q3 := Nat.pos_of_mul_pos_left (by rw [← B3]; exact hq1)
  have hq4 : 0 < q4 := Nat.pos_of_mul_pos_left (by rw [← B4]; exact hq2)
  obtain ⟨g5, p5, q5, G5, E5, A5, B5, C5, D5, K5⟩ := dgcd_cop (a := a2) hq3
  obtain ⟨g6, p6, q6, G6, E6, A6, B6, C6, D6, K6⟩ := dgcd_cop (a := p5) hq4
  have hst : stN ([a0, a1, a2], [b0, b1]) 6 = ([p2, p4, p6], [q5, q6]) := by
    simp [stN, stp, ← E1, C1, D1, ← E2, C2, D2, ← E3, C3, D3, ← E4, C4, D4, ← E5, C5, D5, ← E6, C6, D6]
  have hP : a0 * a1 * a2 = g1 * g2 * g3 * g4 * g5 * g6 * (p2 * p4 * p6) := by rw [A1, A2, A3, A4, A5, A6]; ac_rfl
  have hQ : b0 * b1 = g1 * g2 * g3 * g4 * g5 * g6 * (q5 * q6) := by rw [B1, B3, B5, B2, B4, B6]; ac_rfl
  have d1 : q5 ∣ q3 := ⟨g5, by rw [B5, Nat.mul_comm]⟩
  have d2 : q3 ∣ q1 := ⟨g3, by rw [B3, Nat.mul_comm]⟩
  have d3 : q6 ∣ q4 := ⟨g6, by rw [B6, Nat.mul_comm]⟩
  have d4 : q4 ∣ q2 := ⟨g4, by rw [B4, Nat.mul_comm]⟩
  have d5 : p2 ∣ p1 := ⟨g2, by rw [A2, Nat.mul_comm]⟩
  have d6 : p4 ∣ p3 := ⟨g4, by rw [A4, Nat.mul_comm]⟩
  have d7 : p6 ∣ p5 := ⟨g6, by rw [A6, Nat.mul_comm]⟩
  have k1 : Nat.Coprime p2 q5 := (K1.coprime_dvd_left d5).coprime_dvd_right (Nat.dvd_trans d1 d2)
  have k2 : Nat.Coprime p2 q6 := K2.coprime_dvd_right (Nat.dvd_trans d3 d4)
  have k3 : Nat.Coprime p4 q5 := (K3.coprime_dvd_left d6).coprime_dvd_right d1
  have k4 : Nat.Coprime p4 q6 := K4.coprime_dvd_right d3
  have k5 : Nat.Coprime p6 q5 := K5.coprime_dvd_left d7
  have k : Nat.Coprime (p2 * p4 * p6) (q5 * q6) :=
    Nat.Coprime.mul_right ((k1.mul_left k3).mul_left k5) ((k2.mul_left k4).mul_left K6)
  have hc : 0 < g1 * g2 * g3 * g4 * g5 * g6 := by
    refine Nat.mul_pos (Nat.mul_pos (Nat.mul_pos (Nat.mul_pos (Nat.mul_pos G1 G2) G3) G4) G5) G6
  obtain ⟨e1, e2⟩ := low_unique hc hP hQ k
  refine ⟨p2, p4, p6, q5, q6, hst, ?_, ?_, ?_, ?_, ?_, e1.symm, e2.symm⟩
  · rw [← C2, ← C1]; exact Nat.le_trans (Nat.div_le_self _ _) (Nat.div_le_self _ _)
  · rw [← C4, ← C3]; exact Nat.le_trans (Nat.div_le_self _ _) (Nat.div_le_self _ _)
  · rw [← C6, ← C5]; exact Nat.le_trans (Nat.div_le_self _ _) (Nat.div_le_self _ _)
  · rw [← D5, ← D3, ← D1]; exact Nat.le_trans (Nat.div_le_self _ _) (Nat.le_trans (Nat.div_le_self _ _) (Nat.div_le_self _ _))
  · rw [← D6, ← D4, ← D2]; exact Nat.le_trans (Nat.div_le_self _ _) (Nat.le_trans (Nat.div_le_self _ _) (Nat.div_le_self _ _))
theorem scale_low {P Q g : Nat} (hg : 0 < g) : g * P / Nat.gcd (g * P) (g * Q) = P / Nat.gcd P Q ∧ g * Q / Nat.gcd (g * P) (g * Q) = Q / Nat.gcd P Q := by
  rw [Nat.gcd_mul_left, Nat.mul_div_mul_left _ _ hg, Nat.mul_div_mul_left _ _ hg]
  exact ⟨rfl, rfl⟩
end Go.Proofs.Ytbehepeebffmoaa
