/-
  The plain law of share.Add: what it reckons is the reduced sum.
-/
import Derived.Test.YtbehepeebffmoaaGcd
namespace Go.Proofs.Ytbehepeebffmoaa
open Go Go.RowKit
theorem add_num (aN aD bN bD ga gb an ad bn bd d x y : Nat) (h1 : aN = ga * an) (h2 : aD = ga * ad) (h3 : bN = gb * bn) (h4 : bD = gb * bd) (h5 : ad = d * x) (h6 : bd = d * y) :
    aN * bD + bN * aD = ga * gb * d * (an * y + bn * x) ∧ aD * bD = ga * gb * d * (d * (x * y)) := by
  subst h1 h2 h3 h4 h5 h6
  constructor
  · rw [Nat.mul_add]; congr 1 <;> ac_rfl
  · ac_rfl
theorem div_eq_of {a b c : Nat} (hc : 0 < c) (h : a = c * b) : a / c = b := by subst h; exact Nat.mul_div_cancel_left b hc
theorem gcd_cop {a b : Nat} (h : 0 < b) : ∃ g x y, 0 < g ∧ g = Nat.gcd a b ∧ a = g * x ∧ b = g * y ∧ a / g = x ∧ b / g = y ∧ Nat.Coprime x y := by
  have hg : 0 < Nat.gcd a b := Nat.gcd_pos_of_pos_right _ h
  exact ⟨Nat.gcd a b, a / Nat.gcd a b, b / Nat.gcd a b, hg, rfl, (Nat.mul_div_cancel' (Nat.gcd_dvd_left a b)).symm, (Nat.mul_div_cancel' (Nat.gcd_dvd_right a b)).symm, rfl, rfl, Nat.coprime_div_gcd_div_gcd hg⟩
theorem cop_sum {an bn x y d : Nat} (h1 : Nat.Coprime an (d * x)) (h2 : Nat.Coprime bn (d * y)) (h3 : Nat.Coprime x y) : Nat.Coprime (x * y) (an * y + bn * x) := by
  have a1 : Nat.Coprime an x := Nat.Coprime.coprime_dvd_right (Nat.dvd_mul_left x d) h1
  have a2 : Nat.Coprime bn y := Nat.Coprime.coprime_dvd_right (Nat.dvd_mul_left y d) h2
  apply Nat.Coprime.mul_left
  · show Nat.gcd x (an * y + bn * x) = 1
    rw [Nat.gcd_add_mul_right_right]
    exact (Nat.Coprime.mul_right a1.symm h3)
  · show Nat.gcd y (an * y + bn * x) = 1
    rw [Nat.add_comm, Nat.gcd_add_mul_right_right]
    exact (Nat.Coprime.mul_right a2.symm h3.symm)
/-- What share.Add reckons is the reduced sum. -/
theorem add_red {aN aD bN bD : Nat} (ha : 0 < aD) (hb : 0 < bD) : ∃ ga gb an ad bn bd d x y g : Nat,
    ga = Nat.gcd aN aD ∧ gb = Nat.gcd bN bD ∧ 0 < ga ∧ 0 < gb ∧ an = aN / ga ∧ ad = aD / ga ∧ bn = bN / gb ∧ bd = bD / gb ∧ 0 < ad ∧ 0 < bd ∧ d = Nat.gcd ad bd ∧ 0 < d ∧ x = ad / d ∧ y = bd / d ∧
    g = Nat.gcd ((an * y + bn * x) % d) d ∧ 0 < g ∧ g ≤ d ∧
    (an * y + bn * x) / g = (aN * bD + bN * aD) / Nat.gcd (aN * bD + bN * aD) (aD * bD) ∧ x * (bd / g) = aD * bD / Nat.gcd (aN * bD + bN * aD) (aD * bD) := by
  obtain ⟨ga, an, ad, g0, eg, e1, e2, e3, e4, c1⟩ := gcd_cop (a := aN) ha
  obtain ⟨gb, bn, bd, g1, eg1, e5, e6, e7, e8, c2⟩ := gcd_cop (a := bN) hb
  have had : 0 < ad := Nat.pos_of_mul_pos_left (by rw [← e2]; exact ha)
  have hbd : 0 < bd := Nat.pos_of_mul_pos_left (by rw [← e6]; exact hb)
  obtain ⟨d, x, y, g2, eg2, e9, e10, e11, e12, c3⟩ := gcd_cop (a := ad) hbd
  obtain ⟨M, hM⟩ : ∃ M, M = an * y + bn * x := ⟨_, rfl⟩
  obtain ⟨hP, hQ⟩ := add_num aN aD bN bD ga gb an ad bn bd d x y e1 e2 e5 e6 e9 e10
  rw [← hM] at hP
  have hgd : Nat.gcd (M % d) d = Nat.gcd M d := by rw [← Nat.gcd_rec, Nat.gcd_comm]
  have hg : 0 < Nat.gcd M d := Nat.gcd_pos_of_pos_right _ g2
  have hcop := cop_sum (d := d) (an := an) (bn := bn) (x := x) (y := y) (by rw [← e9]; exact c1) (by rw [← e10]; exact c2) c3
  rw [← hM] at hcop
  have hG : Nat.gcd (aN * bD + bN * aD) (aD * bD) = ga * gb * d * Nat.gcd M d := by
    rw [hP, hQ, Nat.gcd_mul_left, Nat.Coprime.gcd_mul_right_cancel_right d hcop]
  have hc : 0 < ga * gb * d := Nat.mul_pos (Nat.mul_pos g0 g1) g2
  refine ⟨ga, gb, an, ad, bn, bd, d, x, y, Nat.gcd M d, eg, eg1, g0, g1, e3.symm, e4.symm, e7.symm, e8.symm, had, hbd, eg2, g2, e11.symm, e12.symm, by rw [← hM, hgd], hg, Nat.gcd_le_right _ g2, ?_, ?_⟩
  · rw [← hM, hG, hP, Nat.mul_div_mul_left _ _ hc]
  · rw [hG, hQ, Nat.mul_div_mul_left _ _ hc]
    obtain ⟨d', hd'⟩ := Nat.gcd_dvd_right M d
    generalize Nat.gcd M d = g at *
    rw [div_eq_of (b := d' * y) hg (by rw [e10, hd']; ac_rfl), div_eq_of (b := d' * (x * y)) hg (by rw [hd']; ac_rfl)]
    ac_rfl
theorem red_cop {P Q : Nat} (h : 0 < Q) : Nat.gcd (P / Nat.gcd P Q) (Q / Nat.gcd P Q) = 1 := Nat.coprime_div_gcd_div_gcd (Nat.gcd_pos_of_pos_right _ h)
end Go.Proofs.Ytbehepeebffmoaa
