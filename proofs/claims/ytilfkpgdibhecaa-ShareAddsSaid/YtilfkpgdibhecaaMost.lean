/-
  ShareMost: the place of the greatest number is told, of alike ones the first.
-/
import Derived.Test.YtilfkpgdibhecaaShare
namespace Go.Proofs.Ytilfkpgdibhecaa
open Go Go.RowKit
set_option linter.unusedVariables false
set_option linter.unusedSimpArgs false

/-- Of the first k numbers j is the place of the greatest, the first of such. -/
def MostAt (zs : List Int) (k j : Nat) : Prop := j < k ∧ ∀ i, i < k → zs.getD i 0 ≤ zs.getD j 0 ∧ (zs.getD i 0 = zs.getD j 0 → j ≤ i)
theorem most_first (zs : List Int) : MostAt zs 1 0 := by
  refine ⟨by omega, fun i hi => ?_⟩
  obtain rfl : i = 0 := by omega
  exact ⟨Int.le_refl _, fun _ => Nat.le_refl _⟩
theorem most_more {zs : List Int} {k j : Nat} (h : MostAt zs k j) (hg : zs.getD j 0 < zs.getD k 0) : MostAt zs (k + 1) k := by
  refine ⟨by omega, fun i hi => ?_⟩
  by_cases e : i = k
  · subst e; exact ⟨Int.le_refl _, fun _ => Nat.le_refl _⟩
  · have := (h.2 i (by omega)).1
    exact ⟨by omega, fun e' => by omega⟩
theorem most_same {zs : List Int} {k j : Nat} (h : MostAt zs k j) (hg : ¬ zs.getD j 0 < zs.getD k 0) : MostAt zs (k + 1) j := by
  have hj := h.1
  refine ⟨by omega, fun i hi => ?_⟩
  by_cases e : i = k
  · subst e; exact ⟨by omega, fun _ => by omega⟩
  · exact h.2 i (by omega)

theorem Ints.get {w : World} {ao : Option Addr} {n cap : Nat} {zs : List Int} (h : Ints w (.slice ao n cap) zs) (hn : n = zs.length) (hp : 0 < n) : ∃ b off, ao = some ⟨b, off, none⟩ ∧ b < w.heap.size ∧ ∀ k, k < n → w.cell? ⟨b, off + k, none⟩ = some (.int .i64 (zs.getD k 0)) := by
  obtain ⟨b, off, cap', e, _, _, hb, hc⟩ := h.at (by omega)
  cases e
  exact ⟨b, off, rfl, hb, fun k hk => by have := hc k (by omega); rw [this]; simp [show k < zs.length by omega]⟩

set_option maxHeartbeats 1000000 in
theorem most_any (ao : Option Addr) (n cap : Nat) (zs : List Int) (w : World) (h : Ints w (.slice ao n cap) zs) (hn : n = zs.length) :
    Calls Try.prog 17 #[.slice ao n cap] w fun e w' => (∃ a : Int, e = .returned (.int .i64 a) ∧ ((n = 0 ∧ a = -1) ∨ ∃ j : Nat, a = j ∧ MostAt zs n j)) ∧ w' = w := by
  obtain ⟨ao', cap', e, k1, k2, _⟩ := h.shape
  rw [← hn] at e k1
  cases e
  unfold maxLen at k2
  have H := Lib.hid (h.get hn)
  clear h hn
  go_enter Try.func17, Try.ntmps17
  go_wp2
  go_loop [3, 8] (fun at' i => ∃ (k : Nat) (a : Int), k ≤ n ∧ i = .int .i64 (k : Int) ∧ at' = .int .i64 a ∧ Hid ((k = 0 ∧ a = -1) ∨ ∃ j : Nat, a = j ∧ MostAt zs k j)) (fun _ i => n - (intOf i).toNat)
  case atStart => exact ⟨0, -1, Nat.zero_le _, rfl, rfl, Lib.hid (.inl ⟨rfl, rfl⟩)⟩
  case round =>
    obtain ⟨k, a, hk, rfl, rfl, ha⟩ := hrel
    by_cases hlt : k < n
    · obtain ⟨b, off, e, hb, hc⟩ := H.out (by omega)
      cases e
      have c1 := hc k hlt
      rcases ha.out with ⟨h0, h1⟩ | ⟨j, h1, hj⟩
      · subst h0 h1
        rw [Nat.add_zero] at c1
        clear hc ha
        go_wp2
        go_round
        case rel => exact ⟨1, 0, by omega, rfl, rfl, Lib.hid (.inr ⟨0, rfl, most_first zs⟩)⟩
        case measure => simp [intOf]; omega
      · subst h1
        have hjk := hj.1
        have c2 := hc j (by omega)
        have d1 : decide ((j : Int) < 0) = false := by rw [decide_eq_false_iff_not]; omega
        have HJ := Lib.hid hj
        clear hc ha hj
        by_cases hg : zs.getD j 0 < zs.getD k 0
        · have HR := Lib.hid (most_more HJ.out hg)
          generalize zs.getD j 0 = y at *
          generalize zs.getD k 0 = x at *
          have d2 : decide (y < x) = true := by simpa using hg
          go_wp2
          go_round
          case rel => exact ⟨k + 1, k, by omega, by go_num, rfl, Lib.hid (.inr ⟨k, rfl, HR.out⟩)⟩
          case measure => simp [intOf]; omega
        · have HR := Lib.hid (most_same HJ.out hg)
          generalize zs.getD j 0 = y at *
          generalize zs.getD k 0 = x at *
          have d2 : decide (y < x) = false := by simpa using hg
          go_wp2
          go_round
          case rel => exact ⟨k + 1, j, by omega, by go_num, rfl, Lib.hid (.inr ⟨j, rfl, HR.out⟩)⟩
          case measure => simp [intOf]; omega
    · obtain rfl : n = k := by omega
      have HR := Lib.hid ha.out
      clear ha
      go_wp2
      go_ret
      exact ⟨⟨a, rfl, HR.out⟩, rfl⟩

namespace shareMost
theorem core1 (ao : Option Addr) (n cap : Nat) (w : World) (h : 200 < n) :
    Calls Try.prog 6 #[.slice ao n cap] w fun e w' => e = .returned (.bool true) ∧ Below w.heap.size w w' := by
  have d1 : decide ((200 : Int) < (n : Int)) = true := by rw [decide_eq_true_iff]; omega
  go_enter Try.func6, Try.ntmps6
  go_wp2_with fail
  refine (awake_any _).mono ?_
  rintro e w1 ⟨rfl, hb1⟩
  have HB1 := Lib.hid hb1
  clear hb1
  go_wp2_with fail
  refine (awake_any _).mono ?_
  rintro e w2 ⟨rfl, hb2⟩
  have HB2 := Lib.hid hb2
  clear hb2
  go_wp2
  go_ret
  exact ⟨rfl, bt HB1.out HB2.out⟩

set_option maxHeartbeats 2000000 in
theorem core (ao : Option Addr) (n cap : Nat) (zs : List Int) (w : World) (h : Ints w (.slice ao n cap) zs) (hn : n = zs.length) (hl : n ≤ 200) :
    Calls Try.prog 6 #[.slice ao n cap] w fun e w' => e = .returned (.bool true) ∧ Below w.heap.size w w' := by
  have d1 : decide ((200 : Int) < (n : Int)) = false := by rw [decide_eq_false_iff_not]; omega
  have H := Lib.hid h
  have HN := Lib.hid hn
  clear h hn
  go_enter Try.func6, Try.ntmps6
  go_wp2_with fail
  refine (awake_any _).mono ?_
  rintro e w1 ⟨rfl, hb1⟩
  have HB1 := Lib.hid hb1
  have H1 := Lib.hid (H.out.below hb1)
  clear hb1 H
  go_wp2_with fail
  refine (most_any ao n cap zs _ H1.out HN.out).mono ?_
  rintro e w2 ⟨⟨a, rfl, ha⟩, rfl⟩
  rcases ha with ⟨h0, h1⟩ | ⟨j, h1, hj⟩
  · subst h0 h1
    go_wp2
    go_ret
    exact ⟨rfl, HB1.out⟩
  · subst h1
    have hjn := hj.1
    have d2 : ((n : Int) == 0) = false := by rw [beq_eq_false_iff_ne]; omega
    have d3 : decide ((j : Int) < 0) = false := by rw [decide_eq_false_iff_not]; omega
    have d4 : decide ((n : Int) ≤ (j : Int)) = false := by rw [decide_eq_false_iff_not]; omega
    have d5 : decide (n ≤ j) = false := by rw [decide_eq_false_iff_not]; omega
    obtain ⟨b, off, e, hb, hc⟩ := H1.out.get HN.out (by omega)
    cases e
    have HC := Lib.hid hc
    have c2 := hc j hjn
    have HJ := Lib.hid hj
    clear hc hj
    go_wp2_with fail
    go_loop [31] (fun i => ∃ k : Nat, k ≤ n ∧ i = .int .i64 (k : Int)) (fun i => n - (intOf i).toNat)
    case atStart => exact ⟨0, Nat.zero_le _, rfl⟩
    case round =>
      obtain ⟨k, hk, rfl⟩ := hrel
      by_cases hlt : k < n
      · have c1 := HC.out k hlt
        obtain ⟨g1, g2⟩ := HJ.out.2 k hlt
        generalize zs.getD j 0 = y at *
        generalize zs.getD k 0 = x at *
        have e1 : decide (y < x) = false := by rw [decide_eq_false_iff_not]; omega
        by_cases hxy : x = y
        · have e2 : (x == y) = true := by simpa using hxy
          have e3 : decide ((k : Int) < (j : Int)) = false := by rw [decide_eq_false_iff_not]; have := g2 hxy; omega
          have e4 : decide (k < j) = false := by rw [decide_eq_false_iff_not]; have := g2 hxy; omega
          clear g1 g2
          subst hxy
          go_wp2
          go_round
          case rel => exact ⟨k + 1, by omega, by go_num⟩
          case measure => simp [intOf]; omega
        · have e2 : (x == y) = false := by simpa using hxy
          clear g1 g2
          go_wp2
          go_round
          case rel => exact ⟨k + 1, by omega, by go_num⟩
          case measure => simp [intOf]; omega
      · go_wp2
        go_ret
        exact ⟨rfl, HB1.out⟩

theorem walk (v0 : Value) (w : World) (w0 : Is22 w v0) :
    Calls Try.prog 6 #[v0] w fun e w' => e = .returned (.bool true) ∧ Below w.heap.size w w' := by
  obtain ⟨zs, h, _⟩ := w0
  obtain ⟨ao, cap, rfl, _⟩ := h.shape
  by_cases hl : zs.length ≤ 200
  · exact core ao _ cap zs w h rfl hl
  · exact core1 ao _ cap w (by omega)
end shareMost
end Go.Proofs.Ytilfkpgdibhecaa
