/-
  The document's Error.
-/
import Derived.Test.YtoaopgamfndfgaaMost
namespace Go.Proofs.Ytoaopgamfndfgaa
open Go Go.RowKit
set_option linter.unusedVariables false
set_option linter.unusedSimpArgs false

theorem isum_bd (M : Int) : ∀ l : List Int, (∀ x ∈ l, 0 ≤ x ∧ x ≤ M) → 0 ≤ l.sum ∧ l.sum ≤ l.length * M
  | [], _ => by simp
  | a :: l, hl => by
    obtain ⟨h1, h2⟩ := isum_bd M l (fun x hx => hl x (List.mem_cons_of_mem _ hx))
    have h3 := hl a (by simp)
    rw [List.sum_cons, List.length_cons]
    have e : ((l.length + 1 : Nat) : Int) * M = (l.length : Int) * M + M := by rw [Int.natCast_add, Int.add_mul]; simp
    rw [e]; omega
theorem isum_zero : ∀ l : List Int, (∀ x ∈ l, 0 ≤ x) → (l.sum = 0 ↔ l.any is_pos = false)
  | [], _ => by simp
  | a :: l, hl => by
    have ih := isum_zero l (fun x hx => hl x (List.mem_cons_of_mem _ hx))
    have h1 := hl a (by simp)
    have h2 : 0 ≤ l.sum := by
      have : ∀ m : List Int, (∀ x ∈ m, 0 ≤ x) → 0 ≤ m.sum := fun m hm => by
        induction m with
        | nil => simp
        | cons b m ih => rw [List.sum_cons]; have := hm b (by simp); have := ih (fun x hx => hm x (List.mem_cons_of_mem _ hx)); omega
      exact this l (fun x hx => hl x (List.mem_cons_of_mem _ hx))
    rw [List.sum_cons, List.any_cons]
    by_cases h : 0 < a
    · simp [is_pos, h]; omega
    · have : a = 0 := by omega
      subst this
      simp [is_pos, ih]

set_option maxHeartbeats 2000000 in
theorem error_any (T : Int) (ao : Option Addr) (n cap : Nat) (zs : List Int) (w : World) (h : Ints w (.slice ao n cap) zs) (hn : n = zs.length) :
    Calls Try.prog 34 #[.int .i64 T, .slice ao n cap] w fun e w' => e = .returned (.int .i64 (wrongN T zs)) ∧ w' = w := by
  obtain ⟨ao', cap', e, k1, k2, _⟩ := h.shape
  rw [← hn] at e k1
  cases e
  unfold maxLen at k2
  have H := Lib.hid (h.get hn)
  have HN := Lib.hid hn
  obtain ⟨r, hr⟩ : ∃ r, r = wrongN T zs := ⟨_, rfl⟩
  rw [← hr]
  unfold wrongN at hr
  clear h hn
  by_cases c1 : T < 0
  · rw [if_pos (.inl c1)] at hr
    subst hr
    have d1 : decide (T < 0) = true := by simpa using c1
    go_enter Try.func34, Try.ntmps34
    go_wp2
    go_ret
    exact ⟨rfl, rfl⟩
  · have d1 : decide (T < 0) = false := by simpa using c1
    by_cases c2 : n = 0
    · rw [if_pos (.inr (.inl (List.eq_nil_of_length_eq_zero (by rw [← HN.out]; exact c2))))] at hr
      subst hr c2
      go_enter Try.func34, Try.ntmps34
      go_wp2
      go_ret
      exact ⟨rfl, rfl⟩
    · have c2' : zs ≠ [] := by intro e; rw [e] at HN; exact c2 HN.out
      have d2 : ((n : Int) == 0) = false := by rw [beq_eq_false_iff_ne]; omega
      have HR := Lib.hid hr
      clear hr
      go_enter Try.func34, Try.ntmps34
      go_wp2
      go_loop [5] (fun i => ∃ k : Nat, k ≤ n ∧ i = .int .i64 (k : Int) ∧ Hid ((zs.take k).any is_neg = false)) (fun i => n - (intOf i).toNat)
      case atStart => exact ⟨0, Nat.zero_le _, rfl, Lib.hid (by simp)⟩
      case round =>
        obtain ⟨k, hk, rfl, ha⟩ := hrel
        by_cases hlt : k < n
        · obtain ⟨b, off, e, hb, hc⟩ := H.out (by omega)
          cases e
          have c3 := hc k hlt
          have hkl : k < zs.length := by rw [← HN.out]; exact hlt
          have e1 : zs.getD k 0 = zs[k] := by simp [hkl]
          have HT := Lib.hid (fun (hp : is_neg zs[k] = false) => any_take hkl ha.out hp)
          have HU := Lib.hid (fun (hp : is_neg zs[k] = true) => show zs.any is_neg = true from List.any_eq_true.2 ⟨_, List.getElem_mem _, hp⟩)
          rw [e1] at c3
          generalize zs[k] = z at *
          clear hc e1 hkl
          by_cases hz : z < 0
          · have d3 : decide (z < 0) = true := by simpa using hz
            have HX := Lib.hid (show r = 1 by
              have := HR.out
              rwa [if_pos (.inr (.inr (HU.out (by simpa [is_neg] using hz))))] at this)
            clear HT HU hz
            go_wp2
            go_ret
            exact ⟨by rw [HX.out]; rfl, rfl⟩
          · have d3 : decide (z < 0) = false := by simpa using hz
            have HX := Lib.hid (HT.out (by simpa [is_neg] using hz))
            clear HT HU hz
            go_wp2
            go_round
            case rel => exact ⟨k + 1, by omega, by go_num, Lib.hid HX.out⟩
            case measure => simp [intOf]; omega
        · have hneg : zs.any is_neg = false := by
            have := ha.out
            rwa [List.take_of_length_le (by rw [← HN.out]; omega)] at this
          have hr := HR.out
          rw [if_neg (by simp [c1, c2', hneg])] at hr
          have hnn : ∀ z ∈ zs, 0 ≤ z := fun z hz => by
            rcases Int.lt_or_le z 0 with g | g
            · have : zs.any is_neg = true := List.any_eq_true.2 ⟨z, hz, by simpa [is_neg] using g⟩
              rw [hneg] at this; cases this
            · exact g
          by_cases c4 : 1099511627776 < T
          · rw [if_pos (.inl c4)] at hr
            subst hr
            have d4 : decide (1099511627776 < T) = true := by simpa using c4
            clear hneg hnn ha
            go_wp2
            go_ret
            exact ⟨rfl, rfl⟩
          · have d4 : decide (1099511627776 < T) = false := by simpa using c4
            by_cases c5 : 4096 < n
            · rw [if_pos (.inr (.inl (by rw [← HN.out]; exact c5)))] at hr
              subst hr
              have d5 : decide ((4096 : Int) < (n : Int)) = true := by rw [decide_eq_true_iff]; omega
              clear hneg hnn ha
              go_wp2
              go_ret
              exact ⟨rfl, rfl⟩
            · have d5 : decide ((4096 : Int) < (n : Int)) = false := by rw [decide_eq_false_iff_not]; omega
              have HR2 := Lib.hid hr
              have HNN := Lib.hid hnn
              have c5' : n ≤ 4096 := by omega
              clear hneg hnn ha hr HR c2'
              go_wp2
              go_loop [6, 7] (fun sm i => ∃ (k : Nat) (s : Int), k ≤ n ∧ i = .int .i64 (k : Int) ∧ sm = .int .i64 s ∧ Hid (s = (zs.take k).sum) ∧ Hid ((zs.take k).any is_over = false)) (fun _ i => n - (intOf i).toNat)
              case atStart => exact ⟨0, 0, Nat.zero_le _, rfl, rfl, Lib.hid (by simp), Lib.hid (by simp)⟩
              case round =>
                obtain ⟨k, s, hk, rfl, rfl, hs, ha⟩ := hrel
                by_cases hlt : k < n
                · obtain ⟨b, off, e, hb, hc⟩ := H.out (by omega)
                  cases e
                  have c6 := hc k hlt
                  have hkl : k < zs.length := by rw [← HN.out]; exact hlt
                  have e1 : zs.getD k 0 = zs[k] := by simp [hkl]
                  have HT := Lib.hid (fun (hp : is_over zs[k] = false) => any_take hkl ha.out hp)
                  have HU := Lib.hid (fun (hp : is_over zs[k] = true) => show zs.any is_over = true from List.any_eq_true.2 ⟨_, List.getElem_mem _, hp⟩)
                  have hz0 := HNN.out zs[k] (List.getElem_mem _)
                  have hsb := isum_bd 1099511627776 (zs.take k) (fun x hx => ⟨HNN.out x (List.mem_of_mem_take hx), by
                    rcases Int.lt_or_le 1099511627776 x with g | g
                    · have : (zs.take k).any is_over = true := List.any_eq_true.2 ⟨x, hx, by simpa [is_over] using g⟩
                      rw [ha.out] at this; cases this
                    · exact g⟩)
                  rw [← hs.out, List.length_take, Nat.min_eq_left (by omega)] at hsb
                  have HS2 := Lib.hid (show s + zs[k] = (zs.take (k + 1)).sum by rw [List.take_succ_eq_append_getElem hkl, List.sum_append, hs.out]; simp)
                  rw [e1] at c6
                  generalize zs[k] = z at *
                  clear hc e1 hkl
                  by_cases hz : 1099511627776 < z
                  · have d3 : decide (1099511627776 < z) = true := by simpa using hz
                    have HX := Lib.hid (show r = 3 by
                      have := HR2.out
                      rwa [if_pos (.inr (.inr (HU.out (by simpa [is_over] using hz))))] at this)
                    clear HT HU hz hsb hz0 HS2
                    go_wp2
                    go_ret
                    exact ⟨by rw [HX.out]; rfl, rfl⟩
                  · have d3 : decide (1099511627776 < z) = false := by simpa using hz
                    have HX := Lib.hid (HT.out (by simpa [is_over] using hz))
                    have hkb : (k : Int) * 1099511627776 ≤ 4096 * 1099511627776 := Int.mul_le_mul_of_nonneg_right (by omega) (by decide)
                    obtain ⟨s2, hs2⟩ : ∃ s2, s2 = s + z := ⟨_, rfl⟩
                    have E1 : IntKind.i64.wrap (s + z) = s2 := by rw [← hs2]; exact IntWalk.i64_in _ (by omega)
                    rw [← hs2] at HS2
                    clear HT HU hz hsb hz0 hkb hs2
                    go_wp2
                    go_round
                    case rel => exact ⟨k + 1, s2, by omega, by go_num, rfl, Lib.hid HS2.out, Lib.hid HX.out⟩
                    case measure => simp [intOf]; omega
                · have hov : zs.any is_over = false := by
                    have := ha.out
                    rwa [List.take_of_length_le (by rw [← HN.out]; omega)] at this
                  have hsum : s = zs.sum := by
                    have := hs.out
                    rwa [List.take_of_length_le (by rw [← HN.out]; omega)] at this
                  have hz := isum_zero zs HNN.out
                  rw [← hsum] at hz
                  have hr := HR2.out
                  rw [if_neg (by simp [c4, hov, ← HN.out]; omega)] at hr
                  by_cases hs0 : s = 0
                  · have hp := hz.1 hs0
                    by_cases hT : 0 < T
                    · rw [if_pos ⟨hT, hp⟩] at hr
                      subst hr
                      have d6 : decide (0 < T) = true := by simpa using hT
                      clear hz hp hov ha hs hsum
                      subst hs0
                      go_wp2
                      go_ret
                      exact ⟨rfl, rfl⟩
                    · rw [if_neg (by simp [hT])] at hr
                      subst hr
                      have d6 : decide (0 < T) = false := by simpa using hT
                      clear hz hp hov ha hs hsum
                      subst hs0
                      go_wp2
                      go_ret
                      exact ⟨rfl, rfl⟩
                  · have hp : zs.any is_pos ≠ false := fun e => hs0 (hz.2 e)
                    rw [if_neg (by simp [hp])] at hr
                    subst hr
                    have d6 : (s == 0) = false := by simpa using hs0
                    clear hz hp hov ha hs hsum hs0
                    go_wp2
                    go_ret
                    exact ⟨rfl, rfl⟩
end Go.Proofs.Ytoaopgamfndfgaa
