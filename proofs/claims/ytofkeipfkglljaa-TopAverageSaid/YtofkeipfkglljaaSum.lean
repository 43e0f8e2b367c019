/-
  average.sacrificedMay, sum, values; the document's May, weights, sum; few.
-/
import Derived.Test.YtofkeipfkglljaaMay
import Derived.Test.YtofkeipfkglljaaRefSplit
import Derived.Test.YtofkeipfkglljaaArgI64
import Derived.Test.YtofkeipfkglljaaMost
namespace Go.Proofs.Ytofkeipfkglljaa
open Go Go.RowKit
set_option linter.unusedVariables false
set_option linter.unusedSimpArgs false

theorem may_nat {l : List In1} (h : mayB l = true) : ∃ W : List Nat, valsL l = natI W ∧ (∀ x ∈ W, x ≤ 1099511627776) ∧ W.length = l.length := by
  refine ⟨(valsL l).map Int.toNat, ?_, ?_, by simp [vals_len]⟩
  · unfold natI
    rw [List.map_map]
    conv => lhs; rw [← List.map_id (valsL l)]
    refine List.map_congr_left fun z hz => ?_
    have := may_vals h z hz
    simp; omega
  · intro x hx
    obtain ⟨z, hz, rfl⟩ := List.mem_map.1 hx
    have := may_vals h z hz
    omega
/-- May so much have been given up? -/
def goneAt (l : List In1) (g : List Int) (k : Nat) : Bool := decide (0 ≤ g.getD k 0) && decide (g.getD k 0 ≤ (l.getD k default).z)
def goneB (l : List In1) (g : List Int) : Bool := decide (g.length = l.length) && (List.range l.length).all (goneAt l g)
theorem gone_iff (l : List In1) (g : List Int) : goneB l g = true ↔ g.length = l.length ∧ ∀ k, k < l.length → goneAt l g k = true := by
  simp [goneB]
theorem gone_bad {l : List In1} {g : List Int} {k : Nat} (hk : k < l.length) (h : goneAt l g k = false) : goneB l g = false := by
  rw [Bool.eq_false_iff]
  intro hm
  have := ((gone_iff l g).1 hm).2 k hk
  rw [h] at this; cases this
theorem gone_len {l : List In1} {g : List Int} (h : g.length ≠ l.length) : goneB l g = false := by
  rw [Bool.eq_false_iff]
  intro hm
  exact h ((gone_iff l g).1 hm).1

set_option maxHeartbeats 2000000 in
theorem gone_any (ao bo : Option Addr) (n cap m cap2 : Nat) (l : List In1) (g : List Int) (w : World) (h : Ins w (.slice ao n cap) l) (hn : n = l.length) (h2 : Ints w (.slice bo m cap2) g) (hm : m = g.length) (h40 : n ≤ 4096) :
    Calls Try.prog 21 #[.slice ao n cap, .slice bo m cap2] w fun e w' => e = .returned (.bool (goneB l g)) ∧ w' = w := by
  obtain ⟨x, hx⟩ : ∃ x, x = goneB l g := ⟨_, rfl⟩
  rw [← hx]
  have HX := Lib.hid hx
  have H := Lib.hid h
  have H2 := Lib.hid h2
  have HN := Lib.hid hn
  have HM := Lib.hid hm
  clear hx h h2
  by_cases h1 : m = n
  · subst h1
    go_enter Try.func21, Try.ntmps21
    go_wp2
    go_loopw [14] (fun i wr => ∃ k : Nat, k ≤ m ∧ i = .int .i64 (k : Int) ∧ Hid (∀ j, j < k → goneAt l g j = true) ∧ Hid (wr = w)) (fun i _ => m - (intOf i).toNat)
    case atStart => exact ⟨0, Nat.zero_le _, rfl, Lib.hid (fun j hj => by omega), Lib.hid rfl⟩
    case round =>
      obtain ⟨k, hk, rfl, hp, hw⟩ := hrel
      by_cases hlt : k < m
      · have l1 : (k : Int) < (m : Int) := by omega
        have l0 : (0 : Int) ≤ (k : Int) := by omega
        have hwe := hw.out
        subst hwe
        obtain ⟨bl, off, rfl, hbl, hc⟩ := H.out.get HN.out (by omega)
        obtain ⟨bg, og, rfl, hbg, hc2⟩ := H2.out.get HM.out (by omega)
        obtain ⟨-, c2⟩ := hc k hlt
        have c3 := hc2 k hlt
        have HO := Lib.hid (show goneAt l g k = (decide (0 ≤ g.getD k 0) && decide (g.getD k 0 ≤ (l.getD k default).z)) from rfl)
        have HBad := Lib.hid (fun h => gone_bad (l := l) (g := g) (k := k) (by rw [← HN.out]; exact hlt) h)
        have HP := Lib.hid (show goneAt l g k = true → ∀ j, j < k + 1 → goneAt l g j = true from fun h j hj => by
          by_cases e : j = k
          · subst e; exact h
          · exact hp.out j (by omega))
        clear hc hc2
        generalize g.getD k 0 = y at *
        generalize (l.getD k default).z = z at *
        by_cases g2 : y < 0
        · have d3 : decide (y < 0) = true := by rw [decide_eq_true_iff]; exact g2
          have HR := Lib.hid (show x = false by rw [HX.out]; exact HBad.out (by rw [HO.out, show decide (0 ≤ y) = false by rw [decide_eq_false_iff_not]; omega]; rfl))
          go_wp2
          go_ret
          exact ⟨by rw [HR.out]; rfl, rfl⟩
        · have d3 : decide (y < 0) = false := by rw [decide_eq_false_iff_not]; exact g2
          by_cases g3 : z < y
          · have d4 : decide (z < y) = true := by rw [decide_eq_true_iff]; exact g3
            have HR := Lib.hid (show x = false by rw [HX.out]; exact HBad.out (by rw [HO.out, show decide (y ≤ z) = false by rw [decide_eq_false_iff_not]; omega]; simp))
            go_wp2
            go_ret
            exact ⟨by rw [HR.out]; rfl, rfl⟩
          · have d4 : decide (z < y) = false := by rw [decide_eq_false_iff_not]; exact g3
            have HQ := Lib.hid (HP.out (by rw [HO.out, show decide (0 ≤ y) = true by rw [decide_eq_true_iff]; omega, show decide (y ≤ z) = true by rw [decide_eq_true_iff]; omega]; rfl))
            go_wp2
            go_roundw
            case rel => exact ⟨k + 1, by omega, by go_num, HQ, Lib.hid (by trivial)⟩
            case measure => simp [intOf]; omega
      · obtain rfl : k = m := by omega
        have HR := Lib.hid (show x = true by rw [HX.out, gone_iff]; exact ⟨by rw [← HN.out, ← HM.out], fun j hj => hp.out j (by rw [HN.out]; exact hj)⟩)
        go_wp2
        go_ret
        exact ⟨by rw [HR.out]; rfl, hw.out⟩
  · have HR := Lib.hid (show x = false by rw [HX.out]; exact gone_len (by rw [← HN.out, ← HM.out]; exact h1))
    have d1 : ((m : Int) == (n : Int)) = false := by rw [beq_eq_false_iff_ne]; omega
    have d2 : ((m : Int) != (n : Int)) = true := by simp [bne, d1]
    go_enter Try.func21, Try.ntmps21
    go_wp2
    go_ret
    exact ⟨by rw [HR.out]; rfl, rfl⟩

theorem itake_step {zs : List Int} {k : Nat} (hk : k < zs.length) : (zs.take k).sum + zs.getD k 0 = (zs.take (k + 1)).sum := by
  rw [List.take_succ_eq_append_getElem hk, List.sum_append, List.getD_eq_getElem?_getD, List.getElem?_eq_getElem hk]; simp
theorem itake_bd {zs : List Int} (h : ∀ z ∈ zs, 0 ≤ z ∧ z ≤ 1099511627776) (k : Nat) : 0 ≤ (zs.take k).sum ∧ (zs.take k).sum ≤ zs.length * 1099511627776 := by
  have := isum_bd 1099511627776 (zs.take k) (fun z hz => h z (List.mem_of_mem_take hz))
  have h2 : ((zs.take k).length : Int) ≤ zs.length := by simp; omega
  refine ⟨this.1, Int.le_trans this.2 (Int.mul_le_mul_of_nonneg_right h2 (by decide))⟩

set_option maxHeartbeats 2000000 in
theorem sum_any (bo : Option Addr) (m cap2 : Nat) (g : List Int) (w : World) (h2 : Ints w (.slice bo m cap2) g) (hm : m = g.length) (h40 : m ≤ 4096) (hg : ∀ z ∈ g, 0 ≤ z ∧ z ≤ 1099511627776) :
    Calls Try.prog 23 #[.slice bo m cap2] w fun e w' => e = .returned (.int .i64 g.sum) ∧ w' = w := by
  obtain ⟨S, hS⟩ : ∃ S, S = g.sum := ⟨_, rfl⟩
  rw [← hS]
  have HS := Lib.hid hS
  have H2 := Lib.hid h2
  have HM := Lib.hid hm
  have HG := Lib.hid (fun k => itake_bd hg k)
  clear h2 hg hS
  have HZ := Lib.hid (show (0 : Int) = (g.take 0).sum by simp)
  go_enter Try.func23, Try.ntmps23
  go_wp2
  go_loopw [3, 8] (fun s i wr => ∃ k : Nat, k ≤ m ∧ s = .int .i64 (g.take k).sum ∧ i = .int .i64 (k : Int) ∧ Hid (wr = w)) (fun _ i _ => m - (intOf i).toNat)
  case atStart => exact ⟨0, Nat.zero_le _, by rw [← HZ.out], rfl, Lib.hid rfl⟩
  case round =>
    obtain ⟨k, hk, rfl, rfl, hw⟩ := hrel
    by_cases hlt : k < m
    · have l1 : (k : Int) < (m : Int) := by omega
      have l0 : (0 : Int) ≤ (k : Int) := by omega
      have hwe := hw.out
      subst hwe
      obtain ⟨bg, og, rfl, hbg, hc2⟩ := H2.out.get HM.out (by omega)
      have c3 := hc2 k hlt
      have HT := Lib.hid (itake_step (zs := g) (k := k) (by rw [← HM.out]; exact hlt))
      have hb1 := HG.out (k + 1)
      rw [← HT.out, ← HM.out] at hb1
      have v1 : IntKind.i64.wrap ((g.take k).sum + g.getD k 0) = (g.take k).sum + g.getD k 0 := IntWalk.i64_in _ (by omega)
      clear hc2
      generalize g.getD k 0 = y at *
      generalize (g.take k).sum = s at *
      go_wp2
      go_roundw
      case rel => exact ⟨k + 1, by omega, by rw [← HT.out], by go_num, Lib.hid (by trivial)⟩
      case measure => simp [intOf]; omega
    · obtain rfl : k = m := by omega
      have HE := Lib.hid (show (g.take k).sum = S by rw [HS.out, List.take_of_length_le (by rw [← HM.out]; exact Nat.le_refl _)])
      go_wp2
      go_ret
      exact ⟨by rw [← HE.out]; rfl, hw.out⟩
end Go.Proofs.Ytofkeipfkglljaa
