/-
  policy.causesMay, policy.isDay, policy.May. (Printed by tools/gen_pmay.py.)
-/
import Derived.Test.YtofkeipfkglljaaDoorPol
import Derived.OwnWalk
namespace Go.Proofs.YtofkeipfkglljaaDoor
open Go Go.RowKit
set_option linter.unusedVariables false
set_option linter.unusedSimpArgs false

theorem Ints.get2 {w : World} {ao : Option Addr} {n cap : Nat} {l : List Int} (h : Ints w (.slice ao n cap) l) (hn : n = l.length) (hp : 0 < n) : ∃ b off, ao = some ⟨b, off, none⟩ ∧ b < w.heap.size ∧ ∀ k, k < n →
    w.cell? ⟨b, off + k, none⟩ = some (.int .i64 (l.getD k 0)) := by
  obtain ⟨b, off, cap', e, h2, h3, h4, h5⟩ := h.at (by omega)
  cases e
  refine ⟨b, off, rfl, h4, fun k hk => ?_⟩
  have := h5 k (by omega)
  rw [List.getD_eq_getElem?_getD, List.getElem?_eq_getElem (show k < l.length by omega)]
  exact this

theorem isday_any (z : Int) (w : World) :
    Calls Tryd.prog 26 #[.int .i64 z] w fun e w' => e = .returned (.bool (dayB z)) ∧ w' = w := by
  unfold dayB
  cases h1 : decide (0 ≤ z) with
  | true =>
    go_enter Tryd.func26, Tryd.ntmps26
    go_wp2
    go_ret
    exact ⟨by rw [Bool.true_and]; rfl, rfl⟩
  | false =>
    go_enter Tryd.func26, Tryd.ntmps26
    go_wp2
    go_ret
    exact ⟨by rw [Bool.false_and]; rfl, rfl⟩

theorem causeAt_zero (zs : List Int) : causeAt zs 0 = (decide (0 ≤ zs.getD 0 0) && decide (zs.getD 0 0 ≤ 1048576)) := by simp [causeAt]
theorem causeAt_succ (zs : List Int) (k : Nat) : causeAt zs (k + 1) = (decide (0 ≤ zs.getD (k + 1) 0) && decide (zs.getD (k + 1) 0 ≤ 1048576) && decide (zs.getD k 0 < zs.getD (k + 1) 0)) := by simp [causeAt]

set_option maxHeartbeats 2000000 in
theorem causes_any (ao : Option Addr) (n cap : Nat) (zs : List Int) (w : World) (h : Ints w (.slice ao n cap) zs) (hn : n = zs.length) :
    Calls Tryd.prog 25 #[.slice ao n cap] w fun e w' => e = .returned (.bool (causesB zs)) ∧ w' = w := by
  obtain ⟨x, hx⟩ : ∃ x, x = causesB zs := ⟨_, rfl⟩
  rw [← hx]
  have HX := Lib.hid hx
  have H := Lib.hid h
  have HN := Lib.hid hn
  clear hx h
  by_cases h2 : 64 < n
  · have d2 : decide ((64 : Int) < (n : Int)) = true := by rw [decide_eq_true_iff]; omega
    have HR := Lib.hid (show x = false by rw [HX.out, Bool.eq_false_iff]; intro hm; have := (causes_iff zs).1 hm; omega)
    go_enter Tryd.func25, Tryd.ntmps25
    go_wp2
    go_ret
    exact ⟨by rw [HR.out]; rfl, rfl⟩
  · have d2 : decide ((64 : Int) < (n : Int)) = false := by rw [decide_eq_false_iff_not]; omega
    clear hn
    go_enter Tryd.func25, Tryd.ntmps25
    go_wp2
    go_loopw [10] (fun i wr => ∃ k : Nat, k ≤ n ∧ i = .int .i64 (k : Int) ∧ Hid (∀ j, j < k → causeAt zs j = true) ∧ Hid (wr = w)) (fun i _ => n - (intOf i).toNat)
    case atStart => exact ⟨0, Nat.zero_le _, rfl, Lib.hid (fun j hj => by omega), Lib.hid rfl⟩
    case round =>
      obtain ⟨k, hk, rfl, hp, hw⟩ := hrel
      by_cases hlt : k < n
      · have l1 : (k : Int) < (n : Int) := by omega
        have l0 : (0 : Int) ≤ (k : Int) := by omega
        have HBad := Lib.hid (fun h => causes_bad (zs := zs) (k := k) (by rw [← HN.out]; exact hlt) h)
        have HP := Lib.hid (show causeAt zs k = true → ∀ j, j < k + 1 → causeAt zs j = true from fun h j hj => by
          by_cases e : j = k
          · subst e; exact h
          · exact hp.out j (by omega))
        obtain ⟨bl, off, rfl, hbl, hc⟩ := H.out.get2 HN.out (by omega)
        have hwe := hw.out
        subst hwe
        have c1 := hc k hlt
        rcases k with _ | k
        · have HO := Lib.hid (causeAt_zero zs)
          obtain ⟨z, hz⟩ : ∃ z, z = zs.getD 0 0 := ⟨_, rfl⟩
          rw [← hz] at c1 HO
          clear hz hc
          by_cases g1 : z < 0
          · have d3 : decide (z < 0) = true := by rw [decide_eq_true_iff]; exact g1
            have HR := Lib.hid (show x = false by rw [HX.out]; exact HBad.out (by rw [HO.out, show decide (0 ≤ z) = false by rw [decide_eq_false_iff_not]; omega]; rfl))
            simp at c1
            go_wp2
            go_ret
            exact ⟨by rw [HR.out]; rfl, rfl⟩
          · have d3 : decide (z < 0) = false := by rw [decide_eq_false_iff_not]; exact g1
            by_cases g2 : 1048576 < z
            · have d4 : decide (1048576 < z) = true := by rw [decide_eq_true_iff]; exact g2
              have HR := Lib.hid (show x = false by rw [HX.out]; exact HBad.out (by rw [HO.out, show decide (z ≤ 1048576) = false by rw [decide_eq_false_iff_not]; omega]; simp))
              simp at c1
              go_wp2
              go_ret
              exact ⟨by rw [HR.out]; rfl, rfl⟩
            · have d4 : decide (1048576 < z) = false := by rw [decide_eq_false_iff_not]; exact g2
              have HQ := Lib.hid (HP.out (by rw [HO.out, show decide (0 ≤ z) = true by rw [decide_eq_true_iff]; omega, show decide (z ≤ 1048576) = true by rw [decide_eq_true_iff]; omega]; rfl))
              simp at c1
              go_wp2
              go_roundw
              case rel => exact ⟨1, by omega, by go_num, HQ, Lib.hid (by trivial)⟩
              case measure => simp [intOf]; omega
        · have HO := Lib.hid (causeAt_succ zs k)
          have c0 := hc k (by omega)
          obtain ⟨z, hz⟩ : ∃ z, z = zs.getD (k + 1) 0 := ⟨_, rfl⟩
          obtain ⟨y, hy⟩ : ∃ y, y = zs.getD k 0 := ⟨_, rfl⟩
          rw [← hz] at c1 HO
          rw [← hy] at c0 HO
          clear hz hy hc
          have l2 : (k : Int) < (n : Int) := by omega
          have l3 : (0 : Int) ≤ (k : Int) := by omega
          have v1 : IntKind.i64.wrap ((k : Int) + 1 - 1) = (k : Int) := by rw [Int.add_sub_cancel]; exact IntWalk.i64_in _ (by omega)
          have v2 : IntKind.i64.wrap (k : Int) = (k : Int) := IntWalk.i64_in _ (by omega)
          have d5 : decide ((0 : Int) < (k : Int) + 1) = true := by rw [decide_eq_true_iff]; omega
          by_cases g1 : z < 0
          · have d3 : decide (z < 0) = true := by rw [decide_eq_true_iff]; exact g1
            have HR := Lib.hid (show x = false by rw [HX.out]; exact HBad.out (by rw [HO.out, show decide (0 ≤ z) = false by rw [decide_eq_false_iff_not]; omega]; rfl))
            go_wp2
            go_ret
            exact ⟨by rw [HR.out]; rfl, rfl⟩
          · have d3 : decide (z < 0) = false := by rw [decide_eq_false_iff_not]; exact g1
            by_cases g2 : 1048576 < z
            · have d4 : decide (1048576 < z) = true := by rw [decide_eq_true_iff]; exact g2
              have HR := Lib.hid (show x = false by rw [HX.out]; exact HBad.out (by rw [HO.out, show decide (z ≤ 1048576) = false by rw [decide_eq_false_iff_not]; omega]; simp))
              go_wp2
              go_ret
              exact ⟨by rw [HR.out]; rfl, rfl⟩
            · have d4 : decide (1048576 < z) = false := by rw [decide_eq_false_iff_not]; exact g2
              by_cases g3 : z ≤ y
              · have d6 : decide (z ≤ y) = true := by rw [decide_eq_true_iff]; exact g3
                have HR := Lib.hid (show x = false by rw [HX.out]; exact HBad.out (by rw [HO.out, show decide (y < z) = false by rw [decide_eq_false_iff_not]; omega]; simp))
                go_wp2
                go_ret
                exact ⟨by rw [HR.out]; rfl, rfl⟩
              · have d6 : decide (z ≤ y) = false := by rw [decide_eq_false_iff_not]; exact g3
                have HQ := Lib.hid (HP.out (by rw [HO.out, show decide (0 ≤ z) = true by rw [decide_eq_true_iff]; omega, show decide (z ≤ 1048576) = true by rw [decide_eq_true_iff]; omega, show decide (y < z) = true by rw [decide_eq_true_iff]; omega]; rfl))
                go_wp2
                go_roundw
                case rel => exact ⟨k + 1 + 1, by omega, by go_num, HQ, Lib.hid (by trivial)⟩
                case measure => simp [intOf]; omega
      · obtain rfl : k = n := by omega
        have HR := Lib.hid (show x = true by rw [HX.out, causes_iff]; exact ⟨by rw [← HN.out]; omega, fun j hj => hp.out j (by rw [HN.out]; exact hj)⟩)
        go_wp2
        go_ret
        exact ⟨by rw [HR.out]; rfl, hw.out⟩

set_option maxHeartbeats 8000000 in
theorem pmay_any (i f t : ByteArray) (sum own : Int) (ao : Option Addr) (n cap : Nat) (zs : List Int) (first last share : Int) (w : World) (h : Ints w (.slice ao n cap) zs) (hn : n = zs.length) :
    Calls Tryd.prog 12 #[.agg #[.string i, .string f, .string t, .int .i64 sum, .int .i64 own, .slice ao n cap, .int .i64 first, .int .i64 last, .int .i64 share]] w fun e w' => e = .returned (.bool (Po.mk i f t sum own (.slice ao n cap) zs first last share).may) ∧ Below w.heap.size w w' := by
  have HNm := Lib.hid (fun z w => name_any z w)
  have HDy := Lib.hid (fun z w => isday_any z w)
  have HB := Lib.hid ((Below.refl w.heap.size w).alloc (Nat.le_refl _) (.cells #[.string i, .string f, .string t, .int .i64 sum, .int .i64 own, .slice ao n cap, .int .i64 first, .int .i64 last, .int .i64 share] 26))
  have HCs := Lib.hid (causes_any ao n cap zs _ (h.below HB.out) hn)
  unfold Po.may
  dsimp only
  clear h hn
  cases g0 : nameB i with
  | false =>
    go_enter Tryd.func12, Tryd.ntmps12
    go_wp2_with fail
    refine (HNm.out _ _).mono ?_
    rintro e w1 ⟨rfl, rfl⟩
    go_wp2
    go_ret
    exact ⟨rfl, HB.out⟩
  | true =>
    rw [Bool.true_and]
    cases g1 : nameB f with
    | false =>
      go_enter Tryd.func12, Tryd.ntmps12
      go_wp2_with fail
      refine (HNm.out _ _).mono ?_
      rintro e w1 ⟨rfl, rfl⟩
      go_wp2_with fail
      refine (HNm.out _ _).mono ?_
      rintro e w1 ⟨rfl, rfl⟩
      go_wp2
      go_ret
      exact ⟨rfl, HB.out⟩
    | true =>
      rw [Bool.true_and]
      cases g2 : nameB t with
      | false =>
        go_enter Tryd.func12, Tryd.ntmps12
        go_wp2_with fail
        refine (HNm.out _ _).mono ?_
        rintro e w1 ⟨rfl, rfl⟩
        go_wp2_with fail
        refine (HNm.out _ _).mono ?_
        rintro e w1 ⟨rfl, rfl⟩
        go_wp2_with fail
        refine (HNm.out _ _).mono ?_
        rintro e w1 ⟨rfl, rfl⟩
        go_wp2
        go_ret
        exact ⟨rfl, HB.out⟩
      | true =>
        rw [Bool.true_and]
        cases g3 : decide (1 ≤ sum) with
        | false =>
          go_enter Tryd.func12, Tryd.ntmps12
          go_wp2_with fail
          refine (HNm.out _ _).mono ?_
          rintro e w1 ⟨rfl, rfl⟩
          go_wp2_with fail
          refine (HNm.out _ _).mono ?_
          rintro e w1 ⟨rfl, rfl⟩
          go_wp2_with fail
          refine (HNm.out _ _).mono ?_
          rintro e w1 ⟨rfl, rfl⟩
          go_wp2
          go_ret
          exact ⟨rfl, HB.out⟩
        | true =>
          rw [Bool.true_and]
          cases g4 : decide (sum ≤ 1099511627776) with
          | false =>
            go_enter Tryd.func12, Tryd.ntmps12
            go_wp2_with fail
            refine (HNm.out _ _).mono ?_
            rintro e w1 ⟨rfl, rfl⟩
            go_wp2_with fail
            refine (HNm.out _ _).mono ?_
            rintro e w1 ⟨rfl, rfl⟩
            go_wp2_with fail
            refine (HNm.out _ _).mono ?_
            rintro e w1 ⟨rfl, rfl⟩
            go_wp2
            go_ret
            exact ⟨rfl, HB.out⟩
          | true =>
            rw [Bool.true_and]
            cases g5 : decide (0 ≤ own) with
            | false =>
              go_enter Tryd.func12, Tryd.ntmps12
              go_wp2_with fail
              refine (HNm.out _ _).mono ?_
              rintro e w1 ⟨rfl, rfl⟩
              go_wp2_with fail
              refine (HNm.out _ _).mono ?_
              rintro e w1 ⟨rfl, rfl⟩
              go_wp2_with fail
              refine (HNm.out _ _).mono ?_
              rintro e w1 ⟨rfl, rfl⟩
              go_wp2
              go_ret
              exact ⟨rfl, HB.out⟩
            | true =>
              rw [Bool.true_and]
              cases g6 : decide (own ≤ sum) with
              | false =>
                go_enter Tryd.func12, Tryd.ntmps12
                go_wp2_with fail
                refine (HNm.out _ _).mono ?_
                rintro e w1 ⟨rfl, rfl⟩
                go_wp2_with fail
                refine (HNm.out _ _).mono ?_
                rintro e w1 ⟨rfl, rfl⟩
                go_wp2_with fail
                refine (HNm.out _ _).mono ?_
                rintro e w1 ⟨rfl, rfl⟩
                go_wp2
                go_ret
                exact ⟨rfl, HB.out⟩
              | true =>
                rw [Bool.true_and]
                cases g7 : decide (1 ≤ share) with
                | false =>
                  go_enter Tryd.func12, Tryd.ntmps12
                  go_wp2_with fail
                  refine (HNm.out _ _).mono ?_
                  rintro e w1 ⟨rfl, rfl⟩
                  go_wp2_with fail
                  refine (HNm.out _ _).mono ?_
                  rintro e w1 ⟨rfl, rfl⟩
                  go_wp2_with fail
                  refine (HNm.out _ _).mono ?_
                  rintro e w1 ⟨rfl, rfl⟩
                  go_wp2
                  go_ret
                  exact ⟨rfl, HB.out⟩
                | true =>
                  rw [Bool.true_and]
                  cases g8 : decide (share ≤ 1000) with
                  | false =>
                    go_enter Tryd.func12, Tryd.ntmps12
                    go_wp2_with fail
                    refine (HNm.out _ _).mono ?_
                    rintro e w1 ⟨rfl, rfl⟩
                    go_wp2_with fail
                    refine (HNm.out _ _).mono ?_
                    rintro e w1 ⟨rfl, rfl⟩
                    go_wp2_with fail
                    refine (HNm.out _ _).mono ?_
                    rintro e w1 ⟨rfl, rfl⟩
                    go_wp2
                    go_ret
                    exact ⟨rfl, HB.out⟩
                  | true =>
                    rw [Bool.true_and]
                    cases g9 : causesB zs with
                    | false =>
                      rw [g9] at HCs
                      go_enter Tryd.func12, Tryd.ntmps12
                      go_wp2_with fail
                      refine (HNm.out _ _).mono ?_
                      rintro e w1 ⟨rfl, rfl⟩
                      go_wp2_with fail
                      refine (HNm.out _ _).mono ?_
                      rintro e w1 ⟨rfl, rfl⟩
                      go_wp2_with fail
                      refine (HNm.out _ _).mono ?_
                      rintro e w1 ⟨rfl, rfl⟩
                      go_wp2_with fail
                      refine HCs.out.mono ?_
                      rintro e w1 ⟨rfl, rfl⟩
                      go_wp2
                      go_ret
                      exact ⟨rfl, HB.out⟩
                    | true =>
                      rw [g9] at HCs
                      rw [Bool.true_and]
                      cases g10 : dayB first with
                      | false =>
                        go_enter Tryd.func12, Tryd.ntmps12
                        go_wp2_with fail
                        refine (HNm.out _ _).mono ?_
                        rintro e w1 ⟨rfl, rfl⟩
                        go_wp2_with fail
                        refine (HNm.out _ _).mono ?_
                        rintro e w1 ⟨rfl, rfl⟩
                        go_wp2_with fail
                        refine (HNm.out _ _).mono ?_
                        rintro e w1 ⟨rfl, rfl⟩
                        go_wp2_with fail
                        refine HCs.out.mono ?_
                        rintro e w1 ⟨rfl, rfl⟩
                        go_wp2_with fail
                        refine (HDy.out _ _).mono ?_
                        rintro e w1 ⟨rfl, rfl⟩
                        go_wp2
                        go_ret
                        exact ⟨rfl, HB.out⟩
                      | true =>
                        rw [Bool.true_and]
                        cases g11 : dayB last with
                        | false =>
                          go_enter Tryd.func12, Tryd.ntmps12
                          go_wp2_with fail
                          refine (HNm.out _ _).mono ?_
                          rintro e w1 ⟨rfl, rfl⟩
                          go_wp2_with fail
                          refine (HNm.out _ _).mono ?_
                          rintro e w1 ⟨rfl, rfl⟩
                          go_wp2_with fail
                          refine (HNm.out _ _).mono ?_
                          rintro e w1 ⟨rfl, rfl⟩
                          go_wp2_with fail
                          refine HCs.out.mono ?_
                          rintro e w1 ⟨rfl, rfl⟩
                          go_wp2_with fail
                          refine (HDy.out _ _).mono ?_
                          rintro e w1 ⟨rfl, rfl⟩
                          go_wp2_with fail
                          refine (HDy.out _ _).mono ?_
                          rintro e w1 ⟨rfl, rfl⟩
                          go_wp2
                          go_ret
                          exact ⟨rfl, HB.out⟩
                        | true =>
                          rw [Bool.true_and]
                          go_enter Tryd.func12, Tryd.ntmps12
                          go_wp2_with fail
                          refine (HNm.out _ _).mono ?_
                          rintro e w1 ⟨rfl, rfl⟩
                          go_wp2_with fail
                          refine (HNm.out _ _).mono ?_
                          rintro e w1 ⟨rfl, rfl⟩
                          go_wp2_with fail
                          refine (HNm.out _ _).mono ?_
                          rintro e w1 ⟨rfl, rfl⟩
                          go_wp2_with fail
                          refine HCs.out.mono ?_
                          rintro e w1 ⟨rfl, rfl⟩
                          go_wp2_with fail
                          refine (HDy.out _ _).mono ?_
                          rintro e w1 ⟨rfl, rfl⟩
                          go_wp2_with fail
                          refine (HDy.out _ _).mono ?_
                          rintro e w1 ⟨rfl, rfl⟩
                          go_wp2
                          go_ret
                          exact ⟨rfl, HB.out⟩
end Go.Proofs.YtofkeipfkglljaaDoor
