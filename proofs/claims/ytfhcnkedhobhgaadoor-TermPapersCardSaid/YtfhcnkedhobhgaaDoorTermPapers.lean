/-
  TermPapers: the walk.
-/
import Derived.Test.YtfhcnkedhobhgaaDoorTermPays2
namespace Go.Proofs.YtfhcnkedhobhgaaDoor.termPapers
open Go Go.RowKit
set_option linter.unusedVariables false
set_option linter.unusedSimpArgs false

theorem law {t : Int} (h : isB t = true) : 2 ≤ (pprZ t).length ∧ (pprZ t)[0]? = some 0 ∧ (pprZ t)[1]? = some 1 ∧ (pprZ t).contains 2 = decide (2 < cosT t) ∧ (pprZ t).contains 3 = (t == 4) ∧
    ∀ i, i < 3 → ∀ x ∈ (pprZ t)[i]?, ∀ y ∈ (pprZ t)[i+1]?, x < y := by
  simp [isB] at h
  obtain ⟨n, rfl⟩ := Int.eq_ofNat_of_zero_le h.1
  have : n ≤ 7 := by omega
  clear h
  match n, this with
  | 0, _ | 1, _ | 2, _ | 3, _ | 4, _ | 5, _ | 6, _ | 7, _ =>
    exact ⟨by decide, by decide, by decide, by decide, by decide, by decide⟩

set_option maxHeartbeats 1000000 in
theorem walk_a (t : Int) (w : World) (ht : isB t = false) (hw : Terms w) :
    Calls Tryd.prog 6 #[.int .i64 t] w fun e w' => e = .returned (.bool true) ∧ Below w.heap.size w w' := by
  have HA := Lib.hid awake_k
  have HI := Lib.hid (fun w h => by have := is_k t w h; rwa [ht] at this)
  have HN := Lib.hid (fun w h => by have := needs_k t w h; rwa [termPays.ppr_none ht] at this)
  clear ht
  go_enter Tryd.func6, Tryd.ntmps6
  go_wp2_with fail
  refine (HA.out _ hw).mono ?_
  rintro e w1 ⟨rfl, hw1, hb1⟩
  go_wp2_with fail
  refine (HN.out _ hw1).mono ?_
  rintro e w2 ⟨ao, cap, rfl, _, hw2, hb2⟩
  go_wp2_with fail
  refine (HI.out _ hw2).mono ?_
  rintro e w3 ⟨rfl, hw3, hb3⟩
  go_wp2
  go_ret
  exact ⟨rfl, bt (bt hb1 hb2) hb3⟩

theorem contains_snoc (l : List Int) (x y : Int) : (l ++ [x]).contains y = (l.contains y || (x == y)) := by
  rw [Bool.eq_iff_iff]; simp; constructor <;> (intro h; rcases h with h | h; exact .inl h; exact .inr h.symm)

set_option maxHeartbeats 4000000 in
theorem walk_b (t : Int) (w : World) (ht : isB t = true) (hw : Terms w) :
    Calls Tryd.prog 6 #[.int .i64 t] w fun e w' => e = .returned (.bool true) ∧ Below w.heap.size w w' := by
  have HA := Lib.hid awake_k
  have HP := Lib.hid (passes_k t)
  have HI := Lib.hid (fun w h => by have := is_k t w h; rwa [ht] at this)
  have HN := Lib.hid (needs_k t)
  obtain ⟨l1, l2, l3, l4, l5, l6⟩ := law ht
  have hlen := pprZ_len t
  obtain ⟨zs, hzs⟩ : ∃ zs, zs = pprZ t := ⟨_, rfl⟩
  rw [← hzs] at l1 l2 l3 l4 l5 l6 hlen HN
  have HL := Lib.hid (And.intro l2 (And.intro l3 (And.intro l4 (And.intro l5 l6))))
  clear ht l2 l3 l4 l5 l6 hzs
  go_enter Tryd.func6, Tryd.ntmps6
  go_wp2_with fail
  refine (HA.out _ hw).mono ?_
  rintro e w1 ⟨rfl, hw1, hb1⟩
  go_wp2_with fail
  refine (HN.out _ hw1).mono ?_
  rintro e w2 ⟨ao, cap, rfl, hi, hw2, hb2⟩
  obtain ⟨b, off, cap', e, h1, h2, _, hc⟩ := hi.at (by omega)
  cases e
  obtain ⟨len, hl⟩ : ∃ len, len = zs.length := ⟨_, rfl⟩
  have HC := Lib.hid hc
  have HLen := Lib.hid hl
  rw [← hl] at h1 l1 hlen
  rw [← hl]
  clear hc hi hl
  unfold maxLen at h2
  go_wp2_with fail
  refine (HI.out _ hw2).mono ?_
  rintro e w3 ⟨rfl, hw3, hb3⟩
  have HC3 := Lib.hid (fun k hk => cell_later hb3 (HC.out k hk))
  have hb := bt (bt hb1 hb2) hb3
  clear hb1 hb2 hb3 hw1 hw2 HA HI HN HC
  go_wp2_with fail
  go_loopw [4, 5, 6] (fun p q i wr => ∃ k : Nat, k ≤ len ∧ i = .int .i64 k ∧ p = .bool ((zs.take k).contains 2) ∧ q = .bool ((zs.take k).contains 3) ∧ ∃ n, wr = w3.drewN n) (fun _ _ i _ => len - (intOf i).toNat)
  case atStart => exact ⟨0, by omega, rfl, by simp, by simp, 0, rfl⟩
  case round =>
    obtain ⟨k, hk, rfl, rfl, rfl, n, rfl⟩ := hrel
    by_cases hlt : k < len
    · have hkz : k < zs.length := by rw [← HLen.out]; exact hlt
      have c1 := HC3.out k hkz
      have t1 := take_snoc zs k hkz
      have P1 := Lib.hid (show (zs.take (k+1)).contains 2 = ((zs.take k).contains 2 || (zs[k] == 2)) by rw [t1, contains_snoc])
      have Q1 := Lib.hid (show (zs.take (k+1)).contains 3 = ((zs.take k).contains 3 || (zs[k] == 3)) by rw [t1, contains_snoc])
      have g1 := List.getElem?_eq_getElem hkz
      generalize zs[k] = x at *
      generalize (zs.take k).contains 2 = p at *
      generalize (zs.take k).contains 3 = q at *
      have G1 := Lib.hid g1
      clear t1 g1
      cases k with
      | zero =>
        rw [Nat.add_zero] at c1
        cases p <;> cases q <;>
        · go_wp2
          go_quiet (fail)
          go_wp2
          go_roundw
          case rel => exact ⟨0 + 1, by omega, by first | rfl | go_num, by rw [P1.out]; simp, by rw [Q1.out]; simp, _, rfl⟩
          case measure => simp [intOf]; omega
      | succ j =>
        have hjz : j < zs.length := by omega
        have c2 := HC3.out j hjz
        have g2 := List.getElem?_eq_getElem hjz
        have hlt2 := HL.out.2.2.2.2 j (by omega) _ g2 _ G1.out
        generalize zs[j] = y at *
        clear g2 hjz hkz
        cases p <;> cases q <;>
        · go_wp2
          go_quiet (fail)
          go_wp2
          go_roundw
          case rel => exact ⟨j + 1 + 1, by omega, by go_num, by rw [P1.out]; simp, by rw [Q1.out]; simp, _, rfl⟩
          case measure => simp [intOf]; omega
    · obtain rfl : k = len := by omega
      have c0 := HC3.out 0 (by rw [← HLen.out]; omega)
      have c1 := HC3.out 1 (by rw [← HLen.out]; omega)
      have g0 : zs[0]'(by rw [← HLen.out]; omega) = 0 := Option.some.inj ((List.getElem?_eq_getElem (by rw [← HLen.out]; omega)).symm.trans HL.out.1)
      have g1 : zs[1]'(by rw [← HLen.out]; omega) = 1 := Option.some.inj ((List.getElem?_eq_getElem (by rw [← HLen.out]; omega)).symm.trans HL.out.2.1)
      rw [g0, Nat.add_zero] at c0
      rw [g1] at c1
      rw [List.take_of_length_le (by rw [← HLen.out]; exact Nat.le_refl _), HL.out.2.2.1, HL.out.2.2.2.1]
      have hw4 := hw3.drewN n
      clear g0 g1 HL HLen HC3 hw3
      go_wp2_with fail
      refine (HP.out _ hw4).mono ?_
      rintro e w5 ⟨rfl, hw5, hb5⟩
      have d0 := cell_later hb5 (show (w3.drewN n).cell? ⟨b, off, none⟩ = _ from c0)
      have d1 := cell_later hb5 (show (w3.drewN n).cell? ⟨b, off + 1, none⟩ = _ from c1)
      have hbb := bt (bt hb (below_drewN (Below.refl _ _) n)) hb5
      clear c0 c1 hb hb5 HP
      have hd : decide ((2 : Int) ≤ (k : Int)) = true := by simp; omega
      go_wp2
      all_goals
        go_ret
        exact ⟨by simp, hbb⟩

theorem walk (a0 : Int) (w : World) (w0 : (Lit.int .i64 a0).wf = true) (hw : Terms w) :
    Calls Tryd.prog 6 #[.int .i64 a0] w fun e w' => e = .returned (.bool true) ∧ Below w.heap.size w w' := by
  cases h : isB a0 with
  | false => exact walk_a a0 w h hw
  | true => exact walk_b a0 w h hw

theorem terms_met {W : World} (h : laidMetH Tryd.prog Rows.termPapersRow.laid W) : Terms W := terms_metH List.mem_cons_self (by kernel_rfl) (by kernel_rfl) h
end Go.Proofs.YtfhcnkedhobhgaaDoor.termPapers
