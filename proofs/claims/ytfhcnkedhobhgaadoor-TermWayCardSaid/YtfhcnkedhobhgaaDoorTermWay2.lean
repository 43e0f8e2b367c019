/-
  TermWay: the walk.
-/
import Derived.Test.YtfhcnkedhobhgaaDoorTermWay
namespace Go.Proofs.YtfhcnkedhobhgaaDoor.termWay
open Go Go.RowKit
set_option linter.unusedVariables false
set_option linter.unusedSimpArgs false

theorem own_cast {w : World} {b e sz n m : Nat} {v : Value} {xs ys : List Value} (h : w.ownsRow b e sz v n xs) (hn : n = m) (hx : xs = ys) : w.ownsRow b e sz v m ys := by subst hn; subst hx; exact h

theorem pre_succ {os : List ByteArray} {ds : List Int} {s : ByteArray} {d0 : Int} {k : Nat} (h1 : k < os.length) (h2 : k + 1 < ds.length) :
    pre os ds s d0 (k + 1) = pre os ds s d0 k ++ [mkH os[k] ds[k + 1]] := by
  unfold pre
  have hz : k < (os.zip ds.tail).length := by simp; omega
  rw [take_snoc _ _ hz, List.map_append, List.cons_append]
  simp
theorem pre_len {os : List ByteArray} {ds : List Int} {s : ByteArray} {d0 : Int} {k : Nat} (h1 : k ≤ os.length) (h2 : k + 1 ≤ ds.length) : (pre os ds s d0 k).length = k + 1 := by
  unfold pre; simp; omega

theorem sorted_head {ds : List Int} (h : ∀ m (h1 : m + 1 < ds.length), ds[m] ≤ ds[m + 1]) (hp : 0 < ds.length) : ∀ i (hi : i < ds.length), ds[0] ≤ ds[i] := by
  intro i
  induction i with
  | zero => intro _; exact Int.le_refl _
  | succ i ih => intro hi; exact Int.le_trans (ih (by omega)) (h i hi)

set_option maxRecDepth 100000 in
set_option maxHeartbeats 8000000 in
theorem core (t : Int) (os : List ByteArray) (ds : List Int) (v1 v2 : Value) (s b : ByteArray) (day later : Int) (w : World) (h1 : Strs w v1 os) (h2 : Ints w v2 ds) (ht : isB t = true) (ho : os.length ≤ 20)
    (hl : ds.length = os.length + 2) (hsb : ¬ s.toList = b.toList) (hss : s.size ≤ 100) (hbs : b.size ≤ 100) (hdl : day ≤ later) (hw : Terms w) :
    Calls Tryd.prog 9 #[.int .i64 t, v1, v2, .string s, .string b, .int .i64 day, .int .i64 later] w fun e w' => e = .returned (.bool true) ∧ Below w.heap.size w w' := by
  obtain ⟨i0, hi, hz0, hz1, hz2⟩ := info_parts Tryd.info42
  have HA := Lib.hid (awake_k w hw)
  have HI := Lib.hid (fun w h => by have := is_k t w h; rwa [ht] at this)
  have HP := Lib.hid (fun hs v d w hv hw => bearer_any t hs v d s b w hv hw)
  have HT := Lib.hid ht
  obtain ⟨b2, off2, cap2, rfl, k1, k2, _, hc2⟩ := h2.at (by omega)
  obtain ⟨ao, cap1, e1, k3, k4, k5⟩ := h1.shape
  subst e1
  obtain ⟨n, hn⟩ : ∃ n, n = os.length := ⟨_, rfl⟩
  have HN := Lib.hid hn
  have hlen2 : ds.length = n + 2 := by omega
  have HL := Lib.hid hlen2
  have HS := Lib.hid hsb
  rw [hlen2, ← hn]
  rw [hlen2] at k1
  rw [← hn] at k3 ho
  have hx1 : (s.toList == b.toList) = false := by simpa using hsb
  have hx2 : (b.toList == s.toList) = false := by simpa using fun e => hsb e.symm
  have hd1 : decide ((100 : Int) < (s.size : Int)) = false := by simp; omega
  have hd2 : decide ((100 : Int) < (b.size : Int)) = false := by simp; omega
  have hd3 : decide ((20 : Int) < (n : Int)) = false := by simp; omega
  have hd4 : ((((n + 2 : Nat) : Int)) != ((n : Int) + 2)) = false := by simp
  have hd5 : decide (later < day) = false := by simp; omega
  have H1 := Lib.hid h1
  have HC2 := Lib.hid hc2
  clear hn hsb hc2 h1 h2 ht hlen2 hss hbs hl k5
  go_enter Tryd.func9, Tryd.ntmps9
  go_wp2_with fail
  refine HA.out.mono ?_
  rintro e w1 ⟨rfl, hw1, hb1⟩
  clear HA
  go_wp2_with fail
  refine (HI.out _ hw1).mono ?_
  rintro e w2 ⟨rfl, hw2, hb2⟩
  have hb12 := bt hb1 hb2
  have HD := Lib.hid (fun k hk => cell_later hb12 (HC2.out k hk))
  have d0c := HD.out 0 (by rw [HL.out]; omega)
  rw [Nat.add_zero] at d0c
  obtain ⟨d0, hd0⟩ : ∃ x, x = ds[0]'(by rw [HL.out]; omega) := ⟨_, rfl⟩
  rw [← hd0] at d0c
  have HD0 := Lib.hid hd0
  clear hd0 HC2 HI hb1 hb2 hw1
  go_wp2_with fail
  have HB0 := Lib.hid (show Below w2.heap.size w2 (w2.alloc (.cells #[.string ⟨#[]⟩, .string ⟨#[]⟩, .string s, .string ⟨#[]⟩, .int .i64 d0] 42)) from (Below.refl _ _).alloc (Nat.le_refl _) _)
  go_loopw [15, 16] (fun v i wr => ∃ k : Nat, k ≤ n ∧ i = .int .i64 k ∧ wr.ownsRow w2.heap.size 42 5 v (k + 1) ((pre os ds s d0 k).flatMap Hand.cells) ∧ Below w2.heap.size w2 wr ∧ ∀ o ∈ os.take k, ¬ o.toList = s.toList ∧ ¬ o.toList = b.toList) (fun _ i _ => n - (intOf i).toNat)
  case atStart => exact ⟨0, Nat.zero_le _, rfl, ⟨rfl, .inr ⟨w2.heap.size, 1, _, rfl, Nat.le_refl _, heap_alloc_new _ _, Nat.le_refl _, by unfold maxLen; omega, rfl, by simp [pre, mkH, Hand.cells]⟩⟩, HB0.out, by simp⟩
  case round =>
    obtain ⟨k, hk, rfl, hown, hbr, hos⟩ := hrel
    have HO := Lib.hid hown
    have HB := Lib.hid hbr
    have HOS := Lib.hid hos
    clear hown hbr hos HB0
    by_cases hlt : k < n
    · have hko : k < os.length := by rw [← HN.out]; exact hlt
      have hkd : k + 1 < ds.length := by rw [HL.out]; omega
      obtain ⟨b1, off1, cap1', e1, _, _, _, hc1⟩ := Strs.at (H1.out.below (bt hb12 HB.out)) (by omega)
      have a1 := hc1 k hko
      have a2 := cell_later HB.out (HD.out (k + 1) hkd)
      rw [← HN.out] at e1
      cases e1
      have P1 := Lib.hid (pre_succ (s := s) (d0 := d0) hko hkd)
      have T1 := Lib.hid (take_snoc os k hko)
      generalize os[k] = x at *
      generalize ds[k+1] = y at *
      clear hc1 hko hkd HD d0c
      by_cases g1 : 100 < x.size
      · have g1' : decide ((100 : Int) < (x.size : Int)) = true := by simp; omega
        go_wp2
        go_ret
        exact ⟨rfl, bt hb12 HB.out⟩
      · have g1' : decide ((100 : Int) < (x.size : Int)) = false := by simp; omega
        by_cases g2 : x.toList = s.toList
        · have g2' : (x.toList == s.toList) = true := by simpa using g2
          clear g2
          go_wp2
          go_ret
          exact ⟨rfl, bt hb12 HB.out⟩
        · have g2' : (x.toList == s.toList) = false := by simpa using g2
          by_cases g3 : x.toList = b.toList
          · have g3' : (x.toList == b.toList) = true := by simpa using g3
            clear g3 g2
            go_wp2
            go_ret
            exact ⟨rfl, bt hb12 HB.out⟩
          · have g3' : (x.toList == b.toList) = false := by simpa using g3
            have G := Lib.hid (And.intro g2 g3)
            clear g2 g3
            go_wp2
            have m0 := HB.out.size
            have m1 : IntKind.i64.wrap ((k : Int) + 1) = (k : Int) + 1 := IntWalk.i64_in _ (by omega)
            have m2 : (0 : Int) ≤ (k : Int) + 1 := by omega
            have m3 : ((k : Int) + 1).toNat = k + 1 := by omega
            have m4 : (k : Int) + 1 < (n : Int) + 2 := by omega
            have L1 : k + 1 + 1 ≤ maxLen := by unfold maxLen; omega
            have L2 : (k + 1 + 1) * 72 ≤ 140737488355328 := by omega
            have m5 : w2.heap.size ≤ ((wr.alloc (.cells #[.string ⟨#[]⟩, .string ⟨#[]⟩, .string x, .string ⟨#[]⟩, .int .i64 y] 42)).drew).heap.size := by simp; omega
            have Z5 : 0 < 5 := by decide
            go_region_law (refine step_app rfl (.tmp 94) (.tmp 105) 40 rfl w2.heap.size 42 i0 _ 5 72 Tryd.underlying40 hi hz0 hz1 hz2 rfl Z5 _ _ _ rfl (HO.out.alloc _).drew (HB.out.alloc m0 _).drew (Nat.le_refl _) m5 #[.string ⟨#[]⟩, .string ⟨#[]⟩, .string x, .string ⟨#[]⟩, .int .i64 y] wr.heap.size rfl (new_cells _ _ _) rfl (hand_one (mkH x y)) L1 L2 ?_; intro v4 w4 hown4 hb4 _; have HO4 := Lib.hid hown4; have HB4 := Lib.hid hb4; clear hown4 hb4)
            all_goals
              clear m0 m1 m2 m3 m4 m5 Z5 L1 L2
              go_wp2
              go_roundw
              case rel => exact ⟨k + 1, by omega, by go_num, by rw [P1.out, List.flatMap_append]; simpa [mkH, Hand.cells] using HO4.out, HB4.out, by rw [T1.out]; intro o ho; rcases List.mem_append.1 ho with ho | ho; exact HOS.out o ho; simp at ho; subst ho; exact G.out⟩
              case measure => simp [intOf]; omega
    · obtain rfl : k = n := by omega
      have dlc := cell_later HB.out (HD.out (k + 1) (by rw [HL.out]; omega))
      obtain ⟨dl, hdl'⟩ : ∃ x, x = ds[k + 1]'(by rw [HL.out]; omega) := ⟨_, rfl⟩
      rw [← hdl'] at dlc
      have HDL := Lib.hid hdl'
      have e1 : (((k + 2 : Nat) : Int) - 1) = (k : Int) + 1 := by omega
      clear hdl'
      go_wp2_with (at_builtin; refine wp_app rfl (.tmp 107) (.tmp 116) 40 rfl w2.heap.size 42 i0 _ 5 72 Tryd.underlying40 hi hz0 hz1 hz2 rfl (by decide) _ _ _ rfl HO.out HB.out (Nat.le_refl _) HB.out.size #[.string ⟨#[]⟩, .string ⟨#[]⟩, .string b, .string ⟨#[]⟩, .int .i64 dl] _ rfl rfl rfl (hand_one (mkH b dl)) (by unfold maxLen; omega) (by omega) ?_; intro v4 w4 hown4 hb4 _; have HO4 := Lib.hid hown4; have HB4 := Lib.hid hb4; clear hown4 hb4)
      have hbw := bt hb12 HB4.out
      have hw4 := hw2.below HB4.out
      have HE := Lib.hid (fun m hm => cell_later HB4.out (HD.out m hm))
      have HH := Lib.hid (show Hands w4 v4 (chain os ds s b d0 dl) from by
        have hl1 := pre_len (os := os) (ds := ds) (s := s) (d0 := d0) (k := k) (by rw [← HN.out]; exact Nat.le_refl _) (by rw [HL.out]; omega)
        have := Row.of_own HO4.out
        unfold Hands chain
        rw [← HN.out, List.length_append, hl1, List.flatMap_append]
        simpa [mkH, Hand.cells] using this)
      have HQ1 := Lib.hid HOS.out
      have d0e := cell_later HB4.out d0c
      clear HO HB HO4 HD H1 d0c dlc HOS e1 HB4 hb12 hw2
      go_loopw [17] (fun i wr => ∃ j : Nat, j + 1 ≤ k + 2 ∧ i = .int .i64 ((j : Int) + 1) ∧ (∀ m (hm : m < j) (h1 : m + 1 < ds.length), ds[m] ≤ ds[m + 1]) ∧ ∃ q, wr = w4.drewN q) (fun i _ => k + 2 - (intOf i).toNat)
      case atStart => exact ⟨0, by omega, rfl, (fun m hm => absurd hm (Nat.not_lt_zero _)), 0, rfl⟩
      case round =>
        obtain ⟨j, hj, rfl, hso, q, rfl⟩ := hrel
        have HSO := Lib.hid hso
        clear hso
        by_cases hlt2 : j + 1 < k + 2
        · have x1 : j + 1 < ds.length := by rw [HL.out]; exact hlt2
          have x0 : j < ds.length := by omega
          have c1 := HE.out (j + 1) x1
          have c0 := HE.out j x0
          by_cases hxy : ds[j + 1] < ds[j]
          · have m1 : IntKind.i64.wrap ((j : Int) + 1 - 1) = (j : Int) := by rw [IntWalk.i64_in _ (by omega)]; omega
            have m2 : IntKind.i64.wrap (j : Int) = (j : Int) := IntWalk.i64_in _ (by omega)
            generalize ds[j + 1] = x at *
            generalize ds[j] = y at *
            have m3 : ((j : Int) + 1).toNat = j + 1 := by omega
            have m4 : (0 : Int) ≤ (j : Int) + 1 := by omega
            have m5 : (j : Int) + 1 < (k : Int) + 2 := by omega
            have m6 : (j : Int) < (k : Int) + 2 := by omega
            clear x1 x0 HE
            go_wp2
            go_quiet (fail)
            go_wp2
            go_ret
            exact ⟨rfl, below_drewN (below_drewN hbw _) _⟩
          · have HX := Lib.hid (show ds[j] ≤ ds[j + 1] by omega)
            have hle : ds[j] ≤ ds[j + 1] := by omega
            have m1 : IntKind.i64.wrap ((j : Int) + 1 - 1) = (j : Int) := by rw [IntWalk.i64_in _ (by omega)]; omega
            have m2 : IntKind.i64.wrap (j : Int) = (j : Int) := IntWalk.i64_in _ (by omega)
            have HSO2 := Lib.hid (show ∀ m (hm : m < j + 1) (h1 : m + 1 < ds.length), ds[m] ≤ ds[m + 1] from fun m hm h1 => by
              by_cases e : m < j
              · exact HSO.out m e h1
              · obtain rfl : m = j := by omega
                exact HX.out)
            clear HX
            generalize ds[j + 1] = x at *
            generalize ds[j] = y at *
            have m3 : ((j : Int) + 1).toNat = j + 1 := by omega
            have m4 : (0 : Int) ≤ (j : Int) + 1 := by omega
            have m5 : (j : Int) + 1 < (k : Int) + 2 := by omega
            have m6 : (j : Int) < (k : Int) + 2 := by omega
            have hxy2 : decide (x < y) = false := by simp; omega
            clear HE hxy
            go_wp2
            go_quiet (fail)
            clear m1 m2 m3 m4 m5 m6
            go_wp2
            go_roundw
            case rel => exact ⟨j + 1, by omega, by go_num, HSO2.out, _, rfl⟩
            case measure => simp [intOf]; omega
        · obtain rfl : j = k + 1 := by omega
          have hp0 : 0 < ds.length := by rw [HL.out]; omega
          have hsrt := sorted_head (fun m h1 => HSO.out m (by rw [HL.out] at h1; omega) h1) hp0
          have hall : ∀ x ∈ ds, d0 ≤ x := by
            intro x hx
            obtain ⟨i, hi', rfl⟩ := List.getElem_of_mem hx
            rw [HD0.out]; exact hsrt i hi'
          have hdl0 : d0 ≤ dl := by rw [HD0.out, HDL.out]; exact hsrt _ _
          have hoo : ∀ o ∈ os, ¬ o.toList = s.toList ∧ ¬ o.toList = b.toList := fun o ho => HQ1.out o (by rw [List.take_of_length_le (by rw [← HN.out]; exact Nat.le_refl _)]; exact ho)
          obtain ⟨L1, L2, L3⟩ := law (dl := dl) HT.out HS.out hoo hall hdl0 hdl
          obtain ⟨M1, M2, _⟩ := law (dl := dl) (day := later) (later := later) HT.out HS.out hoo hall hdl0 (Int.le_refl _)
          have P1 := Lib.hid (HP.out _ _ day _ (HH.out.drewN q) (hw4.drewN q))
          have P2 := Lib.hid (fun w h hw => HP.out _ _ later w (HH.out.below h) hw)
          have hbq : Below w4.heap.size w4 (w4.drewN q) := below_drewN (Below.refl _ _) q
          have hbwq := bt hbw hbq
          have d0q : (w4.drewN q).cell? ⟨b2, off2, none⟩ = some (.int .i64 d0) := d0e
          clear hp0 hsrt hall hdl0 hoo HSO HQ1 HE HP HH HDL HD0 HN HL HS HT d0e
          generalize whoR t (lastH (chain os ds s b d0 dl) day) s b = q1 at *
          generalize whoR t (lastH (chain os ds s b d0 dl) later) s b = q2 at *
          unfold pairV at P1 P2
          by_cases a1 : d0 ≤ day
          · have a2 : d0 ≤ later := by omega
            have z1 : decide (d0 ≤ day) = true := by simpa using a1
            have z2 : decide (d0 ≤ later) = true := by simpa using a2
            rcases L2 a1 with e1 | e1
            · rcases M2 a2 with e2 | e2
              · subst e1; subst e2
                clear L1 L2 L3 M1 M2
                go_wp2_with fail
                refine P1.out.mono ?_
                rintro e w5 ⟨rfl, hw5, hb5⟩
                go_wp2_with fail
                refine (P2.out _ (bt hbq hb5) hw5).mono ?_
                rintro e w6 ⟨rfl, hw6, hb6⟩
                have d6 := cell_later hb6 (cell_later hb5 d0q)
                have hbf := bt (bt hbwq hb5) hb6
                clear P1 P2 hb5 hb6 hbq hbwq d0q hw5 hw6
                go_wp2
                go_ret
                exact ⟨rfl, hbf⟩
              · subst e1; subst e2
                clear L1 L2 L3 M1 M2
                go_wp2_with fail
                refine P1.out.mono ?_
                rintro e w5 ⟨rfl, hw5, hb5⟩
                go_wp2_with fail
                refine (P2.out _ (bt hbq hb5) hw5).mono ?_
                rintro e w6 ⟨rfl, hw6, hb6⟩
                have d6 := cell_later hb6 (cell_later hb5 d0q)
                have hbf := bt (bt hbwq hb5) hb6
                clear P1 P2 hb5 hb6 hbq hbwq d0q hw5 hw6
                go_wp2
                go_ret
                exact ⟨rfl, hbf⟩
            · have e2 := L3 a1 e1
              subst e1; subst e2
              clear L1 L2 L3 M1 M2
              go_wp2_with fail
              refine P1.out.mono ?_
              rintro e w5 ⟨rfl, hw5, hb5⟩
              go_wp2_with fail
              refine (P2.out _ (bt hbq hb5) hw5).mono ?_
              rintro e w6 ⟨rfl, hw6, hb6⟩
              have d6 := cell_later hb6 (cell_later hb5 d0q)
              have hbf := bt (bt hbwq hb5) hb6
              clear P1 P2 hb5 hb6 hbq hbwq d0q hw5 hw6
              go_wp2
              go_ret
              exact ⟨rfl, hbf⟩
          · have e1 := L1 (by omega)
            have z1 : decide (d0 ≤ day) = false := by simpa using a1
            by_cases a2 : d0 ≤ later
            · have z2 : decide (d0 ≤ later) = true := by simpa using a2
              rcases M2 a2 with e2 | e2
              · subst e1; subst e2
                clear L1 L2 L3 M1 M2
                go_wp2_with fail
                refine P1.out.mono ?_
                rintro e w5 ⟨rfl, hw5, hb5⟩
                go_wp2_with fail
                refine (P2.out _ (bt hbq hb5) hw5).mono ?_
                rintro e w6 ⟨rfl, hw6, hb6⟩
                have d6 := cell_later hb6 (cell_later hb5 d0q)
                have hbf := bt (bt hbwq hb5) hb6
                clear P1 P2 hb5 hb6 hbq hbwq d0q hw5 hw6
                go_wp2
                go_ret
                exact ⟨rfl, hbf⟩
              · subst e1; subst e2
                clear L1 L2 L3 M1 M2
                go_wp2_with fail
                refine P1.out.mono ?_
                rintro e w5 ⟨rfl, hw5, hb5⟩
                go_wp2_with fail
                refine (P2.out _ (bt hbq hb5) hw5).mono ?_
                rintro e w6 ⟨rfl, hw6, hb6⟩
                have d6 := cell_later hb6 (cell_later hb5 d0q)
                have hbf := bt (bt hbwq hb5) hb6
                clear P1 P2 hb5 hb6 hbq hbwq d0q hw5 hw6
                go_wp2
                go_ret
                exact ⟨rfl, hbf⟩
            · have z2 : decide (d0 ≤ later) = false := by simpa using a2
              have e2 := M1 (by omega)
              subst e1; subst e2
              clear L1 L2 L3 M1 M2
              go_wp2_with fail
              refine P1.out.mono ?_
              rintro e w5 ⟨rfl, hw5, hb5⟩
              go_wp2_with fail
              refine (P2.out _ (bt hbq hb5) hw5).mono ?_
              rintro e w6 ⟨rfl, hw6, hb6⟩
              have d6 := cell_later hb6 (cell_later hb5 d0q)
              have hbf := bt (bt hbwq hb5) hb6
              clear P1 P2 hb5 hb6 hbq hbwq d0q hw5 hw6
              go_wp2
              go_ret
              exact ⟨rfl, hbf⟩

set_option maxRecDepth 100000 in
set_option maxHeartbeats 2000000 in
/-- What the statement doesn't ask. -/
theorem core1 (t : Int) (ao ao' : Option Addr) (n m cap cap' : Nat) (s b : ByteArray) (day later : Int) (w : World) (hn : n ≤ maxLen) (hc : n + 2 ≤ maxLen ∨ 20 < n)
    (h : ¬ (isB t = true ∧ n ≤ 20 ∧ m = n + 2 ∧ ¬ s.toList = b.toList ∧ s.size ≤ 100 ∧ b.size ≤ 100 ∧ day ≤ later)) (hw : Terms w) :
    Calls Tryd.prog 9 #[.int .i64 t, .slice ao n cap, .slice ao' m cap', .string s, .string b, .int .i64 day, .int .i64 later] w fun e w' => e = .returned (.bool true) ∧ Below w.heap.size w w' := by
  have HA := Lib.hid (awake_k w hw)
  have HI := Lib.hid (is_k t)
  have HH := Lib.hid h
  unfold maxLen at hn hc
  clear h hw
  go_enter Tryd.func9, Tryd.ntmps9
  go_wp2_with fail
  refine HA.out.mono ?_
  rintro e w1 ⟨rfl, hw1, hb1⟩
  go_wp2_with fail
  refine (HI.out _ hw1).mono ?_
  rintro e w2 ⟨rfl, hw2, hb2⟩
  have hbb := bt hb1 hb2
  clear HA HI hb1 hb2 hw1 hw2
  cases ht : isB t with
  | false =>
    clear HH
    go_wp2
    go_ret
    exact ⟨rfl, hbb⟩
  | true =>
    have H2 := Lib.hid (show ¬ (n ≤ 20 ∧ m = n + 2 ∧ ¬ s.toList = b.toList ∧ s.size ≤ 100 ∧ b.size ≤ 100 ∧ day ≤ later) from fun h => HH.out ⟨ht, h⟩)
    clear HH ht
    by_cases g1 : 20 < n
    · have g1' : decide ((20 : Int) < (n : Int)) = true := by simp; omega
      clear H2
      go_wp2
      go_ret
      exact ⟨rfl, hbb⟩
    · have g1' : decide ((20 : Int) < (n : Int)) = false := by simp; omega
      by_cases g2 : m = n + 2
      · have g2' : ((m : Int) != (n : Int) + 2) = false := by rw [g2]; simp
        by_cases g3 : s.toList = b.toList
        · have g3' : (s.toList == b.toList) = true := by simpa using g3
          clear g3 g2 H2
          go_wp2
          go_ret
          exact ⟨rfl, hbb⟩
        · have g3' : (s.toList == b.toList) = false := by simpa using g3
          by_cases g4 : 100 < s.size
          · have g4' : decide ((100 : Int) < (s.size : Int)) = true := by simp; omega
            clear g3 g2 H2
            go_wp2
            go_ret
            exact ⟨rfl, hbb⟩
          · have g4' : decide ((100 : Int) < (s.size : Int)) = false := by simp; omega
            by_cases g5 : 100 < b.size
            · have g5' : decide ((100 : Int) < (b.size : Int)) = true := by simp; omega
              clear g3 g2 H2
              go_wp2
              go_ret
              exact ⟨rfl, hbb⟩
            · have g5' : decide ((100 : Int) < (b.size : Int)) = false := by simp; omega
              have g6 : decide (later < day) = true := by
                by_cases g : later < day
                · simpa using g
                · exact absurd ⟨by omega, g2, g3, by omega, by omega, by omega⟩ H2.out
              clear g3 g2 H2
              go_wp2
              go_ret
              exact ⟨rfl, hbb⟩
      · have g2' : ((m : Int) != (n : Int) + 2) = true := by simp; omega
        clear g2 H2
        go_wp2
        go_ret
        exact ⟨rfl, hbb⟩

theorem walk (a0 : Int) (v1 v2 : Value) (a3 a4 : ByteArray) (a5 a6 : Int) (w : World) (w0 : (Lit.int .i64 a0).wf = true) (w1 : Is36 w v1) (w2 : Is28 w v2) (w3 : a3.size ≤ maxLen) (w4 : a4.size ≤ maxLen)
    (w5 : (Lit.int .i64 a5).wf = true) (w6 : (Lit.int .i64 a6).wf = true) (hw : Terms w) :
    Calls Tryd.prog 9 #[.int .i64 a0, v1, v2, .string a3, .string a4, .int .i64 a5, .int .i64 a6] w fun e w' => e = .returned (.bool true) ∧ Below w.heap.size w w' := by
  obtain ⟨os, h1⟩ := w1
  obtain ⟨ds, h2, _⟩ := w2
  by_cases h : isB a0 = true ∧ os.length ≤ 20 ∧ ds.length = os.length + 2 ∧ ¬ a3.toList = a4.toList ∧ a3.size ≤ 100 ∧ a4.size ≤ 100 ∧ a5 ≤ a6
  · exact core a0 os ds v1 v2 a3 a4 a5 a6 w h1 h2 h.1 h.2.1 h.2.2.1 h.2.2.2.1 h.2.2.2.2.1 h.2.2.2.2.2.1 h.2.2.2.2.2.2 hw
  · obtain ⟨ao, cap, rfl, k1, k2, _⟩ := h1.shape
    obtain ⟨ao', cap', rfl, k1', k2', _⟩ := h2.shape
    exact core1 a0 ao ao' _ _ cap cap' a3 a4 a5 a6 w (by omega) (by unfold maxLen at *; omega) h hw

theorem terms_met {W : World} (h : laidMetH Tryd.prog Rows.termWayRow.laid W) : Terms W := terms_metH List.mem_cons_self (by kernel_rfl) (by kernel_rfl) h
end Go.Proofs.YtfhcnkedhobhgaaDoor.termWay
