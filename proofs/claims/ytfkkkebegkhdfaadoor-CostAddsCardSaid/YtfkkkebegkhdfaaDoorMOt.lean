/-
  order.May, order.Total; the document's. (Put together of XOMay, XORMay, XOTot.)
-/
import Derived.Test.YtfkkkebegkhdfaaDoorMOd
import Derived.Test.YtfkkkebegkhdfaaDoorMCo
import Derived.Test.YtfkkkebegkhdfaaDoorMay
import Derived.Lib.SlicesS
import Derived.BigQuiet
import Derived.BigGuardPart
import Derived.Deep.QuietTactic
namespace Go.Proofs.YtfkkkebegkhdfaaDoor
open Go Go.RowKit
set_option linter.unusedVariables false
set_option linter.unusedSimpArgs false

set_option maxHeartbeats 1000000 in
theorem mmay_any (c : ByteArray) (w : World) :
    Calls Tryd.prog 68 #[.agg #[.string c, .int .i64 0]] w fun e w' => e = .returned (.bool (curB c)) ∧ Below w.heap.size w w' := by
  have HB := Lib.hid ((Below.refl w.heap.size w).alloc (Nat.le_refl _) (.cells #[.string c, .int .i64 0] 102))
  have HC := Lib.hid (fun w => iscur_any c w)
  cases g : curB c with
  | false =>
    rw [g] at HC
    go_enter Tryd.func68, Tryd.ntmps68
    go_wp2_with fail
    refine (HC.out _).mono ?_
    rintro e w1 ⟨rfl, rfl⟩
    go_wp2
    go_ret
    exact ⟨rfl, HB.out⟩
  | true =>
    rw [g] at HC
    go_enter Tryd.func68, Tryd.ntmps68
    go_wp2_with fail
    refine (HC.out _).mono ?_
    rintro e w1 ⟨rfl, rfl⟩
    go_wp2
    go_ret
    exact ⟨rfl, HB.out⟩
theorem counts_any (n : Int) (w : World) :
    Calls Tryd.prog 69 #[.int .i64 n] w fun e w' => e = .returned (.bool (decide (1 ≤ n) && decide (n ≤ 1048576))) ∧ w' = w := by
  cases h1 : decide (1 ≤ n) with
  | true =>
    go_enter Tryd.func69, Tryd.ntmps69
    go_wp2
    go_ret
    exact ⟨by rw [Bool.true_and]; rfl, rfl⟩
  | false =>
    go_enter Tryd.func69, Tryd.ntmps69
    go_wp2
    go_ret
    exact ⟨by rw [Bool.false_and]; rfl, rfl⟩

def Od.five (o : Od) : List ByteArray := [o.n, o.s, o.b, o.f, o.t]
theorem five_names {o : Od} (h : ∀ j, j < 5 → nameB (o.five.getD j ⟨#[]⟩) = true) : o.names = true := by
  unfold Od.names
  rw [show nameB o.n = true from h 0 (by omega), show nameB o.s = true from h 1 (by omega), show nameB o.b = true from h 2 (by omega), show nameB o.f = true from h 3 (by omega), show nameB o.t = true from h 4 (by omega)]
  rfl
theorem five_bad {o : Od} {j : Nat} (hj : j < 5) (h : nameB (o.five.getD j ⟨#[]⟩) = false) : o.may = false := by
  unfold Od.may Od.names
  match j, hj with
  | 0, _ => rw [show nameB o.n = false from h]; rfl
  | 1, _ => rw [show nameB o.s = false from h]; simp
  | 2, _ => rw [show nameB o.b = false from h]; simp
  | 3, _ => rw [show nameB o.f = false from h]; simp
  | 4, _ => rw [show nameB o.t = false from h]; simp
theorem omay_bad {o : Od} (h : o.s = o.b ∨ curB o.c = false ∨ o.term < 0 ∨ 7 < o.term ∨ o.l.length < 1 ∨ 64 < o.l.length ∨ linesB o.l = false) : o.may = false := by
  rw [Bool.eq_false_iff]
  intro hm
  obtain ⟨_, h2, h3, h4, h5, h6, h7, h8⟩ := may_apart hm
  rcases h with h | h | h | h | h | h | h
  · exact h3 h
  · rw [h] at h4; cases h4
  · omega
  · omega
  · omega
  · omega
  · rw [h] at h2; cases h2
theorem omay_ok {o : Od} (h1 : o.names = true) (h3 : o.s ≠ o.b) (h4 : curB o.c = true) (h5 : 0 ≤ o.term) (h6 : o.term ≤ 7) (h7 : 1 ≤ o.l.length) (h8 : o.l.length ≤ 64) (h2 : linesB o.l = true) : o.may = true := by
  unfold Od.may Od.head
  rw [h1, h2, h4, decide_eq_false h3, decide_eq_true h5, decide_eq_true h6, decide_eq_true h7, decide_eq_true h8]; rfl
theorem lineAt_eq (l : List Li) (k : Nat) : lineAt l k = (nameB (l.getD k default).t && (! seenL l k (l.getD k default).t && (decide (1 ≤ (l.getD k default).s) && (decide ((l.getD k default).s ≤ 1048576) && (decide (0 ≤ (l.getD k default).z) && decide ((l.getD k default).z ≤ 1073741824)))))) := rfl

theorem Od.apart {w : World} {o : Od} (h : OdOk w o) : ∃ n s b c f t term ao m cap l, o = ⟨n, s, b, c, f, t, term, .slice ao m cap, l⟩ ∧ m = l.length ∧ m ≤ cap ∧ cap ≤ maxLen := by
  obtain ⟨ao, cap, e, h1, h2, _⟩ := h.row.shape
  obtain ⟨n, s, b, c, f, t, term, lv, l⟩ := o
  dsimp only at e h1 h2
  subst e
  exact ⟨n, s, b, c, f, t, term, ao, _, cap, l, rfl, rfl, h1, h2⟩

set_option maxRecDepth 100000 in
set_option maxHeartbeats 8000000 in
theorem omay_any (o : Od) (w : World) (h : OdOk w o) :
    Calls Tryd.prog 56 #[o.val] w fun e w' => e = .returned (.bool o.may) ∧ Below w.heap.size w w' := by
  obtain ⟨x, hx⟩ : ∃ x, x = o.may := ⟨_, rfl⟩
  rw [← hx]
  have HX := Lib.hid hx
  have H := Lib.hid h.row
  clear hx
  obtain ⟨on, os, ob, oc, of, ot, term, ao, m, cap, l, e, hm, hc1, hc2⟩ := Od.apart h
  clear h
  subst e
  dsimp only at H
  unfold Od.val Od.cells
  dsimp only
  have HN := Lib.hid hm
  have HF5 := Lib.hid (fun (j : Nat) (hj : j < 5) h => five_bad (o := ⟨on, os, ob, oc, of, ot, term, .slice ao m cap, l⟩) hj h)
  have HF6 := Lib.hid (fun h => five_names (o := ⟨on, os, ob, oc, of, ot, term, .slice ao m cap, l⟩) h)
  have HBad := Lib.hid (fun h => omay_bad (o := ⟨on, os, ob, oc, of, ot, term, .slice ao m cap, l⟩) h)
  have HOk := Lib.hid (fun h1 h3 h4 h5 h6 h7 h8 h2 => omay_ok (o := ⟨on, os, ob, oc, of, ot, term, .slice ao m cap, l⟩) h1 h3 h4 h5 h6 h7 h8 h2)
  dsimp only at HBad HOk
  have HNm := Lib.hid (fun z w => name_any z w)
  have HMm := Lib.hid (fun w => mmay_any oc w)
  have HCt := Lib.hid (fun z w => counts_any z w)
  have hba := (Below.refl w.heap.size w).alloc (Nat.le_refl _) (.cells #[.string on, .string os, .string ob, .string oc, .string of, .string ot, .int .i64 term, .slice ao m cap] 33)
  have hs1 : (w.alloc (.cells #[.string on, .string os, .string ob, .string oc, .string of, .string ot, .int .i64 term, .slice ao m cap] 33)).heap.size = w.heap.size + 1 := by simp
  have hbb := (Below.refl (w.heap.size + 1) (w.alloc (.cells #[.string on, .string os, .string ob, .string oc, .string of, .string ot, .int .i64 term, .slice ao m cap] 33))).alloc (by rw [hs1]; exact Nat.le_refl _) (.cells #[.string on, .string os, .string ob, .string of, .string ot] 9)
  have HE0 := Lib.hid ((hbb.block w.heap.size (by omega)).trans (heap_alloc_new _ _))
  have HE1 := Lib.hid (show ((w.alloc (.cells #[.string on, .string os, .string ob, .string oc, .string of, .string ot, .int .i64 term, .slice ao m cap] 33)).alloc (.cells #[.string on, .string os, .string ob, .string of, .string ot] 9)).heap[w.heap.size + 1]? = some (.cells #[.string on, .string os, .string ob, .string of, .string ot] 9) from by
    have := heap_alloc_new (w.alloc (.cells #[.string on, .string os, .string ob, .string oc, .string of, .string ot, .int .i64 term, .slice ao m cap] 33)) (.cells #[.string on, .string os, .string ob, .string of, .string ot] 9)
    rw [hs1] at this; exact this)
  have HB2 := Lib.hid (hba.trans (hbb.mono (by omega)))
  have hc2 : m ≤ 9223372036854775807 := by unfold maxLen at hc2; omega
  clear hm hba hs1 hbb hc1
  go_enter Tryd.func56, Tryd.ntmps56
  go_wp2_with fail
  generalize (w.alloc (.cells #[.string on, .string os, .string ob, .string oc, .string of, .string ot, .int .i64 term, .slice ao m cap] 33)).alloc (.cells #[.string on, .string os, .string ob, .string of, .string ot] 9) = W at *
  go_loopw [20] (fun i wr => ∃ k : Nat, k ≤ 5 ∧ i = .int .i64 (k : Int) ∧ Hid (∀ j, j < k → nameB ((Od.five ⟨on, os, ob, oc, of, ot, term, .slice ao m cap, l⟩).getD j ⟨#[]⟩) = true) ∧ Hid (wr = W)) (fun i _ => 5 - (intOf i).toNat)
  case atStart => exact ⟨0, Nat.zero_le _, rfl, Lib.hid (fun j hj => by omega), Lib.hid rfl⟩
  case round =>
    obtain ⟨k, hk, rfl, hp, hw⟩ := hrel
    have hw' := hw.out
    subst hw'
    by_cases hlt : k < 5
    · have l1 : (k : Int) < 5 := by omega
      have l0 : (0 : Int) ≤ (k : Int) := by omega
      have c1 : wr.cell? ⟨w.heap.size + 1, k, none⟩ = some (.string ((Od.five ⟨on, os, ob, oc, of, ot, term, .slice ao m cap, l⟩).getD k ⟨#[]⟩)) := by
        match k, hlt with
        | 0, _ | 1, _ | 2, _ | 3, _ | 4, _ => simp [World.cell?, HE1.out, Od.five]
      have HBk := Lib.hid (fun h => HF5.out k hlt h)
      have HP := Lib.hid (show nameB ((Od.five ⟨on, os, ob, oc, of, ot, term, .slice ao m cap, l⟩).getD k ⟨#[]⟩) = true → ∀ j, j < k + 1 → nameB ((Od.five ⟨on, os, ob, oc, of, ot, term, .slice ao m cap, l⟩).getD j ⟨#[]⟩) = true from fun h j hj => by
        by_cases e : j = k
        · subst e; exact h
        · exact hp.out j (by omega))
      generalize (Od.five ⟨on, os, ob, oc, of, ot, term, .slice ao m cap, l⟩).getD k ⟨#[]⟩ = nm at *
      have HNk := Lib.hid (fun w => HNm.out nm w)
      cases g : nameB nm with
      | false =>
        rw [g] at HNk
        have HR := Lib.hid (show x = false by rw [HX.out]; exact HBk.out g)
        clear g HBk HP
        go_wp2_with fail
        refine (HNk.out _).mono ?_
        rintro e w1 ⟨rfl, rfl⟩
        go_wp2
        go_ret
        exact ⟨by rw [HR.out]; rfl, HB2.out⟩
      | true =>
        rw [g] at HNk
        have HQ := Lib.hid (HP.out g)
        clear g HBk HP
        go_wp2_with fail
        refine (HNk.out _).mono ?_
        rintro e w1 ⟨rfl, rfl⟩
        go_wp2
        go_roundw
        case rel => exact ⟨k + 1, by omega, by go_num, HQ, Lib.hid (by first | trivial | rfl)⟩
        case measure => simp [intOf]; omega
    · obtain rfl : k = 5 := by omega
      have HNs := Lib.hid (HF6.out (fun j hj => hp.out j hj))
      have p1 : wr.cell? ⟨w.heap.size, 1, none⟩ = some (.string os) := by simp [World.cell?, HE0.out]
      have p2 : wr.cell? ⟨w.heap.size, 2, none⟩ = some (.string ob) := by simp [World.cell?, HE0.out]
      have p3 : wr.cell? ⟨w.heap.size, 3, none⟩ = some (.string oc) := by simp [World.cell?, HE0.out]
      have p6 : wr.cell? ⟨w.heap.size, 6, none⟩ = some (.int .i64 term) := by simp [World.cell?, HE0.out]
      have p7 : wr.cell? ⟨w.heap.size, 7, none⟩ = some (.slice ao m cap) := by simp [World.cell?, HE0.out]
      have HPs := Lib.hid (And.intro p6 p7)
      have H := Lib.hid (H.out.below HB2.out)
      clear hp HF5 HF6 HE0 HE1 hw
      by_cases gs : os = ob
      · have HR := Lib.hid (show x = false by rw [HX.out]; exact HBad.out (.inl gs))
        subst gs
        clear HBad HOk
        go_wp2
        go_ret
        exact ⟨by rw [HR.out]; rfl, HB2.out⟩
      · have b1 : (os.toList == ob.toList) = false := (Lib.bytes_beq_false_iff _ _).2 gs
        cases gc : curB oc with
        | false =>
          rw [gc] at HMm
          have HR := Lib.hid (show x = false by rw [HX.out]; exact HBad.out (.inr (.inl gc)))
          clear HBad HOk gs gc
          go_wp2_with fail
          refine (HMm.out _).mono ?_
          rintro e w1 ⟨rfl, hb1⟩
          have HB3 := Lib.hid (bt HB2.out hb1)
          clear hb1
          go_wp2
          go_ret
          exact ⟨by rw [HR.out]; rfl, HB3.out⟩
        | true =>
          rw [gc] at HMm
          have HOk := Lib.hid (HOk.out HNs.out gs gc)
          clear gs gc
          go_wp2_with fail
          refine (HMm.out _).mono ?_
          rintro e w1 ⟨rfl, hb1⟩
          have HB3 := Lib.hid (bt HB2.out hb1)
          have p6 := cell_later hb1 HPs.out.1
          have p7 := cell_later hb1 HPs.out.2
          have H := Lib.hid (H.out.below hb1)
          clear hb1 b1 p1 p2 p3 HPs HMm
          by_cases g0 : term < 0
          · have d0 : decide (term < 0) = true := by rw [decide_eq_true_iff]; exact g0
            have HR := Lib.hid (show x = false by rw [HX.out]; exact HBad.out (.inr (.inr (.inl g0))))
            clear HBad HOk
            go_wp2
            go_ret
            exact ⟨by rw [HR.out]; rfl, HB3.out⟩
          · have d0 : decide (term < 0) = false := by rw [decide_eq_false_iff_not]; exact g0
            by_cases g1 : 7 < term
            · have d1 : decide (7 < term) = true := by rw [decide_eq_true_iff]; exact g1
              have HR := Lib.hid (show x = false by rw [HX.out]; exact HBad.out (.inr (.inr (.inr (.inl g1)))))
              clear HBad HOk
              go_wp2
              go_ret
              exact ⟨by rw [HR.out]; rfl, HB3.out⟩
            · have d1 : decide (7 < term) = false := by rw [decide_eq_false_iff_not]; exact g1
              by_cases g2 : (m : Int) < 1
              · have d2 : decide ((m : Int) < 1) = true := by rw [decide_eq_true_iff]; exact g2
                have HR := Lib.hid (show x = false by rw [HX.out]; exact HBad.out (.inr (.inr (.inr (.inr (.inl (by rw [← HN.out]; omega)))))))
                clear HBad HOk
                go_wp2
                go_ret
                exact ⟨by rw [HR.out]; rfl, HB3.out⟩
              · have d2 : decide ((m : Int) < 1) = false := by rw [decide_eq_false_iff_not]; exact g2
                by_cases g3 : (64 : Int) < (m : Int)
                · have d3 : decide ((64 : Int) < (m : Int)) = true := by rw [decide_eq_true_iff]; exact g3
                  have HR := Lib.hid (show x = false by rw [HX.out]; exact HBad.out (.inr (.inr (.inr (.inr (.inr (.inl (by rw [← HN.out]; omega))))))))
                  clear HBad HOk
                  go_wp2
                  go_ret
                  exact ⟨by rw [HR.out]; rfl, HB3.out⟩
                · have d3 : decide ((64 : Int) < (m : Int)) = false := by rw [decide_eq_false_iff_not]; exact g3
                  have HOk := Lib.hid (HOk.out (by omega) (by omega) (by rw [← HN.out]; omega) (by rw [← HN.out]; omega))
                  have HBad := Lib.hid (fun (h : linesB l = false) => HBad.out (.inr (.inr (.inr (.inr (.inr (.inr h)))))))
                  have hm1 : 1 ≤ m := by omega
                  have hm64 : m ≤ 64 := by omega
                  have hmm := run_make_hint (P := Tryd.prog) (t := 103) Tryd.underlying103 .i64 (m : Int)
                  have HM0 := Lib.hid (BMap.made Tryd.prog 9 4 w1)
                  have HBm := Lib.hid ((Below.refl w1.heap.size w1).alloc (Nat.le_refl _) (.map #[] 0))
                  rw [seenL_zero l] at HM0
                  obtain ⟨bl, off, rfl, hbl, hcc⟩ := H.out.get HN.out (by omega)
                  have HC := Lib.hid hcc
                  have p7b := cell_later HBm.out p7
                  clear g0 g1 g2 g3 hcc
                  go_wp2_with fail
                  go_loopw [65] (fun i wr => ∃ k : Nat, k ≤ m ∧ i = .int .i64 (k : Int) ∧ Hid (∀ j, j < k → lineAt l j = true) ∧ Hid (BMap Tryd.prog 9 4 wr w1.heap.size k (seenL l k)) ∧ Hid (Below w1.heap.size w1 wr)) (fun i _ => m - (intOf i).toNat)
                  case atStart => exact ⟨0, Nat.zero_le _, rfl, Lib.hid (fun j hj => by omega), HM0, HBm⟩
                  case round =>
                    clear HM0 HBm hmm d0 d1 d2 d3 p6 p7 p7b
                    obtain ⟨k, hk, rfl, hp, hm, hb⟩ := hrel
                    by_cases hlt : k < m
                    · have l1 : (k : Int) < (m : Int) := by omega
                      have l0 : (0 : Int) ≤ (k : Int) := by omega
                      have hkl : k < l.length := by rw [← HN.out]; exact hlt
                      have HS := Lib.hid (seenL_step (l := l) (k := k) hkl)
                      have HO := Lib.hid (lineAt_eq l k)
                      have HBk := Lib.hid (fun h => HBad.out (lines_bad (l := l) (k := k) hkl h))
                      have HP := Lib.hid (show lineAt l k = true → ∀ j, j < k + 1 → lineAt l j = true from fun h j hj => by
                        by_cases e : j = k
                        · subst e; exact h
                        · exact hp.out j (by omega))
                      obtain ⟨c0, c1, c2⟩ := HC.out k hlt
                      have c0 : wr.cell? ⟨bl, off + k * 3, none⟩ = some (.string (l.getD k default).t) := by rw [hb.out.cell (by show bl < _; omega)]; exact c0
                      have c1 : wr.cell? ⟨bl, off + k * 3 + 1, none⟩ = some (.int .i64 (l.getD k default).s) := by rw [hb.out.cell (by show bl < _; omega)]; exact c1
                      have c2 : wr.cell? ⟨bl, off + k * 3 + 2, none⟩ = some (.int .i64 (l.getD k default).z) := by rw [hb.out.cell (by show bl < _; omega)]; exact c2
                      obtain ⟨t, ht⟩ : ∃ t, t = (l.getD k default).t := ⟨_, rfl⟩
                      obtain ⟨s, hs⟩ : ∃ s, s = (l.getD k default).s := ⟨_, rfl⟩
                      obtain ⟨z, hz⟩ : ∃ z, z = (l.getD k default).z := ⟨_, rfl⟩
                      rw [← ht] at c0 HO HS
                      rw [← hs] at c1 HO
                      rw [← hz] at c2 HO
                      clear ht hs hz
                      have HW1 := Lib.hid (hb.out.alloc hb.out.size (.cells #[.string t, .int .i64 s, .int .i64 z] 44))
                      have HM1 := Lib.hid (hm.out.touch ((Touch.refl (fun _ => False) wr).alloc (.cells #[.string t, .int .i64 s, .int .i64 z] 44)) (fun h => h))
                      have HNk := Lib.hid (fun w => HNm.out t w)
                      have HCk := Lib.hid (fun w => HCt.out s w)
                      have HB4 := Lib.hid (bt HB3.out HW1.out)
                      cases g1 : nameB t with
                      | false =>
                        rw [g1] at HNk
                        have HR := Lib.hid (show x = false by rw [HX.out]; exact HBk.out (by rw [HO.out, g1, Bool.false_and]))
                        clear HBk HP HO
                        go_wp2_with fail
                        refine (HNk.out _).mono ?_
                        rintro e w2 ⟨rfl, rfl⟩
                        go_wp2
                        go_ret
                        exact ⟨by rw [HR.out]; rfl, HB4.out⟩
                      | true =>
                        rw [g1] at HNk
                        have hts := name_small g1
                        have hlk := bmap_run (t := 103) HM1.out Tryd.underlying9 Tryd.underlying103 Tryd.underlying4 (zeroBool _) t hts
                        cases g2 : seenL l k t with
                        | true =>
                          rw [g2] at hlk
                          have HR := Lib.hid (show x = false by rw [HX.out]; exact HBk.out (by rw [HO.out, g1, g2, Bool.true_and, Bool.not_true, Bool.false_and]))
                          clear HBk HP HO
                          go_wp2_with fail
                          refine (HNk.out _).mono ?_
                          rintro e w2 ⟨rfl, rfl⟩
                          go_wp2
                          go_ret
                          exact ⟨by rw [HR.out]; rfl, HB4.out⟩
                        | false =>
                          rw [g2] at hlk
                          by_cases g3 : 1 ≤ s ∧ s ≤ 1048576
                          · rw [show (decide (1 ≤ s) && decide (s ≤ 1048576)) = true by rw [Bool.and_eq_true, decide_eq_true_eq, decide_eq_true_eq]; exact g3] at HCk
                            by_cases g4 : z < 0
                            · have d4 : decide (z < 0) = true := by rw [decide_eq_true_iff]; exact g4
                              have HR := Lib.hid (show x = false by rw [HX.out]; exact HBk.out (by rw [HO.out, g1, g2, Bool.true_and, Bool.not_false, Bool.true_and, show decide (1 ≤ s) = true by rw [decide_eq_true_iff]; omega, show decide (s ≤ 1048576) = true by rw [decide_eq_true_iff]; omega, Bool.true_and, Bool.true_and, show decide (0 ≤ z) = false by rw [decide_eq_false_iff_not]; omega, Bool.false_and]))
                              clear HBk HP HO
                              go_wp2_with fail
                              refine (HNk.out _).mono ?_
                              rintro e w2 ⟨rfl, rfl⟩
                              go_wp2_with fail
                              refine (HCk.out _).mono ?_
                              rintro e w2 ⟨rfl, rfl⟩
                              go_wp2
                              go_ret
                              exact ⟨by rw [HR.out]; rfl, HB4.out⟩
                            · have d4 : decide (z < 0) = false := by rw [decide_eq_false_iff_not]; exact g4
                              by_cases g5 : 1073741824 < z
                              · have d5 : decide (1073741824 < z) = true := by rw [decide_eq_true_iff]; exact g5
                                have HR := Lib.hid (show x = false by rw [HX.out]; exact HBk.out (by rw [HO.out, g1, g2, Bool.true_and, Bool.not_false, Bool.true_and, show decide (1 ≤ s) = true by rw [decide_eq_true_iff]; omega, show decide (s ≤ 1048576) = true by rw [decide_eq_true_iff]; omega, Bool.true_and, Bool.true_and, show decide (0 ≤ z) = true by rw [decide_eq_true_iff]; omega, show decide (z ≤ 1073741824) = false by rw [decide_eq_false_iff_not]; omega, Bool.true_and]))
                                clear HBk HP HO
                                go_wp2_with fail
                                refine (HNk.out _).mono ?_
                                rintro e w2 ⟨rfl, rfl⟩
                                go_wp2_with fail
                                refine (HCk.out _).mono ?_
                                rintro e w2 ⟨rfl, rfl⟩
                                go_wp2
                                go_ret
                                exact ⟨by rw [HR.out]; rfl, HB4.out⟩
                              · have d5 : decide (1073741824 < z) = false := by rw [decide_eq_false_iff_not]; exact g5
                                have HQ := Lib.hid (HP.out (by rw [HO.out, g1, g2, Bool.true_and, Bool.not_false, Bool.true_and, show decide (1 ≤ s) = true by rw [decide_eq_true_iff]; omega, show decide (s ≤ 1048576) = true by rw [decide_eq_true_iff]; omega, Bool.true_and, Bool.true_and, show decide (0 ≤ z) = true by rw [decide_eq_true_iff]; omega, show decide (z ≤ 1073741824) = true by rw [decide_eq_true_iff]; omega, Bool.true_and]))
                                clear HBk HP HO
                                go_wp2_with fail
                                refine (HNk.out _).mono ?_
                                rintro e w2 ⟨rfl, rfl⟩
                                go_wp2_with fail
                                refine (HCk.out _).mono ?_
                                rintro e w2 ⟨rfl, rfl⟩
                                go_wp2_with (at_mapUpdate; refine wpList_bset _ rfl _ _ _ 103 rfl 9 4 Tryd.underlying9 Tryd.underlying103 Tryd.underlying4 w1.heap.size k (seenL l k) rfl HM1.out (by unfold maxLen; omega) t rfl hts true rfl ?_; intro w3 hm2 ht2)
                                go_roundw
                                case rel => exact ⟨k + 1, by omega, by go_num, HQ, Lib.hid (by rw [← HS.out]; exact hm2), Lib.hid (HW1.out.trans (ht2.below HW1.out.size (fun x hx => by subst hx; exact Nat.le_refl _)))⟩
                                case measure => simp [intOf]; omega
                          · have g6 : (decide (1 ≤ s) && decide (s ≤ 1048576)) = false := by rw [Bool.eq_false_iff]; intro h; rw [Bool.and_eq_true, decide_eq_true_eq, decide_eq_true_eq] at h; exact g3 h
                            rw [g6] at HCk
                            have HR := Lib.hid (show x = false by rw [HX.out]; exact HBk.out (by rw [HO.out, g1, g2, Bool.true_and, Bool.not_false, Bool.true_and, ← Bool.and_assoc, g6, Bool.false_and]))
                            clear HBk HP HO
                            go_wp2_with fail
                            refine (HNk.out _).mono ?_
                            rintro e w2 ⟨rfl, rfl⟩
                            go_wp2_with fail
                            refine (HCk.out _).mono ?_
                            rintro e w2 ⟨rfl, rfl⟩
                            go_wp2
                            go_ret
                            exact ⟨by rw [HR.out]; rfl, HB4.out⟩
                    · obtain rfl : k = m := by omega
                      have HR := Lib.hid (show x = true by rw [HX.out]; exact HOk.out ((lines_iff l).2 fun j hj => hp.out j (by rw [HN.out]; exact hj)))
                      go_wp2
                      go_ret
                      exact ⟨by rw [HR.out]; rfl, bt HB3.out hb.out⟩


/-- A line's place by its good. -/
def findI : List Li → ByteArray → Int → Int
  | [], _, _ => -1
  | o :: l, s, i => if o.t = s then i else findI l s (i + 1)
theorem findI_ge : ∀ (l : List Li) (s : ByteArray) (i : Int), 0 ≤ i → decide (0 ≤ findI l s i) = l.any fun o => decide (o.t = s)
  | [], s, i, h => by rw [findI]; rfl
  | o :: l, s, i, h => by
    rw [findI, List.any_cons]
    by_cases e : o.t = s
    · rw [if_pos e, decide_eq_true e, Bool.true_or, decide_eq_true h]
    · rw [if_neg e, decide_eq_false e, Bool.false_or]; exact findI_ge l s (i + 1) (by omega)
theorem findI_drop {l : List Li} {k : Nat} (hk : k < l.length) (s : ByteArray) (i : Int) : findI (l.drop k) s i = if (l.getD k default).t = s then i else findI (l.drop (k + 1)) s (i + 1) := by
  rw [List.drop_eq_getElem_cons hk, findI, List.getD_eq_getElem?_getD, List.getElem?_eq_getElem hk]; rfl

set_option maxHeartbeats 2000000 in
theorem rfind_any (ao : Option Addr) (n cap : Nat) (l : List Li) (s : ByteArray) (w : World) (h : Lins w (.slice ao n cap) l) (hn : n = l.length) (hcap : n ≤ 4096) :
    Calls Tryd.prog 58 #[.slice ao n cap, .string s] w fun e w' => e = .returned (.int .i64 (findI l s 0)) ∧ w' = w := by
  obtain ⟨x, hx⟩ : ∃ x, x = findI l s 0 := ⟨_, rfl⟩
  rw [← hx]
  have HX := Lib.hid hx
  have H := Lib.hid h
  have HN := Lib.hid hn
  clear hx h hn
  go_enter Tryd.func58, Tryd.ntmps58
  go_wp2
  go_loopw [5] (fun i wr => ∃ k : Nat, k ≤ n ∧ i = .int .i64 (k : Int) ∧ Hid (x = findI (l.drop k) s (k : Int)) ∧ Hid (wr = w)) (fun i _ => n - (intOf i).toNat)
  case atStart => exact ⟨0, Nat.zero_le _, rfl, Lib.hid (by rw [HX.out]; rfl), Lib.hid rfl⟩
  case round =>
    obtain ⟨k, hk, rfl, hp, hw⟩ := hrel
    have hw' := hw.out
    subst hw'
    by_cases hlt : k < n
    · have l1 : (k : Int) < (n : Int) := by omega
      have l0 : (0 : Int) ≤ (k : Int) := by omega
      have hkl : k < l.length := by rw [← HN.out]; exact hlt
      obtain ⟨bl, off, rfl, hbl, hc⟩ := H.out.get HN.out (by omega)
      obtain ⟨c0, c1, c2⟩ := hc k hlt
      have HD := Lib.hid (hp.out.trans (findI_drop hkl s (k : Int)))
      generalize l.getD k default = p at *
      obtain ⟨pt, ps, pz⟩ := p
      dsimp only at c0 HD
      clear hc c1 c2
      by_cases g : pt = s
      · have HR := Lib.hid (show x = (k : Int) by rw [HD.out, if_pos g])
        subst g
        go_wp2
        go_ret
        exact ⟨by rw [HR.out]; rfl, rfl⟩
      · have b1 : (pt.toList == s.toList) = false := (Lib.bytes_beq_false_iff _ _).2 g
        have HR := Lib.hid (show x = findI (l.drop (k + 1)) s ((k + 1 : Nat) : Int) by rw [HD.out, if_neg g]; rfl)
        clear g
        go_wp2
        go_roundw
        case rel => exact ⟨k + 1, by omega, by go_num, HR, Lib.hid (by first | trivial | rfl)⟩
        case measure => simp [intOf]; omega
    · obtain rfl : k = n := by omega
      have HR := Lib.hid (show x = -1 by rw [hp.out, List.drop_eq_nil_of_le (by rw [HN.out]; exact Nat.le_refl _)]; rfl)
      go_wp2
      go_ret
      exact ⟨by rw [HR.out]; rfl, rfl⟩

theorem Lins.take {w : World} {ao : Option Addr} {n cap k : Nat} {l : List Li} (h : Lins w (.slice ao n cap) l) (hk : k ≤ l.length) : Lins w (.slice ao k cap) (l.take k) := by
  obtain ⟨h1, ao', cap', e, h3, h4, h5, h6⟩ := h
  cases e
  have e1 : (l.take k).length = k := by simp; omega
  have hf := flat_len (f := Li.cells) (sz := 3) (fun _ => rfl)
  refine ⟨by rw [hf], ao, cap, by rw [e1], by rw [e1]; omega, h4, h5, fun a ha j u hu => h6 a ha j u ?_⟩
  have e2 : l.flatMap Li.cells = (l.take k).flatMap Li.cells ++ (l.drop k).flatMap Li.cells := by rw [← List.flatMap_append, List.take_append_drop]
  rw [e2, List.getElem?_append_left (by exact (List.getElem?_eq_some_iff.1 hu).1)]
  exact hu

set_option maxRecDepth 100000 in
set_option maxHeartbeats 16000000 in
theorem romay_any (o : Od) (w : World) (h : OdOk w o) :
    Calls Tryd.prog 43 #[o.val] w fun e w' => e = .returned (.bool o.may) ∧ Below w.heap.size w w' := by
  obtain ⟨x, hx⟩ : ∃ x, x = o.may := ⟨_, rfl⟩
  rw [← hx]
  have HX := Lib.hid hx
  have H := Lib.hid h.row
  have HSz := Lib.hid (show ∀ j, j < 5 → (o.five.getD j ⟨#[]⟩).size ≤ maxLen from fun j hj => by
    match j, hj with
    | 0, _ => exact h.z1
    | 1, _ => exact h.z2
    | 2, _ => exact h.z3
    | 3, _ => exact h.z5
    | 4, _ => exact h.z6)
  have HLs := Lib.hid (show ∀ j, j < o.l.length → (o.l.getD j default).t.size ≤ maxLen from fun j hj => by
    rw [List.getD_eq_getElem?_getD, List.getElem?_eq_getElem hj]
    exact (h.wf _ (List.getElem_mem hj)).1)
  clear hx
  obtain ⟨on, os, ob, oc, of, ot, term, ao, m, cap, l, e, hm, hc1, hc2⟩ := Od.apart h
  clear h
  subst e
  dsimp only at H HLs
  unfold Od.val Od.cells
  dsimp only
  have HN := Lib.hid hm
  have HF5 := Lib.hid (fun (j : Nat) (hj : j < 5) h => five_bad (o := ⟨on, os, ob, oc, of, ot, term, .slice ao m cap, l⟩) hj h)
  have HF6 := Lib.hid (fun h => five_names (o := ⟨on, os, ob, oc, of, ot, term, .slice ao m cap, l⟩) h)
  have HBad := Lib.hid (fun h => omay_bad (o := ⟨on, os, ob, oc, of, ot, term, .slice ao m cap, l⟩) h)
  have HOk := Lib.hid (fun h1 h3 h4 h5 h6 h7 h8 h2 => omay_ok (o := ⟨on, os, ob, oc, of, ot, term, .slice ao m cap, l⟩) h1 h3 h4 h5 h6 h7 h8 h2)
  dsimp only at HBad HOk
  have HNm := Lib.hid (fun z w hz => rname_all z w hz)
  have HMm := Lib.hid (fun w => rcur_any oc w)
  have hba := (Below.refl w.heap.size w).alloc (Nat.le_refl _) (.cells #[.string on, .string os, .string ob, .string oc, .string of, .string ot, .int .i64 term, .slice ao m cap] 33)
  have hs1 : (w.alloc (.cells #[.string on, .string os, .string ob, .string oc, .string of, .string ot, .int .i64 term, .slice ao m cap] 33)).heap.size = w.heap.size + 1 := by simp
  have hbb := (Below.refl (w.heap.size + 1) (w.alloc (.cells #[.string on, .string os, .string ob, .string oc, .string of, .string ot, .int .i64 term, .slice ao m cap] 33))).alloc (by rw [hs1]; exact Nat.le_refl _) (.cells #[.string on, .string os, .string ob, .string of, .string ot] 9)
  have HE0 := Lib.hid ((hbb.block w.heap.size (by omega)).trans (heap_alloc_new _ _))
  have HE1 := Lib.hid (show ((w.alloc (.cells #[.string on, .string os, .string ob, .string oc, .string of, .string ot, .int .i64 term, .slice ao m cap] 33)).alloc (.cells #[.string on, .string os, .string ob, .string of, .string ot] 9)).heap[w.heap.size + 1]? = some (.cells #[.string on, .string os, .string ob, .string of, .string ot] 9) from by
    have := heap_alloc_new (w.alloc (.cells #[.string on, .string os, .string ob, .string oc, .string of, .string ot, .int .i64 term, .slice ao m cap] 33)) (.cells #[.string on, .string os, .string ob, .string of, .string ot] 9)
    rw [hs1] at this; exact this)
  have HB2 := Lib.hid (hba.trans (hbb.mono (by omega)))
  have hcm : m ≤ cap := hc1
  have hc2 : cap ≤ 9223372036854775807 := by unfold maxLen at hc2; omega
  clear hm hba hs1 hbb hc1
  go_enter Tryd.func43, Tryd.ntmps43
  go_wp2_with fail
  generalize (w.alloc (.cells #[.string on, .string os, .string ob, .string oc, .string of, .string ot, .int .i64 term, .slice ao m cap] 33)).alloc (.cells #[.string on, .string os, .string ob, .string of, .string ot] 9) = W at *
  go_loopw [4] (fun i wr => ∃ k : Nat, k ≤ 5 ∧ i = .int .i64 (k : Int) ∧ Hid (∀ j, j < k → nameB ((Od.five ⟨on, os, ob, oc, of, ot, term, .slice ao m cap, l⟩).getD j ⟨#[]⟩) = true) ∧ Hid (wr = W)) (fun i _ => 5 - (intOf i).toNat)
  case atStart => exact ⟨0, Nat.zero_le _, rfl, Lib.hid (fun j hj => by omega), Lib.hid rfl⟩
  case round =>
    obtain ⟨k, hk, rfl, hp, hw⟩ := hrel
    have hw' := hw.out
    subst hw'
    by_cases hlt : k < 5
    · have l1 : (k : Int) < 5 := by omega
      have l0 : (0 : Int) ≤ (k : Int) := by omega
      have c1 : wr.cell? ⟨w.heap.size + 1, k, none⟩ = some (.string ((Od.five ⟨on, os, ob, oc, of, ot, term, .slice ao m cap, l⟩).getD k ⟨#[]⟩)) := by
        match k, hlt with
        | 0, _ | 1, _ | 2, _ | 3, _ | 4, _ => simp [World.cell?, HE1.out, Od.five]
      have HBk := Lib.hid (fun h => HF5.out k hlt h)
      have hsz := HSz.out k hlt
      have HP := Lib.hid (show nameB ((Od.five ⟨on, os, ob, oc, of, ot, term, .slice ao m cap, l⟩).getD k ⟨#[]⟩) = true → ∀ j, j < k + 1 → nameB ((Od.five ⟨on, os, ob, oc, of, ot, term, .slice ao m cap, l⟩).getD j ⟨#[]⟩) = true from fun h j hj => by
        by_cases e : j = k
        · subst e; exact h
        · exact hp.out j (by omega))
      generalize (Od.five ⟨on, os, ob, oc, of, ot, term, .slice ao m cap, l⟩).getD k ⟨#[]⟩ = nm at *
      have HNk := Lib.hid (fun w => HNm.out nm w hsz)
      clear hsz
      cases g : nameB nm with
      | false =>
        rw [g] at HNk
        have HR := Lib.hid (show x = false by rw [HX.out]; exact HBk.out g)
        clear g HBk HP
        go_wp2_with fail
        refine (HNk.out _).mono ?_
        rintro e w1 ⟨rfl, rfl⟩
        go_wp2
        go_ret
        exact ⟨by rw [HR.out]; rfl, HB2.out⟩
      | true =>
        rw [g] at HNk
        have HQ := Lib.hid (HP.out g)
        clear g HBk HP
        go_wp2_with fail
        refine (HNk.out _).mono ?_
        rintro e w1 ⟨rfl, rfl⟩
        go_wp2
        go_roundw
        case rel => exact ⟨k + 1, by omega, by go_num, HQ, Lib.hid (by first | trivial | rfl)⟩
        case measure => simp [intOf]; omega
    · obtain rfl : k = 5 := by omega
      have HNs := Lib.hid (HF6.out (fun j hj => hp.out j hj))
      have p1 : wr.cell? ⟨w.heap.size, 1, none⟩ = some (.string os) := by simp [World.cell?, HE0.out]
      have p2 : wr.cell? ⟨w.heap.size, 2, none⟩ = some (.string ob) := by simp [World.cell?, HE0.out]
      have p3 : wr.cell? ⟨w.heap.size, 3, none⟩ = some (.string oc) := by simp [World.cell?, HE0.out]
      have p6 : wr.cell? ⟨w.heap.size, 6, none⟩ = some (.int .i64 term) := by simp [World.cell?, HE0.out]
      have p7 : wr.cell? ⟨w.heap.size, 7, none⟩ = some (.slice ao m cap) := by simp [World.cell?, HE0.out]
      have HPs := Lib.hid p7
      have H := Lib.hid (H.out.below HB2.out)
      clear hp HF5 HF6 HE0 HE1 hw HSz
      obtain ⟨wx, hwx⟩ : ∃ wx, wx = wr := ⟨_, rfl⟩
      subst hwx
      by_cases gs : os = ob
      · have HR := Lib.hid (show x = false by rw [HX.out]; exact HBad.out (.inl gs))
        subst gs
        clear HBad HOk
        go_wp2
        go_ret
        exact ⟨by rw [HR.out]; rfl, HB2.out⟩
      · have b1 : (os.toList == ob.toList) = false := (Lib.bytes_beq_false_iff _ _).2 gs
        cases gc : curB oc with
        | false =>
          rw [gc] at HMm
          have HR := Lib.hid (show x = false by rw [HX.out]; exact HBad.out (.inr (.inl gc)))
          clear HBad HOk gs gc
          go_wp2_with fail
          refine (HMm.out _).mono ?_
          rintro e w1 ⟨rfl, rfl⟩
          go_wp2
          go_ret
          exact ⟨by rw [HR.out]; rfl, HB2.out⟩
        | true =>
          rw [gc] at HMm
          have HOk := Lib.hid (HOk.out HNs.out gs gc)
          clear gs gc
          by_cases g0 : term < 0
          · have d0 : decide (term < 0) = true := by rw [decide_eq_true_iff]; exact g0
            have HR := Lib.hid (show x = false by rw [HX.out]; exact HBad.out (.inr (.inr (.inl g0))))
            clear HBad HOk
            go_wp2_with fail
            refine (HMm.out _).mono ?_
            rintro e w1 ⟨rfl, rfl⟩
            go_wp2
            go_ret
            exact ⟨by rw [HR.out]; rfl, HB2.out⟩
          · have d0 : decide (term < 0) = false := by rw [decide_eq_false_iff_not]; exact g0
            by_cases g1 : 7 < term
            · have d1 : decide (7 < term) = true := by rw [decide_eq_true_iff]; exact g1
              have HR := Lib.hid (show x = false by rw [HX.out]; exact HBad.out (.inr (.inr (.inr (.inl g1)))))
              clear HBad HOk
              go_wp2_with fail
              refine (HMm.out _).mono ?_
              rintro e w1 ⟨rfl, rfl⟩
              go_wp2
              go_ret
              exact ⟨by rw [HR.out]; rfl, HB2.out⟩
            · have d1 : decide (7 < term) = false := by rw [decide_eq_false_iff_not]; exact g1
              by_cases g2 : (m : Int) < 1
              · have d2 : decide ((m : Int) < 1) = true := by rw [decide_eq_true_iff]; exact g2
                have HR := Lib.hid (show x = false by rw [HX.out]; exact HBad.out (.inr (.inr (.inr (.inr (.inl (by rw [← HN.out]; omega)))))))
                clear HBad HOk
                go_wp2_with fail
                refine (HMm.out _).mono ?_
                rintro e w1 ⟨rfl, rfl⟩
                go_wp2
                go_ret
                exact ⟨by rw [HR.out]; rfl, HB2.out⟩
              · have d2 : decide ((m : Int) < 1) = false := by rw [decide_eq_false_iff_not]; exact g2
                by_cases g3 : (64 : Int) < (m : Int)
                · have d3 : decide ((64 : Int) < (m : Int)) = true := by rw [decide_eq_true_iff]; exact g3
                  have HR := Lib.hid (show x = false by rw [HX.out]; exact HBad.out (.inr (.inr (.inr (.inr (.inr (.inl (by rw [← HN.out]; omega))))))))
                  clear HBad HOk
                  go_wp2_with fail
                  refine (HMm.out _).mono ?_
                  rintro e w1 ⟨rfl, rfl⟩
                  go_wp2
                  go_ret
                  exact ⟨by rw [HR.out]; rfl, HB2.out⟩
                · have d3 : decide ((64 : Int) < (m : Int)) = false := by rw [decide_eq_false_iff_not]; exact g3
                  have HOk := Lib.hid (HOk.out (by omega) (by omega) (by rw [← HN.out]; omega) (by rw [← HN.out]; omega))
                  have HBad := Lib.hid (fun (h : linesB l = false) => HBad.out (.inr (.inr (.inr (.inr (.inr (.inr h)))))))
                  have hm1 : 1 ≤ m := by omega
                  have hm64 : m ≤ 64 := by omega
                  obtain ⟨bl, off, rfl, hbl, hcc⟩ := H.out.get HN.out (by omega)
                  have HC := Lib.hid hcc
                  clear g0 g1 g2 g3 hcc
                  go_wp2_with fail
                  refine (HMm.out _).mono ?_
                  rintro e w1 ⟨rfl, rfl⟩
                  go_wp2_with fail
                  go_loopw [5] (fun i wr => ∃ k : Nat, k ≤ m ∧ i = .int .i64 (k : Int) ∧ Hid (∀ j, j < k → lineAt l j = true) ∧ Hid (Below w1.heap.size w1 wr)) (fun i _ => m - (intOf i).toNat)
                  case atStart => exact ⟨0, Nat.zero_le _, rfl, Lib.hid (fun j hj => by omega), Lib.hid (Below.refl _ _)⟩
                  case round =>
                    clear d0 d1 d2 d3 p1 p2 p3 p6 p7 b1
                    obtain ⟨k, hk, rfl, hp, hb⟩ := hrel
                    have p7 := cell_later hb.out HPs.out
                    by_cases hlt : k < m
                    · have l1 : (k : Int) < (m : Int) := by omega
                      have l0 : (0 : Int) ≤ (k : Int) := by omega
                      have l2 : (k : Int) ≤ (cap : Int) := by omega
                      have hkl : k < l.length := by rw [← HN.out]; exact hlt
                      have HO := Lib.hid (lineAt_eq l k)
                      have HBk := Lib.hid (fun h => HBad.out (lines_bad (l := l) (k := k) hkl h))
                      have HP := Lib.hid (show lineAt l k = true → ∀ j, j < k + 1 → lineAt l j = true from fun h j hj => by
                        by_cases e : j = k
                        · subst e; exact h
                        · exact hp.out j (by omega))
                      obtain ⟨c0, c1, c2⟩ := HC.out k hlt
                      have c0 : wr.cell? ⟨bl, off + k * 3, none⟩ = some (.string (l.getD k default).t) := by rw [hb.out.cell (by show bl < _; omega)]; exact c0
                      have c1 : wr.cell? ⟨bl, off + k * 3 + 1, none⟩ = some (.int .i64 (l.getD k default).s) := by rw [hb.out.cell (by show bl < _; omega)]; exact c1
                      have c2 : wr.cell? ⟨bl, off + k * 3 + 2, none⟩ = some (.int .i64 (l.getD k default).z) := by rw [hb.out.cell (by show bl < _; omega)]; exact c2
                      have hsz := HLs.out k hkl
                      obtain ⟨t, ht⟩ : ∃ t, t = (l.getD k default).t := ⟨_, rfl⟩
                      obtain ⟨s, hs⟩ : ∃ s, s = (l.getD k default).s := ⟨_, rfl⟩
                      obtain ⟨z, hz⟩ : ∃ z, z = (l.getD k default).z := ⟨_, rfl⟩
                      rw [← ht] at c0 HO hsz
                      rw [← hs] at c1 HO
                      rw [← hz] at c2 HO
                      clear ht hs hz
                      have hba := hb.out.alloc hb.out.size (.cells #[.string t, .int .i64 s, .int .i64 z] 44)
                      have p7b := cell_later hba HPs.out
                      have HW1 := Lib.hid hba
                      have HNk := Lib.hid (fun w => HNm.out t w hsz)
                      have HB4 := Lib.hid (bt HB2.out hba)
                      have HFd := Lib.hid (fun W (hW : Below w1.heap.size w1 W) => rfind_any (some ⟨bl, off, none⟩) k cap (l.take k) t W (Lins.take (H.out.below hW) (Nat.le_of_lt hkl)) (by simp; omega) (by omega))
                      obtain ⟨fi, hfi⟩ : ∃ fi, fi = findI (l.take k) t 0 := ⟨_, rfl⟩
                      rw [← hfi] at HFd
                      have d6 : decide (0 ≤ fi) = seenL l k t := by rw [hfi]; exact findI_ge _ _ _ (by omega)
                      clear hba hsz hfi
                      cases g1 : nameB t with
                      | false =>
                        rw [g1] at HNk
                        have HR := Lib.hid (show x = false by rw [HX.out]; exact HBk.out (by rw [HO.out, g1, Bool.false_and]))
                        clear HBk HP HO
                        go_wp2_with fail
                        go_quiet (first | (go_at_call 41; exact Calls.quiet_of_same (HNk.out _)) | (go_at_call 58; exact Calls.quiet_of_same (HFd.out _ (below_drewN HW1.out _))))
                        go_wp2
                        go_ret
                        exact ⟨by rw [HR.out]; rfl, below_drewN HB4.out _⟩
                      | true =>
                        rw [g1] at HNk
                        cases g2 : seenL l k t with
                        | true =>
                          rw [g2] at d6
                          have HR := Lib.hid (show x = false by rw [HX.out]; exact HBk.out (by rw [HO.out, g1, g2, Bool.true_and, Bool.not_true, Bool.false_and]))
                          clear HBk HP HO
                          go_wp2_with fail
                          go_quiet (first | (go_at_call 41; exact Calls.quiet_of_same (HNk.out _)) | (go_at_call 58; exact Calls.quiet_of_same (HFd.out _ (below_drewN HW1.out _))))
                          go_wp2
                          go_ret
                          exact ⟨by rw [HR.out]; rfl, below_drewN HB4.out _⟩
                        | false =>
                          rw [g2] at d6
                          by_cases h0 : s < 1
                          · have e0 : decide (s < 1) = true := by rw [decide_eq_true_iff]; exact h0
                            have HR := Lib.hid (show x = false by rw [HX.out]; exact HBk.out (by rw [HO.out, g1, g2, Bool.true_and, Bool.not_false, Bool.true_and, show decide (1 ≤ s) = false by rw [decide_eq_false_iff_not]; omega, Bool.false_and]))
                            clear HBk HP HO
                            go_wp2_with fail
                            go_quiet (first | (go_at_call 41; exact Calls.quiet_of_same (HNk.out _)) | (go_at_call 58; exact Calls.quiet_of_same (HFd.out _ (below_drewN HW1.out _))))
                            go_wp2
                            go_ret
                            exact ⟨by rw [HR.out]; rfl, below_drewN HB4.out _⟩
                          · have e0 : decide (s < 1) = false := by rw [decide_eq_false_iff_not]; exact h0
                            by_cases h1 : 1048576 < s
                            · have e1 : decide (1048576 < s) = true := by rw [decide_eq_true_iff]; exact h1
                              have HR := Lib.hid (show x = false by rw [HX.out]; exact HBk.out (by rw [HO.out, g1, g2, Bool.true_and, Bool.not_false, Bool.true_and, show decide (1 ≤ s) = true by rw [decide_eq_true_iff]; omega, Bool.true_and, show decide (s ≤ 1048576) = false by rw [decide_eq_false_iff_not]; omega, Bool.false_and]))
                              clear HBk HP HO
                              go_wp2_with fail
                              go_quiet (first | (go_at_call 41; exact Calls.quiet_of_same (HNk.out _)) | (go_at_call 58; exact Calls.quiet_of_same (HFd.out _ (below_drewN HW1.out _))))
                              go_wp2
                              go_ret
                              exact ⟨by rw [HR.out]; rfl, below_drewN HB4.out _⟩
                            · have e1 : decide (1048576 < s) = false := by rw [decide_eq_false_iff_not]; exact h1
                              by_cases h2 : z < 0
                              · have e2 : decide (z < 0) = true := by rw [decide_eq_true_iff]; exact h2
                                have HR := Lib.hid (show x = false by rw [HX.out]; exact HBk.out (by rw [HO.out, g1, g2, Bool.true_and, Bool.not_false, Bool.true_and, show decide (1 ≤ s) = true by rw [decide_eq_true_iff]; omega, Bool.true_and, show decide (s ≤ 1048576) = true by rw [decide_eq_true_iff]; omega, Bool.true_and, show decide (0 ≤ z) = false by rw [decide_eq_false_iff_not]; omega, Bool.false_and]))
                                clear HBk HP HO
                                go_wp2_with fail
                                go_quiet (first | (go_at_call 41; exact Calls.quiet_of_same (HNk.out _)) | (go_at_call 58; exact Calls.quiet_of_same (HFd.out _ (below_drewN HW1.out _))))
                                go_wp2
                                go_ret
                                exact ⟨by rw [HR.out]; rfl, below_drewN HB4.out _⟩
                              · have e2 : decide (z < 0) = false := by rw [decide_eq_false_iff_not]; exact h2
                                by_cases h3 : 1073741824 < z
                                · have e3 : decide (1073741824 < z) = true := by rw [decide_eq_true_iff]; exact h3
                                  have HR := Lib.hid (show x = false by rw [HX.out]; exact HBk.out (by rw [HO.out, g1, g2, Bool.true_and, Bool.not_false, Bool.true_and, show decide (1 ≤ s) = true by rw [decide_eq_true_iff]; omega, Bool.true_and, show decide (s ≤ 1048576) = true by rw [decide_eq_true_iff]; omega, Bool.true_and, show decide (0 ≤ z) = true by rw [decide_eq_true_iff]; omega, Bool.true_and, show decide (z ≤ 1073741824) = false by rw [decide_eq_false_iff_not]; omega]))
                                  clear HBk HP HO
                                  go_wp2_with fail
                                  go_quiet (first | (go_at_call 41; exact Calls.quiet_of_same (HNk.out _)) | (go_at_call 58; exact Calls.quiet_of_same (HFd.out _ (below_drewN HW1.out _))))
                                  go_wp2
                                  go_ret
                                  exact ⟨by rw [HR.out]; rfl, below_drewN HB4.out _⟩
                                · have e3 : decide (1073741824 < z) = false := by rw [decide_eq_false_iff_not]; exact h3
                                  have HQ := Lib.hid (HP.out (by rw [HO.out, g1, g2, Bool.true_and, Bool.not_false, Bool.true_and, show decide (1 ≤ s) = true by rw [decide_eq_true_iff]; omega, Bool.true_and, show decide (s ≤ 1048576) = true by rw [decide_eq_true_iff]; omega, Bool.true_and, show decide (0 ≤ z) = true by rw [decide_eq_true_iff]; omega, Bool.true_and, show decide (z ≤ 1073741824) = true by rw [decide_eq_true_iff]; omega]))
                                  clear HBk HP HO
                                  go_wp2_with fail
                                  go_quiet (first | (go_at_call 41; exact Calls.quiet_of_same (HNk.out _)) | (go_at_call 58; exact Calls.quiet_of_same (HFd.out _ (below_drewN HW1.out _))))
                                  go_wp2
                                  go_roundw
                                  case rel => exact ⟨k + 1, by omega, by go_num, HQ, Lib.hid (below_drewN HW1.out _)⟩
                                  case measure => simp [intOf]; omega
                    · obtain rfl : k = m := by omega
                      have HR := Lib.hid (show x = true by rw [HX.out]; exact HOk.out ((lines_iff l).2 fun j hj => hp.out j (by rw [HN.out]; exact hj)))
                      go_wp2
                      go_ret
                      exact ⟨by rw [HR.out]; rfl, bt HB2.out hb.out⟩


/-- What an order's lines are worth together; the error. -/
def totN (o : Od) : Int × Int := if o.may = true then (if totL o.l ≤ 1099511627776 then (totL o.l, 0) else (0, 3)) else (0, 1)
theorem tot_take {l : List Li} {k : Nat} (hk : k < l.length) : ((worthL l).take (k + 1)).sum = ((worthL l).take k).sum + (l.getD k default).s * (l.getD k default).z := by
  rw [List.take_succ_eq_append_getElem (by rw [worth_len]; exact hk), List.sum_append, ← worth_get, List.getD_eq_getElem?_getD, List.getElem?_eq_getElem (by rw [worth_len]; exact hk)]
  simp
theorem tot_bd : ∀ {W : List Int}, (∀ z ∈ W, 0 ≤ z ∧ z ≤ 1125899906842624) → 0 ≤ W.sum ∧ W.sum ≤ W.length * 1125899906842624
  | [], _ => by simp
  | z :: W, h => by
    have h1 := h z (by simp)
    have h2 := tot_bd (W := W) (fun x hx => h x (by simp [hx]))
    rw [List.sum_cons, List.length_cons]
    omega
theorem tot_tk {l : List Li} (h : linesB l = true) (h64 : l.length ≤ 64) (k : Nat) : 0 ≤ ((worthL l).take k).sum ∧ ((worthL l).take k).sum ≤ 72057594037927936 := by
  have h1 := tot_bd (W := (worthL l).take k) (fun z hz => worth_each h z (List.mem_of_mem_take hz))
  have h2 : ((worthL l).take k).length ≤ 64 := by simp [worth_len]; omega
  omega

set_option maxRecDepth 20000 in
set_option maxHeartbeats 4000000 in
theorem total_any (o : Od) (w : World) (h : OdOk w o) :
    Calls Tryd.prog 42 #[o.val] w fun e w' => e = .returned (.tuple #[.int .i64 (totN o).1, .int .i64 (totN o).2]) ∧ Below w.heap.size w w' := by
  have hba := (Below.refl w.heap.size w).alloc (Nat.le_refl _) (.cells o.cells.toArray 33)
  have HM := Lib.hid (omay_any o _ (h.below hba))
  have HB := Lib.hid hba
  have H := Lib.hid (h.row.below hba)
  obtain ⟨R, hR⟩ : ∃ R, R = totN o := ⟨_, rfl⟩
  have HR := Lib.hid (show R = if o.may = true then (if totL o.l ≤ 1099511627776 then (totL o.l, 0) else (0, 3)) else (0, 1) from hR)
  rw [← hR]
  have hap := fun (e : o.may = true) => may_apart e
  have HAp := Lib.hid (show o.may = true → linesB o.l = true ∧ o.l.length ≤ 64 from fun e => ⟨(hap e).2.1, (hap e).2.2.2.2.2.2.2⟩)
  clear hba hR hap
  obtain ⟨on, os, ob, oc, of, ot, term, ao, n, cap, l, e, hn, hc1, hc2⟩ := Od.apart h
  clear h
  obtain ⟨m, hm⟩ : ∃ m, m = o.may := ⟨_, rfl⟩
  rw [← hm] at HM HR HAp
  clear hm
  subst e
  unfold Od.val Od.cells at HM
  unfold Od.cells at HB H
  unfold Od.val Od.cells
  dsimp only at HM HB H HR HAp ⊢
  have HN := Lib.hid hn
  clear hn hc1 hc2
  cases m with
  | false =>
    have hR : R = (0, 1) := by rw [HR.out]; rfl
    subst hR
    go_enter Tryd.func42, Tryd.ntmps42
    go_wp2_with fail
    refine HM.out.mono ?_
    rintro e w1 ⟨rfl, hb1⟩
    have HB1 := Lib.hid (bt HB.out hb1)
    clear hb1
    go_wp2
    go_ret2
    exact ⟨rfl, HB1.out⟩
  | true =>
    obtain ⟨hli, h64⟩ := HAp.out rfl
    have hn64 : n ≤ 64 := by rw [HN.out]; exact h64
    have HT := Lib.hid (tot_tk hli h64)
    have HNu := Lib.hid (fun k (hk : k < l.length) => line_nums hli (x := l.getD k default) (by rw [List.getD_eq_getElem?_getD, List.getElem?_eq_getElem hk]; exact List.getElem_mem hk))
    have HR2 := Lib.hid (show R = if totL l ≤ 1099511627776 then (totL l, 0) else (0, 3) by rw [HR.out]; rfl)
    clear hli h64 HR HAp
    go_enter Tryd.func42, Tryd.ntmps42
    go_wp2_with fail
    refine HM.out.mono ?_
    rintro e w1 ⟨rfl, hb1⟩
    have HB1 := Lib.hid (bt HB.out hb1)
    have p7 := box_at0 (j := 7) (v := .slice ao n cap) hb1 rfl
    have H1 := Lib.hid (H.out.below hb1)
    clear hb1 HM
    go_wp2_with fail
    go_loopw [4, 13] (fun s i wr => ∃ k : Nat, k ≤ n ∧ i = .int .i64 (k : Int) ∧ s = .int .i64 (((worthL l).take k).sum) ∧ Hid (Below w1.heap.size w1 wr)) (fun _ i _ => n - (intOf i).toNat)
    case atStart => exact ⟨0, Nat.zero_le _, rfl, rfl, Lib.hid (Below.refl _ _)⟩
    case round =>
      clear p7
      obtain ⟨k, hk, rfl, rfl, hb⟩ := hrel
      by_cases hlt : k < n
      · have l1 : (k : Int) < (n : Int) := by omega
        have l0 : (0 : Int) ≤ (k : Int) := by omega
        have hkl : k < l.length := by rw [← HN.out]; exact hlt
        have hp2 : Lins wr (.slice ao n cap) l := Row.below H1.out hb.out
        obtain ⟨bl, off, rfl, hbl, hc⟩ := hp2.get HN.out (by omega)
        obtain ⟨c0, c1, c2⟩ := hc k hlt
        have HSt := Lib.hid (tot_take hkl)
        have t0 := HT.out k
        have t1 := HT.out (k + 1)
        rw [HSt.out] at t1
        have nu := HNu.out k hkl
        generalize l.getD k default = p at *
        obtain ⟨pt, ps, pz⟩ := p
        dsimp only at c0 c1 c2 HSt t1 nu
        generalize ((worthL l).take k).sum = S at *
        have wb := worth_bd (x := ⟨pt, ps, pz⟩) nu
        dsimp only at wb
        obtain ⟨Z, hZ⟩ : ∃ Z, Z = ps * pz := ⟨_, rfl⟩
        have v1 : IntKind.i64.wrap (ps * pz) = Z := by rw [← hZ]; exact IntWalk.i64_in _ (by rw [hZ]; omega)
        rw [← hZ] at HSt t1 wb
        have v2 : IntKind.i64.wrap (S + Z) = S + Z := IntWalk.i64_in _ (by omega)
        have HB2 := Lib.hid (hb.out.alloc hb.out.size (.cells #[.string pt, .int .i64 ps, .int .i64 pz] 44))
        clear hc hp2 t0 t1 nu wb hZ
        go_wp2
        go_roundw
        case rel => exact ⟨k + 1, by omega, by go_num, by rw [HSt.out], HB2⟩
        case measure => simp [intOf]; omega
      · obtain rfl : k = n := by omega
        have e : (worthL l).take k = worthL l := List.take_of_length_le (by rw [worth_len, HN.out]; exact Nat.le_refl _)
        rw [e]
        have HB3 := Lib.hid (bt HB1.out hb.out)
        have HS := Lib.hid (show (worthL l).sum = totL l from rfl)
        rw [HS.out]
        generalize totL l = T at *
        by_cases g : T ≤ 1099511627776
        · have d1 : decide (1099511627776 < T) = false := by rw [decide_eq_false_iff_not]; omega
          have hR : R = (T, 0) := by rw [HR2.out, if_pos g]
          subst hR
          clear g
          go_wp2
          go_ret2
          exact ⟨rfl, HB3.out⟩
        · have d1 : decide (1099511627776 < T) = true := by rw [decide_eq_true_iff]; omega
          have hR : R = (0, 3) := by rw [HR2.out, if_neg g]
          subst hR
          clear g
          go_wp2
          go_ret2
          exact ⟨rfl, HB3.out⟩

def heldV (n : Int) : Int × Int := if n ≤ 1099511627776 then (n, 0) else (0, 3)
theorem held_any (n : Int) (w : World) :
    Calls Tryd.prog 44 #[.int .i64 n] w fun e w' => e = .returned (.tuple #[.int .i64 (heldV n).1, .int .i64 (heldV n).2]) ∧ w' = w := by
  by_cases g : n ≤ 1099511627776
  · have d1 : decide (1099511627776 < n) = false := by rw [decide_eq_false_iff_not]; omega
    have HV := Lib.hid (show heldV n = (n, 0) from if_pos g)
    rw [HV.out]
    clear g
    go_enter Tryd.func44, Tryd.ntmps44
    go_wp2
    go_ret2
    exact ⟨rfl, rfl⟩
  · have d1 : decide (1099511627776 < n) = true := by rw [decide_eq_true_iff]; omega
    have HV := Lib.hid (show heldV n = (0, 3) from if_neg g)
    rw [HV.out]
    clear g
    go_enter Tryd.func44, Tryd.ntmps44
    go_wp2
    go_ret2
    exact ⟨rfl, rfl⟩

set_option maxRecDepth 20000 in
set_option maxHeartbeats 4000000 in
theorem rtotal_any (o : Od) (w : World) (h : OdOk w o) :
    Calls Tryd.prog 33 #[o.val] w fun e w' => e = .returned (.tuple #[.int .i64 (totN o).1, .int .i64 (totN o).2]) ∧ Below w.heap.size w w' := by
  have hba := (Below.refl w.heap.size w).alloc (Nat.le_refl _) (.cells o.cells.toArray 33)
  have HM := Lib.hid (romay_any o _ (h.below hba))
  have HB := Lib.hid hba
  have H := Lib.hid (h.row.below hba)
  obtain ⟨R, hR⟩ : ∃ R, R = totN o := ⟨_, rfl⟩
  have HR := Lib.hid (show R = if o.may = true then (if totL o.l ≤ 1099511627776 then (totL o.l, 0) else (0, 3)) else (0, 1) from hR)
  rw [← hR]
  have hap := fun (e : o.may = true) => may_apart e
  have HAp := Lib.hid (show o.may = true → linesB o.l = true ∧ o.l.length ≤ 64 from fun e => ⟨(hap e).2.1, (hap e).2.2.2.2.2.2.2⟩)
  clear hba hR hap
  obtain ⟨on, os, ob, oc, of, ot, term, ao, n, cap, l, e, hn, hc1, hc2⟩ := Od.apart h
  clear h
  obtain ⟨m, hm⟩ : ∃ m, m = o.may := ⟨_, rfl⟩
  rw [← hm] at HM HR HAp
  clear hm
  subst e
  unfold Od.val Od.cells at HM
  unfold Od.cells at HB H
  unfold Od.val Od.cells
  dsimp only at HM HB H HR HAp ⊢
  have HN := Lib.hid hn
  clear hn hc1 hc2
  cases m with
  | false =>
    have hR : R = (0, 1) := by rw [HR.out]; rfl
    subst hR
    go_enter Tryd.func33, Tryd.ntmps33
    go_wp2_with fail
    refine HM.out.mono ?_
    rintro e w1 ⟨rfl, hb1⟩
    have HB1 := Lib.hid (bt HB.out hb1)
    clear hb1
    go_wp2
    go_ret2
    exact ⟨rfl, HB1.out⟩
  | true =>
    obtain ⟨hli, h64⟩ := HAp.out rfl
    have hn64 : n ≤ 64 := by rw [HN.out]; exact h64
    have HT := Lib.hid (tot_tk hli h64)
    have HNu := Lib.hid (fun k (hk : k < l.length) => line_nums hli (x := l.getD k default) (by rw [List.getD_eq_getElem?_getD, List.getElem?_eq_getElem hk]; exact List.getElem_mem hk))
    have HR2 := Lib.hid (show R = heldV (totL l) by rw [HR.out]; rfl)
    have HHd := Lib.hid (fun w => held_any (totL l) w)
    clear hli h64 HR HAp
    go_enter Tryd.func33, Tryd.ntmps33
    go_wp2_with fail
    refine HM.out.mono ?_
    rintro e w1 ⟨rfl, hb1⟩
    have HB1 := Lib.hid (bt HB.out hb1)
    have HP7 := Lib.hid (box_at0 (j := 7) (v := .slice ao n cap) hb1 rfl)
    have H1 := Lib.hid (H.out.below hb1)
    clear hb1 HM
    go_wp2_with fail
    go_loopw [4, 5] (fun s i wr => ∃ k : Nat, k ≤ n ∧ i = .int .i64 (k : Int) ∧ s = .int .i64 (((worthL l).take k).sum) ∧ Hid (Below w1.heap.size w1 wr)) (fun _ i _ => n - (intOf i).toNat)
    case atStart => exact ⟨0, Nat.zero_le _, rfl, rfl, Lib.hid (Below.refl _ _)⟩
    case round =>
      obtain ⟨k, hk, rfl, rfl, hb⟩ := hrel
      have p7 := cell_later hb.out HP7.out
      by_cases hlt : k < n
      · have l1 : (k : Int) < (n : Int) := by omega
        have l0 : (0 : Int) ≤ (k : Int) := by omega
        have hkl : k < l.length := by rw [← HN.out]; exact hlt
        have hp2 : Lins wr (.slice ao n cap) l := Row.below H1.out hb.out
        obtain ⟨bl, off, rfl, hbl, hc⟩ := hp2.get HN.out (by omega)
        obtain ⟨c0, c1, c2⟩ := hc k hlt
        have HSt := Lib.hid (tot_take hkl)
        have t0 := HT.out k
        have t1 := HT.out (k + 1)
        rw [HSt.out] at t1
        have nu := HNu.out k hkl
        generalize l.getD k default = p at *
        obtain ⟨pt, ps, pz⟩ := p
        dsimp only at c0 c1 c2 HSt t1 nu
        generalize ((worthL l).take k).sum = S at *
        have wb := worth_bd (x := ⟨pt, ps, pz⟩) nu
        dsimp only at wb
        obtain ⟨Z, hZ⟩ : ∃ Z, Z = ps * pz := ⟨_, rfl⟩
        have v1 : IntKind.i64.wrap (ps * pz) = Z := by rw [← hZ]; exact IntWalk.i64_in _ (by rw [hZ]; omega)
        rw [← hZ] at HSt t1 wb
        have v2 : IntKind.i64.wrap (S + Z) = S + Z := IntWalk.i64_in _ (by omega)
        clear hc hp2 t0 t1 nu wb hZ c0
        go_wp2_with fail
        go_quiet (fail)
        go_wp2
        go_roundw
        case rel => exact ⟨k + 1, by omega, by go_num, by rw [HSt.out], Lib.hid (below_drewN hb.out _)⟩
        case measure => simp [intOf]; omega
      · obtain rfl : k = n := by omega
        have e : (worthL l).take k = worthL l := List.take_of_length_le (by rw [worth_len, HN.out]; exact Nat.le_refl _)
        rw [e]
        have HB3 := Lib.hid (bt HB1.out hb.out)
        have HS := Lib.hid (show (worthL l).sum = totL l from rfl)
        rw [HS.out]
        generalize totL l = T at *
        have hR := HR2.out
        subst hR
        go_wp2_with fail
        refine (HHd.out _).mono ?_
        rintro e w2 ⟨rfl, rfl⟩
        go_wp2
        go_ret2
        exact ⟨rfl, HB3.out⟩
end Go.Proofs.YtfkkkebegkhdfaaDoor
