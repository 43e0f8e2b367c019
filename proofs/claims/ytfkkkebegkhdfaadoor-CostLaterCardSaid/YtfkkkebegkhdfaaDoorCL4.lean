/-
  CostLater.
-/
import Derived.Test.YtfkkkebegkhdfaaDoorCL3
import Derived.Deep.RegionHeld3
namespace Go.Proofs.YtfkkkebegkhdfaaDoor
open Go Go.RowKit
set_option linter.unusedVariables false
set_option linter.unusedSimpArgs false

theorem land_ok {o : Od} {l : List Co} (h : (landN o l).2 = 0) : o.may = true ∧ coL l = true ∧ landN o l = (totL o.l + sumC (buyL (cosT o.term) l), 0) ∧ 0 ≤ totL o.l ∧ 0 ≤ sumC (buyL (cosT o.term) l) ∧ totL o.l + sumC (buyL (cosT o.term) l) ≤ 1099511627776 := by
  have g : (partsN o l).2.2 = 0 := by
    unfold landN at h
    by_cases g : (partsN o l).2.2 = 0
    · exact g
    · rw [if_pos g] at h; exact absurd h g
  obtain ⟨h1, h2, h3, h4, h5, h6⟩ := parts_bd o l g
  refine ⟨h1, h2, ?_, h4, h5, h6⟩
  unfold landN
  rw [if_neg (by simp [g]), h3]
theorem land_no {o : Od} {l : List Co} (h : (landN o l).2 ≠ 0) : (landN o l).1 = 0 := by
  unfold landN at h ⊢
  by_cases g : (partsN o l).2.2 = 0
  · rw [if_neg (by simp [g])] at h; exact absurd rfl h
  · rw [if_pos g]
theorem land_buy {o : Od} {l : List Co} (h : (landN o l).2 = 0) : landN o (buyL (cosT o.term) l) = landN o l := by
  obtain ⟨-, hc, -⟩ := land_ok h
  rw [landN_eq o (buyL (cosT o.term) l), landN_eq o l, buy_buy, co_buy _ hc, hc]
theorem chg_ok {a b : Int} {l : List Co} (h : (chgN a b l).2 = 0) : isB a = true ∧ isB b = true ∧ coL l = true ∧ chgN a b l = (sumC (buyL (cosT b) l) - sumC (buyL (cosT a) l), 0) := by
  unfold chgN at h ⊢
  by_cases g : (isB a && (isB b && coL l)) = false
  · rw [if_pos g] at h; simp at h
  · rw [if_neg g] at h ⊢
    have g1 : isB a = true ∧ isB b = true ∧ coL l = true := by revert g; cases isB a <;> cases isB b <;> cases coL l <;> simp
    by_cases g2 : 1099511627776 < sumC l
    · rw [if_pos g2] at h; simp at h
    · rw [if_neg g2]; exact ⟨g1.1, g1.2.1, g1.2.2, rfl⟩
theorem chg_later {a b : Int} {l : List Co} (h : (chgN a b l).2 = 0) (hc : cosT a ≤ cosT b) : (chgN a b l).1 ≤ 0 := by
  obtain ⟨-, -, hl, e⟩ := chg_ok h
  rw [e]
  have := buy_later hc (l := l) (fun x hx => (co_nums hl x hx).2.2.1)
  dsimp only; omega
theorem land_moved {o : Od} {l : List Co} {t : Int} (h : (landN o l).2 = 0) (h1 : (landN { o with term := t } l).2 = 0) (h2 : (chgN o.term t l).2 = 0) : (landN { o with term := t } l).1 = (landN o l).1 + (chgN o.term t l).1 := by
  obtain ⟨-, -, e1, -⟩ := land_ok h
  obtain ⟨-, -, e2, -⟩ := land_ok h1
  obtain ⟨-, -, -, e3⟩ := chg_ok h2
  rw [e1, e2, e3]
  dsimp only; omega

theorem chg_bd (a b : Int) (l : List Co) (h4 : l.length ≤ 60) : -4503599627370496 ≤ (chgN a b l).1 ∧ (chgN a b l).1 ≤ 4503599627370496 := by
  by_cases h : (chgN a b l).2 = 0
  · obtain ⟨-, -, hl, e⟩ := chg_ok h
    have h1 := buy_bd (cosT a) hl rfl (by omega)
    have h2 := buy_bd (cosT b) hl rfl (by omega)
    rw [e]; dsimp only; omega
  · have : (chgN a b l).1 = 0 := by
      unfold chgN at h ⊢
      by_cases g : (isB a && (isB b && coL l)) = false
      · rw [if_pos g]
      · rw [if_neg g] at h ⊢
        by_cases g2 : 1099511627776 < sumC l
        · rw [if_pos g2]
        · rw [if_neg g2] at h; exact absurd rfl h
    omega

def LBx (b : Nat) (w : World) (term : Int) (W : World) : Prop := W.cell? ⟨b, 6, none⟩ = some (.int .i64 term) ∧ Below w.heap.size w W
theorem LBx.below {b : Nat} {w W W' : World} {term : Int} (h : LBx b w term W) (hb : Below W.heap.size W W') : LBx b w term W' := ⟨cell_later hb h.1, bt h.2 hb⟩
theorem LBx.drew {b : Nat} {w W : World} {term : Int} (h : LBx b w term W) : LBx b w term W.drew := ⟨h.1, h.2.drew⟩

namespace costLater
set_option maxRecDepth 20000 in
set_option maxHeartbeats 2000000 in
theorem skip (o : Od) (t : Int) (ao : Option Addr) (n cap : Nat) (w : World) (h : OdOk w o) (hw : Terms w) (hf : 60 < n ∨ 70 < o.l.length) :
    Calls Tryd.prog 9 #[o.val, .slice ao n cap, .int .i64 t] w fun e w' => e = .returned (.bool true) ∧ Below w.heap.size w w' := by
  obtain ⟨on, os, ob, oc, of, ot, term, lo, m, lcap, ls, e, hm, hc1, hc2⟩ := Od.apart h
  subst e
  unfold Od.val Od.cells
  dsimp only at hf hm ⊢
  rw [← hm] at hf
  have hba := (Below.refl w.heap.size w).alloc (Nat.le_refl _) (.cells #[.string on, .string os, .string ob, .string oc, .string of, .string ot, .int .i64 term, .slice lo m lcap] 33)
  have HB := Lib.hid hba
  have HW := Lib.hid (hw.below hba)
  clear h hm hc1 hc2 hba hw
  by_cases g : 60 < n
  · have d0 : decide ((60 : Int) < (n : Int)) = true := by rw [decide_eq_true_iff]; omega
    clear hf g
    go_enter Tryd.func9, Tryd.ntmps9
    go_wp2_with fail
    refine (awake20_any _ HW.out).mono ?_
    rintro e w1 ⟨rfl, hb1⟩
    have HB1 := Lib.hid (bt HB.out hb1)
    have HW1 := Lib.hid (HW.out.below hb1)
    clear hb1
    go_wp2_with fail
    refine (awake20_any _ HW1.out).mono ?_
    rintro e w2 ⟨rfl, hb2⟩
    have HB2 := Lib.hid (bt HB1.out hb2)
    clear hb2
    go_wp2
    go_ret
    exact ⟨rfl, HB2.out⟩
  · have d0 : decide ((60 : Int) < (n : Int)) = false := by rw [decide_eq_false_iff_not]; omega
    have d1 : decide ((70 : Int) < (m : Int)) = true := by rw [decide_eq_true_iff]; omega
    clear hf g
    go_enter Tryd.func9, Tryd.ntmps9
    go_wp2_with fail
    refine (awake20_any _ HW.out).mono ?_
    rintro e w1 ⟨rfl, hb1⟩
    have p7 := box_at0 (j := 7) (v := .slice lo m lcap) hb1 rfl
    have HB1 := Lib.hid (bt HB.out hb1)
    have HW1 := Lib.hid (HW.out.below hb1)
    clear hb1
    go_wp2_with fail
    refine (awake20_any _ HW1.out).mono ?_
    rintro e w2 ⟨rfl, hb2⟩
    have HB2 := Lib.hid (bt HB1.out hb2)
    clear hb2
    go_wp2
    go_ret
    exact ⟨rfl, HB2.out⟩

set_option maxRecDepth 20000 in
set_option maxHeartbeats 8000000 in
theorem good (o : Od) (t : Int) (ao : Option Addr) (n cap : Nat) (l : List Co) (w : World) (h : OdOk w o) (hc : Cos w (.slice ao n cap) l) (hn : n = l.length) (hf : ¬ 60 < n) (hf2 : ¬ 70 < o.l.length) (hw : Terms w) :
    Calls Tryd.prog 9 #[o.val, .slice ao n cap, .int .i64 t] w fun e w' => e = .returned (.bool true) ∧ Below w.heap.size w w' := by
  have HLa := Lib.hid (fun W (hb : Below w.heap.size w W) => landed_any o ao n cap l W (h.below hb) (Row.below hc hb) hn (by omega) (hw.below hb))
  have HLb := Lib.hid (fun W a2 n2 c2 (hb : Below w.heap.size w W) (hr : Cos W (.slice a2 n2 c2) (buyL (cosT o.term) l)) (hn2 : n2 = (buyL (cosT o.term) l).length) => landed_any o a2 n2 c2 (buyL (cosT o.term) l) W (h.below hb) hr hn2 (by have := List.length_filter_le (fun o' : Co => decide (cosT o.term ≤ o'.s)) l; unfold buyL at hn2; omega) (hw.below hb))
  have HLp := Lib.hid (fun W (hb : Below w.heap.size w W) => landed_any { o with term := t } ao n cap l W (⟨(h.below hb).row, h.z1, h.z2, h.z3, h.z5, h.z6, h.wf⟩) (Row.below hc hb) hn (by omega) (hw.below hb))
  have HCh := Lib.hid (fun W (hb : Below w.heap.size w W) => change_any o.term t ao n cap l W (Row.below hc hb) hn (by omega) (hw.below hb))
  have HSb := Lib.hid (fun W (hb : Below w.heap.size w W) (hl : (isB o.term && coL l) = false) => csplit_bad o.term ao n cap l W (Row.below hc hb) hn (by omega) (hw.below hb) hl)
  have HSo := Lib.hid (fun W (hb : Below w.heap.size w W) (hi : isB o.term = true) (hl : coL l = true) => csplit_ok o.term ao n cap l W (Row.below hc hb) hn (by omega) (hw.below hb) hi hl)
  have HNo := Lib.hid (fun h => land_no (o := o) (l := l) h)
  have HOk := Lib.hid (fun h => land_ok (o := o) (l := l) h)
  have HBy := Lib.hid (fun h => land_buy (o := o) (l := l) h)
  have HMv := Lib.hid (fun h1 h2 h3 => land_moved (o := o) (l := l) (t := t) h1 h2 h3)
  have HTi := Lib.hid (fun h => term_is (o := o) h)
  have HCk := Lib.hid (fun h => chg_ok (a := o.term) (b := t) (l := l) h)
  have HCl := Lib.hid (fun h hc => chg_later (a := o.term) (b := t) (l := l) h hc)
  have HCb := Lib.hid (chg_bd o.term t l (by omega))
  obtain ⟨on, os, ob, oc, of, ot, term, lo, m, lcap, ls, e, hm, hc1, hc2⟩ := Od.apart h
  subst e
  generalize landN (Od.mk on os ob oc of ot term (.slice lo m lcap) ls) (buyL (cosT term) l) = LB at *
  generalize landN { Od.mk on os ob oc of ot term (.slice lo m lcap) ls with term := t } l = LP at *
  generalize landN (Od.mk on os ob oc of ot term (.slice lo m lcap) ls) l = L at *
  obtain ⟨L1, L2⟩ := L
  unfold Od.val Od.cells at HLa HLb HLp ⊢
  dsimp only at HLa HLb HLp HCh HSb HSo HNo HOk HBy HMv HTi HCk HCl HCb hf2 hm ⊢
  have d0 : decide ((60 : Int) < (n : Int)) = false := by rw [decide_eq_false_iff_not]; omega
  have d1 : decide ((70 : Int) < (m : Int)) = false := by rw [decide_eq_false_iff_not]; omega
  have hba := (Below.refl w.heap.size w).alloc (Nat.le_refl _) (.cells #[.string on, .string os, .string ob, .string oc, .string of, .string ot, .int .i64 term, .slice lo m lcap] 33)
  have HB := Lib.hid hba
  have HX := Lib.hid (heap_alloc_new w (.cells #[.string on, .string os, .string ob, .string oc, .string of, .string ot, .int .i64 term, .slice lo m lcap] 33))
  have HW := Lib.hid (hw.below hba)
  have hc2 : lcap ≤ 9223372036854775807 := by unfold maxLen at hc2; omega
  clear h hc hn hf hf2 hw hba hm hc1
  by_cases g : L2 = 0
  · subst g
    have hby := HBy.out rfl
    subst hby
    obtain ⟨hmay, hcl, hL, ht0, hs0, hts⟩ := HOk.out rfl
    have hti := HTi.out hmay
    have hL1 := (Prod.mk.inj hL).1
    have hb1 : 0 ≤ L1 ∧ L1 ≤ 1099511627776 := by omega
    have HS1 := Lib.hid (fun W hb => HSo.out W hb hti hcl)
    have HB1' := Lib.hid hb1
    unfold SplitPost at HS1
    generalize selL (cosT term) l = sl at *
    generalize hbl : buyL (cosT term) l = bl at *
    clear hmay hcl hL ht0 hs0 hts HOk HBy HNo HSb HSo hL1 hb1
    have f1 : (L1 == L1) = true := by simp
    obtain ⟨K, H⟩ := LP
    generalize chgN term t l = C at *
    obtain ⟨D, I⟩ := C
    dsimp only at HLb HLp HCh HMv HCk HCl HCb
    go_enter Tryd.func9, Tryd.ntmps9
    go_wp2_with fail
    refine (awake20_any _ HW.out).mono ?_
    rintro e w1 ⟨rfl, hb1⟩
    have HB1 := Lib.hid (bt HB.out hb1)
    have HX1 := Lib.hid ((hb1.block _ (lt_of_block HX.out)).trans HX.out)
    obtain ⟨p0, p1, p2, p3, p4, p5, p6, p7⟩ := od8 HX1.out
    have HC1 := Lib.hid (HLa.out w1 HB1.out)
    clear hb1
    go_wp2_with fail
    refine HC1.out.mono ?_
    rintro e w2 ⟨rfl, hb2⟩
    have HB2 := Lib.hid (bt HB1.out hb2)
    have HX2 := Lib.hid ((hb2.block _ (lt_of_block HX1.out)).trans HX1.out)
    clear p0 p1 p2 p3 p4 p5 p6 p7 hb2
    obtain ⟨p0, p1, p2, p3, p4, p5, p6, p7⟩ := od8 HX2.out
    have HC2 := Lib.hid (HS1.out w2 HB2.out)
    go_wp2_with fail
    refine HC2.out.mono ?_
    rintro e w3 ⟨a1, c1, a2, c2, rfl, r1, r2, hb3⟩
    have HB3 := Lib.hid (bt HB2.out hb3)
    have HX3 := Lib.hid ((hb3.block _ (lt_of_block HX2.out)).trans HX2.out)
    have HC3 := Lib.hid (HLb.out w3 a2 bl.length c2 HB3.out r2.cos rfl)
    clear p0 p1 p2 p3 p4 p5 p6 p7 hb3 r1 r2
    obtain ⟨p0, p1, p2, p3, p4, p5, p6, p7⟩ := od8 HX3.out
    go_wp2_with fail
    refine HC3.out.mono ?_
    rintro e w4 ⟨rfl, hb4⟩
    have HB4 := Lib.hid (bt HB3.out hb4)
    have HX4 := Lib.hid ((hb4.block _ (lt_of_block HX3.out)).trans HX3.out)
    clear p0 p1 p2 p3 p4 p5 p6 p7 hb4
    obtain ⟨p0, p1, p2, p3, p4, p5, p6, p7⟩ := od8 HX4.out
    have hb5 := (Below.refl w4.heap.size w4).alloc (Nat.le_refl _) (.cells #[.string on, .string os, .string ob, .string oc, .string of, .string ot, .int .i64 t, .slice lo m lcap] 33)
    have HB5 := Lib.hid (bt HB4.out hb5)
    have HX5 := Lib.hid ((hb5.block _ (lt_of_block HX4.out)).trans HX4.out)
    have HC5 := Lib.hid (HLp.out _ HB5.out)
    clear hb5
    go_wp2_with fail
    refine HC5.out.mono ?_
    rintro e w6 ⟨rfl, hb6⟩
    have HB6 := Lib.hid (bt HB5.out hb6)
    have HX6 := Lib.hid ((hb6.block _ (lt_of_block HX5.out)).trans HX5.out)
    clear p0 p1 p2 p3 p4 p5 p6 p7 hb6
    obtain ⟨p0, p1, p2, p3, p4, p5, p6, p7⟩ := od8 HX6.out
    have HC6 := Lib.hid (HCh.out _ HB6.out)
    go_wp2_with fail
    refine HC6.out.mono ?_
    rintro e w7 ⟨rfl, hb7⟩
    have HB7 := Lib.hid (bt HB6.out hb7)
    have HX7 := Lib.hid ((hb7.block _ (lt_of_block HX6.out)).trans HX6.out)
    clear p0 p1 p2 p3 p4 p5 p6 p7 hb7
    obtain ⟨p0, p1, p2, p3, p4, p5, p6, p7⟩ := od8 HX7.out
    clear p0 p1 p2 p3 p4 p5 p7
    clear HC1 HC2 HC3 HC5 HC6 HX1 HX2 HX3 HX4 HX5 HX6 HB1 HB2 HB3 HB4 HB5 HB6
    go_upto_region 12 with fail
    go_cut [91] from 78 to 91 (fun x wx => x = .bool false ∧ Hid (Below w.heap.size w wx) ∧ ∃ wy, wy = wx)
    case first =>
      by_cases hi : I = 0
      · obtain ⟨h1, h2, -, -⟩ := HCk.out hi
        have e1 : (I == 0) = true := by simp [hi]
        have hcl := HCl.out hi
        have HR1 := Lib.hid (fun W (h : LBx w.heap.size w term W) => (refCost_any t W h2).mono fun e w' hh => (show e = .returned (.int .i64 (cosT t)) ∧ LBx w.heap.size w term w' from ⟨hh.1, h.below hh.2⟩))
        have HR2 := Lib.hid (fun W (h : LBx w.heap.size w term W) => (refCost_any term W h1).mono fun e w' hh => (show e = .returned (.int .i64 (cosT term)) ∧ LBx w.heap.size w term w' from ⟨hh.1, h.below hh.2⟩))
        have hS0 : LBx w.heap.size w term w7 := ⟨p6, HB7.out⟩
        generalize cosT t = ct at *
        generalize cosT term = cm at *
        have hq : (decide (cm ≤ ct) = true ∧ decide (0 < D) = false) ∨ decide (cm ≤ ct) = false := by
          by_cases hx : cm ≤ ct
          · exact .inl ⟨by simpa using hx, by have := hcl hx; rw [decide_eq_false_iff_not]; omega⟩
          · exact .inr (by simpa using hx)
        clear hi h1 h2 hcl HCk HCl HMv p6 HX7
        rcases hq with ⟨q1, q2⟩ | q1
        · go_region_held3 (fun W => W.cell? ⟨w.heap.size, 6, none⟩ = some (.int .i64 term) ∧ Below w.heap.size w W)
            (first | (show LBx w.heap.size w term _; with_reducible first | exact hS9 | exact LBx.drew hS0) | (with_reducible assumption))
            (first | (go_at_call 24; refine (HR1.out _ ?_).mono ?_; (unfold LBx; with_reducible first | assumption | exact ⟨by assumption, by assumption⟩); rintro e w9 ⟨rfl, hS9⟩) | (go_at_call 24; refine (HR2.out _ ?_).mono ?_; (unfold LBx; with_reducible first | assumption | exact ⟨by assumption, by assumption⟩); rintro e w9 ⟨rfl, hS9⟩))
          all_goals
            dsimp only [Exit.then]
            apply_assumption
            go_meet
            exact ⟨rfl, Lib.hid hS9.2, _, rfl⟩
        · have p6 := hS0.1
          first
            | (go_region_with (first
                | (go_at_call 24; refine (HR1.out _ ?_).mono ?_; (with_reducible first | exact hS9 | exact LBx.drew hS0); rintro e w9 ⟨rfl, hS9⟩; have p6 := hS9.1)
                | (go_at_call 24; refine (HR2.out _ ?_).mono ?_; (with_reducible first | exact hS9 | exact LBx.drew hS0); rintro e w9 ⟨rfl, hS9⟩; have p6 := hS9.1)))
            | fail
          all_goals
            dsimp only [Exit.then]
            apply_assumption
            go_meet
            exact ⟨rfl, Lib.hid hS9.2, _, rfl⟩
      · have e1 : (I == 0) = false := by simp [hi]
        clear hi
        go_quiet (fail)
        all_goals
          dsimp only [Exit.then]
          apply_assumption
          go_meet
          exact ⟨rfl, Lib.hid (below_drewN HB7.out _), _, rfl⟩
    case rest =>
      obtain ⟨rfl, hbc, wy, hwy⟩ := hcut
      subst hwy
      by_cases hH : H = 0
      · have e2 : (H != 0) = false := by simp [hH]
        by_cases hI : I = 0
        · have e3 : (I != 0) = false := by simp [hI]
          have hv := HMv.out trivial hH hI
          have v1 : IntKind.i64.wrap (L1 + D) = K := by rw [hv]; exact IntWalk.i64_in _ (by have := HCb.out; have := HB1'.out; omega)
          have f2 : (K == K) = true := by simp
          clear hH hI hv HMv HCk HCl
          go_wp2
          go_ret
          exact ⟨rfl, hbc.out⟩
        · have e3 : (I != 0) = true := by simp [hI]
          clear hH hI
          go_wp2
          go_ret
          exact ⟨rfl, hbc.out⟩
      · have e2 : (H != 0) = true := by simp [hH]
        clear hH
        go_wp2
        go_ret
        exact ⟨rfl, hbc.out⟩
  · have hn1 := HNo.out g
    subst hn1
    have e0 : (L2 != 0) = true := by simp [bne, g]
    clear HNo HOk HBy HMv HTi HCk HCl HCb g HLb HLp HCh
    cases gs : (isB term && coL l) with
    | false =>
      have HS1 := Lib.hid (fun W hb => HSb.out W hb gs)
      clear HSb HSo gs
      go_enter Tryd.func9, Tryd.ntmps9
      go_wp2_with fail
      refine (awake20_any _ HW.out).mono ?_
      rintro e w1 ⟨rfl, hb1⟩
      have HB1 := Lib.hid (bt HB.out hb1)
      have HX1 := Lib.hid ((hb1.block _ (lt_of_block HX.out)).trans HX.out)
      obtain ⟨p0, p1, p2, p3, p4, p5, p6, p7⟩ := od8 HX1.out
      have HC1 := Lib.hid (HLa.out w1 HB1.out)
      clear hb1
      go_wp2_with fail
      refine HC1.out.mono ?_
      rintro e w2 ⟨rfl, hb2⟩
      have HB2 := Lib.hid (bt HB1.out hb2)
      have HX2 := Lib.hid ((hb2.block _ (lt_of_block HX1.out)).trans HX1.out)
      clear p0 p1 p2 p3 p4 p5 p6 p7 hb2
      obtain ⟨p0, p1, p2, p3, p4, p5, p6, p7⟩ := od8 HX2.out
      have HC2 := Lib.hid (HS1.out w2 HB2.out)
      go_wp2_with fail
      refine HC2.out.mono ?_
      rintro e w3 ⟨rfl, hb3⟩
      have HB3 := Lib.hid (bt HB2.out hb3)
      clear p0 p1 p2 p3 p4 p5 p6 p7 hb3
      go_wp2
      go_ret
      exact ⟨rfl, HB3.out⟩
    | true =>
      have hti : isB term = true := by revert gs; cases isB term <;> simp
      have hcl : coL l = true := by revert gs; cases coL l <;> simp
      have HS1 := Lib.hid (fun W hb => HSo.out W hb hti hcl)
      unfold SplitPost at HS1
      generalize selL (cosT term) l = sl at *
      generalize buyL (cosT term) l = bl at *
      clear HSb HSo gs hti hcl
      go_enter Tryd.func9, Tryd.ntmps9
      go_wp2_with fail
      refine (awake20_any _ HW.out).mono ?_
      rintro e w1 ⟨rfl, hb1⟩
      have HB1 := Lib.hid (bt HB.out hb1)
      have HX1 := Lib.hid ((hb1.block _ (lt_of_block HX.out)).trans HX.out)
      obtain ⟨p0, p1, p2, p3, p4, p5, p6, p7⟩ := od8 HX1.out
      have HC1 := Lib.hid (HLa.out w1 HB1.out)
      clear hb1
      go_wp2_with fail
      refine HC1.out.mono ?_
      rintro e w2 ⟨rfl, hb2⟩
      have HB2 := Lib.hid (bt HB1.out hb2)
      have HX2 := Lib.hid ((hb2.block _ (lt_of_block HX1.out)).trans HX1.out)
      clear p0 p1 p2 p3 p4 p5 p6 p7 hb2
      obtain ⟨p0, p1, p2, p3, p4, p5, p6, p7⟩ := od8 HX2.out
      have HC2 := Lib.hid (HS1.out w2 HB2.out)
      go_wp2_with fail
      refine HC2.out.mono ?_
      rintro e w3 ⟨a1, c1, a2, c2, rfl, -, -, hb3⟩
      have HB3 := Lib.hid (bt HB2.out hb3)
      clear p0 p1 p2 p3 p4 p5 p6 p7 hb3
      go_wp2
      go_ret
      exact ⟨rfl, HB3.out⟩

theorem walk (v0 v1 : Value) (a2 : Int) (w : World) (w0 : Is33 w v0) (w1 : Is22 w v1) (w2 : (Lit.int .i64 a2).wf = true) (hw : Terms w) :
    Calls Tryd.prog 9 #[v0, v1, .int .i64 a2] w fun e w' => e = .returned (.bool true) ∧ Below w.heap.size w w' := by
  obtain ⟨o, rfl, ho⟩ := w0
  obtain ⟨l, h, hwf⟩ := w1
  obtain ⟨ao, cap, rfl, h1, h2, _⟩ := h.shape
  by_cases hf : 60 < l.length ∨ 70 < o.l.length
  · exact skip o a2 ao l.length cap w ho hw hf
  · exact good o a2 ao l.length cap l w ho h rfl (fun e => hf (.inl e)) (fun e => hf (.inr e)) hw
theorem terms_met {W : World} (h : laidMetH Tryd.prog Rows.costLaterRow.laid W) : Terms W := terms_metH List.mem_cons_self (by kernel_rfl) (by kernel_rfl) h
end costLater
end Go.Proofs.YtfkkkebegkhdfaaDoor
