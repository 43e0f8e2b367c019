/-
  CostSplits, CostSums, CostChanges.
-/
import Derived.Test.YtfkkkebegkhdfaaDoorMEa
namespace Go.Proofs.YtfkkkebegkhdfaaDoor
open Go Go.RowKit
set_option linter.unusedVariables false
set_option linter.unusedSimpArgs false

namespace costSplits
set_option maxHeartbeats 1000000 in
theorem skip (t : Int) (ao : Option Addr) (n cap : Nat) (w : World) (hw : Terms w) (hf : 60 < n) :
    Calls Tryd.prog 3 #[.int .i64 t, .slice ao n cap] w fun e w' => e = .returned (.bool true) ∧ Below w.heap.size w w' := by
  have d0 : decide ((60 : Int) < (n : Int)) = true := by rw [decide_eq_true_iff]; omega
  have HW := Lib.hid hw
  clear hw hf
  go_enter Tryd.func3, Tryd.ntmps3
  go_wp2_with fail
  refine (awake20_any _ HW.out).mono ?_
  rintro e w1 ⟨rfl, hb1⟩
  have HB1 := Lib.hid hb1
  clear hb1
  go_wp2_with fail
  refine (awake20_any _ (HW.out.below HB1.out)).mono ?_
  rintro e w2 ⟨rfl, hb2⟩
  have HB2 := Lib.hid (bt HB1.out hb2)
  clear hb2
  go_wp2
  go_ret
  exact ⟨rfl, HB2.out⟩

theorem in_co (l : List Co) : ∀ u ∈ l.flatMap Co.cells, u.oneCell' = true := by
  intro u hu
  obtain ⟨o, _, ho⟩ := List.mem_flatMap.1 hu
  exact one_co o u ho

set_option maxRecDepth 20000 in
set_option maxHeartbeats 4000000 in
theorem good (t : Int) (ao : Option Addr) (n cap : Nat) (l : List Co) (w : World) (h : Cos w (.slice ao n cap) l) (hn : n = l.length) (hf : ¬ 60 < n) (hwf : ∀ o ∈ l, o.wf) (hw : Terms w) :
    Calls Tryd.prog 3 #[.int .i64 t, .slice ao n cap] w fun e w' => e = .returned (.bool true) ∧ Below w.heap.size w w' := by
  have d0 : decide ((60 : Int) < (n : Int)) = false := by rw [decide_eq_false_iff_not]; omega
  have h60 : n ≤ 60 := by omega
  have H := Lib.hid h
  have HW := Lib.hid hw
  have HSb := Lib.hid (fun W a c (hc : Cos W (.slice a n c) l) (ht : Terms W) (hl : (isB t && coL l) = false) => csplit_bad t a n c l W hc hn (by omega) ht hl)
  have HSo := Lib.hid (fun W a c (hc : Cos W (.slice a n c) l) (ht : Terms W) (hi : isB t = true) (hl : coL l = true) => csplit_ok t a n c l W hc hn (by omega) ht hi hl)
  have HWr := Lib.hid (fun W (hb : Below w.heap.size w W) => rcwrong_any t ao n cap l W (Row.below h hb) hn (by unfold maxLen; omega) hwf)
  have HWv := Lib.hid (show cwrongN t l = if (isB t && coL l) = false then 1 else 0 by unfold cwrongN; rw [if_neg (show ¬ 4096 < l.length by omega)])
  have HOf := Lib.hid (fun b W (hb : Below w.heap.size w W) (ht : isB t = true) => rof_any b ao n cap t l W (Row.below h hb) hn (by omega) ht)
  have HSm := Lib.hid (fun a b D W h1 h2 => rcsame_any a b D W h1 h2)
  have HRow := Lib.hid (fun W (hb : Below w.heap.size w W) => show Row W (.slice ao n cap) 3 n (l.flatMap Co.cells) from by have := Row.below h hb; rw [← hn] at this; exact this)
  have HE1 := Lib.hid (show ∀ W v, W.ownsRow 0 55 3 v n (l.flatMap Co.cells) → Cos W v l from fun W v hr => by have := Row.of_own hr; unfold Cos; rw [← hn]; exact this)
  obtain ⟨i0, hi, hz0, hz1, hz2⟩ := info_parts Tryd.infoCo
  clear h hn hf hwf hw
  go_enter Tryd.func3, Tryd.ntmps3
  go_wp2_with fail
  refine (awake20_any _ HW.out).mono ?_
  rintro e w1 ⟨rfl, hb1⟩
  have HB1 := Lib.hid hb1
  have hx := (Below.refl w1.heap.size w1).alloc (Nat.le_refl _) (.cells #[] 55)
  have HX := Lib.hid hx
  have HR1 := Lib.hid (HRow.out _ (bt hb1 hx))
  clear hb1 hx
  go_wp2_with (at_builtin; refine wpList_row rfl (.tmp 17) (.tmp 18) 22 rfl 55 i0 _ 3 32 Tryd.underlying22 hi hz0 hz1 hz2 rfl (by decide) _ 0 [] rfl (litCo w1) ao n cap (l.flatMap Co.cells) rfl HR1.out (in_co l) (by unfold maxLen; omega) (by omega) ?_; intro v2 w2 hown ht hlo; rw [Nat.zero_add, List.nil_append] at hown; obtain ⟨a2, c2, rfl⟩ := own_shape hown; have HC2 := Lib.hid (HE1.out _ _ hown); have HB2 := Lib.hid (HB1.out.trans ((HX.out.trans (ht.below HX.out.size (fun x hx => by cases hx; exact Nat.le_refl _))).mono HB1.out.size)); have HG2 := Lib.hid hlo; clear hown ht hlo)
  cases gb : (isB t && coL l) with
  | false =>
    have HS1 := Lib.hid (HSb.out w2 _ _ HC2.out (HW.out.below HB2.out) gb)
    have hwv := HWv.out
    rw [gb, if_pos rfl] at hwv
    rw [hwv] at HWr
    clear gb hwv HWv HSb HSo HOf
    go_wp2_with fail
    refine HS1.out.mono ?_
    rintro e w3 ⟨rfl, hb3⟩
    have HB3 := Lib.hid (bt HB2.out hb3)
    have HM3 := Lib.hid (HSm.out _ _ l w3 (Row.below HC2.out hb3) (Row.below H.out HB3.out))
    clear hb3
    go_wp2_with fail
    refine HM3.out.mono ?_
    rintro e w4 ⟨rfl, hb4⟩
    have HB4 := Lib.hid (bt HB3.out hb4)
    have HW4 := Lib.hid (HWr.out w4 HB4.out)
    clear hb4
    go_wp2_with fail
    refine HW4.out.mono ?_
    rintro e w5 ⟨rfl, hb5⟩
    have HB5 := Lib.hid (bt HB4.out hb5)
    clear hb5
    go_wp2
    go_ret
    exact ⟨rfl, HB5.out⟩
  | true =>
    have hti : isB t = true := by revert gb; cases isB t <;> simp
    have hcl : coL l = true := by revert gb; cases coL l <;> simp
    have HS1 := Lib.hid (HSo.out w2 _ _ HC2.out (HW.out.below HB2.out) hti hcl)
    have HOf2 := Lib.hid (fun b W hb => HOf.out b W hb hti)
    have HO1 := Lib.hid (fun W hb => HOf2.out false W hb)
    have HO2 := Lib.hid (fun W hb => HOf2.out true W hb)
    rw [ofL_false] at HO1
    rw [ofL_true] at HO2
    unfold SplitPost at HS1
    unfold OfPost at HO1 HO2
    have hwv := HWv.out
    rw [gb, if_neg (by simp)] at hwv
    rw [hwv] at HWr
    generalize selL (cosT t) l = sl at *
    generalize buyL (cosT t) l = bl at *
    clear gb hwv HWv HSb HSo HOf hti hcl HOf2
    go_wp2_with fail
    refine HS1.out.mono ?_
    rintro e w3 ⟨x1, y1, x2, y2, rfl, r1, r2, hb3⟩
    have HB3 := Lib.hid (bt HB2.out hb3)
    have HM3 := Lib.hid (HSm.out _ _ l w3 (Row.below HC2.out hb3) (Row.below H.out HB3.out))
    have HR1 := Lib.hid r1.cos
    have HR2 := Lib.hid r2.cos
    clear hb3 r1 r2
    go_wp2_with fail
    refine HM3.out.mono ?_
    rintro e w4 ⟨rfl, hb4⟩
    have HB4 := Lib.hid (bt HB3.out hb4)
    have HR1 := Lib.hid (Row.below HR1.out hb4)
    have HR2 := Lib.hid (Row.below HR2.out hb4)
    have HW4 := Lib.hid (HWr.out w4 HB4.out)
    clear hb4
    go_wp2_with fail
    refine HW4.out.mono ?_
    rintro e w5 ⟨rfl, hb5⟩
    have HB5 := Lib.hid (bt HB4.out hb5)
    have HR1 := Lib.hid (Row.below HR1.out hb5)
    have HR2 := Lib.hid (Row.below HR2.out hb5)
    have HO5 := Lib.hid (HO1.out w5 HB5.out)
    clear hb5
    go_wp2_with fail
    refine HO5.out.mono ?_
    rintro e w6 ⟨x3, y3, rfl, r3, hb6⟩
    have HB6 := Lib.hid (bt HB5.out hb6)
    have HR2 := Lib.hid (Row.below HR2.out hb6)
    have HM6 := Lib.hid (HSm.out _ _ sl w6 (Row.below HR1.out hb6) r3.cos)
    clear hb6 r3
    go_wp2_with fail
    refine HM6.out.mono ?_
    rintro e w7 ⟨rfl, hb7⟩
    have HB7 := Lib.hid (bt HB6.out hb7)
    have HR2 := Lib.hid (Row.below HR2.out hb7)
    have HO7 := Lib.hid (HO2.out w7 HB7.out)
    clear hb7
    go_wp2_with fail
    refine HO7.out.mono ?_
    rintro e w8 ⟨x4, y4, rfl, r4, hb8⟩
    have HB8 := Lib.hid (bt HB7.out hb8)
    have HM8 := Lib.hid (HSm.out _ _ bl w8 (Row.below HR2.out hb8) r4.cos)
    clear hb8 r4
    go_wp2_with fail
    refine HM8.out.mono ?_
    rintro e w9 ⟨rfl, hb9⟩
    have HB9 := Lib.hid (bt HB8.out hb9)
    clear hb9
    go_wp2
    go_ret
    exact ⟨rfl, HB9.out⟩

theorem walk (a0 : Int) (v1 : Value) (w : World) (w0 : (Lit.int .i64 a0).wf = true) (w1 : Is22 w v1) (hw : Terms w) :
    Calls Tryd.prog 3 #[.int .i64 a0, v1] w fun e w' => e = .returned (.bool true) ∧ Below w.heap.size w w' := by
  obtain ⟨l, h, hwf⟩ := w1
  obtain ⟨ao, cap, rfl, h1, h2, _⟩ := h.shape
  by_cases hf : 60 < l.length
  · exact skip a0 ao l.length cap w hw hf
  · exact good a0 ao l.length cap l w h rfl hf hwf hw
theorem terms_met {W : World} (h : laidMetH Tryd.prog Rows.costSplitsRow.laid W) : Terms W := terms_metH List.mem_cons_self (by kernel_rfl) (by kernel_rfl) h
end costSplits

namespace costSums
set_option maxHeartbeats 1000000 in
theorem skip (t : Int) (ao : Option Addr) (n cap : Nat) (w : World) (hw : Terms w) (hf : 60 < n) :
    Calls Tryd.prog 7 #[.int .i64 t, .slice ao n cap] w fun e w' => e = .returned (.bool true) ∧ Below w.heap.size w w' := by
  have d0 : decide ((60 : Int) < (n : Int)) = true := by rw [decide_eq_true_iff]; omega
  have HW := Lib.hid hw
  clear hw hf
  go_enter Tryd.func7, Tryd.ntmps7
  go_wp2_with fail
  refine (awake20_any _ HW.out).mono ?_
  rintro e w1 ⟨rfl, hb1⟩
  have HB1 := Lib.hid hb1
  clear hb1
  go_wp2_with fail
  refine (awake20_any _ (HW.out.below HB1.out)).mono ?_
  rintro e w2 ⟨rfl, hb2⟩
  have HB2 := Lib.hid (bt HB1.out hb2)
  clear hb2
  go_wp2
  go_ret
  exact ⟨rfl, HB2.out⟩

set_option maxRecDepth 20000 in
set_option maxHeartbeats 4000000 in
theorem good (t : Int) (ao : Option Addr) (n cap : Nat) (l : List Co) (w : World) (h : Cos w (.slice ao n cap) l) (hn : n = l.length) (hf : ¬ 60 < n) (hwf : ∀ o ∈ l, o.wf) (hw : Terms w) :
    Calls Tryd.prog 7 #[.int .i64 t, .slice ao n cap] w fun e w' => e = .returned (.bool true) ∧ Below w.heap.size w w' := by
  have d0 : decide ((60 : Int) < (n : Int)) = false := by rw [decide_eq_false_iff_not]; omega
  have h60 : n ≤ 60 := by omega
  have H := Lib.hid h
  have HW := Lib.hid hw
  have HSu := Lib.hid (fun W (hb : Below w.heap.size w W) => sums_any ao n cap l W (Row.below h hb) hn (by omega))
  have HWr := Lib.hid (fun W (hb : Below w.heap.size w W) => rcwrong_any 0 ao n cap l W (Row.below h hb) hn (by unfold maxLen; omega) hwf)
  have HWv := Lib.hid (show cwrongN 0 l = if coL l = false then 1 else 0 by unfold cwrongN; rw [if_neg (show ¬ 4096 < l.length by omega), show isB 0 = true by decide, Bool.true_and])
  have HRs := Lib.hid (fun W (hb : Below w.heap.size w W) (hl : coL l = true) => rcsum_any ao n cap l W (Row.below h hb) hn (by omega) (fun o ho => (co_nums hl o ho).2.2))
  have HSb := Lib.hid (fun W (hb : Below w.heap.size w W) (hl : (isB t && coL l) = false) => csplit_bad t ao n cap l W (Row.below h hb) hn (by omega) (hw.below hb) hl)
  have HSo := Lib.hid (fun W (hb : Below w.heap.size w W) (hi : isB t = true) (hl : coL l = true) => csplit_ok t ao n cap l W (Row.below h hb) hn (by omega) (hw.below hb) hi hl)
  have HPs := Lib.hid (part_sum (cosT t) l)
  have HPl := Lib.hid (show (buyL (cosT t) l).length + (selL (cosT t) l).length = n by rw [hn]; exact part_len _ _)
  have HSv := Lib.hid (show sumsB l = (coL l && decide (sumC l ≤ 1099511627776)) from rfl)
  have HS1 := Lib.hid (fun W a m c (hr : Cos W (.slice a m c) (selL (cosT t) l)) (hm : m = (selL (cosT t) l).length) (h6 : m ≤ 60) => sums_any a m c _ W hr hm (by omega))
  have HS2 := Lib.hid (fun W a m c (hr : Cos W (.slice a m c) (buyL (cosT t) l)) (hm : m = (buyL (cosT t) l).length) (h6 : m ≤ 60) => sums_any a m c _ W hr hm (by omega))
  have HNn := Lib.hid (fun hl : coL l = true => show sumsB (selL (cosT t) l) = decide (sumC (selL (cosT t) l) ≤ 1099511627776) ∧ sumsB (buyL (cosT t) l) = decide (sumC (buyL (cosT t) l) ≤ 1099511627776) ∧ 0 ≤ sumC (selL (cosT t) l) ∧ 0 ≤ sumC (buyL (cosT t) l) from
    ⟨by unfold sumsB; rw [co_sel _ hl, Bool.true_and], by unfold sumsB; rw [co_buy _ hl, Bool.true_and], sumC_nonneg (fun x hx => (co_nums (co_sel _ hl) x hx).2.2.1), sumC_nonneg (fun x hx => (co_nums (co_buy _ hl) x hx).2.2.1)⟩)
  clear h hn hf hwf hw
  have HS := Lib.hid (show ∀ s, s = sumsB l → coL l = false ∨ 1099511627776 < sumC l → s = false from fun s e hh => by
    rw [e, HSv.out]
    rcases hh with hh | hh
    · rw [hh]; rfl
    · rw [decide_eq_false (show ¬ sumC l ≤ 1099511627776 by omega), Bool.and_false])
  cases gl : coL l with
  | false =>
    have es := HS.out _ rfl (.inl gl)
    rw [es] at HSu
    have hwv := HWv.out
    rw [gl, if_pos rfl] at hwv
    rw [hwv] at HWr
    clear es hwv gl HS HSv HNn HS1 HS2 HPl HPs HSo HSb HRs HWv
    go_enter Tryd.func7, Tryd.ntmps7
    go_wp2_with fail
    refine (awake20_any _ HW.out).mono ?_
    rintro e w1 ⟨rfl, hb1⟩
    have HB1 := Lib.hid hb1
    have HU := Lib.hid (HSu.out w1 hb1)
    clear hb1
    go_wp2_with fail
    refine HU.out.mono ?_
    rintro e w2 ⟨rfl, hb2⟩
    have HB2 := Lib.hid (bt HB1.out hb2)
    have HV := Lib.hid (HWr.out w2 HB2.out)
    clear hb2
    go_wp2_with fail
    refine HV.out.mono ?_
    rintro e w3 ⟨rfl, hb3⟩
    have HB3 := Lib.hid (bt HB2.out hb3)
    clear hb3
    go_wp2
    go_ret
    exact ⟨rfl, HB3.out⟩
  | true =>
    have hwv := HWv.out
    rw [gl, if_neg (by simp)] at hwv
    rw [hwv] at HWr
    have HRs := Lib.hid (fun W hb => HRs.out W hb gl)
    obtain ⟨n1, n2, n3, n4⟩ := HNn.out gl
    have hps := HPs.out
    by_cases gm : 1099511627776 < sumC l
    · have es := HS.out _ rfl (.inr gm)
      rw [es] at HSu
      have d1 : decide (1099511627776 < sumC l) = true := by rw [decide_eq_true_iff]; exact gm
      generalize sumC l = S at *
      clear es hwv gl HS HSv HNn HS1 HS2 HPl HPs HSo HSb HWv n1 n2 n3 n4 hps gm
      go_enter Tryd.func7, Tryd.ntmps7
      go_wp2_with fail
      refine (awake20_any _ HW.out).mono ?_
      rintro e w1 ⟨rfl, hb1⟩
      have HB1 := Lib.hid hb1
      have HU := Lib.hid (HSu.out w1 hb1)
      clear hb1
      go_wp2_with fail
      refine HU.out.mono ?_
      rintro e w2 ⟨rfl, hb2⟩
      have HB2 := Lib.hid (bt HB1.out hb2)
      have HV := Lib.hid (HWr.out w2 HB2.out)
      clear hb2
      go_wp2_with fail
      refine HV.out.mono ?_
      rintro e w3 ⟨rfl, hb3⟩
      have HB3 := Lib.hid (bt HB2.out hb3)
      have HU3 := Lib.hid (HRs.out w3 HB3.out)
      clear hb3
      go_wp2_with fail
      refine HU3.out.mono ?_
      rintro e w4 ⟨rfl, hb4⟩
      have HB4 := Lib.hid (bt HB3.out hb4)
      clear hb4
      go_wp2
      go_ret
      exact ⟨rfl, HB4.out⟩
    · have es : sumsB l = true := by rw [HSv.out, gl, decide_eq_true (show sumC l ≤ 1099511627776 by omega)]; rfl
      rw [es, if_pos rfl] at HSu
      have d1 : decide (1099511627776 < sumC l) = false := by rw [decide_eq_false_iff_not]; exact gm
      cases gi : isB t with
      | false =>
        have HSb1 := Lib.hid (fun W hb => HSb.out W hb (by rw [gi]; rfl))
        simp only [isB, Bool.and_eq_false_iff, decide_eq_false_iff_not] at gi
        generalize sumC l = S at *
        have f1 : (S == S) = true := by simp
        have f2 : (S != S) = false := by simp
        clear es hwv gl HS HSv HNn HS1 HS2 HPl HPs HSo HSb HWv n1 n2 n3 n4 hps gm
        by_cases g0 : t < 0
        · have d2 : decide (t < 0) = true := by rw [decide_eq_true_iff]; exact g0
          clear gi g0
          go_enter Tryd.func7, Tryd.ntmps7
          go_wp2_with fail
          refine (awake20_any _ HW.out).mono ?_
          rintro e w1 ⟨rfl, hb1⟩
          have HB1 := Lib.hid hb1
          have HU := Lib.hid (HSu.out w1 hb1)
          clear hb1
          go_wp2_with fail
          refine HU.out.mono ?_
          rintro e w2 ⟨rfl, hb2⟩
          have HB2 := Lib.hid (bt HB1.out hb2)
          have HV := Lib.hid (HWr.out w2 HB2.out)
          clear hb2
          go_wp2_with fail
          refine HV.out.mono ?_
          rintro e w3 ⟨rfl, hb3⟩
          have HB3 := Lib.hid (bt HB2.out hb3)
          have HU3 := Lib.hid (HRs.out w3 HB3.out)
          clear hb3
          go_wp2_with fail
          refine HU3.out.mono ?_
          rintro e w4 ⟨rfl, hb4⟩
          have HB4 := Lib.hid (bt HB3.out hb4)
          have HS4 := Lib.hid (HSb1.out w4 HB4.out)
          clear hb4
          go_wp2_with fail
          refine HS4.out.mono ?_
          rintro e w5 ⟨rfl, hb5⟩
          have HB5 := Lib.hid (bt HB4.out hb5)
          have HU5 := Lib.hid (HRs.out w5 HB5.out)
          clear hb5
          go_wp2_with fail
          refine HU5.out.mono ?_
          rintro e w6 ⟨rfl, hb6⟩
          have HB6 := Lib.hid (bt HB5.out hb6)
          clear hb6
          go_wp2
          go_ret
          exact ⟨rfl, HB6.out⟩
        · have d2 : decide (t < 0) = false := by rw [decide_eq_false_iff_not]; exact g0
          have d3 : decide (7 < t) = true := by rw [decide_eq_true_iff]; omega
          clear gi g0
          go_enter Tryd.func7, Tryd.ntmps7
          go_wp2_with fail
          refine (awake20_any _ HW.out).mono ?_
          rintro e w1 ⟨rfl, hb1⟩
          have HB1 := Lib.hid hb1
          have HU := Lib.hid (HSu.out w1 hb1)
          clear hb1
          go_wp2_with fail
          refine HU.out.mono ?_
          rintro e w2 ⟨rfl, hb2⟩
          have HB2 := Lib.hid (bt HB1.out hb2)
          have HV := Lib.hid (HWr.out w2 HB2.out)
          clear hb2
          go_wp2_with fail
          refine HV.out.mono ?_
          rintro e w3 ⟨rfl, hb3⟩
          have HB3 := Lib.hid (bt HB2.out hb3)
          have HU3 := Lib.hid (HRs.out w3 HB3.out)
          clear hb3
          go_wp2_with fail
          refine HU3.out.mono ?_
          rintro e w4 ⟨rfl, hb4⟩
          have HB4 := Lib.hid (bt HB3.out hb4)
          have HS4 := Lib.hid (HSb1.out w4 HB4.out)
          clear hb4
          go_wp2_with fail
          refine HS4.out.mono ?_
          rintro e w5 ⟨rfl, hb5⟩
          have HB5 := Lib.hid (bt HB4.out hb5)
          have HU5 := Lib.hid (HRs.out w5 HB5.out)
          clear hb5
          go_wp2_with fail
          refine HU5.out.mono ?_
          rintro e w6 ⟨rfl, hb6⟩
          have HB6 := Lib.hid (bt HB5.out hb6)
          clear hb6
          go_wp2
          go_ret
          exact ⟨rfl, HB6.out⟩
      | true =>
        have HSo1 := Lib.hid (fun W hb => HSo.out W hb gi gl)
        unfold SplitPost at HSo1
        have hpl := HPl.out
        rw [n1, decide_eq_true (show sumC (selL (cosT t) l) ≤ 1099511627776 by omega), if_pos rfl] at HS1
        rw [n2, decide_eq_true (show sumC (buyL (cosT t) l) ≤ 1099511627776 by omega), if_pos rfl] at HS2
        obtain ⟨sl, hsl⟩ : ∃ x, x = selL (cosT t) l := ⟨_, rfl⟩
        obtain ⟨bl, hbl⟩ : ∃ x, x = buyL (cosT t) l := ⟨_, rfl⟩
        rw [← hsl] at HS1 hps hpl n3
        rw [← hbl] at HS2 hps hpl n4
        rw [← hsl, ← hbl] at HSo1
        obtain ⟨ns, hns⟩ : ∃ x, x = sl.length := ⟨_, rfl⟩
        obtain ⟨nb, hnb⟩ : ∃ x, x = bl.length := ⟨_, rfl⟩
        rw [← hns, ← hnb] at hpl HSo1
        have HNs := Lib.hid hns
        have HNb := Lib.hid hnb
        clear hns hnb hsl hbl
        generalize sumC sl = S1 at *
        generalize sumC bl = S2 at *
        generalize sumC l = S at *
        have v1 : IntKind.i64.wrap (S1 + S2) = S := by rw [show S1 + S2 = S by omega]; exact IntWalk.i64_in _ (by omega)
        have v2 : IntKind.i64.wrap ((ns : Int) + (nb : Int)) = (n : Int) := by rw [show (ns : Int) + (nb : Int) = (n : Int) by omega]; exact IntWalk.i64_in _ (by omega)
        have f1 : (S == S) = true := by simp
        have f2 : (S != S) = false := by simp
        have f3 : ((n : Int) == (n : Int)) = true := by simp
        have hns6 : ns ≤ 60 := by omega
        have hnb6 : nb ≤ 60 := by omega
        clear es hwv gl HS HSv HNn HPl HPs HSo HSb HWv n1 n2 n3 n4 hps gm gi hpl
        go_enter Tryd.func7, Tryd.ntmps7
        go_wp2_with fail
        refine (awake20_any _ HW.out).mono ?_
        rintro e w1 ⟨rfl, hb1⟩
        have HB1 := Lib.hid hb1
        have HU := Lib.hid (HSu.out w1 hb1)
        clear hb1
        go_wp2_with fail
        refine HU.out.mono ?_
        rintro e w2 ⟨rfl, hb2⟩
        have HB2 := Lib.hid (bt HB1.out hb2)
        have HV := Lib.hid (HWr.out w2 HB2.out)
        clear hb2
        go_wp2_with fail
        refine HV.out.mono ?_
        rintro e w3 ⟨rfl, hb3⟩
        have HB3 := Lib.hid (bt HB2.out hb3)
        have HU3 := Lib.hid (HRs.out w3 HB3.out)
        clear hb3
        go_wp2_with fail
        refine HU3.out.mono ?_
        rintro e w4 ⟨rfl, hb4⟩
        have HB4 := Lib.hid (bt HB3.out hb4)
        have HS4 := Lib.hid (HSo1.out w4 HB4.out)
        clear hb4
        go_wp2_with fail
        refine HS4.out.mono ?_
        rintro e w5 ⟨x1, y1, x2, y2, rfl, r1, r2, hb5⟩
        have HB5 := Lib.hid (bt HB4.out hb5)
        have HR1 := Lib.hid r1.cos
        have HR2 := Lib.hid r2.cos
        have HU5 := Lib.hid (HRs.out w5 HB5.out)
        clear hb5 r1 r2
        go_wp2_with fail
        refine HU5.out.mono ?_
        rintro e w6 ⟨rfl, hb6⟩
        have HB6 := Lib.hid (bt HB5.out hb6)
        have HR2 := Lib.hid (Row.below HR2.out hb6)
        have HS6 := Lib.hid (HS1.out w6 x1 ns y1 (Row.below HR1.out hb6) HNs.out hns6)
        clear hb6
        go_wp2_with fail
        refine HS6.out.mono ?_
        rintro e w7 ⟨rfl, hb7⟩
        have HB7 := Lib.hid (bt HB6.out hb7)
        have HS7 := Lib.hid (HS2.out w7 x2 nb y2 (Row.below HR2.out hb7) HNb.out hnb6)
        clear hb7
        go_wp2_with fail
        refine HS7.out.mono ?_
        rintro e w8 ⟨rfl, hb8⟩
        have HB8 := Lib.hid (bt HB7.out hb8)
        clear hb8
        go_wp2
        go_ret
        exact ⟨rfl, HB8.out⟩

theorem walk (a0 : Int) (v1 : Value) (w : World) (w0 : (Lit.int .i64 a0).wf = true) (w1 : Is22 w v1) (hw : Terms w) :
    Calls Tryd.prog 7 #[.int .i64 a0, v1] w fun e w' => e = .returned (.bool true) ∧ Below w.heap.size w w' := by
  obtain ⟨l, h, hwf⟩ := w1
  obtain ⟨ao, cap, rfl, h1, h2, _⟩ := h.shape
  by_cases hf : 60 < l.length
  · exact skip a0 ao l.length cap w hw hf
  · exact good a0 ao l.length cap l w h rfl hf hwf hw
theorem terms_met {W : World} (h : laidMetH Tryd.prog Rows.costSumsRow.laid W) : Terms W := terms_metH List.mem_cons_self (by kernel_rfl) (by kernel_rfl) h
end costSums

namespace costChanges
set_option maxHeartbeats 1000000 in
theorem skip (a b c : Int) (ao : Option Addr) (n cap : Nat) (w : World) (hw : Terms w) (hf : 60 < n) :
    Calls Tryd.prog 8 #[.int .i64 a, .int .i64 b, .int .i64 c, .slice ao n cap] w fun e w' => e = .returned (.bool true) ∧ Below w.heap.size w w' := by
  have d0 : decide ((60 : Int) < (n : Int)) = true := by rw [decide_eq_true_iff]; omega
  have HW := Lib.hid hw
  clear hw hf
  go_enter Tryd.func8, Tryd.ntmps8
  go_wp2_with fail
  refine (awake20_any _ HW.out).mono ?_
  rintro e w1 ⟨rfl, hb1⟩
  have HB1 := Lib.hid hb1
  clear hb1
  go_wp2_with fail
  refine (awake20_any _ (HW.out.below HB1.out)).mono ?_
  rintro e w2 ⟨rfl, hb2⟩
  have HB2 := Lib.hid (bt HB1.out hb2)
  clear hb2
  go_wp2
  go_ret
  exact ⟨rfl, HB2.out⟩

theorem chg_back (a b : Int) (l : List Co) : (chgN b a l).1 = -(chgN a b l).1 := by
  unfold chgN
  have e : (isB b && (isB a && coL l)) = (isB a && (isB b && coL l)) := by cases isB a <;> cases isB b <;> cases coL l <;> rfl
  rw [e]
  by_cases g : (isB a && (isB b && coL l)) = false
  · rw [if_pos g, if_pos g]; rfl
  · rw [if_neg g, if_neg g]
    by_cases g2 : 1099511627776 < sumC l
    · rw [if_pos g2, if_pos g2]; rfl
    · rw [if_neg g2, if_neg g2]; dsimp only; omega
theorem chg_way (a b c : Int) (l : List Co) (h1 : (chgN a b l).2 = 0) (h2 : (chgN a c l).2 = 0) : (chgN a c l).1 + (chgN c b l).1 = (chgN a b l).1 := by
  unfold chgN at h1 h2 ⊢
  by_cases g : (isB a && (isB b && coL l)) = false
  · rw [if_pos g] at h1; simp at h1
  · by_cases g' : (isB a && (isB c && coL l)) = false
    · rw [if_pos g'] at h2; simp at h2
    · have g'' : ¬ (isB c && (isB b && coL l)) = false := by revert g g'; cases isB a <;> cases isB b <;> cases isB c <;> cases coL l <;> simp
      rw [if_neg g, if_neg g', if_neg g'']
      by_cases g2 : 1099511627776 < sumC l
      · rw [if_pos g2, if_pos g2, if_pos g2]; rfl
      · rw [if_neg g2, if_neg g2, if_neg g2]; dsimp only; omega
theorem chg_bd (a b : Int) (l : List Co) (h4 : l.length ≤ 60) : -4503599627370496 ≤ (chgN a b l).1 ∧ (chgN a b l).1 ≤ 4503599627370496 := by
  unfold chgN
  by_cases g : (isB a && (isB b && coL l)) = false
  · rw [if_pos g]; dsimp only; omega
  · rw [if_neg g]
    have hl : coL l = true := by revert g; cases isB a <;> cases isB b <;> cases coL l <;> simp
    by_cases g2 : 1099511627776 < sumC l
    · rw [if_pos g2]; dsimp only; omega
    · rw [if_neg g2]
      have h1 := buy_bd (cosT a) hl rfl (by omega)
      have h2 := buy_bd (cosT b) hl rfl (by omega)
      dsimp only; omega

set_option maxRecDepth 20000 in
set_option maxHeartbeats 4000000 in
theorem good (a b c : Int) (ao : Option Addr) (n cap : Nat) (l : List Co) (w : World) (h : Cos w (.slice ao n cap) l) (hn : n = l.length) (hf : ¬ 60 < n) (hwf : ∀ o ∈ l, o.wf) (hw : Terms w) :
    Calls Tryd.prog 8 #[.int .i64 a, .int .i64 b, .int .i64 c, .slice ao n cap] w fun e w' => e = .returned (.bool true) ∧ Below w.heap.size w w' := by
  have d0 : decide ((60 : Int) < (n : Int)) = false := by rw [decide_eq_false_iff_not]; omega
  have HW := Lib.hid hw
  have HC := Lib.hid (fun a b W (hb : Below w.heap.size w W) => change_any a b ao n cap l W (Row.below h hb) hn (by omega) (hw.below hb))
  have HR := Lib.hid (fun W (hb : Below w.heap.size w W) => rchange_any a b ao n cap l W (Row.below h hb) hn (by omega) hwf)
  have C1 := Lib.hid (fun W hb => HC.out a b W hb)
  have C2 := Lib.hid (fun W hb => HC.out b a W hb)
  have C3 := Lib.hid (fun W hb => HC.out a c W hb)
  have C4 := Lib.hid (fun W hb => HC.out c b W hb)
  have hbk := chg_back a b l
  have hway := chg_way a b c l
  have bd := chg_bd a b l (by omega)
  clear HC h hn hf hwf hw
  obtain ⟨N, E, hNE⟩ : ∃ N E, chgN a b l = (N, E) := ⟨_, _, rfl⟩
  obtain ⟨N2, E2, hNE2⟩ : ∃ N E, chgN b a l = (N, E) := ⟨_, _, rfl⟩
  obtain ⟨N3, E3, hNE3⟩ : ∃ N E, chgN a c l = (N, E) := ⟨_, _, rfl⟩
  obtain ⟨N4, E4, hNE4⟩ : ∃ N E, chgN c b l = (N, E) := ⟨_, _, rfl⟩
  rw [hNE] at C1 HR hbk hway bd
  rw [hNE2] at C2 hbk
  rw [hNE3] at C3 hway
  rw [hNE4] at C4 hway
  dsimp only at C1 C2 C3 C4 HR hbk hway bd
  subst hbk
  clear hNE hNE2 hNE3 hNE4
  have v1 : IntKind.i64.wrap (-N) = -N := IntWalk.i64_in _ (by omega)
  have f1 : (N == N) = true := by simp
  have f2 : (N != N) = false := by simp
  have f3 : (E == E) = true := by simp
  have f4 : (E != E) = false := by simp
  have f5 : (-N == -N) = true := by simp
  have HWy := Lib.hid hway
  have HBd := Lib.hid bd
  clear hway bd
  have key : ∀ (x1 x2 : Bool), (E != 0) = x1 → (E == 0) = !x1 → (E3 != 0) = x2 → (E3 == 0) = !x2 → (x1 = false → x2 = false → IntKind.i64.wrap (N3 + N4) = N) → Calls Tryd.prog 8 #[.int .i64 a, .int .i64 b, .int .i64 c, .slice ao n cap] w fun e w' => e = .returned (.bool true) ∧ Below w.heap.size w w' := by
    intro x1 x2 e1 e2 e3 e4 hv
    cases x1 with
    | true =>
      clear hv
      rw [Bool.not_true] at e2
      go_enter Tryd.func8, Tryd.ntmps8
      go_wp2_with fail
      refine (awake20_any _ HW.out).mono ?_
      rintro e w1 ⟨rfl, hb1⟩
      have HB1 := Lib.hid hb1
      have HU := Lib.hid (C1.out w1 hb1)
      clear hb1
      go_wp2_with fail
      refine HU.out.mono ?_
      rintro e w2 ⟨rfl, hb2⟩
      have HB2 := Lib.hid (bt HB1.out hb2)
      have HV := Lib.hid (HR.out w2 HB2.out)
      clear hb2
      go_wp2_with fail
      refine HV.out.mono ?_
      rintro e w3 ⟨rfl, hb3⟩
      have HB3 := Lib.hid (bt HB2.out hb3)
      have HU3 := Lib.hid (C2.out w3 HB3.out)
      clear hb3
      go_wp2_with fail
      refine HU3.out.mono ?_
      rintro e w4 ⟨rfl, hb4⟩
      have HB4 := Lib.hid (bt HB3.out hb4)
      have HU4 := Lib.hid (C3.out w4 HB4.out)
      clear hb4
      go_wp2_with fail
      refine HU4.out.mono ?_
      rintro e w5 ⟨rfl, hb5⟩
      have HB5 := Lib.hid (bt HB4.out hb5)
      have HU5 := Lib.hid (C4.out w5 HB5.out)
      clear hb5
      go_wp2_with fail
      refine HU5.out.mono ?_
      rintro e w6 ⟨rfl, hb6⟩
      have HB6 := Lib.hid (bt HB5.out hb6)
      clear hb6
      go_wp2
      go_ret
      exact ⟨rfl, HB6.out⟩
    | false =>
      rw [Bool.not_false] at e2
      cases x2 with
      | true =>
        clear hv
        rw [Bool.not_true] at e4
        go_enter Tryd.func8, Tryd.ntmps8
        go_wp2_with fail
        refine (awake20_any _ HW.out).mono ?_
        rintro e w1 ⟨rfl, hb1⟩
        have HB1 := Lib.hid hb1
        have HU := Lib.hid (C1.out w1 hb1)
        clear hb1
        go_wp2_with fail
        refine HU.out.mono ?_
        rintro e w2 ⟨rfl, hb2⟩
        have HB2 := Lib.hid (bt HB1.out hb2)
        have HV := Lib.hid (HR.out w2 HB2.out)
        clear hb2
        go_wp2_with fail
        refine HV.out.mono ?_
        rintro e w3 ⟨rfl, hb3⟩
        have HB3 := Lib.hid (bt HB2.out hb3)
        have HU3 := Lib.hid (C2.out w3 HB3.out)
        clear hb3
        go_wp2_with fail
        refine HU3.out.mono ?_
        rintro e w4 ⟨rfl, hb4⟩
        have HB4 := Lib.hid (bt HB3.out hb4)
        have HU4 := Lib.hid (C3.out w4 HB4.out)
        clear hb4
        go_wp2_with fail
        refine HU4.out.mono ?_
        rintro e w5 ⟨rfl, hb5⟩
        have HB5 := Lib.hid (bt HB4.out hb5)
        have HU5 := Lib.hid (C4.out w5 HB5.out)
        clear hb5
        go_wp2_with fail
        refine HU5.out.mono ?_
        rintro e w6 ⟨rfl, hb6⟩
        have HB6 := Lib.hid (bt HB5.out hb6)
        clear hb6
        go_wp2
        go_ret
        exact ⟨rfl, HB6.out⟩
      | false =>
        rw [Bool.not_false] at e4
        have v2 := hv rfl rfl
        clear hv
        go_enter Tryd.func8, Tryd.ntmps8
        go_wp2_with fail
        refine (awake20_any _ HW.out).mono ?_
        rintro e w1 ⟨rfl, hb1⟩
        have HB1 := Lib.hid hb1
        have HU := Lib.hid (C1.out w1 hb1)
        clear hb1
        go_wp2_with fail
        refine HU.out.mono ?_
        rintro e w2 ⟨rfl, hb2⟩
        have HB2 := Lib.hid (bt HB1.out hb2)
        have HV := Lib.hid (HR.out w2 HB2.out)
        clear hb2
        go_wp2_with fail
        refine HV.out.mono ?_
        rintro e w3 ⟨rfl, hb3⟩
        have HB3 := Lib.hid (bt HB2.out hb3)
        have HU3 := Lib.hid (C2.out w3 HB3.out)
        clear hb3
        go_wp2_with fail
        refine HU3.out.mono ?_
        rintro e w4 ⟨rfl, hb4⟩
        have HB4 := Lib.hid (bt HB3.out hb4)
        have HU4 := Lib.hid (C3.out w4 HB4.out)
        clear hb4
        go_wp2_with fail
        refine HU4.out.mono ?_
        rintro e w5 ⟨rfl, hb5⟩
        have HB5 := Lib.hid (bt HB4.out hb5)
        have HU5 := Lib.hid (C4.out w5 HB5.out)
        clear hb5
        go_wp2_with fail
        refine HU5.out.mono ?_
        rintro e w6 ⟨rfl, hb6⟩
        have HB6 := Lib.hid (bt HB5.out hb6)
        clear hb6
        go_wp2
        go_ret
        exact ⟨rfl, HB6.out⟩
  refine key (E != 0) (E3 != 0) rfl (by simp [bne]) rfl (by simp [bne]) (fun h1 h2 => ?_)
  have h1 : E = 0 := by simpa [bne] using h1
  have h2 : E3 = 0 := by simpa [bne] using h2
  have h3 := HWy.out h1 h2
  have h4 := HBd.out
  rw [h3]
  exact IntWalk.i64_in _ (by omega)

theorem walk (a0 a1 a2 : Int) (v3 : Value) (w : World) (w0 : (Lit.int .i64 a0).wf = true) (w1 : (Lit.int .i64 a1).wf = true) (w2 : (Lit.int .i64 a2).wf = true) (w3 : Is22 w v3) (hw : Terms w) :
    Calls Tryd.prog 8 #[.int .i64 a0, .int .i64 a1, .int .i64 a2, v3] w fun e w' => e = .returned (.bool true) ∧ Below w.heap.size w w' := by
  obtain ⟨l, h, hwf⟩ := w3
  obtain ⟨ao, cap, rfl, h1, h2, _⟩ := h.shape
  by_cases hf : 60 < l.length
  · exact skip a0 a1 a2 ao l.length cap w hw hf
  · exact good a0 a1 a2 ao l.length cap l w h rfl hf hwf hw
theorem terms_met {W : World} (h : laidMetH Tryd.prog Rows.costChangesRow.laid W) : Terms W := terms_metH List.mem_cons_self (by kernel_rfl) (by kernel_rfl) h
end costChanges
end Go.Proofs.YtfkkkebegkhdfaaDoor
