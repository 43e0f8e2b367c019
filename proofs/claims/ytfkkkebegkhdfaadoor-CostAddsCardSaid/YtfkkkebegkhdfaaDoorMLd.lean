/-
  cost.parts, Landed, Change; the document's. (Put together of XCLand, XRLand.)
-/
import Derived.Test.YtfkkkebegkhdfaaDoorMOt
namespace Go.Proofs.YtfkkkebegkhdfaaDoor
open Go Go.RowKit
set_option linter.unusedVariables false
set_option linter.unusedSimpArgs false

/-- An order's total, and the buyer's costs of it; the error. -/
def partsN (o : Od) (l : List Co) : Int × Int × Int :=
  if (totN o).2 ≠ 0 then (0, 0, (totN o).2) else if coL l = false then (0, 0, 1) else if 1099511627776 < totL o.l + sumC (buyL (cosT o.term) l) then (0, 0, 3) else (totL o.l, sumC (buyL (cosT o.term) l), 0)
def landN (o : Od) (l : List Co) : Int × Int := if (partsN o l).2.2 ≠ 0 then (0, (partsN o l).2.2) else ((partsN o l).1 + (partsN o l).2.1, 0)
theorem totN_ok {o : Od} (h : (totN o).2 = 0) : o.may = true ∧ totN o = (totL o.l, 0) ∧ 0 ≤ totL o.l ∧ totL o.l ≤ 1099511627776 := by
  unfold totN at h ⊢
  split at h
  · rename_i hm
    split at h
    · rename_i ht
      refine ⟨hm, by rw [if_pos hm, if_pos ht], ?_, ht⟩
      have ha := may_apart hm
      have := tot_bd (worth_each ha.2.1)
      exact this.1
    · simp at h
  · simp at h
theorem buy_bd {l : List Co} {n : Nat} (c : Int) (hl : coL l = true) (hn : n = l.length) (h40 : n ≤ 4096) : 0 ≤ sumC (buyL c l) ∧ sumC (buyL c l) ≤ 4503599627370496 := by
  have h1 := sumC_bd (l := buyL c l) (fun o ho => (co_nums (co_buy c hl) o ho).2.2)
  have h2 : (buyL c l).length ≤ l.length := List.length_filter_le _ _
  omega
theorem term_is {o : Od} (h : o.may = true) : isB o.term = true := by
  have ha := may_apart h
  unfold isB
  rw [decide_eq_true ha.2.2.2.2.1, decide_eq_true ha.2.2.2.2.2.1]; rfl

set_option maxRecDepth 20000 in
set_option maxHeartbeats 4000000 in
theorem parts_any (o : Od) (ao : Option Addr) (n cap : Nat) (l : List Co) (w : World) (h : OdOk w o) (hc : Cos w (.slice ao n cap) l) (hn : n = l.length) (hcap : n ≤ 4096) (hw : Terms w) :
    Calls Tryd.prog 32 #[o.val, .slice ao n cap] w fun e w' => e = .returned (.tuple #[.int .i64 (partsN o l).1, .int .i64 (partsN o l).2.1, .int .i64 (partsN o l).2.2]) ∧ Below w.heap.size w w' := by
  have hba := (Below.refl w.heap.size w).alloc (Nat.le_refl _) (.cells o.cells.toArray 33)
  have HT := Lib.hid (total_any o _ (h.below hba))
  have HB := Lib.hid hba
  obtain ⟨R, hR⟩ : ∃ R, R = partsN o l := ⟨_, rfl⟩
  have HR := Lib.hid (show R = if (totN o).2 ≠ 0 then (0, 0, (totN o).2) else if coL l = false then (0, 0, 1) else if 1099511627776 < totL o.l + sumC (buyL (cosT o.term) l) then (0, 0, 3) else (totL o.l, sumC (buyL (cosT o.term) l), 0) from hR)
  rw [← hR]
  have HTo := Lib.hid (fun h => totN_ok (o := o) h)
  have HTi := Lib.hid (fun h => term_is (o := o) h)
  have HSb := Lib.hid (fun W (hb : Below w.heap.size w W) (hl : (isB o.term && coL l) = false) => csplit_bad o.term ao n cap l W (Row.below hc hb) hn hcap (hw.below hb) hl)
  have HSo := Lib.hid (fun W (hb : Below w.heap.size w W) (ht : isB o.term = true) (hl : coL l = true) => csplit_ok o.term ao n cap l W (Row.below hc hb) hn hcap (hw.below hb) ht hl)
  have HBd := Lib.hid (fun hl => buy_bd (n := n) (cosT o.term) (l := l) hl hn hcap)
  have HSm := Lib.hid (fun W v m c (hl : coL l = true) (hm : m = (buyL (cosT o.term) l).length) (hr : Cos W (.slice v m c) (buyL (cosT o.term) l)) => csum_any v m c _ W hr hm (by have := List.length_filter_le (fun o' : Co => decide (cosT o.term ≤ o'.s)) l; unfold buyL at hm; omega) (fun o' ho => (co_nums (co_buy _ hl) o' ho).2.2))
  clear hba hR hw hc hcap hn
  obtain ⟨E, hE⟩ : ∃ E, E = totN o := ⟨_, rfl⟩
  rw [← hE] at HT HR HTo
  clear hE
  obtain ⟨E1, E2⟩ := E
  obtain ⟨on, os, ob, oc, of, ot, term, lo, ln, lcap, ls, e, hln, hc1, hc2⟩ := Od.apart h
  clear h hln hc1 hc2
  obtain ⟨m, hm⟩ : ∃ m, m = o.may := ⟨_, rfl⟩
  rw [← hm] at HTo HTi
  clear hm
  subst e
  unfold Od.val Od.cells at HT
  unfold Od.cells at HB
  unfold Od.val Od.cells
  dsimp only at HT HB HR HTo HTi HSb HSo HBd HSm ⊢
  by_cases g : E2 = 0
  · subst g
    obtain ⟨hm, he, ht0, ht1⟩ := HTo.out rfl
    cases he
    have hti := HTi.out hm
    generalize totL ls = T at *
    cases gl : coL l with
    | false =>
      have hR : R = (0, 0, 1) := by rw [HR.out, if_neg (by simp), if_pos gl]
      subst hR
      have HS1 := Lib.hid (fun W hb => HSb.out W hb (by rw [hti, gl]; rfl))
      clear HR HTo HTi HSb HSo HBd HSm hm hti gl
      go_enter Tryd.func32, Tryd.ntmps32
      go_wp2_with fail
      refine HT.out.mono ?_
      rintro e w1 ⟨rfl, hb1⟩
      have HB1 := Lib.hid (bt HB.out hb1)
      have p6 := box_at0 (j := 6) (v := .int .i64 term) hb1 rfl
      have HS2 := Lib.hid (HS1.out w1 HB1.out)
      clear hb1
      go_wp2_with fail
      refine HS2.out.mono ?_
      rintro e w2 ⟨rfl, hb2⟩
      have HB2 := Lib.hid (bt HB1.out hb2)
      clear hb2
      go_wp2
      exact bodyPost_ret (v := .tuple #[.int .i64 0, .int .i64 0, .int .i64 1]) (by simp [results, Tryd.results32, go_sem]) rfl ⟨rfl, HB2.out⟩
    | true =>
      have hbd := HBd.out gl
      have HS1 := Lib.hid (fun W hb => HSo.out W hb hti gl)
      have HM1 := Lib.hid (fun W v m c hm hr => HSm.out W v m c gl hm hr)
      have hR : R = if 1099511627776 < T + sumC (buyL (cosT term) l) then (0, 0, 3) else (T, sumC (buyL (cosT term) l), 0) := by rw [HR.out, if_neg (by simp), if_neg (by rw [gl]; simp)]
      unfold SplitPost at HS1
      generalize selL (cosT term) l = sl at *
      generalize buyL (cosT term) l = bl at *
      generalize sumC bl = S at *
      have v1 : IntKind.i64.wrap (T + S) = T + S := IntWalk.i64_in _ (by omega)
      clear HR HTo HTi HSb HSo HBd HSm hm hti gl
      by_cases g : 1099511627776 < T + S
      · have d1 : decide (1099511627776 < T + S) = true := by rw [decide_eq_true_iff]; exact g
        rw [if_pos g] at hR
        subst hR
        clear g hbd ht0 ht1
        go_enter Tryd.func32, Tryd.ntmps32
        go_wp2_with fail
        refine HT.out.mono ?_
        rintro e w1 ⟨rfl, hb1⟩
        have HB1 := Lib.hid (bt HB.out hb1)
        have p6 := box_at0 (j := 6) (v := .int .i64 term) hb1 rfl
        have HS2 := Lib.hid (HS1.out w1 HB1.out)
        clear hb1
        go_wp2_with fail
        refine HS2.out.mono ?_
        rintro e w2 ⟨a1, c1, a2, c2, rfl, r1, r2, hb2⟩
        have HB2 := Lib.hid (bt HB1.out hb2)
        have HM2 := Lib.hid (HM1.out w2 a2 _ c2 rfl r2.cos)
        clear hb2 r1 r2
        go_wp2_with fail
        refine HM2.out.mono ?_
        rintro e w3 ⟨rfl, hb3⟩
        have HB3 := Lib.hid (bt HB2.out hb3)
        clear hb3
        go_wp2
        exact bodyPost_ret (v := .tuple #[.int .i64 0, .int .i64 0, .int .i64 3]) (by simp [results, Tryd.results32, go_sem]) rfl ⟨rfl, HB3.out⟩
      · have d1 : decide (1099511627776 < T + S) = false := by rw [decide_eq_false_iff_not]; exact g
        rw [if_neg g] at hR
        subst hR
        clear g hbd ht0 ht1
        go_enter Tryd.func32, Tryd.ntmps32
        go_wp2_with fail
        refine HT.out.mono ?_
        rintro e w1 ⟨rfl, hb1⟩
        have HB1 := Lib.hid (bt HB.out hb1)
        have p6 := box_at0 (j := 6) (v := .int .i64 term) hb1 rfl
        have HS2 := Lib.hid (HS1.out w1 HB1.out)
        clear hb1
        go_wp2_with fail
        refine HS2.out.mono ?_
        rintro e w2 ⟨a1, c1, a2, c2, rfl, r1, r2, hb2⟩
        have HB2 := Lib.hid (bt HB1.out hb2)
        have HM2 := Lib.hid (HM1.out w2 a2 _ c2 rfl r2.cos)
        clear hb2 r1 r2
        go_wp2_with fail
        refine HM2.out.mono ?_
        rintro e w3 ⟨rfl, hb3⟩
        have HB3 := Lib.hid (bt HB2.out hb3)
        clear hb3
        go_wp2
        exact bodyPost_ret (v := .tuple #[.int .i64 T, .int .i64 S, .int .i64 0]) (by simp [results, Tryd.results32, go_sem]) rfl ⟨rfl, HB3.out⟩
  · have hR : R = (0, 0, E2) := by rw [HR.out, if_pos g]
    subst hR
    have e0 : (E2 != 0) = true := by simp [bne, g]
    have e1 : (E2 == 0) = false := by simp [g]
    clear g HR HTo HTi HSb HSo HBd HSm
    go_enter Tryd.func32, Tryd.ntmps32
    go_wp2_with fail
    refine HT.out.mono ?_
    rintro e w1 ⟨rfl, hb1⟩
    have HB1 := Lib.hid (bt HB.out hb1)
    clear hb1
    go_wp2
    exact bodyPost_ret (v := .tuple #[.int .i64 0, .int .i64 0, .int .i64 E2]) (by simp [results, Tryd.results32, go_sem]) rfl ⟨rfl, HB1.out⟩

theorem parts_bd (o : Od) (l : List Co) (h : (partsN o l).2.2 = 0) : o.may = true ∧ coL l = true ∧ partsN o l = (totL o.l, sumC (buyL (cosT o.term) l), 0) ∧ 0 ≤ totL o.l ∧ 0 ≤ sumC (buyL (cosT o.term) l) ∧ totL o.l + sumC (buyL (cosT o.term) l) ≤ 1099511627776 := by
  unfold partsN at h ⊢
  by_cases g1 : (totN o).2 ≠ 0
  · rw [if_pos g1] at h; exact absurd h g1
  · rw [if_neg g1] at h ⊢
    obtain ⟨h1, h2, h3, h4⟩ := totN_ok (o := o) (by omega)
    by_cases g2 : coL l = false
    · rw [if_pos g2] at h; simp at h
    · rw [if_neg g2] at h ⊢
      have hl : coL l = true := by revert g2; cases coL l <;> simp
      by_cases g3 : 1099511627776 < totL o.l + sumC (buyL (cosT o.term) l)
      · rw [if_pos g3] at h; simp at h
      · rw [if_neg g3]
        exact ⟨h1, hl, rfl, h3, sumC_nonneg (fun x hx => (co_nums (co_buy _ hl) x hx).2.2.1), by omega⟩

set_option maxHeartbeats 2000000 in
theorem landed_any (o : Od) (ao : Option Addr) (n cap : Nat) (l : List Co) (w : World) (h : OdOk w o) (hc : Cos w (.slice ao n cap) l) (hn : n = l.length) (hcap : n ≤ 4096) (hw : Terms w) :
    Calls Tryd.prog 15 #[o.val, .slice ao n cap] w fun e w' => e = .returned (.tuple #[.int .i64 (landN o l).1, .int .i64 (landN o l).2]) ∧ Below w.heap.size w w' := by
  have hba := (Below.refl w.heap.size w).alloc (Nat.le_refl _) (.cells o.cells.toArray 33)
  have HP := Lib.hid (parts_any o ao n cap l _ (h.below hba) (Row.below hc hba) hn hcap (hw.below hba))
  have HB := Lib.hid hba
  obtain ⟨R, hR⟩ : ∃ R, R = landN o l := ⟨_, rfl⟩
  have HR := Lib.hid (show R = if (partsN o l).2.2 ≠ 0 then (0, (partsN o l).2.2) else ((partsN o l).1 + (partsN o l).2.1, 0) from hR)
  rw [← hR]
  have HBd := Lib.hid (show (partsN o l).2.2 = 0 → 0 ≤ (partsN o l).1 + (partsN o l).2.1 ∧ (partsN o l).1 + (partsN o l).2.1 ≤ 1099511627776 from fun e => by
    obtain ⟨_, _, h3, h4, h5, h6⟩ := parts_bd o l e
    rw [h3]; exact ⟨by dsimp only; omega, h6⟩)
  clear hba hR hc hn hcap hw
  generalize partsN o l = P at *
  obtain ⟨T, S, E⟩ := P
  obtain ⟨on, os, ob, oc, of, ot, term, lo, ln, lcap, ls, e, hln, hc1, hc2⟩ := Od.apart h
  clear h hln hc1 hc2
  subst e
  unfold Od.val Od.cells at HP
  unfold Od.cells at HB
  unfold Od.val Od.cells
  dsimp only at HP HB HR HBd ⊢
  by_cases g : E = 0
  · subst g
    have hbd := HBd.out rfl
    have hR : R = (T + S, 0) := by rw [HR.out]; rfl
    subst hR
    have v1 : IntKind.i64.wrap (T + S) = T + S := IntWalk.i64_in _ (by omega)
    clear hbd HR HBd
    go_enter Tryd.func15, Tryd.ntmps15
    go_wp2_with fail
    refine HP.out.mono ?_
    rintro e w1 ⟨rfl, hb1⟩
    have HB1 := Lib.hid (bt HB.out hb1)
    clear hb1
    go_wp2
    go_ret2
    exact ⟨rfl, HB1.out⟩
  · have hR : R = (0, E) := by rw [HR.out, if_pos g]
    subst hR
    have e0 : (E != 0) = true := by simp [bne, g]
    have e1 : (E == 0) = false := by simp [g]
    clear g HR HBd
    go_enter Tryd.func15, Tryd.ntmps15
    go_wp2_with fail
    refine HP.out.mono ?_
    rintro e w1 ⟨rfl, hb1⟩
    have HB1 := Lib.hid (bt HB.out hb1)
    clear hb1
    go_wp2
    go_ret2
    exact ⟨rfl, HB1.out⟩


/-- The same, as the document says it. -/
theorem landN_eq (o : Od) (l : List Co) : landN o l = if (totN o).2 ≠ 0 then (0, (totN o).2) else if coL l = false then (0, 1) else if 1099511627776 < totL o.l + sumC (buyL (cosT o.term) l) then (0, 3) else (totL o.l + sumC (buyL (cosT o.term) l), 0) := by
  unfold landN partsN
  by_cases g1 : (totN o).2 ≠ 0
  · rw [if_pos g1, if_pos g1, if_pos (by exact g1)]
  · rw [if_neg g1, if_neg g1]
    by_cases g2 : coL l = false
    · rw [if_pos g2, if_pos g2]; rfl
    · rw [if_neg g2, if_neg g2]
      by_cases g3 : 1099511627776 < totL o.l + sumC (buyL (cosT o.term) l)
      · rw [if_pos g3, if_pos g3]; rfl
      · rw [if_neg g3, if_neg g3]; rfl

set_option maxRecDepth 20000 in
set_option maxHeartbeats 4000000 in
theorem rlanded_any (o : Od) (ao : Option Addr) (n cap : Nat) (l : List Co) (w : World) (h : OdOk w o) (hc : Cos w (.slice ao n cap) l) (hn : n = l.length) (hcap : n ≤ 4096) (hwf : ∀ x ∈ l, x.wf) :
    Calls Tryd.prog 16 #[o.val, .slice ao n cap] w fun e w' => e = .returned (.tuple #[.int .i64 (landN o l).1, .int .i64 (landN o l).2]) ∧ Below w.heap.size w w' := by
  have hba := (Below.refl w.heap.size w).alloc (Nat.le_refl _) (.cells o.cells.toArray 33)
  have HT := Lib.hid (rtotal_any o _ (h.below hba))
  have HB := Lib.hid hba
  have HR := Lib.hid (landN_eq o l)
  obtain ⟨R, hR⟩ : ∃ R, R = landN o l := ⟨_, rfl⟩
  rw [← hR] at HR ⊢
  have HTo := Lib.hid (fun h => totN_ok (o := o) h)
  have HTi := Lib.hid (fun h => term_is (o := o) h)
  have HWr := Lib.hid (fun W (hb : Below w.heap.size w W) => rcwrong_any o.term ao n cap l W (Row.below hc hb) hn (by unfold maxLen; omega) hwf)
  have HWv := Lib.hid (show cwrongN o.term l = if (isB o.term && coL l) = false then 1 else if 4096 < l.length then 7 else 0 from rfl)
  have HOf := Lib.hid (fun W (hb : Below w.heap.size w W) (ht : isB o.term = true) => rof_any true ao n cap o.term l W (Row.below hc hb) hn hcap ht)
  rw [ofL_true] at HOf
  have HLn := Lib.hid (show ¬ 4096 < l.length by omega)
  have HBd := Lib.hid (fun hl => buy_bd (n := n) (cosT o.term) (l := l) hl hn hcap)
  have HSm := Lib.hid (fun W v m c (hl : coL l = true) (hm : m = (buyL (cosT o.term) l).length) (hr : Cos W (.slice v m c) (buyL (cosT o.term) l)) => rcsum_any v m c _ W hr hm (by have := List.length_filter_le (fun o' : Co => decide (cosT o.term ≤ o'.s)) l; unfold buyL at hm; omega) (fun o' ho => (co_nums (co_buy _ hl) o' ho).2.2))
  clear hba hR hc hcap hn hwf
  obtain ⟨E, hE⟩ : ∃ E, E = totN o := ⟨_, rfl⟩
  rw [← hE] at HT HR HTo
  clear hE
  obtain ⟨E1, E2⟩ := E
  obtain ⟨on, os, ob, oc, of, ot, term, lo, ln, lcap, ls, e, hln, hc1, hc2⟩ := Od.apart h
  clear h hln hc1 hc2
  obtain ⟨m, hm⟩ : ∃ m, m = o.may := ⟨_, rfl⟩
  rw [← hm] at HTo HTi
  clear hm
  subst e
  unfold Od.val Od.cells at HT
  unfold Od.cells at HB
  unfold Od.val Od.cells
  dsimp only at HT HB HR HTo HTi HWr HWv HOf HBd HSm ⊢
  by_cases g : E2 = 0
  · subst g
    obtain ⟨hm, he, ht0, ht1⟩ := HTo.out rfl
    cases he
    have hti := HTi.out hm
    generalize totL ls = T at *
    cases gl : coL l with
    | false =>
      have hR : R = (0, 1) := by rw [HR.out, if_neg (by simp), if_pos gl]
      subst hR
      have hv : cwrongN term l = 1 := by rw [HWv.out, hti, gl]; rfl
      rw [hv] at HWr
      clear HR HTo HTi HOf HBd HSm hm hti gl HWv HLn hv
      go_enter Tryd.func16, Tryd.ntmps16
      go_wp2_with fail
      refine HT.out.mono ?_
      rintro e w1 ⟨rfl, hb1⟩
      have HB1 := Lib.hid (bt HB.out hb1)
      have p6 := box_at0 (j := 6) (v := .int .i64 term) hb1 rfl
      have HS2 := Lib.hid (HWr.out w1 HB1.out)
      clear hb1
      go_wp2_with fail
      refine HS2.out.mono ?_
      rintro e w2 ⟨rfl, hb2⟩
      have HB2 := Lib.hid (bt HB1.out hb2)
      clear hb2
      go_wp2
      go_ret2
      exact ⟨rfl, HB2.out⟩
    | true =>
      have hv : cwrongN term l = 0 := by rw [HWv.out, hti, gl, if_neg (by simp), if_neg HLn.out]
      rw [hv] at HWr
      have hbd := HBd.out gl
      have HO1 := Lib.hid (fun W hb => HOf.out W hb hti)
      have HM1 := Lib.hid (fun W v m c hm hr => HSm.out W v m c gl hm hr)
      have hR : R = if 1099511627776 < T + sumC (buyL (cosT term) l) then (0, 3) else (T + sumC (buyL (cosT term) l), 0) := by rw [HR.out, if_neg (by simp), if_neg (by rw [gl]; simp)]
      unfold OfPost at HO1
      generalize buyL (cosT term) l = bl at *
      generalize sumC bl = S at *
      have v1 : IntKind.i64.wrap (T + S) = T + S := IntWalk.i64_in _ (by omega)
      clear HR HTo HTi HOf HBd HSm hm hti gl HWv HLn hv
      by_cases g : 1099511627776 < T + S
      · have d1 : decide (1099511627776 < T + S) = true := by rw [decide_eq_true_iff]; exact g
        rw [if_pos g] at hR
        subst hR
        clear g hbd ht0 ht1
        go_enter Tryd.func16, Tryd.ntmps16
        go_wp2_with fail
        refine HT.out.mono ?_
        rintro e w1 ⟨rfl, hb1⟩
        have HB1 := Lib.hid (bt HB.out hb1)
        have p6 := box_at0 (j := 6) (v := .int .i64 term) hb1 rfl
        have HS2 := Lib.hid (HWr.out w1 HB1.out)
        have HP6 := Lib.hid p6
        clear hb1
        go_wp2_with fail
        refine HS2.out.mono ?_
        rintro e w2 ⟨rfl, hb2⟩
        have HB2 := Lib.hid (bt HB1.out hb2)
        have HO2 := Lib.hid (HO1.out w2 HB2.out)
        clear p6
        have p6 := cell_later hb2 HP6.out
        clear hb2
        go_wp2_with fail
        refine HO2.out.mono ?_
        rintro e w3 ⟨a2, c2, rfl, r2, hb3⟩
        have HB3 := Lib.hid (bt HB2.out hb3)
        have HM2 := Lib.hid (HM1.out w3 a2 _ c2 rfl r2.cos)
        clear hb3 r2
        go_wp2_with fail
        refine HM2.out.mono ?_
        rintro e w4 ⟨rfl, hb4⟩
        have HB4 := Lib.hid (bt HB3.out hb4)
        clear hb4
        go_wp2
        go_ret2
        exact ⟨rfl, HB4.out⟩
      · have d1 : decide (1099511627776 < T + S) = false := by rw [decide_eq_false_iff_not]; exact g
        rw [if_neg g] at hR
        subst hR
        clear g hbd ht0 ht1
        go_enter Tryd.func16, Tryd.ntmps16
        go_wp2_with fail
        refine HT.out.mono ?_
        rintro e w1 ⟨rfl, hb1⟩
        have HB1 := Lib.hid (bt HB.out hb1)
        have p6 := box_at0 (j := 6) (v := .int .i64 term) hb1 rfl
        have HS2 := Lib.hid (HWr.out w1 HB1.out)
        have HP6 := Lib.hid p6
        clear hb1
        go_wp2_with fail
        refine HS2.out.mono ?_
        rintro e w2 ⟨rfl, hb2⟩
        have HB2 := Lib.hid (bt HB1.out hb2)
        have HO2 := Lib.hid (HO1.out w2 HB2.out)
        clear p6
        have p6 := cell_later hb2 HP6.out
        clear hb2
        go_wp2_with fail
        refine HO2.out.mono ?_
        rintro e w3 ⟨a2, c2, rfl, r2, hb3⟩
        have HB3 := Lib.hid (bt HB2.out hb3)
        have HM2 := Lib.hid (HM1.out w3 a2 _ c2 rfl r2.cos)
        clear hb3 r2
        go_wp2_with fail
        refine HM2.out.mono ?_
        rintro e w4 ⟨rfl, hb4⟩
        have HB4 := Lib.hid (bt HB3.out hb4)
        clear hb4
        go_wp2
        go_ret2
        exact ⟨rfl, HB4.out⟩
  · have hR : R = (0, E2) := by rw [HR.out, if_pos g]
    subst hR
    have e0 : (E2 != 0) = true := by simp [bne, g]
    have e1 : (E2 == 0) = false := by simp [g]
    clear g HR HTo HTi HWr HOf HBd HSm
    go_enter Tryd.func16, Tryd.ntmps16
    go_wp2_with fail
    refine HT.out.mono ?_
    rintro e w1 ⟨rfl, hb1⟩
    have HB1 := Lib.hid (bt HB.out hb1)
    clear hb1
    go_wp2
    go_ret2
    exact ⟨rfl, HB1.out⟩

/-- What another term changes; the error. -/
def chgN (a b : Int) (l : List Co) : Int × Int :=
  if (isB a && (isB b && coL l)) = false then (0, 1) else if 1099511627776 < sumC l then (0, 3) else (sumC (buyL (cosT b) l) - sumC (buyL (cosT a) l), 0)

set_option maxRecDepth 20000 in
set_option maxHeartbeats 4000000 in
theorem change_any (a b : Int) (ao : Option Addr) (n cap : Nat) (l : List Co) (w : World) (h : Cos w (.slice ao n cap) l) (hn : n = l.length) (hcap : n ≤ 4096) (hw : Terms w) :
    Calls Tryd.prog 22 #[.int .i64 a, .int .i64 b, .slice ao n cap] w fun e w' => e = .returned (.tuple #[.int .i64 (chgN a b l).1, .int .i64 (chgN a b l).2]) ∧ Below w.heap.size w w' := by
  obtain ⟨R, hR⟩ : ∃ R, R = chgN a b l := ⟨_, rfl⟩
  have HR := Lib.hid (show R = if (isB a && (isB b && coL l)) = false then (0, 1) else if 1099511627776 < sumC l then (0, 3) else (sumC (buyL (cosT b) l) - sumC (buyL (cosT a) l), 0) from hR)
  rw [← hR]
  have HSb := Lib.hid (fun t W (hb : Below w.heap.size w W) (hl : (isB t && coL l) = false) => csplit_bad t ao n cap l W (Row.below h hb) hn hcap (hw.below hb) hl)
  have HSo := Lib.hid (fun t W (hb : Below w.heap.size w W) (ht : isB t = true) (hl : coL l = true) => csplit_ok t ao n cap l W (Row.below h hb) hn hcap (hw.below hb) ht hl)
  have HBd := Lib.hid (fun t hl => buy_bd (n := n) (cosT t) (l := l) hl hn hcap)
  have HSm := Lib.hid (fun t W v m c (hl : coL l = true) (hm : m = (buyL (cosT t) l).length) (hr : Cos W (.slice v m c) (buyL (cosT t) l)) => csum_any v m c _ W hr hm (by have := List.length_filter_le (fun o' : Co => decide (cosT t ≤ o'.s)) l; unfold buyL at hm; omega) (fun o' ho => (co_nums (co_buy _ hl) o' ho).2.2))
  have HSl := Lib.hid (fun W (hb : Below w.heap.size w W) (hl : coL l = true) => csum_any ao n cap l W (Row.below h hb) hn hcap (fun o ho => (co_nums hl o ho).2.2))
  clear hR hw h hcap hn
  cases ga : (isB a && coL l) with
  | false =>
    have hR : R = (0, 1) := by rw [HR.out]; revert ga; cases isB a <;> cases isB b <;> cases coL l <;> simp
    subst hR
    have HS1 := Lib.hid (HSb.out a w (Below.refl _ _) ga)
    clear HR HSb HSo HBd HSm HSl ga
    go_enter Tryd.func22, Tryd.ntmps22
    go_wp2_with fail
    refine HS1.out.mono ?_
    rintro e w1 ⟨rfl, hb1⟩
    have HB1 := Lib.hid hb1
    clear hb1
    go_wp2
    go_ret2
    exact ⟨rfl, HB1.out⟩
  | true =>
    have ha : isB a = true := by revert ga; cases isB a <;> simp
    have hl : coL l = true := by revert ga; cases coL l <;> simp
    have HS1 := Lib.hid (HSo.out a w (Below.refl _ _) ha hl)
    unfold SplitPost at HS1
    cases gb : isB b with
    | false =>
      have hR : R = (0, 1) := by rw [HR.out, ha, gb]; rfl
      subst hR
      have HS2 := Lib.hid (fun W hb => HSb.out b W hb (by rw [gb]; rfl))
      generalize selL (cosT a) l = sa at *
      generalize buyL (cosT a) l = ba at *
      clear HR HSb HSo HBd HSm HSl ga gb ha hl
      go_enter Tryd.func22, Tryd.ntmps22
      go_wp2_with fail
      refine HS1.out.mono ?_
      rintro e w1 ⟨a1, c1, a2, c2, rfl, r1, r2, hb1⟩
      have HB1 := Lib.hid hb1
      have HS3 := Lib.hid (HS2.out w1 hb1)
      clear hb1 r1 r2
      go_wp2_with fail
      refine HS3.out.mono ?_
      rintro e w2 ⟨rfl, hb2⟩
      have HB2 := Lib.hid (bt HB1.out hb2)
      clear hb2
      go_wp2
      go_ret2
      exact ⟨rfl, HB2.out⟩
    | true =>
      have hbda := HBd.out a hl
      have hbdb := HBd.out b hl
      have HS2 := Lib.hid (fun W hb => HSo.out b W hb gb hl)
      unfold SplitPost at HS2
      have HMa := Lib.hid (fun W v m c hm hr => HSm.out a W v m c hl hm hr)
      have HMb := Lib.hid (fun W v m c hm hr => HSm.out b W v m c hl hm hr)
      have HMl := Lib.hid (fun W hb => HSl.out W hb hl)
      have hR : R = if 1099511627776 < sumC l then (0, 3) else (sumC (buyL (cosT b) l) - sumC (buyL (cosT a) l), 0) := by rw [HR.out, ha, gb, hl, if_neg (by simp)]
      obtain ⟨sa, hsa⟩ : ∃ x, x = selL (cosT a) l := ⟨_, rfl⟩
      obtain ⟨ba, hba⟩ : ∃ x, x = buyL (cosT a) l := ⟨_, rfl⟩
      obtain ⟨sb, hsb⟩ : ∃ x, x = selL (cosT b) l := ⟨_, rfl⟩
      obtain ⟨bb, hbb⟩ : ∃ x, x = buyL (cosT b) l := ⟨_, rfl⟩
      rw [← hsa, ← hba] at HS1
      rw [← hsb, ← hbb] at HS2
      rw [← hba] at HMa hR hbda
      rw [← hbb] at HMb hR hbdb
      generalize sumC ba = Sa at *
      generalize sumC bb = Sb at *
      generalize sumC l = Sl at *
      have v1 : IntKind.i64.wrap (Sb - Sa) = Sb - Sa := IntWalk.i64_in _ (by omega)
      clear HR HSb HSo HBd HSm HSl ga gb ha hl hsa hba hsb hbb hbda hbdb
      by_cases g : 1099511627776 < Sl
      · have d1 : decide (1099511627776 < Sl) = true := by rw [decide_eq_true_iff]; exact g
        rw [if_pos g] at hR
        subst hR
        clear g
        go_enter Tryd.func22, Tryd.ntmps22
        go_wp2_with fail
        refine HS1.out.mono ?_
        rintro e w1 ⟨a1, c1, a2, c2, rfl, r1, r2, hb1⟩
        have HB1 := Lib.hid hb1
        have HS3 := Lib.hid (HS2.out w1 hb1)
        clear hb1 r1 r2
        go_wp2_with fail
        refine HS3.out.mono ?_
        rintro e w2 ⟨a3, c3, a4, c4, rfl, r3, r4, hb2⟩
        have HB2 := Lib.hid (bt HB1.out hb2)
        have HM3 := Lib.hid (HMl.out w2 HB2.out)
        clear hb2 r3 r4
        go_wp2_with fail
        refine HM3.out.mono ?_
        rintro e w3 ⟨rfl, hb3⟩
        have HB3 := Lib.hid (bt HB2.out hb3)
        clear hb3
        go_wp2
        go_ret2
        exact ⟨rfl, HB3.out⟩
      · have d1 : decide (1099511627776 < Sl) = false := by rw [decide_eq_false_iff_not]; exact g
        rw [if_neg g] at hR
        subst hR
        clear g
        go_enter Tryd.func22, Tryd.ntmps22
        go_wp2_with fail
        refine HS1.out.mono ?_
        rintro e w1 ⟨a1, c1, a2, c2, rfl, r1, r2, hb1⟩
        have HB1 := Lib.hid hb1
        have HR2 := Lib.hid r2.cos
        have HS3 := Lib.hid (HS2.out w1 hb1)
        clear hb1 r1 r2
        go_wp2_with fail
        refine HS3.out.mono ?_
        rintro e w2 ⟨a3, c3, a4, c4, rfl, r3, r4, hb2⟩
        have HB2 := Lib.hid (bt HB1.out hb2)
        have HR2 := Lib.hid (Row.below HR2.out hb2)
        have HR4 := Lib.hid r4.cos
        have HM3 := Lib.hid (HMl.out w2 HB2.out)
        clear hb2 r3 r4
        go_wp2_with fail
        refine HM3.out.mono ?_
        rintro e w3 ⟨rfl, hb3⟩
        have HB3 := Lib.hid (bt HB2.out hb3)
        have HR2 := Lib.hid (Row.below HR2.out hb3)
        have HM4 := Lib.hid (HMb.out w3 a4 _ c4 rfl (Row.below HR4.out hb3))
        clear hb3
        go_wp2_with fail
        refine HM4.out.mono ?_
        rintro e w4 ⟨rfl, hb4⟩
        have HB4 := Lib.hid (bt HB3.out hb4)
        have HM5 := Lib.hid (HMa.out w4 a2 _ c2 rfl (Row.below HR2.out hb4))
        clear hb4
        go_wp2_with fail
        refine HM5.out.mono ?_
        rintro e w5 ⟨rfl, hb5⟩
        have HB5 := Lib.hid (bt HB4.out hb5)
        clear hb5
        go_wp2
        go_ret2
        exact ⟨rfl, HB5.out⟩

set_option maxRecDepth 20000 in
set_option maxHeartbeats 4000000 in
theorem rchange_any (a b : Int) (ao : Option Addr) (n cap : Nat) (l : List Co) (w : World) (h : Cos w (.slice ao n cap) l) (hn : n = l.length) (hcap : n ≤ 4096) (hwf : ∀ x ∈ l, x.wf) :
    Calls Tryd.prog 23 #[.int .i64 a, .int .i64 b, .slice ao n cap] w fun e w' => e = .returned (.tuple #[.int .i64 (chgN a b l).1, .int .i64 (chgN a b l).2]) ∧ Below w.heap.size w w' := by
  obtain ⟨R, hR⟩ : ∃ R, R = chgN a b l := ⟨_, rfl⟩
  have HR := Lib.hid (show R = if (isB a && (isB b && coL l)) = false then (0, 1) else if 1099511627776 < sumC l then (0, 3) else (sumC (buyL (cosT b) l) - sumC (buyL (cosT a) l), 0) from hR)
  rw [← hR]
  have HWr := Lib.hid (fun t W (hb : Below w.heap.size w W) => rcwrong_any t ao n cap l W (Row.below h hb) hn (by unfold maxLen; omega) hwf)
  have HWv := Lib.hid (show ∀ t, cwrongN t l = if (isB t && coL l) = false then 1 else 0 from fun t => by unfold cwrongN; rw [if_neg (show ¬ 4096 < l.length by omega)])
  have HOf := Lib.hid (fun t W (hb : Below w.heap.size w W) (ht : isB t = true) => by have := rof_any true ao n cap t l W (Row.below h hb) hn hcap ht; rw [ofL_true] at this; exact this)
  have HBd := Lib.hid (fun t hl => buy_bd (n := n) (cosT t) (l := l) hl hn hcap)
  have HSm := Lib.hid (fun t W v m c (hl : coL l = true) (hm : m = (buyL (cosT t) l).length) (hr : Cos W (.slice v m c) (buyL (cosT t) l)) => rcsum_any v m c _ W hr hm (by have := List.length_filter_le (fun o' : Co => decide (cosT t ≤ o'.s)) l; unfold buyL at hm; omega) (fun o' ho => (co_nums (co_buy _ hl) o' ho).2.2))
  have HSl := Lib.hid (fun W (hb : Below w.heap.size w W) (hl : coL l = true) => rcsum_any ao n cap l W (Row.below h hb) hn hcap (fun o ho => (co_nums hl o ho).2.2))
  clear hR h hcap hn hwf
  have HW1 := Lib.hid (HWr.out a w (Below.refl _ _))
  rw [HWv.out] at HW1
  cases ga : (isB a && coL l) with
  | false =>
    have hR : R = (0, 1) := by rw [HR.out]; revert ga; cases isB a <;> cases isB b <;> cases coL l <;> simp
    subst hR
    rw [ga, if_pos rfl] at HW1
    clear HR HWr HWv HOf HBd HSm HSl ga
    go_enter Tryd.func23, Tryd.ntmps23
    go_wp2_with fail
    refine HW1.out.mono ?_
    rintro e w1 ⟨rfl, hb1⟩
    have HB1 := Lib.hid hb1
    clear hb1
    go_wp2
    go_ret2
    exact ⟨rfl, HB1.out⟩
  | true =>
    have ha : isB a = true := by revert ga; cases isB a <;> simp
    have hl : coL l = true := by revert ga; cases coL l <;> simp
    rw [ga, if_neg (by simp)] at HW1
    have HW2 := Lib.hid (fun W hb => HWr.out b W hb)
    rw [HWv.out, hl, Bool.and_true] at HW2
    cases gb : isB b with
    | false =>
      have hR : R = (0, 1) := by rw [HR.out, ha, gb]; rfl
      subst hR
      rw [gb, if_pos rfl] at HW2
      clear HR HWr HWv HOf HBd HSm HSl ga gb ha hl
      go_enter Tryd.func23, Tryd.ntmps23
      go_wp2_with fail
      refine HW1.out.mono ?_
      rintro e w1 ⟨rfl, hb1⟩
      have HB1 := Lib.hid hb1
      have HW3 := Lib.hid (HW2.out w1 hb1)
      clear hb1
      go_wp2_with fail
      refine HW3.out.mono ?_
      rintro e w2 ⟨rfl, hb2⟩
      have HB2 := Lib.hid (bt HB1.out hb2)
      clear hb2
      go_wp2
      go_ret2
      exact ⟨rfl, HB2.out⟩
    | true =>
      rw [gb, if_neg (by simp)] at HW2
      have hbda := HBd.out a hl
      have hbdb := HBd.out b hl
      have HOa := Lib.hid (fun W hb => HOf.out a W hb ha)
      have HOb := Lib.hid (fun W hb => HOf.out b W hb gb)
      unfold OfPost at HOa HOb
      have HMa := Lib.hid (fun W v m c hm hr => HSm.out a W v m c hl hm hr)
      have HMb := Lib.hid (fun W v m c hm hr => HSm.out b W v m c hl hm hr)
      have HMl := Lib.hid (fun W hb => HSl.out W hb hl)
      have hR : R = if 1099511627776 < sumC l then (0, 3) else (sumC (buyL (cosT b) l) - sumC (buyL (cosT a) l), 0) := by rw [HR.out, ha, gb, hl, if_neg (by simp)]
      obtain ⟨ba, hba⟩ : ∃ x, x = buyL (cosT a) l := ⟨_, rfl⟩
      obtain ⟨bb, hbb⟩ : ∃ x, x = buyL (cosT b) l := ⟨_, rfl⟩
      rw [← hba] at HMa hR hbda HOa
      rw [← hbb] at HMb hR hbdb HOb
      generalize sumC ba = Sa at *
      generalize sumC bb = Sb at *
      generalize sumC l = Sl at *
      have v1 : IntKind.i64.wrap (Sb - Sa) = Sb - Sa := IntWalk.i64_in _ (by omega)
      clear HR HWr HWv HOf HBd HSm HSl ga gb ha hl hba hbb hbda hbdb
      by_cases g : 1099511627776 < Sl
      · have d1 : decide (1099511627776 < Sl) = true := by rw [decide_eq_true_iff]; exact g
        rw [if_pos g] at hR
        subst hR
        clear g
        go_enter Tryd.func23, Tryd.ntmps23
        go_wp2_with fail
        refine HW1.out.mono ?_
        rintro e w1 ⟨rfl, hb1⟩
        have HB1 := Lib.hid hb1
        have HW3 := Lib.hid (HW2.out w1 hb1)
        clear hb1
        go_wp2_with fail
        refine HW3.out.mono ?_
        rintro e w2 ⟨rfl, hb2⟩
        have HB2 := Lib.hid (bt HB1.out hb2)
        have HM3 := Lib.hid (HMl.out w2 HB2.out)
        clear hb2
        go_wp2_with fail
        refine HM3.out.mono ?_
        rintro e w3 ⟨rfl, hb3⟩
        have HB3 := Lib.hid (bt HB2.out hb3)
        clear hb3
        go_wp2
        go_ret2
        exact ⟨rfl, HB3.out⟩
      · have d1 : decide (1099511627776 < Sl) = false := by rw [decide_eq_false_iff_not]; exact g
        rw [if_neg g] at hR
        subst hR
        clear g
        go_enter Tryd.func23, Tryd.ntmps23
        go_wp2_with fail
        refine HW1.out.mono ?_
        rintro e w1 ⟨rfl, hb1⟩
        have HB1 := Lib.hid hb1
        have HW3 := Lib.hid (HW2.out w1 hb1)
        clear hb1
        go_wp2_with fail
        refine HW3.out.mono ?_
        rintro e w2 ⟨rfl, hb2⟩
        have HB2 := Lib.hid (bt HB1.out hb2)
        have HM3 := Lib.hid (HMl.out w2 HB2.out)
        clear hb2
        go_wp2_with fail
        refine HM3.out.mono ?_
        rintro e w3 ⟨rfl, hb3⟩
        have HB3 := Lib.hid (bt HB2.out hb3)
        have HO3 := Lib.hid (HOb.out w3 HB3.out)
        clear hb3
        go_wp2_with fail
        refine HO3.out.mono ?_
        rintro e w4 ⟨a4, c4, rfl, r4, hb4⟩
        have HB4 := Lib.hid (bt HB3.out hb4)
        have HM4 := Lib.hid (HMb.out w4 a4 _ c4 rfl r4.cos)
        clear hb4 r4
        go_wp2_with fail
        refine HM4.out.mono ?_
        rintro e w5 ⟨rfl, hb5⟩
        have HB5 := Lib.hid (bt HB4.out hb5)
        have HO5 := Lib.hid (HOa.out w5 HB5.out)
        clear hb5
        go_wp2_with fail
        refine HO5.out.mono ?_
        rintro e w6 ⟨a6, c6, rfl, r6, hb6⟩
        have HB6 := Lib.hid (bt HB5.out hb6)
        have HM6 := Lib.hid (HMa.out w6 a6 _ c6 rfl r6.cos)
        clear hb6 r6
        go_wp2_with fail
        refine HM6.out.mono ?_
        rintro e w7 ⟨rfl, hb7⟩
        have HB7 := Lib.hid (bt HB6.out hb7)
        clear hb7
        go_wp2
        go_ret2
        exact ⟨rfl, HB7.out⟩
end Go.Proofs.YtfkkkebegkhdfaaDoor
