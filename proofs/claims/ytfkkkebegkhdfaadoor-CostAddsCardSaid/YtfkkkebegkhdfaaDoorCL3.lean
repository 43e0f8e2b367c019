/-
  CostEach.
-/
import Derived.Test.YtfkkkebegkhdfaaDoorCL2
import Derived.BigQuiet
namespace Go.Proofs.YtfkkkebegkhdfaaDoor
open Go Go.RowKit
set_option linter.unusedVariables false
set_option linter.unusedSimpArgs false

theorem sum_two (f g : Nat → Int) : ∀ n : Nat, ((List.range n).map fun i => f i + g i).sum = ((List.range n).map f).sum + ((List.range n).map g).sum
  | 0 => by simp
  | n + 1 => by
    rw [List.range_succ, List.map_append, List.map_append, List.map_append, List.sum_append, List.sum_append, List.sum_append, sum_two f g n]
    simp
    omega
theorem range_nat (l : List Nat) : ∀ n, n = l.length → ((List.range n).map fun i => ((l.getD i 0 : Nat) : Int)) = natI l := by
  intro n hn
  subst hn
  apply List.ext_getElem
  · simp [natI]
  · intro i h1 h2
    have h3 : i < l.length := by simpa using h1
    simp [natI, List.getD_eq_getElem?_getD, h3]
theorem range_int (l : List Int) : ∀ n, n = l.length → ((List.range n).map fun i => l.getD i 0) = l := by
  intro n hn
  subst hn
  apply List.ext_getElem
  · simp
  · intro i h1 h2
    have h3 : i < l.length := by simpa using h1
    simp [List.getD_eq_getElem?_getD, h3]
theorem natI_sum : ∀ l : List Nat, (natI l).sum = ((l.sum : Nat) : Int)
  | [] => rfl
  | x :: l => by
    have := natI_sum l
    unfold natI at this ⊢
    rw [List.map_cons, List.sum_cons, List.sum_cons, this]
    omega
theorem each_sum {l : List Li} {out : List Nat} (h : out.length = l.length) : (eachL l out).sum = ((out.sum : Nat) : Int) + totL l := by
  unfold eachL
  rw [sum_two, range_nat out _ h.symm, range_int (worthL l) _ (worth_len l).symm, natI_sum]
  rfl
theorem tk_bd {W : List Int} (h : ∀ z ∈ W, 0 ≤ z) (k : Nat) : 0 ≤ (W.take k).sum ∧ (W.take k).sum ≤ W.sum := by
  have pos : ∀ (W : List Int), (∀ z ∈ W, 0 ≤ z) → 0 ≤ W.sum := by
    intro W
    induction W with
    | nil => intro _; simp
    | cons y W ih => intro hy; have := hy y (by simp); have := ih (fun u hu => hy u (by simp [hu])); rw [List.sum_cons]; omega
  have e : W.sum = (W.take k).sum + (W.drop k).sum := by rw [← List.sum_append, List.take_append_drop]
  have h1 := pos (W.take k) (fun z hz => h z (List.mem_of_mem_take hz))
  have h2 := pos (W.drop k) (fun z hz => h z (List.mem_of_mem_drop hz))
  omega
theorem each_pos {l : List Li} {out : List Nat} (h : ∀ z ∈ worthL l, 0 ≤ z) : ∀ z ∈ eachL l out, 0 ≤ z := by
  intro z hz
  obtain ⟨i, hi, rfl⟩ := List.mem_map.1 hz
  have hil : i < (worthL l).length := by rw [worth_len]; simpa using hi
  have := h ((worthL l).getD i 0) (by rw [List.getD_eq_getElem?_getD, List.getElem?_eq_getElem hil]; exact List.getElem_mem hil)
  show 0 ≤ ((out.getD i 0 : Nat) : Int) + (worthL l).getD i 0
  omega

namespace costEach
set_option maxRecDepth 20000 in
set_option maxHeartbeats 2000000 in
theorem skip (o : Od) (ao : Option Addr) (n cap : Nat) (w : World) (h : OdOk w o) (hw : Terms w) (hf : 60 < n ∨ 70 < o.l.length) :
    Calls Tryd.prog 5 #[o.val, .slice ao n cap] w fun e w' => e = .returned (.bool true) ∧ Below w.heap.size w w' := by
  obtain ⟨on, os, ob, oc, of, ot, term, lo, m, lcap, ls, e, hm, hc1, hc2⟩ := Od.apart h
  subst e
  unfold Od.val Od.cells
  dsimp only at hf hm ⊢
  rw [← hm] at hf
  have hba := (Below.refl w.heap.size w).alloc (Nat.le_refl _) (.cells #[.string on, .string os, .string ob, .string oc, .string of, .string ot, .int .i64 term, .slice lo m lcap] 33)
  have HB := Lib.hid hba
  have HW := Lib.hid (hw.below hba)
  clear h hm hc1 hc2 hba hw
  by_cases g : 60 < n
  · have d0 : decide ((60 : Int) < (n : Int)) = true := by rw [decide_eq_true_iff]; omega
    clear hf g
    go_enter Tryd.func5, Tryd.ntmps5
    go_wp2_with fail
    refine (awake20_any _ HW.out).mono ?_
    rintro e w1 ⟨rfl, hb1⟩
    have HB1 := Lib.hid (bt HB.out hb1)
    have HW1 := Lib.hid (HW.out.below hb1)
    clear hb1
    go_wp2_with fail
    refine (awake20_any _ HW1.out).mono ?_
    rintro e w2 ⟨rfl, hb2⟩
    have HB2 := Lib.hid (bt HB1.out hb2)
    clear hb2
    go_wp2
    go_ret
    exact ⟨rfl, HB2.out⟩
  · have d0 : decide ((60 : Int) < (n : Int)) = false := by rw [decide_eq_false_iff_not]; omega
    have d1 : decide ((70 : Int) < (m : Int)) = true := by rw [decide_eq_true_iff]; omega
    clear hf g
    go_enter Tryd.func5, Tryd.ntmps5
    go_wp2_with fail
    refine (awake20_any _ HW.out).mono ?_
    rintro e w1 ⟨rfl, hb1⟩
    have p7 := box_at0 (j := 7) (v := .slice lo m lcap) hb1 rfl
    have HB1 := Lib.hid (bt HB.out hb1)
    have HW1 := Lib.hid (HW.out.below hb1)
    clear hb1
    go_wp2_with fail
    refine (awake20_any _ HW1.out).mono ?_
    rintro e w2 ⟨rfl, hb2⟩
    have HB2 := Lib.hid (bt HB1.out hb2)
    clear hb2
    go_wp2
    go_ret
    exact ⟨rfl, HB2.out⟩

set_option maxRecDepth 20000 in
set_option maxHeartbeats 8000000 in
theorem good (o : Od) (ao : Option Addr) (n cap : Nat) (l : List Co) (w : World) (h : OdOk w o) (hc : Cos w (.slice ao n cap) l) (hn : n = l.length) (hf : ¬ 60 < n) (hf2 : ¬ 70 < o.l.length) (hw : Terms w) :
    Calls Tryd.prog 5 #[o.val, .slice ao n cap] w fun e w' => e = .returned (.bool true) ∧ Below w.heap.size w w' := by
  have HLa := Lib.hid (fun W (hb : Below w.heap.size w W) => landed_any o ao n cap l W (h.below hb) (Row.below hc hb) hn (by omega) (hw.below hb))
  have HEa := Lib.hid (fun W (hb : Below w.heap.size w W) => each_any o ao n cap l W (h.below hb) (Row.below hc hb) hn (by omega) (hw.below hb))
  have HLd := Lib.hid (show landN o l = if (partsN o l).2.2 ≠ 0 then (0, (partsN o l).2.2) else ((partsN o l).1 + (partsN o l).2.1, 0) from rfl)
  have HBd := Lib.hid (fun e => parts_bd o l e)
  have HAp := Lib.hid (fun (e : o.may = true) => may_apart e)
  have HL := Lib.hid h.row
  generalize landN o l = L at *
  generalize partsN o l = P at *
  obtain ⟨L1, L2⟩ := L
  obtain ⟨T, S, E⟩ := P
  obtain ⟨on, os, ob, oc, of, ot, term, lo, m, lcap, ls, e, hm, hc1, hc2⟩ := Od.apart h
  subst e
  unfold Od.val Od.cells at HLa HEa ⊢
  dsimp only at HLa HEa HLd HBd HAp HL hf2 hm ⊢
  have d0 : decide ((60 : Int) < (n : Int)) = false := by rw [decide_eq_false_iff_not]; omega
  have d1 : decide ((70 : Int) < (m : Int)) = false := by rw [decide_eq_false_iff_not]; omega
  have HM := Lib.hid hm
  have hba := (Below.refl w.heap.size w).alloc (Nat.le_refl _) (.cells #[.string on, .string os, .string ob, .string oc, .string of, .string ot, .int .i64 term, .slice lo m lcap] 33)
  have HB := Lib.hid hba
  have HX := Lib.hid (heap_alloc_new w (.cells #[.string on, .string os, .string ob, .string oc, .string of, .string ot, .int .i64 term, .slice lo m lcap] 33))
  have HW := Lib.hid (hw.below hba)
  have hc2 : lcap ≤ 9223372036854775807 := by unfold maxLen at hc2; omega
  clear h hc hn hf hf2 hw hba hm hc1
  by_cases g : E = 0
  · subst g
    obtain ⟨hmay, -, hpe, ht0, hs0, hts⟩ := HBd.out rfl
    obtain ⟨-, hli, -, -, -, -, h1, h64⟩ := HAp.out hmay
    have hT : T = totL ls := congrArg (fun x => x.1) hpe
    have hS : S = _ := congrArg (fun x => x.2.1) hpe
    dsimp only at hS
    rw [← hS] at hs0 hts
    have hL : ((L1, L2) : Int × Int) = (T + S, 0) := by rw [HLd.out]; rfl
    obtain ⟨rfl, rfl⟩ := Prod.mk.inj hL
    obtain ⟨Sn, hSn⟩ := Int.eq_ofNat_of_zero_le hs0
    clear hpe hmay hS HBd HAp HLd hL
    subst hSn
    have ht1 : totL ls ≤ 1099511627776 := by omega
    have HLw2 := Lib.hid (worth_len ls)
    have HEl := Lib.hid (fun out => each_len ls out)
    have HWb := Lib.hid (show ∀ z ∈ worthL ls, 0 ≤ z ∧ z ≤ 1099511627776 from fun z hz => by
      have h1 := worth_each hli z hz
      have h2 := ints_le (fun u hu => (worth_each hli u hu).1) z hz
      have h3 : (worthL ls).sum = totL ls := rfl
      omega)
    have HSu := Lib.hid (show ∀ out, IsSplit Sn (wgtN ls) out → (eachL ls out).sum = T + (Sn : Int) from fun out hs => by
      rw [each_sum (by rw [hs.len, wgtN_len]), split_sum hs (fun _ => wgt_sum hli h1 ht1), hT]; omega)
    have HTS := Lib.hid (show 0 ≤ T + (Sn : Int) ∧ T + (Sn : Int) ≤ 1099511627776 from ⟨by omega, by rw [hT]; exact hts⟩)
    have hm64 : m ≤ 64 := by have := HM.out; omega
    have HPos := Lib.hid (show 0 < m by have := HM.out; omega)
    have f1 : (T + (Sn : Int) == T + (Sn : Int)) = true := by simp
    have f2 : ((m : Int) == (m : Int)) = true := by simp
    have HE1 := Lib.hid (fun W hb => eachP_ok (HEa.out W hb) rfl HM.out)
    unfold EachOk at HE1
    rw [show ((Sn : Int)).toNat = Sn from Int.toNat_natCast Sn] at HE1
    generalize T + (Sn : Int) = TS at *
    clear HEa ht0 hs0 hts hli h1 h64 hT ht1
    go_enter Tryd.func5, Tryd.ntmps5
    go_wp2_with fail
    refine (awake20_any _ HW.out).mono ?_
    rintro e w1 ⟨rfl, hb1⟩
    have HB1 := Lib.hid (bt HB.out hb1)
    have HX1 := Lib.hid ((hb1.block _ (lt_of_block HX.out)).trans HX.out)
    obtain ⟨p0, p1, p2, p3, p4, p5, p6, p7⟩ := od8 HX1.out
    have HC1 := Lib.hid (HLa.out w1 HB1.out)
    clear hb1
    go_wp2_with fail
    refine HC1.out.mono ?_
    rintro e w2 ⟨rfl, hb2⟩
    have HB2 := Lib.hid (bt HB1.out hb2)
    have HX2 := Lib.hid ((hb2.block _ (lt_of_block HX1.out)).trans HX1.out)
    clear p0 p1 p2 p3 p4 p5 p6 p7 hb2
    obtain ⟨p0, p1, p2, p3, p4, p5, p6, p7⟩ := od8 HX2.out
    have HC2 := Lib.hid (HE1.out w2 HB2.out)
    go_wp2_with fail
    refine HC2.out.mono ?_
    rintro e w3 ⟨b, out, rfl, hs, hk, hl, hb3⟩
    have HB3 := Lib.hid (bt HB2.out hb3)
    have HX3 := Lib.hid ((hb3.block _ (lt_of_block HX2.out)).trans HX2.out)
    have HL3 := Lib.hid (HL.out.below HB3.out)
    have HK3 := Lib.hid hk
    have HS3 := Lib.hid (HSu.out out hs)
    have HE3 := Lib.hid (fun k => tk_bd (each_pos (l := ls) (out := out) (fun z hz => (HWb.out z hz).1)) k)
    clear p0 p1 p2 p3 p4 p5 p6 p7 hb3 hs hk hl
    go_wp2_with fail
    go_loopw [9, 58] (fun s i wr => ∃ k : Nat, k ≤ m ∧ s = .int .i64 (((eachL ls out).take k).sum) ∧ i = .int .i64 (k : Int) ∧ Hid (Below w3.heap.size w3 wr)) (fun _ i _ => m - (intOf i).toNat)
    case atStart => exact ⟨0, Nat.zero_le _, rfl, rfl, Lib.hid (Below.refl _ _)⟩
    case round =>
      obtain ⟨k, hk, rfl, rfl, hb⟩ := hrel
      have HXr := Lib.hid ((hb.out.block _ (lt_of_block HX3.out)).trans HX3.out)
      obtain ⟨p0, p1, p2, p3, p4, p5, p6, p7⟩ := od8 HXr.out
      clear p0 p1 p2 p3 p4 p5 p6
      have t0 := HE3.out k
      rw [HS3.out] at t0
      by_cases hlt : k < m
      · have l1 : (k : Int) < (m : Int) := by omega
        have l0 : (0 : Int) ≤ (k : Int) := by omega
        have dg : decide ((m : Int) ≤ (k : Int)) = false := by rw [decide_eq_false_iff_not]; omega
        have hkl : k < ls.length := by rw [← HM.out]; exact hlt
        have t1 := HE3.out (k + 1)
        rw [HS3.out] at t1
        have HT1 := Lib.hid (i_take (l := eachL ls out) (k := k) (by rw [HEl.out]; exact hkl))
        have e1 : ((eachL ls out).take (k + 1)).sum = ((eachL ls out).take k).sum + (eachL ls out).getD k 0 := by rw [HT1.out, List.sum_append]; simp
        have HS1 := Lib.hid e1
        rw [e1] at t1
        have a1 := (HK3.out.below hb.out).cell (k := k) (x := (eachL ls out).getD k 0) (by rw [List.getD_eq_getElem?_getD, List.getElem?_eq_getElem (by rw [HEl.out]; exact hkl)]; rfl)
        have hx := each_get (out := out) hkl
        have hwg := worth_get ls k
        have hzb := HWb.out ((worthL ls).getD k 0) (by rw [List.getD_eq_getElem?_getD, List.getElem?_eq_getElem (by rw [HLw2.out]; exact hkl)]; exact List.getElem_mem _)
        rw [hwg] at hzb hx
        generalize (eachL ls out).getD k 0 = X at *
        generalize ((eachL ls out).take k).sum = Sk at *
        have hLi : Lins wr (.slice lo m lcap) ls := HL3.out.below hb.out
        obtain ⟨bl, off, rfl, hbl, hcc⟩ := hLi.get HM.out (by omega)
        obtain ⟨c0, c1, c2⟩ := hcc k hlt
        generalize ls.getD k default = p at *
        obtain ⟨pt, ps, pz⟩ := p
        dsimp only at c0 c1 c2 hzb hx
        obtain ⟨Z, hZ⟩ : ∃ Z, Z = ps * pz := ⟨_, rfl⟩
        have v1 : IntKind.i64.wrap (ps * pz) = Z := by rw [← hZ]; exact IntWalk.i64_in _ (by rw [hZ]; omega)
        rw [← hZ] at hzb hx
        have v2 : IntKind.i64.wrap (Sk + X) = Sk + X := IntWalk.i64_in _ (by have := HTS.out; omega)
        have dx : decide (X < Z) = false := by rw [decide_eq_false_iff_not]; omega
        clear hcc hwg hzb hZ t0 t1 c0 hx hbl hLi e1
        go_wp2_with fail
        go_quiet (fail)
        go_wp2
        go_roundw
        case rel => exact ⟨k + 1, by omega, by rw [HS1.out], by go_num, Lib.hid (below_drewN hb.out _)⟩
        case measure => simp [intOf]; omega
      · obtain rfl : k = m := by omega
        have e1 : ((eachL ls out).take k).sum = TS := by rw [← HS3.out, List.take_of_length_le (by rw [HEl.out, HM.out]; exact Nat.le_refl _)]
        rw [e1]
        have HBr := Lib.hid (bt HB3.out hb.out)
        clear t0 hb HE3
        go_wp2
        go_ret
        exact ⟨rfl, HBr.out⟩
  · have hL : ((L1, L2) : Int × Int) = (0, E) := by rw [HLd.out]; exact if_pos g
    obtain ⟨rfl, rfl⟩ := Prod.mk.inj hL
    have HE1 := Lib.hid (fun W hb => eachP_no (HEa.out W hb) g)
    dsimp only at HE1
    have e0 : (L2 != 0) = true := by simp [bne, g]
    have e1 : (L2 == L2) = true := by simp
    clear g HEa HBd HAp HLd hL
    go_enter Tryd.func5, Tryd.ntmps5
    go_wp2_with fail
    refine (awake20_any _ HW.out).mono ?_
    rintro e w1 ⟨rfl, hb1⟩
    have HB1 := Lib.hid (bt HB.out hb1)
    have HX1 := Lib.hid ((hb1.block _ (lt_of_block HX.out)).trans HX.out)
    obtain ⟨p0, p1, p2, p3, p4, p5, p6, p7⟩ := od8 HX1.out
    have HC1 := Lib.hid (HLa.out w1 HB1.out)
    clear hb1
    go_wp2_with fail
    refine HC1.out.mono ?_
    rintro e w2 ⟨rfl, hb2⟩
    have HB2 := Lib.hid (bt HB1.out hb2)
    have HX2 := Lib.hid ((hb2.block _ (lt_of_block HX1.out)).trans HX1.out)
    clear p0 p1 p2 p3 p4 p5 p6 p7 hb2
    obtain ⟨p0, p1, p2, p3, p4, p5, p6, p7⟩ := od8 HX2.out
    have HC2 := Lib.hid (HE1.out w2 HB2.out)
    go_wp2_with fail
    refine HC2.out.mono ?_
    rintro e w3 ⟨rfl, hb3⟩
    have HB3 := Lib.hid (bt HB2.out hb3)
    clear p0 p1 p2 p3 p4 p5 p6 p7 hb3
    go_wp2
    go_ret
    exact ⟨rfl, HB3.out⟩

theorem walk (v0 v1 : Value) (w : World) (w0 : Is33 w v0) (w1 : Is22 w v1) (hw : Terms w) :
    Calls Tryd.prog 5 #[v0, v1] w fun e w' => e = .returned (.bool true) ∧ Below w.heap.size w w' := by
  obtain ⟨o, rfl, ho⟩ := w0
  obtain ⟨l, h, hwf⟩ := w1
  obtain ⟨ao, cap, rfl, h1, h2, _⟩ := h.shape
  by_cases hf : 60 < l.length ∨ 70 < o.l.length
  · exact skip o ao l.length cap w ho hw hf
  · exact good o ao l.length cap l w ho h rfl (fun e => hf (.inl e)) (fun e => hf (.inr e)) hw
theorem terms_met {W : World} (h : laidMetH Tryd.prog Rows.costEachRow.laid W) : Terms W := terms_metH List.mem_cons_self (by kernel_rfl) (by kernel_rfl) h
end costEach
end Go.Proofs.YtfkkkebegkhdfaaDoor
