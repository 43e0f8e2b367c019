/-
  CostAdds.
-/
import Derived.Test.YtfkkkebegkhdfaaDoorCL3
import Derived.DataElems
namespace Go.Proofs.YtfkkkebegkhdfaaDoor
open Go Go.RowKit
set_option linter.unusedVariables false
set_option linter.unusedSimpArgs false

theorem land_parts {o : Od} {l : List Co} (h : (landN o l).2 = 0) : (partsN o l).2.2 = 0 := by
  unfold landN at h
  by_cases g : (partsN o l).2.2 = 0
  · exact g
  · rw [if_pos g] at h; exact absurd h g
theorem land_err {o : Od} {l : List Co} (h : (landN o l).2 ≠ 0) : (landN o l).1 = 0 := by
  unfold landN at h ⊢
  by_cases g : (partsN o l).2.2 = 0
  · rw [if_neg (by simp [g])] at h; exact absurd rfl h
  · rw [if_pos g]
theorem land_less {o : Od} {l l' : List Co} (h : (landN o l).2 = 0) (hl : coL l' = true) (hs : sumC (buyL (cosT o.term) l') ≤ sumC (buyL (cosT o.term) l)) : landN o l' = (totL o.l + sumC (buyL (cosT o.term) l'), 0) ∧ partsN o l' = (totL o.l, sumC (buyL (cosT o.term) l'), 0) := by
  have hb := parts_bd o l (land_parts h)
  have ht : (totN o).2 = 0 := by
    rw [landN_eq] at h
    by_cases g : (totN o).2 = 0
    · exact g
    · rw [if_pos g] at h; exact absurd h g
  have e : landN o l' = (totL o.l + sumC (buyL (cosT o.term) l'), 0) := by
    rw [landN_eq, if_neg (by simp [ht]), if_neg (by simp [hl]), if_neg (by omega)]
  exact ⟨e, (parts_bd o l' (land_parts (by rw [e]))).2.2.1⟩
theorem adds_law {o : Od} {l : List Co} (k : Nat) (h : (landN o l).2 = 0) : ∃ S1 S2 : Nat,
    landN o [] = (totL o.l, 0) ∧ landN o l = (totL o.l + (S1 + S2 : Nat), 0) ∧ landN o (l.take k) = (totL o.l + S1, 0) ∧ landN o (l.drop k) = (totL o.l + S2, 0) ∧
    partsN o l = (totL o.l, ((S1 + S2 : Nat) : Int), 0) ∧ partsN o (l.take k) = (totL o.l, (S1 : Int), 0) ∧ partsN o (l.drop k) = (totL o.l, (S2 : Int), 0) ∧ o.may = true ∧ 0 ≤ totL o.l ∧ totL o.l + (S1 + S2 : Nat) ≤ 1099511627776 := by
  obtain ⟨hm, hl, hp, h0, h1, h2⟩ := parts_bd o l (land_parts h)
  have c1 := co_take k hl
  have c2 := co_drop k hl
  have n1 := sumC_nonneg (l := buyL (cosT o.term) (l.take k)) (fun x hx => (co_nums (co_buy _ c1) x hx).2.2.1)
  have n2 := sumC_nonneg (l := buyL (cosT o.term) (l.drop k)) (fun x hx => (co_nums (co_buy _ c2) x hx).2.2.1)
  have hc := buy_cut (cosT o.term) l k
  obtain ⟨a1, b1⟩ := land_less (l' := l.take k) h c1 (by omega)
  obtain ⟨a2, b2⟩ := land_less (l' := l.drop k) h c2 (by omega)
  obtain ⟨a3, b3⟩ := land_less (l' := l) h hl (by omega)
  obtain ⟨a4, b4⟩ := land_less (l' := []) h rfl (by show (0 : Int) ≤ _; exact h1)
  obtain ⟨S1, e1⟩ := Int.eq_ofNat_of_zero_le n1
  obtain ⟨S2, e2⟩ := Int.eq_ofNat_of_zero_le n2
  rw [e1] at a1 b1 hc
  rw [e2] at a2 b2 hc
  have e3 : sumC (buyL (cosT o.term) l) = ((S1 + S2 : Nat) : Int) := by omega
  rw [e3] at a3 b3 h2
  refine ⟨S1, S2, ?_, a3, a1, a2, b3, b1, b2, hm, h0, h2⟩
  rw [a4]
  show ((totL o.l + 0, 0) : Int × Int) = _
  rw [Int.add_zero]

theorem row_to {w : World} {ao : Option Addr} {n cap sz k : Nat} {cs : List Value} (h : Row w (.slice ao n cap) sz n cs) (hk : k ≤ n) : Row w (.slice ao k cap) sz k (cs.take (k * sz)) := by
  obtain ⟨h1, ao', cap', e, h3, h4, h5, h6⟩ := h
  cases e
  have hm : k * sz ≤ n * sz := Nat.mul_le_mul_right _ hk
  refine ⟨by rw [List.length_take]; omega, ao, cap, rfl, by omega, h4, h5, fun a ha j u hu => h6 a ha j u ?_⟩
  rw [List.getElem?_take] at hu
  split at hu
  · exact hu
  · cases hu
theorem row_from {w : World} {ao : Option Addr} {n cap sz k : Nat} {cs : List Value} (h : Row w (.slice ao n cap) sz n cs) (hk : k ≤ n) : Row w (.slice (if cap = k then ao else ao.map (·.add (k * sz))) (n - k) (cap - k)) sz (n - k) (cs.drop (k * sz)) := by
  obtain ⟨h1, ao', cap', e, h3, h4, h5, h6⟩ := h
  cases e
  refine ⟨by rw [List.length_drop, h1, Nat.sub_mul], _, cap - k, rfl, by omega, by omega, ?_, fun a ha j u hu => ?_⟩
  · intro e
    split at e
    · have := h5 e; omega
    · cases ao with
      | none => have := h5 rfl; omega
      | some a => cases e
  · split at ha
    · rename_i hck
      have : n = k := by omega
      subst this
      rw [List.drop_of_length_le (by omega)] at hu
      cases hu
    · cases ao with
      | none => cases ha
      | some a0 =>
        have ha : a0.add (k * sz) = a := Option.some.inj ha
        subst ha
        rw [List.getElem?_drop] at hu
        have := h6 a0 rfl _ _ hu
        rw [Addr.add_add]
        exact this
theorem cos_to {w : World} {ao : Option Addr} {n cap k : Nat} {l : List Co} (h : Cos w (.slice ao n cap) l) (hn : n = l.length) (hk : k ≤ n) : Cos w (.slice ao k cap) (l.take k) := by
  subst hn
  have h1 := row_to (show Row w (.slice ao l.length cap) 3 l.length (l.flatMap Co.cells) from h) hk
  have hf := flat_len (f := Co.cells) (sz := 3) (fun _ => rfl)
  have e1 : (l.take k).length = k := by rw [List.length_take]; omega
  have e2 : (l.flatMap Co.cells).take (k * 3) = (l.take k).flatMap Co.cells := by
    have e3 : l.flatMap Co.cells = (l.take k).flatMap Co.cells ++ (l.drop k).flatMap Co.cells := by rw [← List.flatMap_append, List.take_append_drop]
    rw [e3, List.take_left' (by rw [hf, e1])]
  unfold Cos
  rw [e1, ← e2]; exact h1
theorem cos_from {w : World} {ao : Option Addr} {n cap k : Nat} {l : List Co} (h : Cos w (.slice ao n cap) l) (hn : n = l.length) (hk : k ≤ n) : Cos w (.slice (if cap = k then ao else ao.map (·.add (k * 3))) (n - k) (cap - k)) (l.drop k) := by
  subst hn
  have h1 := row_from (show Row w (.slice ao l.length cap) 3 l.length (l.flatMap Co.cells) from h) hk
  have hf := flat_len (f := Co.cells) (sz := 3) (fun _ => rfl)
  have e1 : (l.take k).length = k := by rw [List.length_take]; omega
  have e4 : (l.drop k).length = l.length - k := by rw [List.length_drop]
  have e2 : (l.flatMap Co.cells).drop (k * 3) = (l.drop k).flatMap Co.cells := by
    have e3 : l.flatMap Co.cells = (l.take k).flatMap Co.cells ++ (l.drop k).flatMap Co.cells := by rw [← List.flatMap_append, List.take_append_drop]
    rw [e3, List.drop_left' (by rw [hf, e1])]
  unfold Cos
  rw [e4, ← e2]; exact h1

namespace costAdds
set_option maxRecDepth 20000 in
set_option maxHeartbeats 2000000 in
theorem skip (o : Od) (t : Int) (ao : Option Addr) (n cap : Nat) (w : World) (h : OdOk w o) (hw : Terms w) (hf : 60 < n ∨ 70 < o.l.length) :
    Calls Tryd.prog 6 #[o.val, .slice ao n cap, .int .u8 t] w fun e w' => e = .returned (.bool true) ∧ Below w.heap.size w w' := by
  obtain ⟨on, os, ob, oc, of, ot, term, lo, m, lcap, ls, e, hm, hc1, hc2⟩ := Od.apart h
  subst e
  unfold Od.val Od.cells
  dsimp only at hf hm ⊢
  rw [← hm] at hf
  have hba := (Below.refl w.heap.size w).alloc (Nat.le_refl _) (.cells #[.string on, .string os, .string ob, .string oc, .string of, .string ot, .int .i64 term, .slice lo m lcap] 33)
  have HB := Lib.hid hba
  have HW := Lib.hid (hw.below hba)
  clear h hm hc1 hc2 hba hw
  by_cases g : 60 < n
  · have d0 : decide ((60 : Int) < (n : Int)) = true := by rw [decide_eq_true_iff]; omega
    clear hf g
    go_enter Tryd.func6, Tryd.ntmps6
    go_wp2_with fail
    refine (awake20_any _ HW.out).mono ?_
    rintro e w1 ⟨rfl, hb1⟩
    have HB1 := Lib.hid (bt HB.out hb1)
    have HW1 := Lib.hid (HW.out.below hb1)
    clear hb1
    go_wp2_with fail
    refine (awake20_any _ HW1.out).mono ?_
    rintro e w2 ⟨rfl, hb2⟩
    have HB2 := Lib.hid (bt HB1.out hb2)
    clear hb2
    go_wp2
    go_ret
    exact ⟨rfl, HB2.out⟩
  · have d0 : decide ((60 : Int) < (n : Int)) = false := by rw [decide_eq_false_iff_not]; omega
    have d1 : decide ((70 : Int) < (m : Int)) = true := by rw [decide_eq_true_iff]; omega
    clear hf g
    go_enter Tryd.func6, Tryd.ntmps6
    go_wp2_with fail
    refine (awake20_any _ HW.out).mono ?_
    rintro e w1 ⟨rfl, hb1⟩
    have p7 := box_at0 (j := 7) (v := .slice lo m lcap) hb1 rfl
    have HB1 := Lib.hid (bt HB.out hb1)
    have HW1 := Lib.hid (HW.out.below hb1)
    clear hb1
    go_wp2_with fail
    refine (awake20_any _ HW1.out).mono ?_
    rintro e w2 ⟨rfl, hb2⟩
    have HB2 := Lib.hid (bt HB1.out hb2)
    clear hb2
    go_wp2
    go_ret
    exact ⟨rfl, HB2.out⟩


set_option maxRecDepth 20000 in
set_option maxHeartbeats 8000000 in
theorem good (o : Od) (t : Nat) (ao : Option Addr) (n cap : Nat) (l : List Co) (w : World) (h : OdOk w o) (hc : Cos w (.slice ao n cap) l) (hn : n = l.length) (hcn : n ≤ cap) (hf : ¬ 60 < n) (hf2 : ¬ 70 < o.l.length) (ht : t < 256) (hw : Terms w) :
    Calls Tryd.prog 6 #[o.val, .slice ao n cap, .int .u8 (t : Int)] w fun e w' => e = .returned (.bool true) ∧ Below w.heap.size w w' := by
  obtain ⟨k, hk⟩ : ∃ k, k = t % (n + 1) := ⟨_, rfl⟩
  have hkn : k ≤ n := by rw [hk]; exact Nat.le_of_lt_succ (Nat.mod_lt _ (Nat.succ_pos n))
  have HL0 := Lib.hid (fun W (hb : Below w.heap.size w W) => landed_any o none 0 0 [] W (h.below hb) (Row.nil _ _) rfl (by omega) (hw.below hb))
  have HLa := Lib.hid (fun W (hb : Below w.heap.size w W) => landed_any o ao n cap l W (h.below hb) (Row.below hc hb) hn (by omega) (hw.below hb))
  have HLt := Lib.hid (fun W (hb : Below w.heap.size w W) => landed_any o ao k cap (l.take k) W (h.below hb) (cos_to (Row.below hc hb) hn hkn) (by rw [List.length_take]; omega) (by omega) (hw.below hb))
  have HLd := Lib.hid (fun W (hb : Below w.heap.size w W) => landed_any o _ (n - k) (cap - k) (l.drop k) W (h.below hb) (cos_from (Row.below hc hb) hn hkn) (by rw [List.length_drop]; omega) (by omega) (hw.below hb))
  have HEa := Lib.hid (fun W (hb : Below w.heap.size w W) => each_any o ao n cap l W (h.below hb) (Row.below hc hb) hn (by omega) (hw.below hb))
  have HEt := Lib.hid (fun W (hb : Below w.heap.size w W) => each_any o ao k cap (l.take k) W (h.below hb) (cos_to (Row.below hc hb) hn hkn) (by rw [List.length_take]; omega) (by omega) (hw.below hb))
  have HEd := Lib.hid (fun W (hb : Below w.heap.size w W) => each_any o _ (n - k) (cap - k) (l.drop k) W (h.below hb) (cos_from (Row.below hc hb) hn hkn) (by rw [List.length_drop]; omega) (by omega) (hw.below hb))
  have HLaw := Lib.hid (fun e => adds_law (o := o) (l := l) k e)
  have HEr := Lib.hid (fun e => land_err (o := o) (l := l) e)
  have HAp := Lib.hid (fun (e : o.may = true) => may_apart e)
  have HLi := Lib.hid h.row
  generalize landN o [] = N0 at *
  generalize landN o l = Na at *
  generalize landN o (l.take k) = Nt at *
  generalize landN o (l.drop k) = Nd at *
  generalize partsN o l = Pa at *
  generalize partsN o (l.take k) = Pt at *
  generalize partsN o (l.drop k) = Pd at *
  obtain ⟨on, os, ob, oc, of, ot, term, lo, m, lcap, ls, e, hm, hc1, hc2⟩ := Od.apart h
  subst e
  obtain ⟨A0, B0⟩ := N0
  obtain ⟨Aa, Ba⟩ := Na
  obtain ⟨At, Bt⟩ := Nt
  obtain ⟨Ad, Bd⟩ := Nd
  unfold Od.val Od.cells at HL0 HLa HLt HLd HEa HEt HEd ⊢
  dsimp only at HL0 HLa HLt HLd HEa HEt HEd HLaw HEr HAp HLi hf2 hm ⊢
  have d0 : decide ((60 : Int) < (n : Int)) = false := by rw [decide_eq_false_iff_not]; omega
  have d1 : decide ((70 : Int) < (m : Int)) = false := by rw [decide_eq_false_iff_not]; omega
  have hba := (Below.refl w.heap.size w).alloc (Nat.le_refl _) (.cells #[.string on, .string os, .string ob, .string oc, .string of, .string ot, .int .i64 term, .slice lo m lcap] 33)
  have HB := Lib.hid hba
  have HX := Lib.hid (heap_alloc_new w (.cells #[.string on, .string os, .string ob, .string oc, .string of, .string ot, .int .i64 term, .slice lo m lcap] 33))
  have HW := Lib.hid (hw.below hba)
  have HM := Lib.hid hm
  have hc2 : lcap ≤ 9223372036854775807 := by unfold maxLen at hc2; omega
  have a1 : IntKind.i64.wrap (t : Int) = (t : Int) := IntWalk.i64_in _ (by omega)
  have a0 : IntKind.i64.wrap ((n : Int) + 1) = ((n + 1 : Nat) : Int) := by rw [show ((n : Int) + 1) = ((n + 1 : Nat) : Int) by omega]; exact IntWalk.i64_in _ (by omega)
  have a2 : Int.tmod (t : Int) ((n + 1 : Nat) : Int) = (k : Int) := by rw [hk]; exact (Int.ofNat_tmod t (n + 1)).symm
  have a3 : (((n + 1 : Nat) : Int) == 0) = false := by rw [beq_eq_false_iff_ne]; omega
  have k0 : (0 : Int) ≤ (k : Int) := by omega
  have k1 : (k : Int) ≤ (n : Int) := by omega
  have k2 : (k : Int) ≤ (cap : Int) := by omega
  have m64 : m ≤ 70 := by omega
  obtain ⟨n1, hn1⟩ : ∃ n1, n1 = n + 1 := ⟨_, rfl⟩
  rw [← hn1] at a0 a2 a3
  have hp : 0 < n1 := by omega
  have hp2 : ¬ n1 = 0 := by omega
  have hp3 : ¬ (n1 : Int) = 0 := by omega
  clear h hc hn hcn hf hf2 hw hba hm hc1 hk ht hn1
  go_enter Tryd.func6, Tryd.ntmps6
  go_wp2_with fail
  refine (awake20_any _ HW.out).mono ?_
  rintro e w1 ⟨rfl, hb1⟩
  have HB1 := Lib.hid (bt HB.out hb1)
  have HX1 := Lib.hid ((hb1.block _ (lt_of_block HX.out)).trans HX.out)
  obtain ⟨p0, p1, p2, p3, p4, p5, p6, p7⟩ := od8 HX1.out
  have HC1 := Lib.hid (HL0.out w1 HB1.out)
  clear hb1
  go_wp2_with fail
  refine HC1.out.mono ?_
  rintro e w2 ⟨rfl, hb2⟩
  have HB2 := Lib.hid (bt HB1.out hb2)
  have HX2 := Lib.hid ((hb2.block _ (lt_of_block HX1.out)).trans HX1.out)
  clear p0 p1 p2 p3 p4 p5 p6 p7 hb2
  obtain ⟨p0, p1, p2, p3, p4, p5, p6, p7⟩ := od8 HX2.out
  have HC2 := Lib.hid (HLa.out w2 HB2.out)
  go_wp2_with fail
  refine HC2.out.mono ?_
  rintro e w3 ⟨rfl, hb3⟩
  have HB3 := Lib.hid (bt HB2.out hb3)
  have HX3 := Lib.hid ((hb3.block _ (lt_of_block HX2.out)).trans HX2.out)
  clear p0 p1 p2 p3 p4 p5 p6 p7 hb3
  obtain ⟨p0, p1, p2, p3, p4, p5, p6, p7⟩ := od8 HX3.out
  have HC3 := Lib.hid (HLt.out _ HB3.out.drew)
  clear HC1 HC2
  go_wp2_with fail
  go_region_with (go_at_call 15; refine HC3.out.mono ?_; rintro e w4 ⟨rfl, hb4⟩; have HB4 := Lib.hid (bt HB3.out.drew hb4); have HX4 := Lib.hid ((hb4.block _ (lt_of_block HX3.out)).trans HX3.out); clear hb4)
  clear p0 p1 p2 p3 p4 p5 p6 p7 HC3
  obtain ⟨p0, p1, p2, p3, p4, p5, p6, p7⟩ := od8 HX4.out
  have HC4 := Lib.hid (HLd.out _ HB4.out.drew)
  go_wp2_with fail
  go_region_with (go_at_call 15; generalize (if cap = k then ao else Option.map (fun x => x.add (k * 3)) ao) = av at HC4 ⊢; refine HC4.out.mono ?_; rintro e w5 ⟨rfl, hb5⟩; have HB5 := Lib.hid (bt HB4.out.drew hb5); have HX5 := Lib.hid ((hb5.block _ (lt_of_block HX4.out)).trans HX4.out); clear hb5)
  clear p0 p1 p2 p3 p4 p5 p6 p7 HC4
  obtain ⟨p0, p1, p2, p3, p4, p5, p6, p7⟩ := od8 HX5.out
  clear HL0 HLa HLt HLd HX1 HX2 HX3 HX4 HB1 HB2 HB3 HB4
  by_cases g : Ba = 0
  · subst g
    obtain ⟨S1, S2, e1, e2, e3, e4, e5, e6, e7, hmay, h0, hts⟩ := HLaw.out rfl
    obtain ⟨-, hli, -, -, -, -, h1, h64⟩ := HAp.out hmay
    obtain ⟨T, hT⟩ : ∃ T, T = totL ls := ⟨_, rfl⟩
    rw [← hT] at e1 e2 e3 e4 e5 e6 e7 h0 hts
    have ht1 : totL ls ≤ 1099511627776 := by omega
    obtain ⟨q1, q2⟩ := Prod.mk.inj e1
    obtain ⟨q3, -⟩ := Prod.mk.inj e2
    obtain ⟨q4, q5⟩ := Prod.mk.inj e3
    obtain ⟨q6, q7⟩ := Prod.mk.inj e4
    subst q2 q5 q7
    have hwp := wgt_sum hli h1 ht1
    have HSp := Lib.hid (fun (o o1 o2 : List Nat) (h : IsSplit (S1 + S2) (wgtN ls) o) (h1 : IsSplit S1 (wgtN ls) o1) (h2 : IsSplit S2 (wgtN ls) o2) i (hi : i < ls.length) => split_adds h1 h2 h hwp (i := i) (by rw [wgtN_len]; exact hi))
    have HSle := Lib.hid (show ∀ out i, IsSplit (S1 + S2) (wgtN ls) out → out.getD i 0 ≤ 1099511627776 from fun out i hs => Nat.le_trans (split_le hs (fun _ => hwp) i) (by omega))
    have HEl := Lib.hid (fun out => each_len ls out)
    have HLw2 := Lib.hid (worth_len ls)
    have HWb := Lib.hid (show ∀ z ∈ worthL ls, 0 ≤ z ∧ z ≤ 1099511627776 from fun z hz => by
      have h1 := worth_each hli z hz
      have h2 := ints_le (fun u hu => (worth_each hli u hu).1) z hz
      have h3 : (worthL ls).sum = totL ls := rfl
      omega)
    have HE1 := Lib.hid (fun W hb => eachP_ok (HEa.out W hb) (by rw [e5]) HM.out)
    have HE2 := Lib.hid (fun W hb => eachP_ok (HEt.out W hb) (by rw [e6]) HM.out)
    have HE3 := Lib.hid (fun W hb => eachP_ok (HEd.out W hb) (by rw [e7]) HM.out)
    rw [e5] at HE1
    rw [e6] at HE2
    rw [e7] at HE3
    dsimp only at HE1 HE2 HE3
    rw [Int.toNat_natCast] at HE1 HE2 HE3
    have HPos := Lib.hid (show 0 < m by have := HM.out; omega)
    have v1 : IntKind.i64.wrap (Aa - A0) = ((S1 + S2 : Nat) : Int) := by rw [q3, q1]; rw [show T + ((S1 + S2 : Nat) : Int) - T = ((S1 + S2 : Nat) : Int) by omega]; exact IntWalk.i64_in _ (by omega)
    have v2 : IntKind.i64.wrap (At - A0) = (S1 : Int) := by rw [q4, q1]; rw [show T + (S1 : Int) - T = (S1 : Int) by omega]; exact IntWalk.i64_in _ (by omega)
    obtain ⟨F, hF⟩ : ∃ F, F = (S1 : Int) + Ad := ⟨_, rfl⟩
    have v3 : IntKind.i64.wrap ((S1 : Int) + Ad) = F := by rw [hF, q6]; exact IntWalk.i64_in _ (by omega)
    have v4 : IntKind.i64.wrap (F - A0) = ((S1 + S2 : Nat) : Int) := by rw [hF, q6, q1]; rw [show (S1 : Int) + (T + (S2 : Int)) - T = ((S1 + S2 : Nat) : Int) by omega]; exact IntWalk.i64_in _ (by omega)
    obtain ⟨G, hG⟩ : ∃ G, G = ((S1 + S2 : Nat) : Int) := ⟨_, rfl⟩
    obtain ⟨G1, hG1⟩ : ∃ G1, G1 = (S1 : Int) := ⟨_, rfl⟩
    rw [← hG] at v1 v4
    rw [← hG1] at v2 v3
    have v5 : (G != G) = false := by simp
    have v6 : ((m : Int) != (m : Int)) = false := by simp
    unfold EachOk at HE1 HE2 HE3
    clear HEa HEt HEd HLaw HEr HAp e1 e2 e3 e4 e5 e6 e7 hmay h0 hts hli h1 h64 hT ht1 q1 q3 q4 q6 hwp hF hG hG1
    go_wp2_with fail
    have HC6 := Lib.hid (HE1.out _ HB5.out)
    refine HC6.out.mono ?_
    rintro e w6 ⟨bx, ox, rfl, sx, kx, lx, hb6⟩
    have HB6 := Lib.hid (bt HB5.out hb6)
    have HX6 := Lib.hid ((hb6.block _ (lt_of_block HX5.out)).trans HX5.out)
    have KX := Lib.hid kx
    have SX := Lib.hid sx
    clear p0 p1 p2 p3 p4 p5 p6 p7 HC6 hb6 lx kx sx
    obtain ⟨p0, p1, p2, p3, p4, p5, p6, p7⟩ := od8 HX6.out
    have HC7 := Lib.hid (HE2.out _ HB6.out.drew)
    go_wp2_with fail
    go_region_with (go_at_call 17; refine HC7.out.mono ?_; rintro e w7 ⟨bY, oy, rfl, sy, ky, ly, hb7⟩; have HB7 := Lib.hid (bt HB6.out.drew hb7); have HX7 := Lib.hid ((hb7.block _ (lt_of_block HX6.out)).trans HX6.out); have KY := Lib.hid (And.intro (Blk.below (w := World.drew w6) KX.out hb7) ky); have SY := Lib.hid sy; clear ly ky sy hb7)
    clear p0 p1 p2 p3 p4 p5 p6 p7 HC7
    obtain ⟨p0, p1, p2, p3, p4, p5, p6, p7⟩ := od8 HX7.out
    have HC8 := Lib.hid (HE3.out _ HB7.out.drew)
    go_wp2_with fail
    go_region_with (go_at_call 17; generalize (if cap = k then ao else Option.map (fun x => x.add (k * 3)) ao) = av at HC8 ⊢; refine HC8.out.mono ?_; rintro e w8 ⟨bZ, oz, rfl, sz, kz, lz, hb8⟩; have HB8 := Lib.hid (bt HB7.out.drew hb8); have HX8 := Lib.hid ((hb8.block _ (lt_of_block HX7.out)).trans HX7.out); have KZ := Lib.hid (And.intro (Blk.below (w := World.drew w7) KY.out.1 hb8) (And.intro (Blk.below (w := World.drew w7) KY.out.2 hb8) kz)); have SZ := Lib.hid sz; clear lz kz sz hb8)
    clear p0 p1 p2 p3 p4 p5 p6 p7 HC8 KX KY HE1 HE2 HE3 HB5 HB6 HB7 HX5 HX6 HX7
    obtain ⟨p0, p1, p2, p3, p4, p5, p6, p7⟩ := od8 HX8.out
    have HL8 := Lib.hid (HLi.out.below HB8.out)
    clear p0 p1 p2 p3 p4 p5 p6 p7
    go_wp2_with fail
    go_loopw [144] (fun i wr => ∃ j : Nat, j ≤ m ∧ i = .int .i64 (j : Int) ∧ Hid (Below w8.heap.size w8 wr)) (fun i _ => m - (intOf i).toNat)
    case atStart => exact ⟨0, Nat.zero_le _, rfl, Lib.hid (Below.refl _ _)⟩
    case round =>
      obtain ⟨j, hj, rfl, hb⟩ := hrel
      by_cases hlt : j < m
      · have HXr := Lib.hid ((hb.out.block _ (lt_of_block HX8.out)).trans HX8.out)
        obtain ⟨p0, p1, p2, p3, p4, p5, p6, p7⟩ := od8 HXr.out
        clear p0 p1 p2 p3 p4 p5 p6
        have l1 : (j : Int) < (m : Int) := by omega
        have l0 : (0 : Int) ≤ (j : Int) := by omega
        have hjl : j < ls.length := by rw [← HM.out]; exact hlt
        have hsp := HSp.out ox oy oz SX.out SY.out SZ.out j hjl
        have hle := HSle.out ox j SX.out
        have b1 := (KZ.out.1.below hb.out).cell (k := j) (x := (eachL ls ox).getD j 0) (by rw [List.getD_eq_getElem?_getD, List.getElem?_eq_getElem (by rw [HEl.out]; exact hjl)]; rfl)
        have b2 := (KZ.out.2.1.below hb.out).cell (k := j) (x := (eachL ls oy).getD j 0) (by rw [List.getD_eq_getElem?_getD, List.getElem?_eq_getElem (by rw [HEl.out]; exact hjl)]; rfl)
        have b3 := (KZ.out.2.2.below hb.out).cell (k := j) (x := (eachL ls oz).getD j 0) (by rw [List.getD_eq_getElem?_getD, List.getElem?_eq_getElem (by rw [HEl.out]; exact hjl)]; rfl)
        have x1 := each_get (out := ox) hjl
        have x2 := each_get (out := oy) hjl
        have x3 := each_get (out := oz) hjl
        have hwg := worth_get ls j
        have hzb := HWb.out ((worthL ls).getD j 0) (by rw [List.getD_eq_getElem?_getD, List.getElem?_eq_getElem (by rw [HLw2.out]; exact hjl)]; exact List.getElem_mem _)
        rw [hwg] at hzb x1 x2 x3
        generalize (eachL ls ox).getD j 0 = X at *
        generalize (eachL ls oy).getD j 0 = Y at *
        generalize (eachL ls oz).getD j 0 = U at *
        generalize ox.getD j 0 = Ox at *
        generalize oy.getD j 0 = Oy at *
        generalize oz.getD j 0 = Oz at *
        have hLi : Lins wr (.slice lo m lcap) ls := HL8.out.below hb.out
        obtain ⟨bl, off, rfl, hbl, hcc⟩ := hLi.get HM.out (by omega)
        obtain ⟨c0, c1, c2⟩ := hcc j hlt
        generalize ls.getD j default = p at *
        obtain ⟨pt, ps, pz⟩ := p
        dsimp only at c0 c1 c2 hzb x1 x2 x3
        obtain ⟨Z, hZ⟩ : ∃ Z, Z = ps * pz := ⟨_, rfl⟩
        have r0 : IntKind.i64.wrap (ps * pz) = Z := by rw [← hZ]; exact IntWalk.i64_in _ (by rw [hZ]; omega)
        rw [← hZ] at hzb x1 x2 x3
        obtain ⟨Ix, hIx⟩ : ∃ Ix : Int, Ix = (Ox : Int) := ⟨_, rfl⟩
        obtain ⟨Iy, hIy⟩ : ∃ Iy : Int, Iy = (Oy : Int) := ⟨_, rfl⟩
        obtain ⟨Iz, hIz⟩ : ∃ Iz : Int, Iz = (Oz : Int) := ⟨_, rfl⟩
        obtain ⟨Q, hQ⟩ : ∃ Q : Int, Q = Ix - Iy := ⟨_, rfl⟩
        obtain ⟨D, hD⟩ : ∃ D : Int, D = Q - Iz := ⟨_, rfl⟩
        have r1 : IntKind.i64.wrap (X - Z) = Ix := by rw [show X - Z = Ix by omega]; exact IntWalk.i64_in _ (by omega)
        have r2 : IntKind.i64.wrap (Y - Z) = Iy := by rw [show Y - Z = Iy by omega]; exact IntWalk.i64_in _ (by omega)
        have r3 : IntKind.i64.wrap (Ix - Iy) = Q := by rw [← hQ]; exact IntWalk.i64_in _ (by omega)
        have r4 : IntKind.i64.wrap (U - Z) = Iz := by rw [show U - Z = Iz by omega]; exact IntWalk.i64_in _ (by omega)
        have r5 : IntKind.i64.wrap (Q - Iz) = D := by rw [← hD]; exact IntWalk.i64_in _ (by omega)
        have t1 : decide (D < -2) = false := by rw [decide_eq_false_iff_not]; omega
        have t2 : decide (2 < D) = false := by rw [decide_eq_false_iff_not]; omega
        clear hcc hwg hzb hZ c0 hbl hLi x1 x2 x3 hsp hle hIx hIy hIz hQ hD hjl hj
        go_wp2_with fail
        go_quiet (fail)
        go_wp2_with fail
        go_quiet (fail)
        go_wp2
        go_roundw
        case rel => exact ⟨j + 1, by omega, by go_num, Lib.hid (by first | exact below_drewN (below_drewN hb.out _) _ | exact below_drewN hb.out _)⟩
        case measure => simp [intOf]; omega
      · obtain rfl : j = m := by omega
        have HBr := Lib.hid (bt HB8.out hb.out)
        clear hb
        go_wp2
        go_ret
        exact ⟨rfl, HBr.out⟩
  · have hz := HEr.out g
    subst hz
    have e0 : (Ba != 0) = true := by simp [bne, g]
    have HB5 := HB5
    clear HLaw HEr HAp g HEa HEt HEd p0 p1 p2 p3 p4 p5 p6 p7
    by_cases g0 : B0 = 0
    · have e1 : (B0 != 0) = false := by simp [g0]
      clear g0
      go_wp2
      go_ret
      exact ⟨rfl, HB5.out⟩
    · have e1 : (B0 != 0) = true := by simp [bne, g0]
      clear g0
      go_wp2
      go_ret
      exact ⟨rfl, HB5.out⟩

theorem walk (v0 v1 : Value) (a2 : Int) (w : World) (w0 : Is33 w v0) (w1 : Is22 w v1) (w2 : (Lit.int .u8 a2).wf = true) (hw : Terms w) :
    Calls Tryd.prog 6 #[v0, v1, .int .u8 a2] w fun e w' => e = .returned (.bool true) ∧ Below w.heap.size w w' := by
  obtain ⟨o, rfl, ho⟩ := w0
  obtain ⟨l, h, hwf⟩ := w1
  obtain ⟨ao, cap, rfl, h1, h2, _⟩ := h.shape
  have hA : 0 ≤ a2 ∧ a2 < 256 := by simp [Lit.wf, IntKind.min, IntKind.max, IntKind.bits, IntKind.signed] at w2; omega
  obtain ⟨A, rfl⟩ : ∃ A : Nat, a2 = (A : Int) := ⟨a2.toNat, by omega⟩
  by_cases hf : 60 < l.length ∨ 70 < o.l.length
  · exact skip o A ao l.length cap w ho hw hf
  · exact good o A ao l.length cap l w ho h rfl h1 (fun e => hf (.inl e)) (fun e => hf (.inr e)) (by omega) hw
theorem terms_met {W : World} (h : laidMetH Tryd.prog Rows.costAddsRow.laid W) : Terms W := terms_metH List.mem_cons_self (by kernel_rfl) (by kernel_rfl) h
end costAdds
end Go.Proofs.YtfkkkebegkhdfaaDoor
