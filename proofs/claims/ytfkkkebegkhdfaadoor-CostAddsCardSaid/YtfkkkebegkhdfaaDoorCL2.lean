/-
  CostLands, CostEach.
-/
import Derived.Test.YtfkkkebegkhdfaaDoorMEa
namespace Go.Proofs.YtfkkkebegkhdfaaDoor
open Go Go.RowKit
set_option linter.unusedVariables false
set_option linter.unusedSimpArgs false

theorem od8 {W : World} {b : Nat} {on os ob oc of ot : ByteArray} {term : Int} {lv : Value} (h : W.heap[b]? = some (.cells #[.string on, .string os, .string ob, .string oc, .string of, .string ot, .int .i64 term, lv] 33)) :
    W.cell? ⟨b, 0, none⟩ = some (.string on) ∧ W.cell? ⟨b, 1, none⟩ = some (.string os) ∧ W.cell? ⟨b, 2, none⟩ = some (.string ob) ∧ W.cell? ⟨b, 3, none⟩ = some (.string oc) ∧ W.cell? ⟨b, 4, none⟩ = some (.string of) ∧ W.cell? ⟨b, 5, none⟩ = some (.string ot) ∧ W.cell? ⟨b, 6, none⟩ = some (.int .i64 term) ∧ W.cell? ⟨b, 7, none⟩ = some lv :=
  ⟨by simp [World.cell?, h], by simp [World.cell?, h], by simp [World.cell?, h], by simp [World.cell?, h], by simp [World.cell?, h], by simp [World.cell?, h], by simp [World.cell?, h], by simp [World.cell?, h]⟩
theorem same_eq (v u : Value) (xs : List Int) (w : World) (h1 : Ints w v xs) (h2 : Ints w u xs) :
    Calls Tryd.prog 19 #[v, u] w fun e w' => e = .returned (.bool true) ∧ Below w.heap.size w w' := by
  refine (same_any _ _ xs xs _ h1 h2).mono ?_
  rintro e w' ⟨rfl, m, rfl⟩
  exact ⟨by simp, below_drewN (Below.refl _ _) m⟩

/-- Each line's part, told. -/
def EachOk (m Sn : Nat) (ls : List Li) (w : World) (e : Ending) (w' : World) : Prop :=
  ∃ b out, e = .returned (.tuple #[.slice (some ⟨b, 0, none⟩) m m, .int .i64 0]) ∧ IsSplit Sn (wgtN ls) out ∧ Blk w' b (eachL ls out) ∧ w.heap.size ≤ b ∧ Below w.heap.size w w'
theorem eachP_ok {P : Int × Int × Int} {ls : List Li} {m : Nat} {w : World} {f : Nat} {args : Array Value} (h : Calls Tryd.prog f args w (EachP P ls w)) (h0 : P.2.2 = 0) (hm : m = ls.length) : Calls Tryd.prog f args w (EachOk m P.2.1.toNat ls w) := by
  refine h.mono ?_
  rintro e w' ⟨h | h, hb⟩
  · exact absurd h0 h.1
  · obtain ⟨_, b, out, he, hs, hk, hl⟩ := h
    exact ⟨b, out, by rw [hm]; exact he, hs, hk, hl, hb⟩
theorem eachP_no {P : Int × Int × Int} {ls : List Li} {w : World} {f : Nat} {args : Array Value} (h : Calls Tryd.prog f args w (EachP P ls w)) (h0 : P.2.2 ≠ 0) : Calls Tryd.prog f args w fun e w' => e = .returned (.tuple #[.slice none 0 0, .int .i64 P.2.2]) ∧ Below w.heap.size w w' := by
  refine h.mono ?_
  rintro e w' ⟨h | h, hb⟩
  · exact ⟨h.2, hb⟩
  · exact absurd h.1 h0

namespace costLands
set_option maxRecDepth 20000 in
set_option maxHeartbeats 2000000 in
theorem skip (o : Od) (ao : Option Addr) (n cap : Nat) (w : World) (h : OdOk w o) (hw : Terms w) (hf : 60 < n ∨ 70 < o.l.length) :
    Calls Tryd.prog 4 #[o.val, .slice ao n cap] w fun e w' => e = .returned (.bool true) ∧ Below w.heap.size w w' := by
  obtain ⟨on, os, ob, oc, of, ot, term, lo, m, lcap, ls, e, hm, hc1, hc2⟩ := Od.apart h
  subst e
  unfold Od.val Od.cells
  dsimp only at hf hm ⊢
  rw [← hm] at hf
  have hba := (Below.refl w.heap.size w).alloc (Nat.le_refl _) (.cells #[.string on, .string os, .string ob, .string oc, .string of, .string ot, .int .i64 term, .slice lo m lcap] 33)
  have HB := Lib.hid hba
  have HW := Lib.hid (hw.below hba)
  clear h hm hc1 hc2 hba hw
  by_cases g : 60 < n
  · have d0 : decide ((60 : Int) < (n : Int)) = true := by rw [decide_eq_true_iff]; omega
    clear hf g
    go_enter Tryd.func4, Tryd.ntmps4
    go_wp2_with fail
    refine (awake20_any _ HW.out).mono ?_
    rintro e w1 ⟨rfl, hb1⟩
    have HB1 := Lib.hid (bt HB.out hb1)
    have HW1 := Lib.hid (HW.out.below hb1)
    clear hb1
    go_wp2_with fail
    refine (awake20_any _ HW1.out).mono ?_
    rintro e w2 ⟨rfl, hb2⟩
    have HB2 := Lib.hid (bt HB1.out hb2)
    clear hb2
    go_wp2
    go_ret
    exact ⟨rfl, HB2.out⟩
  · have d0 : decide ((60 : Int) < (n : Int)) = false := by rw [decide_eq_false_iff_not]; omega
    have d1 : decide ((70 : Int) < (m : Int)) = true := by rw [decide_eq_true_iff]; omega
    clear hf g
    go_enter Tryd.func4, Tryd.ntmps4
    go_wp2_with fail
    refine (awake20_any _ HW.out).mono ?_
    rintro e w1 ⟨rfl, hb1⟩
    have p7 := box_at0 (j := 7) (v := .slice lo m lcap) hb1 rfl
    have HB1 := Lib.hid (bt HB.out hb1)
    have HW1 := Lib.hid (HW.out.below hb1)
    clear hb1
    go_wp2_with fail
    refine (awake20_any _ HW1.out).mono ?_
    rintro e w2 ⟨rfl, hb2⟩
    have HB2 := Lib.hid (bt HB1.out hb2)
    clear hb2
    go_wp2
    go_ret
    exact ⟨rfl, HB2.out⟩

set_option maxRecDepth 20000 in
set_option maxHeartbeats 8000000 in
theorem good (o : Od) (ao : Option Addr) (n cap : Nat) (l : List Co) (w : World) (h : OdOk w o) (hc : Cos w (.slice ao n cap) l) (hn : n = l.length) (hf : ¬ 60 < n) (hf2 : ¬ 70 < o.l.length) (hwf : ∀ x ∈ l, x.wf) (hw : Terms w) :
    Calls Tryd.prog 4 #[o.val, .slice ao n cap] w fun e w' => e = .returned (.bool true) ∧ Below w.heap.size w w' := by
  have HLa := Lib.hid (fun W (hb : Below w.heap.size w W) => landed_any o ao n cap l W (h.below hb) (Row.below hc hb) hn (by omega) (hw.below hb))
  have HRl := Lib.hid (fun W (hb : Below w.heap.size w W) => rlanded_any o ao n cap l W (h.below hb) (Row.below hc hb) hn (by omega) hwf)
  have HEa := Lib.hid (fun W (hb : Below w.heap.size w W) => each_any o ao n cap l W (h.below hb) (Row.below hc hb) hn (by omega) (hw.below hb))
  have HRe := Lib.hid (fun W (hb : Below w.heap.size w W) => reach_any o ao n cap l W (h.below hb) (Row.below hc hb) hn (by omega) hwf)
  have HMy := Lib.hid (fun e => (parts_bd o l e).1)
  have HAp := Lib.hid (fun (e : o.may = true) => (may_apart e).2.2.2.2.2.2.2)
  obtain ⟨on, os, ob, oc, of, ot, term, lo, m, lcap, ls, e, hm, hc1, hc2⟩ := Od.apart h
  subst e
  generalize landN (Od.mk on os ob oc of ot term (.slice lo m lcap) ls) l = L at *
  obtain ⟨L1, L2⟩ := L
  generalize partsN (Od.mk on os ob oc of ot term (.slice lo m lcap) ls) l = P at *
  unfold Od.val Od.cells at HLa HRl HEa HRe ⊢
  dsimp only at HLa HRl HEa HRe HAp hf2 hm ⊢
  have d0 : decide ((60 : Int) < (n : Int)) = false := by rw [decide_eq_false_iff_not]; omega
  have d1 : decide ((70 : Int) < (m : Int)) = false := by rw [decide_eq_false_iff_not]; omega
  have HM := Lib.hid hm
  have hba := (Below.refl w.heap.size w).alloc (Nat.le_refl _) (.cells #[.string on, .string os, .string ob, .string oc, .string of, .string ot, .int .i64 term, .slice lo m lcap] 33)
  have HB := Lib.hid hba
  have HX := Lib.hid (heap_alloc_new w (.cells #[.string on, .string os, .string ob, .string oc, .string of, .string ot, .int .i64 term, .slice lo m lcap] 33))
  have HW := Lib.hid (hw.below hba)
  have f1 : (L1 == L1) = true := by simp
  have f2 : (L2 == L2) = true := by simp
  have f3 : (P.2.2 == P.2.2) = true := by simp
  have hc2 : lcap ≤ 9223372036854775807 := by unfold maxLen at hc2; omega
  clear h hc hn hf hf2 hwf hw hba hm hc1
  by_cases g : P.2.2 = 0
  · have hmay := HMy.out g
    have hm64 : m ≤ 64 := by have := HAp.out hmay; have := HM.out; omega
    have HE1 := Lib.hid (fun W hb => eachP_ok (HEa.out W hb) g HM.out)
    have HR1 := Lib.hid (fun W hb => eachP_ok (HRe.out W hb) g HM.out)
    unfold EachOk at HE1 HR1
    generalize P.2.1.toNat = Sn at *
    have HEl := Lib.hid (fun out => each_len ls out)
    clear g f3 HEa HRe HMy HAp hmay
    go_enter Tryd.func4, Tryd.ntmps4
    go_wp2_with fail
    refine (awake20_any _ HW.out).mono ?_
    rintro e w1 ⟨rfl, hb1⟩
    have HB1 := Lib.hid (bt HB.out hb1)
    have HX1 := Lib.hid ((hb1.block _ (lt_of_block HX.out)).trans HX.out)
    obtain ⟨p0, p1, p2, p3, p4, p5, p6, p7⟩ := od8 HX1.out
    have HC1 := Lib.hid (HLa.out w1 HB1.out)
    clear hb1
    go_wp2_with fail
    refine HC1.out.mono ?_
    rintro e w2 ⟨rfl, hb2⟩
    have HB2 := Lib.hid (bt HB1.out hb2)
    have HX2 := Lib.hid ((hb2.block _ (lt_of_block HX1.out)).trans HX1.out)
    clear p0 p1 p2 p3 p4 p5 p6 p7 hb2
    obtain ⟨p0, p1, p2, p3, p4, p5, p6, p7⟩ := od8 HX2.out
    have HC2 := Lib.hid (HRl.out w2 HB2.out)
    go_wp2_with fail
    refine HC2.out.mono ?_
    rintro e w3 ⟨rfl, hb3⟩
    have HB3 := Lib.hid (bt HB2.out hb3)
    have HX3 := Lib.hid ((hb3.block _ (lt_of_block HX2.out)).trans HX2.out)
    clear p0 p1 p2 p3 p4 p5 p6 p7 hb3
    obtain ⟨p0, p1, p2, p3, p4, p5, p6, p7⟩ := od8 HX3.out
    have HC3 := Lib.hid (HE1.out w3 HB3.out)
    go_wp2_with fail
    refine HC3.out.mono ?_
    rintro e w4 ⟨b4, out, rfl, hs4, hk4, hl4, hb4⟩
    have HB4 := Lib.hid (bt HB3.out hb4)
    have HX4 := Lib.hid ((hb4.block _ (lt_of_block HX3.out)).trans HX3.out)
    have HS4 := Lib.hid hs4
    have HK4 := Lib.hid hk4
    clear p0 p1 p2 p3 p4 p5 p6 p7 hb4 hs4 hk4 hl4
    obtain ⟨p0, p1, p2, p3, p4, p5, p6, p7⟩ := od8 HX4.out
    have HC4 := Lib.hid (HR1.out w4 HB4.out)
    go_wp2_with fail
    refine HC4.out.mono ?_
    rintro e w5 ⟨b5, out5, rfl, hs5, hk5, hl5, hb5⟩
    obtain rfl := HS4.out.unique hs5
    have HB5 := Lib.hid (bt HB4.out hb5)
    have HSm := Lib.hid (same_eq (.slice (some ⟨b4, 0, none⟩) m m) (.slice (some ⟨b5, 0, none⟩) m m) _ w5 ((HK4.out.below hb5).ints (by rw [HEl.out, HM.out]) (by omega)) (hk5.ints (by rw [HEl.out, HM.out]) (by omega)))
    clear p0 p1 p2 p3 p4 p5 p6 p7 hb5 hs5 hk5 hl5
    go_wp2_with fail
    refine HSm.out.mono ?_
    rintro e w6 ⟨rfl, hb6⟩
    have HB6 := Lib.hid (bt HB5.out hb6)
    clear hb6
    go_wp2
    go_ret
    exact ⟨rfl, HB6.out⟩
  · have HE1 := Lib.hid (fun W hb => eachP_no (HEa.out W hb) g)
    have HR1 := Lib.hid (fun W hb => eachP_no (HRe.out W hb) g)
    generalize P.2.2 = E at *
    clear g HEa HRe HMy HAp
    go_enter Tryd.func4, Tryd.ntmps4
    go_wp2_with fail
    refine (awake20_any _ HW.out).mono ?_
    rintro e w1 ⟨rfl, hb1⟩
    have HB1 := Lib.hid (bt HB.out hb1)
    have HX1 := Lib.hid ((hb1.block _ (lt_of_block HX.out)).trans HX.out)
    obtain ⟨p0, p1, p2, p3, p4, p5, p6, p7⟩ := od8 HX1.out
    have HC1 := Lib.hid (HLa.out w1 HB1.out)
    clear hb1
    go_wp2_with fail
    refine HC1.out.mono ?_
    rintro e w2 ⟨rfl, hb2⟩
    have HB2 := Lib.hid (bt HB1.out hb2)
    have HX2 := Lib.hid ((hb2.block _ (lt_of_block HX1.out)).trans HX1.out)
    clear p0 p1 p2 p3 p4 p5 p6 p7 hb2
    obtain ⟨p0, p1, p2, p3, p4, p5, p6, p7⟩ := od8 HX2.out
    have HC2 := Lib.hid (HRl.out w2 HB2.out)
    go_wp2_with fail
    refine HC2.out.mono ?_
    rintro e w3 ⟨rfl, hb3⟩
    have HB3 := Lib.hid (bt HB2.out hb3)
    have HX3 := Lib.hid ((hb3.block _ (lt_of_block HX2.out)).trans HX2.out)
    clear p0 p1 p2 p3 p4 p5 p6 p7 hb3
    obtain ⟨p0, p1, p2, p3, p4, p5, p6, p7⟩ := od8 HX3.out
    have HC3 := Lib.hid (HE1.out w3 HB3.out)
    go_wp2_with fail
    refine HC3.out.mono ?_
    rintro e w4 ⟨rfl, hb4⟩
    have HB4 := Lib.hid (bt HB3.out hb4)
    have HX4 := Lib.hid ((hb4.block _ (lt_of_block HX3.out)).trans HX3.out)
    clear p0 p1 p2 p3 p4 p5 p6 p7 hb4
    obtain ⟨p0, p1, p2, p3, p4, p5, p6, p7⟩ := od8 HX4.out
    have HC4 := Lib.hid (HR1.out w4 HB4.out)
    go_wp2_with fail
    refine HC4.out.mono ?_
    rintro e w5 ⟨rfl, hb5⟩
    have HB5 := Lib.hid (bt HB4.out hb5)
    have HSm := Lib.hid (same_eq (.slice none 0 0) (.slice none 0 0) [] w5 (Row.nil _ _) (Row.nil _ _))
    clear p0 p1 p2 p3 p4 p5 p6 p7 hb5
    go_wp2_with fail
    refine HSm.out.mono ?_
    rintro e w6 ⟨rfl, hb6⟩
    have HB6 := Lib.hid (bt HB5.out hb6)
    clear hb6
    go_wp2
    go_ret
    exact ⟨rfl, HB6.out⟩

theorem walk (v0 v1 : Value) (w : World) (w0 : Is33 w v0) (w1 : Is22 w v1) (hw : Terms w) :
    Calls Tryd.prog 4 #[v0, v1] w fun e w' => e = .returned (.bool true) ∧ Below w.heap.size w w' := by
  obtain ⟨o, rfl, ho⟩ := w0
  obtain ⟨l, h, hwf⟩ := w1
  obtain ⟨ao, cap, rfl, h1, h2, _⟩ := h.shape
  by_cases hf : 60 < l.length ∨ 70 < o.l.length
  · exact skip o ao l.length cap w ho hw hf
  · exact good o ao l.length cap l w ho h rfl (fun e => hf (.inl e)) (fun e => hf (.inr e)) hwf hw
theorem terms_met {W : World} (h : laidMetH Tryd.prog Rows.costLandsRow.laid W) : Terms W := terms_metH List.mem_cons_self (by kernel_rfl) (by kernel_rfl) h
end costLands
end Go.Proofs.YtfkkkebegkhdfaaDoor
