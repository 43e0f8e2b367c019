/-
  AveragePays.
-/
import Derived.Test.YtoaopgamfndfgaaRefPay
namespace Go.Proofs.Ytoaopgamfndfgaa
open Go Go.RowKit
set_option linter.unusedVariables false
set_option linter.unusedSimpArgs false

namespace averagePays
set_option maxHeartbeats 1000000 in
theorem skip (ao bo : Option Addr) (n cap m cap2 : Nat) (l : List In1) (S : Int) (w : World) (h : Ins w (.slice ao n cap) l) (hn : n = l.length) (hwf : ∀ o ∈ l, o.wf) (hcap : n ≤ maxLen) (hf : (fewB l && decide (m ≤ 60)) = false) :
    Calls Try.prog 3 #[.slice ao n cap, .slice bo m cap2, .int .i64 S] w fun e w' => e = .returned (.bool true) ∧ Below w.heap.size w w' := by
  have HF := Lib.hid (fun w h => few_any ao bo n cap m cap2 l w h hn hwf hcap)
  rw [hf] at HF
  have H := Lib.hid h
  clear h hn hwf hcap hf
  go_enter Try.func3, Try.ntmps3
  go_wp2_with fail
  refine (awake43_any _).mono ?_
  rintro e w1 ⟨rfl, hb1⟩
  have HB1 := Lib.hid hb1
  clear hb1
  go_wp2_with fail
  refine (HF.out _ (H.out.below HB1.out)).mono ?_
  rintro e w2 ⟨rfl, rfl⟩
  go_wp2
  go_ret
  exact ⟨rfl, HB1.out⟩

set_option maxHeartbeats 2000000 in
theorem bad (ao bo : Option Addr) (n cap m cap2 : Nat) (l : List In1) (g : List Int) (S : Int) (w : World) (h : Ins w (.slice ao n cap) l) (hn : n = l.length) (h2 : Ints w (.slice bo m cap2) g) (hm : m = g.length) (hwf : ∀ o ∈ l, o.wf) (hcap : n ≤ maxLen) (hf : (fewB l && decide (m ≤ 60)) = true) (hfe : fewB l = true) (hw : wholeN l g S ≠ 0) :
    Calls Try.prog 3 #[.slice ao n cap, .slice bo m cap2, .int .i64 S] w fun e w' => e = .returned (.bool true) ∧ Below w.heap.size w w' := by
  have HF := Lib.hid (fun w h => few_any ao bo n cap m cap2 l w h hn hwf hcap)
  rw [hf] at HF
  have HA := Lib.hid (fun w h h2 => pays_bad ao bo n cap m cap2 l g S w h hn h2 hm hw)
  have HR := Lib.hid (fun w h h2 => rpays_bad ao bo n cap m cap2 l g S w h hn h2 hm hfe hw)
  have H := Lib.hid h
  have H2 := Lib.hid h2
  generalize wholeN l g S = r at *
  have d3 : (r == 0) = false := by rw [beq_eq_false_iff_ne]; exact hw
  have d4 : (r == r) = true := by simp
  have HD := Lib.hid (fun w => debts_any (.slice none 0 0) (.slice none 0 0) [] w (Row.nil w 4) (Row.nil w 4))
  clear h hn hwf hcap hf hfe hw h2 hm
  go_enter Try.func3, Try.ntmps3
  go_wp2_with fail
  refine (awake43_any _).mono ?_
  rintro e w1 ⟨rfl, hb1⟩
  have HB1 := Lib.hid hb1
  clear hb1
  go_wp2_with fail
  refine (HF.out _ (H.out.below HB1.out)).mono ?_
  rintro e w2 ⟨rfl, rfl⟩
  go_wp2_with fail
  refine (HA.out _ (H.out.below HB1.out) (H2.out.below HB1.out)).mono ?_
  rintro e w2 ⟨rfl, hb⟩
  have HB2 := Lib.hid (bt HB1.out hb)
  clear hb
  go_wp2_with fail
  refine (HR.out _ (H.out.below HB2.out) (H2.out.below HB2.out)).mono ?_
  rintro e w3 ⟨rfl, hb⟩
  have HB3 := Lib.hid (bt HB2.out hb)
  clear hb
  go_wp2_with fail
  refine (HD.out _).mono ?_
  rintro e w4 ⟨rfl, hq⟩
  have HB4 := Lib.hid (bt HB3.out (drew_below hq))
  clear hq
  go_wp2
  go_ret
  exact ⟨rfl, HB4.out⟩

set_option maxHeartbeats 2000000 in
theorem core (T : Nat) (W : List Nat) (ao bo : Option Addr) (n cap cap2 : Nat) (l : List In1) (g : List Int) (S : Int) (w : World) (h : Ins w (.slice ao n cap) l) (hn : n = l.length) (h2 : Ints w (.slice bo n cap2) g) (hwf : ∀ o ∈ l, o.wf) (hcap : n ≤ maxLen) (hf : (fewB l && decide (n ≤ 60)) = true) (hfe : fewB l = true) (hw : WholeOk l g S T W) :
    Calls Try.prog 3 #[.slice ao n cap, .slice bo n cap2, .int .i64 S] w fun e w' => e = .returned (.bool true) ∧ Below w.heap.size w w' := by
  have HF := Lib.hid (fun w h => few_any ao bo n cap n cap2 l w h hn hwf hcap)
  rw [hf] at HF
  have HA := Lib.hid (fun w h h2 => pays_any T W ao bo n cap cap2 l g S w h hn h2 hw)
  have HR := Lib.hid (fun w h h2 => rpays_any T W ao bo n cap cap2 l g S w h hn h2 hfe hw)
  have H := Lib.hid h
  have H2 := Lib.hid h2
  clear h hn hwf hcap hf hfe hw h2
  go_enter Try.func3, Try.ntmps3
  go_wp2_with fail
  refine (awake43_any _).mono ?_
  rintro e w1 ⟨rfl, hb1⟩
  have HB1 := Lib.hid hb1
  clear hb1
  go_wp2_with fail
  refine (HF.out _ (H.out.below HB1.out)).mono ?_
  rintro e w2 ⟨rfl, rfl⟩
  go_wp2_with fail
  refine (HA.out _ (H.out.below HB1.out) (H2.out.below HB1.out)).mono ?_
  rintro e w2 ⟨v, out, rfl, hs, hd, hb⟩
  have HB2 := Lib.hid (bt HB1.out hb)
  have HS := Lib.hid hs
  obtain ⟨D, hD⟩ : ∃ D, D = (payAll l (getsL g out) S l.length).D := ⟨_, rfl⟩
  rw [← hD] at hd
  have HDe := Lib.hid hD
  have HD := Lib.hid hd
  obtain ⟨a1, c1, rfl, -⟩ := hd.shape
  clear hs hd hb hD
  go_wp2_with fail
  refine (HR.out _ (H.out.below HB2.out) (H2.out.below HB2.out)).mono ?_
  intro e w3 hpost
  unfold RPPost at hpost
  obtain ⟨v3, out3, rfl, hs, hd, hb⟩ := hpost
  obtain rfl := HS.out.unique hs
  rw [← HDe.out] at hd
  have HB3 := Lib.hid (bt HB2.out hb)
  have HDb := Lib.hid (debts_any _ _ D w3 (HD.out.below hb) hd)
  obtain ⟨a3, c3, rfl, -⟩ := hd.shape
  clear hs hd hb
  go_wp2_with fail
  refine HDb.out.mono ?_
  rintro e w4 ⟨rfl, hq⟩
  have HB4 := Lib.hid (bt HB3.out (drew_below hq))
  clear hq
  go_wp2
  go_ret
  exact ⟨rfl, HB4.out⟩

theorem walk (v0 v1 : Value) (a2 : Int) (w : World) (w0 : Is22 w v0) (w1 : Is23 w v1) (w2 : (Lit.int .i64 a2).wf = true) :
    Calls Try.prog 3 #[v0, v1, .int .i64 a2] w fun e w' => e = .returned (.bool true) ∧ Below w.heap.size w w' := by
  obtain ⟨l, h, hwf⟩ := w0
  obtain ⟨g, h2, _⟩ := w1
  obtain ⟨ao, cap, rfl, hc1, hc2, _⟩ := h.shape
  obtain ⟨bo, cap2, rfl, _⟩ := h2.shape
  cases hf : (fewB l && decide (g.length ≤ 60)) with
  | false => exact skip ao bo _ cap _ cap2 l a2 w h rfl hwf (Nat.le_trans hc1 hc2) hf
  | true =>
    have hfe : fewB l = true := by revert hf; cases fewB l <;> simp
    by_cases hw : wholeN l g a2 = 0
    · obtain ⟨T, W, ho⟩ := whole_is hw
      have e := ho.gl
      rw [e] at h2 hf ⊢
      exact core T W ao bo _ cap cap2 l g a2 w h rfl h2 hwf (Nat.le_trans hc1 hc2) hf hfe ho
    · exact bad ao bo _ cap _ cap2 l g a2 w h rfl h2 rfl hwf (Nat.le_trans hc1 hc2) hf hfe hw
end averagePays
end Go.Proofs.Ytoaopgamfndfgaa
