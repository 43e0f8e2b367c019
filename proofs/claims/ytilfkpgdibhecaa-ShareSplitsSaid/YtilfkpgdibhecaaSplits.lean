/-
  ShareSplits: any total is shared by any weights as the document says, or what is wrong is told.
-/
import Derived.Test.YtilfkpgdibhecaaRefSplit
import Derived.Test.YtilfkpgdibhecaaAppRow
namespace Go.Proofs.Ytilfkpgdibhecaa
open Go Go.RowKit
set_option linter.unusedVariables false
set_option linter.unusedSimpArgs false

namespace shareSplits
theorem core1 (T : Int) (ao : Option Addr) (n cap : Nat) (w : World) (h : 40 < n) :
    Calls Try.prog 3 #[.int .i64 T, .slice ao n cap] w fun e w' => e = .returned (.bool true) ∧ Below w.heap.size w w' := by
  have d1 : decide ((40 : Int) < (n : Int)) = true := by rw [decide_eq_true_iff]; omega
  go_enter Try.func3, Try.ntmps3
  go_wp2_with fail
  refine (awake_any _).mono ?_
  rintro e w1 ⟨rfl, hb1⟩
  have HB1 := Lib.hid hb1
  clear hb1
  go_wp2_with fail
  refine (awake_any _).mono ?_
  rintro e w2 ⟨rfl, hb2⟩
  have HB2 := Lib.hid hb2
  clear hb2
  go_wp2
  go_ret
  exact ⟨rfl, bt HB1.out HB2.out⟩

/-- Behind the copy of the weights: what stays to be walked. -/
def Own (w1 : World) (zs : List Int) (v : Value) (w2 : World) : Prop := ∃ ao cap, v = .slice ao zs.length cap ∧ Ints w2 v zs ∧ Below w1.heap.size w1 w2

set_option maxHeartbeats 4000000 in
theorem core (T : Int) (ao : Option Addr) (n cap : Nat) (zs : List Int) (w : World) (h : Ints w (.slice ao n cap) zs) (hn : n = zs.length) (hl : n ≤ 40) :
    Calls Try.prog 3 #[.int .i64 T, .slice ao n cap] w fun e w' => e = .returned (.bool true) ∧ Below w.heap.size w w' := by
  have d1 : decide ((40 : Int) < (n : Int)) = false := by rw [decide_eq_false_iff_not]; omega
  have H := Lib.hid h
  have HN := Lib.hid hn
  have HE := Lib.hid (fun w1 (h1 : Ints w1 (.slice ao n cap) zs) => error_any T ao n cap zs w1 h1 hn)
  obtain ⟨i0, hi, hz0, hz1, hz2⟩ := info_parts Try.infoI64
  clear h hn
  go_enter Try.func3, Try.ntmps3
  go_wp2_with fail
  refine (awake_any _).mono ?_
  rintro e w1 ⟨rfl, hb1⟩
  have HB1 := Lib.hid hb1
  have H1 := Lib.hid (H.out.below hb1)
  clear hb1
  go_wp2_with (at_builtin; refine hold ?_)
  refine Lib.hid ?_
  refine wpList_row rfl _ _ 22 rfl 2 i0 _ 1 8 Try.underlying22 hi hz0 hz1 hz2 rfl (by decide) (.slice (some ⟨w1.heap.size, 0, none⟩) 0 0) 0 [] rfl (lit0 _ _ _ rfl) ao n cap (zs.map (Value.int .i64)) rfl (by have := H1.out; unfold Ints at this; rw [← HN.out] at this; exact Row.below this ((Below.refl _ _).alloc (Nat.le_refl _) _)) (by intro u hu; obtain ⟨_, _, rfl⟩ := List.mem_map.1 hu; rfl) (by unfold maxLen; omega) (by omega) ?_
  intro v2 w2 hown ht2 _
  rw [Nat.zero_add, List.nil_append] at hown
  have hrow := Row.of_own hown
  obtain ⟨ao2, cap2, rfl⟩ := own_shape hown
  have HB2 := Lib.hid (show Below w1.heap.size w1 w2 from ((Below.refl w1.heap.size w1).alloc (Nat.le_refl _) _).trans (ht2.below (by simp) (fun k hk => by simp [Value.ownBlock] at hk; omega)))
  have HOWN := Lib.hid (show Ints w2 (.slice ao2 n cap2) zs by unfold Ints; rw [← HN.out]; exact hrow)
  have H2 := Lib.hid (H1.out.below HB2.out)
  have HBB := Lib.hid (bt HB1.out HB2.out)
  clear hown ht2 hrow hi hz0 hz1 hz2
  by_cases hwr : wrongN T zs = 0
  · obtain ⟨T', W, rfl, rfl, _, h0, hnb, _⟩ := wrong_ok hwr
    have HW := Lib.hid (split_any T' _ W w2 HOWN.out hwr)
    have HR := Lib.hid (fun w1 (h1 : Ints w1 (.slice ao n cap) (natI W)) => refsplit_any T' ao n cap W w1 h1 (by rw [HN.out]; simp [natI]) hwr)
    rw [hwr] at HE
    clear hwr
    go_wp2_with fail
    refine HW.out.mono ?_
    rintro e w3 ⟨u, out, rfl, hs, hp, hb3⟩
    have hol := hs.len
    have HP := Lib.hid (hp.ints (by omega))
    obtain ⟨bp, rfl, _, _⟩ := hp
    have HSM := Lib.hid (same_any _ _ _ _ w3 (HOWN.out.below hb3) (H2.out.below hb3))
    rw [decide_eq_true rfl] at HSM
    have HB3 := Lib.hid (bt HBB.out hb3)
    have H3 := Lib.hid (H2.out.below hb3)
    have HS := Lib.hid hs
    clear hb3 hs hol HW
    go_wp2_with fail
    refine HSM.out.mono ?_
    rintro e w4 ⟨rfl, q, rfl⟩
    go_wp2_with fail
    refine (HE.out _ (H3.out.drewN q)).mono ?_
    rintro e w5 ⟨rfl, rfl⟩
    go_wp2_with fail
    refine (HR.out _ (H3.out.drewN q)).mono ?_
    rintro e w6 ⟨u6, out6, rfl, hs6, hp6, hb6⟩
    obtain rfl := HS.out.unique hs6
    have HSM2 := Lib.hid (same_any _ _ _ _ w6 ((HP.out.drewN q).below hb6) (hp6.ints (by have := HS.out.len; omega)))
    rw [decide_eq_true rfl] at HSM2
    have HB6 := Lib.hid (bt (below_drewN HB3.out q) hb6)
    clear hs6 hp6 hb6
    go_wp2_with fail
    refine HSM2.out.mono ?_
    rintro e w7 ⟨rfl, q7, rfl⟩
    go_wp2
    go_ret
    exact ⟨rfl, below_drewN HB6.out q7⟩
  · have HW := Lib.hid (split_bad T _ zs w2 HOWN.out hwr)
    have d2 : (wrongN T zs == 0) = false := by rw [beq_eq_false_iff_ne]; exact hwr
    have d3 : (wrongN T zs != 0) = true := by simp [bne, d2]
    generalize wrongN T zs = r at *
    clear hwr
    go_wp2_with fail
    refine HW.out.mono ?_
    rintro e w3 ⟨rfl, rfl⟩
    have HSM := Lib.hid (same_any _ _ _ _ w3 HOWN.out H2.out)
    rw [decide_eq_true rfl] at HSM
    go_wp2_with fail
    refine HSM.out.mono ?_
    rintro e w4 ⟨rfl, q, rfl⟩
    go_wp2_with fail
    refine (HE.out _ (H2.out.drewN q)).mono ?_
    rintro e w5 ⟨rfl, rfl⟩
    go_wp2
    go_ret
    exact ⟨rfl, below_drewN HBB.out q⟩

theorem walk (a0 : Int) (v1 : Value) (w : World) (w0 : (Lit.int .i64 a0).wf = true) (w1 : Is22 w v1) :
    Calls Try.prog 3 #[.int .i64 a0, v1] w fun e w' => e = .returned (.bool true) ∧ Below w.heap.size w w' := by
  obtain ⟨zs, h, _⟩ := w1
  obtain ⟨ao, cap, rfl, _⟩ := h.shape
  by_cases hl : zs.length ≤ 40
  · exact core a0 ao _ cap zs w h rfl hl
  · exact core1 a0 ao _ cap w (by omega)
end shareSplits
end Go.Proofs.Ytilfkpgdibhecaa
