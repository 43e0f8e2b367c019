/-
  TermPays: the walk.
-/
import Derived.Test.YtfhcnkedhobhgaaDoorTermPays
import Derived.BigGuardPart
namespace Go.Proofs.YtfhcnkedhobhgaaDoor.termPays
open Go Go.RowKit
set_option linter.unusedVariables false
set_option linter.unusedSimpArgs false

theorem who_none {t s f : Int} (h : ¬ (isB t = true ∧ isB s = true)) : whoT t s f = ⟨#[]⟩ := by
  simp [isB] at h
  unfold whoT
  rw [if_neg (by omega)]
theorem cos_none {t : Int} (h : isB t = false) : cosT t = 0 := by simp [isB] at h; unfold cosT; rw [if_neg (by omega)]
theorem ris_none {t : Int} (h : isB t = false) : risT t = 0 := by simp [isB] at h; unfold risT; rw [if_neg (by omega)]
theorem ppr_none {t : Int} (h : isB t = false) : pprZ t = [] := by simp [isB] at h; unfold pprZ; rw [if_neg (by omega)]

set_option maxHeartbeats 1000000 in
theorem walk_a (t s : Int) (w : World) (ht : isB t = false) (hw : Terms w) :
    Calls Tryd.prog 5 #[.int .i64 t, .int .i64 s] w fun e w' => e = .returned (.bool true) ∧ Below w.heap.size w w' := by
  have HA := Lib.hid awake_k
  have HP := Lib.hid (fun w h => by have := passes_k t w h; rwa [cos_none ht, ris_none ht] at this)
  have HI := Lib.hid (fun w h => by have := is_k t w h; rwa [ht] at this)
  have HN := Lib.hid (fun w h => by have := needs_k t w h; rwa [ppr_none ht] at this)
  have HY := Lib.hid (fun w h => by have := pays_k t s w h; rwa [show paysT t s = _ from who_none (by rw [ht]; simp)] at this)
  have HR := Lib.hid (fun w h => by have := risk_k t s w h; rwa [show bearT t s = _ from who_none (by rw [ht]; simp)] at this)
  clear ht
  go_enter Tryd.func5, Tryd.ntmps5
  go_wp2_with fail
  refine (HA.out _ hw).mono ?_
  rintro e w1 ⟨rfl, hw1, hb1⟩
  go_wp2_with fail
  refine (HP.out _ hw1).mono ?_
  rintro e w2 ⟨rfl, hw2, hb2⟩
  go_wp2_with fail
  refine (HI.out _ hw2).mono ?_
  rintro e w3 ⟨rfl, hw3, hb3⟩
  go_wp2_with fail
  refine (HN.out _ hw3).mono ?_
  rintro e w4 ⟨ao, cap, rfl, _, hw4, hb4⟩
  go_wp2_with fail
  refine (HY.out _ hw4).mono ?_
  rintro e w5 ⟨rfl, hw5, hb5⟩
  go_wp2_with fail
  refine (HR.out _ hw5).mono ?_
  rintro e w6 ⟨rfl, hw6, hb6⟩
  go_wp2
  go_ret
  exact ⟨rfl, bt (bt (bt (bt (bt hb1 hb2) hb3) hb4) hb5) hb6⟩

set_option maxHeartbeats 2000000 in
theorem walk_b (t s : Int) (w : World) (ht : isB t = true) (hw : Terms w) :
    Calls Tryd.prog 5 #[.int .i64 t, .int .i64 s] w fun e w' => e = .returned (.bool true) ∧ Below w.heap.size w w' := by
  have HA := Lib.hid awake_k
  have HP := Lib.hid (passes_k t)
  have HI := Lib.hid (fun w h => by have := is_k t w h; rwa [ht] at this)
  have HN := Lib.hid (needs_k t)
  have HM := Lib.hid (refNeeds_k t)
  have HC := Lib.hid (fun w h => refCost_k t w h ht)
  have HK := Lib.hid (fun w h => refRisk_k t w h ht)
  have HY := Lib.hid (pays_k t s)
  have HR := Lib.hid (risk_k t s)
  have HE := Lib.hid (refN_is ht)
  have HT := Lib.hid ht
  clear ht
  go_enter Tryd.func5, Tryd.ntmps5
  go_wp2_with fail
  refine (HA.out _ hw).mono ?_
  rintro e w1 ⟨rfl, hw1, hb1⟩
  go_wp2_with fail
  refine (HP.out _ hw1).mono ?_
  rintro e w2 ⟨rfl, hw2, hb2⟩
  go_wp2_with fail
  refine (HI.out _ hw2).mono ?_
  rintro e w3 ⟨rfl, hw3, hb3⟩
  go_wp2_with fail
  refine (HC.out _ hw3).mono ?_
  rintro e w4 ⟨rfl, hw4, hb4⟩
  have e1 : (cosT t != cosT t) = false := by simp
  have e2 : (risT t != risT t) = false := by simp
  go_wp2_with fail
  refine (HK.out _ hw4).mono ?_
  rintro e w5 ⟨rfl, hw5, hb5⟩
  go_wp2_with fail
  refine (HN.out _ hw5).mono ?_
  rintro e w6 ⟨ao, cap, rfl, hi6, hw6, hb6⟩
  have HI6 := Lib.hid hi6
  clear hi6
  go_wp2_with fail
  refine (HM.out _ hw6).mono ?_
  rintro e w7 ⟨ao', cap', rfl, hi7, hw7, hb7⟩
  have HI7 := Lib.hid hi7
  clear hi7
  go_wp2_with fail
  refine (same_k _ _ _ _ _ hw7 (HI6.out.below hb7) HI7.out).mono ?_
  rintro e w8 ⟨rfl, hw8, hb8⟩
  have e3 : (pprZ t == refN t) = true := by rw [HE.out]; simp
  have hb : Below w.heap.size w w8 := bt (bt (bt (bt (bt (bt (bt hb1 hb2) hb3) hb4) hb5) hb6) hb7) hb8
  clear hb1 hb2 hb3 hb4 hb5 hb6 hb7 hb8 hw1 hw2 hw3 hw4 hw5 hw6 hw7 HI6 HI7 HN HM HC HK HE HA HP HI
  cases hs : isB s with
  | false =>
    have HS := Lib.hid (fun w h => by have := is_k s w h; rwa [hs] at this)
    have HY' := Lib.hid (fun w h => by have := HY.out w h; rwa [show paysT t s = _ from who_none (by rw [hs]; simp)] at this)
    have HR' := Lib.hid (fun w h => by have := HR.out w h; rwa [show bearT t s = _ from who_none (by rw [hs]; simp)] at this)
    clear HY HR hs HT
    go_wp2_with fail
    refine (HS.out _ hw8).mono ?_
    rintro e w1 ⟨rfl, hw1, hb1⟩
    go_wp2_with fail
    refine (HY'.out _ hw1).mono ?_
    rintro e w2 ⟨rfl, hw2, hb2⟩
    go_wp2_with fail
    refine (HR'.out _ hw2).mono ?_
    rintro e w3 ⟨rfl, hw3, hb3⟩
    go_wp2
    go_ret
    exact ⟨rfl, bt (bt (bt hb hb1) hb2) hb3⟩
  | true =>
    have HS := Lib.hid (fun w h => by have := is_k s w h; rwa [hs] at this)
    have q1 := termOnce.who_in (f := cosT t) HT.out hs
    have q2 := termOnce.who_in (f := risT t) HT.out hs
    have Q1 := Lib.hid (show (paysT t s).toList = _ from q1)
    have Q2 := Lib.hid (show (bearT t s).toList = _ from q2)
    clear hs q1 q2 HT
    go_wp2_with fail
    refine (HS.out _ hw8).mono ?_
    rintro e w1 ⟨rfl, hw1, hb1⟩
    clear HS
    go_wp2_with (first | (go_at_call 12; refine (HY.out _ hw1).mono ?_; rintro e w2 ⟨rfl, hw2, hb2⟩; have hbb := bt (bt hb hb1) hb2) | (go_at_call 13; refine (HR.out _ (by assumption)).mono ?_; rintro e w3 ⟨rfl, hw3, hb3⟩))
    all_goals
      have q1 := Q1.out
      have q2 := Q2.out
      clear HY HR Q1 Q2
      go_ret
      refine ⟨?_, by first | exact bt hbb (by assumption) | exact hbb⟩
      clear hb hbb hb1 hw1
      split at q1 <;> split at q2 <;> first
        | (exfalso; omega)
        | (simp_all; done)

theorem walk (a0 a1 : Int) (w : World) (w0 : (Lit.int .i64 a0).wf = true) (w1 : (Lit.int .i64 a1).wf = true) (hw : Terms w) :
    Calls Tryd.prog 5 #[.int .i64 a0, .int .i64 a1] w fun e w' => e = .returned (.bool true) ∧ Below w.heap.size w w' := by
  cases h : isB a0 with
  | false => exact walk_a a0 a1 w h hw
  | true => exact walk_b a0 a1 w h hw

theorem terms_met {W : World} (h : laidMetH Tryd.prog Rows.termPaysRow.laid W) : Terms W := terms_metH List.mem_cons_self (by kernel_rfl) (by kernel_rfl) h
end Go.Proofs.YtfhcnkedhobhgaaDoor.termPays
