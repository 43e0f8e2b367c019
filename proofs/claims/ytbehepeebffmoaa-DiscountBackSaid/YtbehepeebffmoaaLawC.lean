/-
  DiscountSchedule.
-/
import Derived.Test.YtbehepeebffmoaaSch
import Derived.Test.YtbehepeebffmoaaRSch
import Derived.Test.YtbehepeebffmoaaLawF
namespace Go.Proofs.Ytbehepeebffmoaa
open Go Go.RowKit
set_option linter.unusedVariables false
set_option linter.unusedSimpArgs false

theorem sch_split (S N D T B n : Int) : ∃ (o : Bool) (X Y : List Int), ∀ w e w', SchPost S N D T B n w e w' → ∃ u v, e = .returned (.tuple #[u, v, .bool o]) ∧ Ints w' u X ∧ Ints w' v Y ∧ Below w.heap.size w w' := by
  by_cases hV : schV S N D T B n
  · refine ⟨true, natI (evenL S.toNat n.toNat), natI (nears S N D T B (evenL S.toNat n.toNat)), ?_⟩
    rintro w e w' ⟨hb, ⟨hn, _⟩ | ⟨_, u, v, he, h1, h2⟩⟩
    · exact absurd hV hn
    · exact ⟨u, v, he, h1, h2, hb⟩
  · refine ⟨false, [], [], ?_⟩
    rintro w e w' ⟨hb, ⟨_, he⟩ | ⟨hv, _⟩⟩
    · exact ⟨_, _, he, Ints.nil _, Ints.nil _, hb⟩
    · exact absurd hv hV

namespace discountSchedule
set_option maxHeartbeats 2000000 in
theorem skip (S N D T B n : Int) (w : World) (h1 : 60 < n) (h2 : n ≤ 4096) :
    Calls Try.prog 8 #[.int .i64 S, .agg #[.int .i64 N, .int .i64 D], .int .i64 n, .int .i64 T, .int .i64 B] w fun e w' => e = .returned (.bool true) ∧ Below w.heap.size w w' := by
  have d1 : decide (60 < n) = true := by rw [decide_eq_true_iff]; exact h1
  have d2 : decide (n ≤ 4096) = true := by rw [decide_eq_true_iff]; exact h2
  clear h1 h2
  go_enter Try.func8, Try.ntmps8
  go_wp2_with fail
  refine (awake39_any _).mono ?_
  rintro e w1 ⟨rfl, hb⟩
  have HS := Lib.hid (bx_new hb)
  clear hb
  go_wp2
  go_ret
  exact ⟨rfl, HS.out.2.2.2⟩

set_option maxRecDepth 100000 in
set_option maxHeartbeats 4000000 in
theorem body (S N D T B n : Int) (w : World) (hn : n ≤ 60 ∨ 4096 < n) :
    Calls Try.prog 8 #[.int .i64 S, .agg #[.int .i64 N, .int .i64 D], .int .i64 n, .int .i64 T, .int .i64 B] w fun e w' => e = .returned (.bool true) ∧ Below w.heap.size w w' := by
  obtain ⟨o, X, Y, hsp⟩ := sch_split S N D T B n
  have HP := Lib.hid (fun w => (sch_any S N D T B n w hn).mono (fun e w' h => hsp w e w' h))
  have HR := Lib.hid (fun w => (rsch_any S N D T B n w hn).mono (fun e w' h => hsp w e w' h))
  have K := Lib.hid (show decide (60 < n) = true → decide (n ≤ 4096) = false by
    intro a1; rw [decide_eq_true_iff] at a1; rw [decide_eq_false_iff_not]; omega)
  clear hsp hn
  have key : (decide (60 < n) = false ∨ (decide (60 < n) = true ∧ decide (n ≤ 4096) = false)) → Calls Try.prog 8 #[.int .i64 S, .agg #[.int .i64 N, .int .i64 D], .int .i64 n, .int .i64 T, .int .i64 B] w fun e w' => e = .returned (.bool true) ∧ Below w.heap.size w w' := by
    intro hd
    rcases hd with a1 | ⟨a1, a2⟩
    all_goals
      go_enter Try.func8, Try.ntmps8
      go_wp2_with fail
      refine (awake39_any _).mono ?_
      rintro e w1 ⟨rfl, hb⟩
      have HS := Lib.hid (bx_new hb)
      obtain ⟨b, hb0⟩ : ∃ b, b = w.heap.size := ⟨_, rfl⟩
      rw [← hb0] at HS ⊢
      clear hb hb0
      obtain ⟨c1, c2, -, -⟩ := HS.out
      go_wp2_with fail
      refine (HP.out _).mono ?_
      rintro e w2 ⟨u, v, rfl, h1, h2, hb⟩
      have HS2 := Lib.hid (HS.out.below hb)
      have H1 := Lib.hid h1
      have H2 := Lib.hid h2
      clear hb c1 c2 h1 h2
      obtain ⟨c1, c2, -, -⟩ := HS2.out
      go_wp2_with fail
      refine (HR.out _).mono ?_
      rintro e w3 ⟨u', v', rfl, h1, h2, hb⟩
      have HS3 := Lib.hid (HS2.out.below hb)
      have HM1 := Lib.hid (same_any u u' X X w3 (H1.out.below hb) h1)
      have HM2 := Lib.hid (fun m => same_any v v' Y Y (w3.drewN m) (Row.drewN (H2.out.below hb) m) (Row.drewN h2 m))
      rw [decide_eq_true rfl] at HM1
      rw [decide_eq_true (rfl : Y = Y)] at HM2
      clear hb c1 c2 h1 h2
      go_wp2_with fail
      refine HM1.out.mono ?_
      rintro e w4 ⟨rfl, m1, rfl⟩
      go_wp2_with fail
      refine (HM2.out m1).mono ?_
      rintro e w5 ⟨rfl, m2, rfl⟩
      go_wp2
      go_ret
      exact ⟨rfl, below_drewN HS3.out.2.2.2 _⟩
  cases a1 : decide (60 < n) with
  | false => exact key (.inl a1)
  | true => exact key (.inr ⟨a1, K.out a1⟩)

theorem walk (S : Int) (v : Value) (n T B : Int) (w : World) (_ : (Lit.int .i64 S).wf = true) (hv : Is23 w v) (_ : (Lit.int .i64 n).wf = true) (_ : (Lit.int .i64 T).wf = true) (_ : (Lit.int .i64 B).wf = true) :
    Calls Try.prog 8 #[.int .i64 S, v, .int .i64 n, .int .i64 T, .int .i64 B] w fun e w' => e = .returned (.bool true) ∧ Below w.heap.size w w' := by
  obtain ⟨N, D, rfl, _⟩ := hv
  by_cases h : 60 < n ∧ n ≤ 4096
  · exact skip S N D T B n w h.1 h.2
  · exact body S N D T B n w (by omega)
end discountSchedule
end Go.Proofs.Ytbehepeebffmoaa
