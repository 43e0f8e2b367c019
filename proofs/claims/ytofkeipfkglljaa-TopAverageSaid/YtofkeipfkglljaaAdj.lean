/-
  average.Adjust.
-/
import Derived.Test.YtofkeipfkglljaaMix
import Derived.OwnWalk
namespace Go.Proofs.Ytofkeipfkglljaa
open Go Go.RowKit
set_option linter.unusedVariables false
set_option linter.unusedSimpArgs false

/-- What Adjust tells is wrong. -/
def adjN (lost : Int) (l : List In1) : Int := if mayB l = false ∨ lost < 0 then 1 else if (valsL l).sum < lost then 3 else wrongN lost (valsL l)
theorem adj_ok {lost : Int} {l : List In1} (h : adjN lost l = 0) : mayB l = true ∧ 0 ≤ lost ∧ lost ≤ (valsL l).sum ∧ wrongN lost (valsL l) = 0 := by
  unfold adjN at h
  split at h
  · cases h
  · rename_i h1
    split at h
    · cases h
    · rename_i h2
      refine ⟨?_, ?_, by omega, h⟩
      · cases hm : mayB l
        · exact absurd (.inl hm) h1
        · rfl
      · have := fun e => h1 (.inr e); omega

set_option maxHeartbeats 4000000 in
theorem adj_bad (lost : Int) (ao : Option Addr) (n cap : Nat) (l : List In1) (w : World) (h : Ins w (.slice ao n cap) l) (hn : n = l.length) (hw : adjN lost l ≠ 0) :
    Calls Try.prog 22 #[.int .i64 lost, .slice ao n cap] w fun e w' => e = .returned (.tuple #[.slice none 0 0, .int .i64 (adjN lost l)]) ∧ Below w.heap.size w w' := by
  obtain ⟨r, hr⟩ : ∃ r, r = adjN lost l := ⟨_, rfl⟩
  rw [← hr] at hw ⊢
  unfold adjN at hr
  have H := Lib.hid h
  have HN := Lib.hid hn
  have HMay := Lib.hid (may_any ao n cap l w h hn)
  clear h
  cases hm : mayB l with
  | false =>
    rw [if_pos (.inl hm)] at hr
    subst hr
    rw [hm] at HMay
    clear hm hn
    go_enter Try.func22, Try.ntmps22
    go_wp2_with fail
    refine HMay.out.mono ?_
    rintro e w1 ⟨rfl, hb⟩
    have HB := Lib.hid hb
    clear hb
    go_wp2
    go_ret2
    exact ⟨rfl, HB.out⟩
  | true =>
    rw [hm] at HMay
    by_cases c1 : lost < 0
    · rw [if_pos (.inr c1)] at hr
      subst hr
      have d1 : decide (lost < 0) = true := by simpa using c1
      clear hm hn
      go_enter Try.func22, Try.ntmps22
      go_wp2_with fail
      refine HMay.out.mono ?_
      rintro e w1 ⟨rfl, hb⟩
      have HB := Lib.hid hb
      clear hb
      go_wp2
      go_ret2
      exact ⟨rfl, HB.out⟩
    · rw [if_neg (by simp [hm]; omega)] at hr
      have d1 : decide (lost < 0) = false := by simpa using c1
      obtain ⟨h1, h2, -⟩ := (may_iff l).1 hm
      have h40 : n ≤ 4096 := by rw [hn]; exact h2
      have HV := Lib.hid (fun w h => values_any ao n cap l w h hn h40)
      have HSu := Lib.hid (fun b w (hb : Blk w b (valsL l)) => sum_any (some ⟨b, 0, none⟩) n n (valsL l) w (hb.ints (by rw [vals_len, hn]) h40) (by rw [vals_len, hn]) h40 (may_vals hm))
      have HLen := Lib.hid (show n = (valsL l).length by rw [vals_len, hn])
      by_cases c2 : (valsL l).sum < lost
      · rw [if_pos c2] at hr
        subst hr
        have d2 : decide ((valsL l).sum < lost) = true := by simpa using c2
        clear hm h1 h2 hn
        generalize (valsL l).sum = S at *
        go_enter Try.func22, Try.ntmps22
        go_wp2_with fail
        refine HMay.out.mono ?_
        rintro e w1 ⟨rfl, hb⟩
        have HB := Lib.hid hb
        clear hb
        go_wp2_with fail
        refine (HV.out _ (H.out.below HB.out)).mono ?_
        rintro e w2 ⟨b, rfl, hbk, hlo, hb⟩
        have HB2 := Lib.hid (bt HB.out hb)
        have HK := Lib.hid hbk
        clear hb hlo hbk
        go_wp2_with fail
        refine (HSu.out b _ HK.out).mono ?_
        rintro e w3 ⟨rfl, rfl⟩
        go_wp2
        go_ret2
        exact ⟨rfl, HB2.out⟩
      · rw [if_neg c2] at hr
        have d2 : decide ((valsL l).sum < lost) = false := by simpa using c2
        have HSp := Lib.hid (fun b w (hb : Blk w b (valsL l)) => split_bad lost (.slice (some ⟨b, 0, none⟩) n n) (valsL l) w (hb.ints (by rw [vals_len, hn]) h40) (by rw [← hr]; exact hw))
        rw [← hr] at HSp
        have d3 : (r == 0) = false := by rw [beq_eq_false_iff_ne]; exact hw
        have d4 : (r != 0) = true := by simp [bne, d3]
        clear hm h1 h2 hr hw hn
        generalize (valsL l).sum = S at *
        go_enter Try.func22, Try.ntmps22
        go_wp2_with fail
        refine HMay.out.mono ?_
        rintro e w1 ⟨rfl, hb⟩
        have HB := Lib.hid hb
        clear hb
        go_wp2_with fail
        refine (HV.out _ (H.out.below HB.out)).mono ?_
        rintro e w2 ⟨b, rfl, hbk, hlo, hb⟩
        have HB2 := Lib.hid (bt HB.out hb)
        have HK := Lib.hid hbk
        clear hb hlo hbk
        go_wp2_with fail
        refine (HSu.out b _ HK.out).mono ?_
        rintro e w3 ⟨rfl, rfl⟩
        go_wp2_with fail
        refine (HSp.out b _ HK.out).mono ?_
        rintro e w3 ⟨rfl, rfl⟩
        go_wp2
        go_ret2
        exact ⟨rfl, HB2.out⟩

set_option maxHeartbeats 4000000 in
theorem adj_any (T : Nat) (W : List Nat) (ao : Option Addr) (n cap : Nat) (l : List In1) (w : World) (h : Ins w (.slice ao n cap) l) (hn : n = l.length) (hw : adjN T l = 0) (hW : valsL l = natI W) :
    Calls Try.prog 22 #[.int .i64 (T : Int), .slice ao n cap] w fun e w' => ∃ b out, e = .returned (.tuple #[.slice (some ⟨b, 0, none⟩) n n, .int .i64 0]) ∧ IsSplit T W out ∧ Blk w' b (natI out) ∧ w.heap.size ≤ b ∧ Below w.heap.size w w' := by
  obtain ⟨hm, h0, hS, hwr⟩ := adj_ok hw
  have H := Lib.hid h
  have HN := Lib.hid hn
  have HMay := Lib.hid (may_any ao n cap l w h hn)
  clear h
  rw [hm] at HMay
  have d1 : decide ((T : Int) < 0) = false := by rw [decide_eq_false_iff_not]; omega
  obtain ⟨h1, h2, -⟩ := (may_iff l).1 hm
  have h40 : n ≤ 4096 := by rw [hn]; exact h2
  have HV := Lib.hid (fun w h => values_any ao n cap l w h hn h40)
  have HSu := Lib.hid (fun b w (hb : Blk w b (valsL l)) => sum_any (some ⟨b, 0, none⟩) n n (valsL l) w (hb.ints (by rw [vals_len, hn]) h40) (by rw [vals_len, hn]) h40 (may_vals hm))
  have HLW := Lib.hid (show W.length = n by have := congrArg List.length hW; rw [vals_len] at this; simp [natI] at this; omega)
  have HSp := Lib.hid (fun b w (hb : Blk w b (valsL l)) => split_any T (.slice (some ⟨b, 0, none⟩) n n) W w (by rw [← hW]; exact hb.ints (by rw [vals_len, hn]) h40) (by rw [← hW]; exact hwr))
  have d2 : decide ((valsL l).sum < (T : Int)) = false := by rw [decide_eq_false_iff_not]; omega
  clear hm h1 h2 hw hwr h0 hS hW hn
  generalize (valsL l).sum = S at *
  go_enter Try.func22, Try.ntmps22
  go_wp2_with fail
  refine HMay.out.mono ?_
  rintro e w1 ⟨rfl, hb⟩
  have HB := Lib.hid hb
  clear hb
  go_wp2_with fail
  refine (HV.out _ (H.out.below HB.out)).mono ?_
  rintro e w2 ⟨b, rfl, hbk, hlo, hb⟩
  have HB2 := Lib.hid (bt HB.out hb)
  have HK := Lib.hid hbk
  clear hb hlo hbk
  go_wp2_with fail
  refine (HSu.out b _ HK.out).mono ?_
  rintro e w3 ⟨rfl, rfl⟩
  go_wp2_with fail
  refine (HSp.out b _ HK.out).mono ?_
  rintro e w4 ⟨u, out, rfl, hs, hp, hb⟩
  obtain ⟨b2, rfl, hk2, hlo⟩ := hp.blk
  rw [hs.len, HLW.out]
  have HB4 := Lib.hid (bt HB2.out hb)
  have HQ := Lib.hid (And.intro hs (And.intro hk2 (Nat.le_trans HB2.out.size hlo)))
  clear hs hp hb hk2 hlo
  go_wp2
  go_ret2
  exact ⟨b2, out, rfl, HQ.out.1, HQ.out.2.1, HQ.out.2.2, HB4.out⟩
end Go.Proofs.Ytofkeipfkglljaa
