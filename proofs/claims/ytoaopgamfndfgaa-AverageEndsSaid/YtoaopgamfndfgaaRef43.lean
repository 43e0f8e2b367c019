/-
  The document's May, weights, sum, Adjust.
-/
import Derived.Test.YtoaopgamfndfgaaLawSums
import Derived.BigQuiet
import Derived.Lib.SlicesS
namespace Go.Proofs.Ytoaopgamfndfgaa
open Go Go.RowKit
set_option linter.unusedVariables false
set_option linter.unusedSimpArgs false

theorem seen_true {l : List In1} {k j : Nat} {t : ByteArray} (hk : k ≤ l.length) (hj : j < k) (h : (l.getD j default).t = t) : seen l k t = true := by
  unfold seen
  rw [List.any_eq_true]
  refine ⟨l[j]'(by omega), ?_, ?_⟩
  · rw [List.mem_take_iff_getElem]
    exact ⟨j, by omega, rfl⟩
  · rw [List.getD_eq_getElem?_getD, List.getElem?_eq_getElem (by omega)] at h
    simpa using h
theorem seen_false {l : List In1} {k : Nat} {t : ByteArray} (hk : k ≤ l.length) (h : ∀ j, j < k → (l.getD j default).t ≠ t) : seen l k t = false := by
  unfold seen
  rw [List.any_eq_false]
  intro o ho
  rw [List.mem_take_iff_getElem] at ho
  obtain ⟨j, hj, rfl⟩ := ho
  have := h j (by omega)
  rw [List.getD_eq_getElem?_getD, List.getElem?_eq_getElem (by omega)] at this
  simpa using this

set_option maxRecDepth 100000 in
set_option maxHeartbeats 4000000 in
theorem rmay_any (ao : Option Addr) (n cap : Nat) (l : List In1) (w : World) (h : Ins w (.slice ao n cap) l) (hn : n = l.length) (hf : fewB l = true) :
    Calls Try.prog 31 #[.slice ao n cap] w fun e w' => e = .returned (.bool (mayB l)) ∧ ∃ q, w' = w.drewN q := by
  obtain ⟨x, hx⟩ : ∃ x, x = mayB l := ⟨_, rfl⟩
  rw [← hx]
  have HX := Lib.hid hx
  have H := Lib.hid h
  have HN := Lib.hid hn
  obtain ⟨f1, f2⟩ := (few_iff l).1 hf
  have h31 : n ≤ 31 := by omega
  have HSm := Lib.hid f2
  have HNm := Lib.hid (fun k (hk : k < n) w => rname_any (l.getD k default).t w (f2 k (by omega)))
  clear hx h hn hf f1 f2
  go_enter Try.func31, Try.ntmps31
  go_wp2
  go_loopw [3] (fun i wr => ∃ k : Nat, k ≤ n ∧ i = .int .i64 (k : Int) ∧ Hid (∀ j, j < k → okAt l j = true) ∧ Hid (∃ q, wr = w.drewN q)) (fun i _ => n - (intOf i).toNat)
  case atStart => exact ⟨0, Nat.zero_le _, rfl, Lib.hid (fun j hj => by omega), Lib.hid ⟨0, rfl⟩⟩
  case round =>
    obtain ⟨k, hk, rfl, hp, hw⟩ := hrel
    by_cases hlt : k < n
    · have l1 : (k : Int) < (n : Int) := by omega
      have l0 : (0 : Int) ≤ (k : Int) := by omega
      have HI := Lib.hid (show Ins wr (.slice ao n cap) l by obtain ⟨q, e⟩ := hw.out; rw [e]; exact H.out.drewN q)
      obtain ⟨bl, off, rfl, -, hc⟩ := HI.out.get HN.out (by omega)
      have HC := Lib.hid hc
      obtain ⟨c1, c2⟩ := hc k hlt
      have HO := Lib.hid (okAt_eq l k)
      have HBad := Lib.hid (fun h => may_bad (l := l) (k := k) (by rw [← HN.out]; exact hlt) h)
      have HP := Lib.hid (show okAt l k = true → ∀ j, j < k + 1 → okAt l j = true from fun h j hj => by
        by_cases e : j = k
        · subst e; exact h
        · exact hp.out j (by omega))
      have HNk := Lib.hid (HNm.out k hlt)
      obtain ⟨t, ht⟩ : ∃ t, t = (l.getD k default).t := ⟨_, rfl⟩
      obtain ⟨z, hz⟩ : ∃ z, z = (l.getD k default).z := ⟨_, rfl⟩
      rw [← ht] at c1 HO HNk
      rw [← hz] at c2 HO
      have HT := Lib.hid ht
      clear ht hz hc
      cases g1 : nameB t with
      | false =>
        have HR := Lib.hid (show x = false by rw [HX.out]; exact HBad.out (by rw [HO.out, g1]; rfl))
        rw [g1] at HNk
        go_wp2_with fail
        refine (HNk.out _).mono ?_
        rintro e w1 ⟨rfl, rfl⟩
        go_wp2
        go_ret
        exact ⟨by rw [HR.out]; rfl, hw.out⟩
      | true =>
        rw [g1] at HNk
        by_cases g2 : z < 0
        · have d3 : decide (z < 0) = true := by rw [decide_eq_true_iff]; exact g2
          have HR := Lib.hid (show x = false by rw [HX.out]; exact HBad.out (by rw [HO.out, g1, show decide (0 ≤ z) = false by rw [decide_eq_false_iff_not]; omega]; rfl))
          go_wp2_with fail
          refine (HNk.out _).mono ?_
          rintro e w1 ⟨rfl, rfl⟩
          go_wp2
          go_ret
          exact ⟨by rw [HR.out]; rfl, hw.out⟩
        · have d3 : decide (z < 0) = false := by rw [decide_eq_false_iff_not]; exact g2
          by_cases g3 : 1099511627776 < z
          · have d4 : decide (1099511627776 < z) = true := by rw [decide_eq_true_iff]; exact g3
            have HR := Lib.hid (show x = false by rw [HX.out]; exact HBad.out (by rw [HO.out, g1, show decide (z ≤ 1099511627776) = false by rw [decide_eq_false_iff_not]; omega]; simp))
            go_wp2_with fail
            refine (HNk.out _).mono ?_
            rintro e w1 ⟨rfl, rfl⟩
            go_wp2
            go_ret
            exact ⟨by rw [HR.out]; rfl, hw.out⟩
          · have d4 : decide (1099511627776 < z) = false := by rw [decide_eq_false_iff_not]; exact g3
            have HQ := Lib.hid (show seen l k t = false → ∀ j, j < k + 1 → okAt l j = true from fun g4 => HP.out (by rw [HO.out, g1, g4, show decide (0 ≤ z) = true by rw [decide_eq_true_iff]; omega, show decide (z ≤ 1099511627776) = true by rw [decide_eq_true_iff]; omega]; rfl))
            have HQ2 := Lib.hid (show seen l k t = true → x = false from fun g4 => by rw [HX.out]; exact HBad.out (by rw [HO.out, g1, g4]; simp))
            have HC1 := Lib.hid c1
            go_wp2_with fail
            refine (HNk.out _).mono ?_
            rintro e w1 ⟨rfl, rfl⟩
            go_wp2_with fail
            go_loopw [4] (fun i ws => ∃ j : Nat, j ≤ k ∧ i = .int .i64 (j : Int) ∧ Hid (∀ i, i < j → (l.getD i default).t ≠ t) ∧ Hid (∃ q, ws = w1.drewN q)) (fun i _ => k - (intOf i).toNat)
            case atStart => exact ⟨0, Nat.zero_le _, rfl, Lib.hid (fun j hj => by omega), Lib.hid ⟨0, rfl⟩⟩
            case round =>
              clear c1 c2
              obtain ⟨j, hj, rfl, hq, hv⟩ := hrel
              have HWF := Lib.hid (show ∃ q, wr = w.drewN q by obtain ⟨q, e⟩ := hw.out; obtain ⟨q2, e2⟩ := hv.out; exact ⟨q + q2, by rw [e2, e, World.drewN_drewN]⟩)
              by_cases hltj : j < k
              · have l2 : (j : Int) < (k : Int) := by omega
                have l3 : (0 : Int) ≤ (j : Int) := by omega
                have l4 : (j : Int) < (n : Int) := by omega
                obtain ⟨e1, -⟩ := HC.out j (by omega)
                have c1 : wr.cell? ⟨bl, off + k * 2, none⟩ = some (.string t) := by obtain ⟨q2, e2⟩ := hv.out; rw [e2]; exact HC1.out
                have e1 : wr.cell? ⟨bl, off + j * 2, none⟩ = some (.string (l.getD j default).t) := by obtain ⟨q2, e2⟩ := hv.out; rw [e2]; exact e1
                obtain ⟨u, hu⟩ : ∃ u, u = (l.getD j default).t := ⟨_, rfl⟩
                rw [← hu] at e1
                have HU := Lib.hid hu
                clear hu
                by_cases he : u = t
                · have b1 : (u.toList == t.toList) = true := (Lib.bytes_beq_iff _ _).2 he
                  have HR := Lib.hid (HQ2.out (seen_true (by rw [← HN.out]; exact hk) hltj (by rw [← HU.out]; exact he)))
                  clear he
                  go_wp2_with fail
                  go_quiet (fail)
                  go_wp2
                  go_ret
                  exact ⟨by rw [HR.out]; rfl, by obtain ⟨q, e⟩ := HWF.out; exact ⟨_, by rw [e, World.drewN_drewN]⟩⟩
                · have b1 : (u.toList == t.toList) = false := (Lib.bytes_beq_false_iff _ _).2 he
                  have HJ := Lib.hid (show ∀ i, i < j + 1 → (l.getD i default).t ≠ t from fun i hi => by
                    by_cases e : i = j
                    · subst e; rw [← HU.out]; exact he
                    · exact hq.out i (by omega))
                  clear he
                  go_wp2_with fail
                  go_quiet (fail)
                  go_wp2
                  go_roundw
                  case rel => exact ⟨j + 1, by omega, by go_num, HJ, Lib.hid (by obtain ⟨q, e⟩ := hv.out; exact ⟨_, by rw [e, World.drewN_drewN]⟩)⟩
                  case measure => simp [intOf]; omega
              · obtain rfl : j = k := by omega
                have HQ3 := Lib.hid (HQ.out (seen_false (by rw [← HN.out]; exact hk) hq.out))
                go_wp2
                go_roundw
                case rel => exact ⟨j + 1, by omega, by go_num, HQ3, HWF⟩
                case measure => simp [intOf]; omega
    · obtain rfl : k = n := by omega
      by_cases h1 : k < 1
      · have d1 : decide ((1 : Int) ≤ (k : Int)) = false := by rw [decide_eq_false_iff_not]; omega
        have HR := Lib.hid (show x = false by rw [HX.out, Bool.eq_false_iff]; intro hm; have := (may_iff l).1 hm; have := HN.out; omega)
        go_wp2
        go_ret
        exact ⟨by rw [HR.out]; rfl, hw.out⟩
      · have d1 : decide ((1 : Int) ≤ (k : Int)) = true := by rw [decide_eq_true_iff]; omega
        have d2 : decide ((k : Int) ≤ 4096) = true := by rw [decide_eq_true_iff]; omega
        have HR := Lib.hid (show x = true by rw [HX.out, may_iff]; exact ⟨by rw [← HN.out]; omega, by rw [← HN.out]; omega, fun j hj => hp.out j (by rw [HN.out]; exact hj)⟩)
        go_wp2
        go_ret
        exact ⟨by rw [HR.out]; rfl, hw.out⟩

set_option maxHeartbeats 4000000 in
theorem rweights_any (ao : Option Addr) (n cap : Nat) (l : List In1) (w : World) (h : Ins w (.slice ao n cap) l) (hn : n = l.length) (h31 : n ≤ 31) :
    Calls Try.prog 33 #[.slice ao n cap] w fun e w' => ∃ a c, e = .returned (.slice a n c) ∧ Ints w' (.slice a n c) (valsL l) ∧ Below w.heap.size w w' := by
  obtain ⟨i0, hi, hz0, hz1, hz2⟩ := info_parts Try.infoI64
  have H := Lib.hid h
  have HN := Lib.hid hn
  clear h hn
  go_enter Try.func33, Try.ntmps33
  have HO0 := Lib.hid (show (w.alloc (.cells #[] 2)).ownsRow w.heap.size 2 1 (.slice (some ⟨w.heap.size, 0, none⟩) 0 0) 0 (((valsL l).take 0).map (Value.int .i64)) from own_lit w _ 0 #[] (by unfold maxLen; omega) rfl)
  have HB0 := Lib.hid ((Below.refl w.heap.size w).alloc (Nat.le_refl _) (.cells #[] 2))
  go_wp2_with fail
  go_loopw [3, 4] (fun s i wr => ∃ (k : Nat) (v : Value), k ≤ n ∧ i = .int .i64 (k : Int) ∧ s = v ∧ Hid (wr.ownsRow w.heap.size 2 1 v k (((valsL l).take k).map (Value.int .i64))) ∧ Hid (Below w.heap.size w wr)) (fun _ i _ => n - (intOf i).toNat)
  case atStart => exact ⟨0, _, Nat.zero_le _, rfl, rfl, HO0, HB0⟩
  case round =>
    clear HO0 HB0
    obtain ⟨k, v, hk, rfl, rfl, ho, hbl⟩ := hrel
    by_cases hlt : k < n
    · have l1 : (k : Int) < (n : Int) := by omega
      have l0 : (0 : Int) ≤ (k : Int) := by omega
      obtain ⟨bl, off, rfl, hbl0, hc⟩ := H.out.get HN.out (by omega)
      obtain ⟨-, c2⟩ := hc k hlt
      have c2 : wr.cell? ⟨bl, off + k * 2 + 1, none⟩ = some (.int .i64 (l.getD k default).z) := by rw [hbl.out.cell (by show bl < _; omega)]; exact c2
      rw [← vals_get] at c2
      have hkv : k < (valsL l).length := by rw [vals_len, ← HN.out]; exact hlt
      have HTk := Lib.hid (show ((valsL l).take (k + 1)).map (Value.int .i64) = ((valsL l).take k).map (Value.int .i64) ++ [.int .i64 ((valsL l).getD k 0)] by
        rw [List.take_succ_eq_append_getElem hkv, List.getD_eq_getElem?_getD, List.getElem?_eq_getElem hkv, List.map_append]
        rfl)
      generalize (valsL l).getD k 0 = y at *
      clear hc hkv
      go_wp2_with (at_builtin; refine wp_app rfl (.tmp 12) (.tmp 18) 23 rfl w.heap.size 2 i0 (.int .i64 0) 1 8 Try.underlying23 hi hz0 hz1 hz2 rfl (by decide) _ _ _ rfl ho.out hbl.out (Nat.le_refl _) hbl.out.size #[.int .i64 y] _ (by first | rfl | (simp; done)) rfl rfl (one_int _ _) (by unfold maxLen; omega) (by omega) ?_; intro v1 w2 hown hb1 _; have HO1 := Lib.hid hown; have HB1 := Lib.hid hb1; clear hown hb1)
      go_roundw
      case rel => exact ⟨k + 1, v1, by omega, by go_num, rfl, Lib.hid (by rw [HTk.out]; exact HO1.out), HB1⟩
      case measure => simp [intOf]; omega
    · obtain rfl : k = n := by omega
      obtain ⟨ao2, cap2, rfl⟩ := own_shape ho.out
      have HInt := Lib.hid (show Ints wr (.slice ao2 k cap2) (valsL l) by
        have hrow := Row.of_own ho.out
        rw [List.take_of_length_le (by rw [vals_len, ← HN.out]; exact Nat.le_refl _)] at hrow
        unfold Ints
        rw [vals_len, ← HN.out]
        exact hrow)
      go_wp2
      go_ret
      exact ⟨ao2, cap2, rfl, HInt.out, hbl.out⟩

set_option maxHeartbeats 2000000 in
theorem rsum_any (bo : Option Addr) (m cap2 : Nat) (g : List Int) (w : World) (h2 : Ints w (.slice bo m cap2) g) (hm : m = g.length) (h40 : m ≤ 4096) (hg : ∀ z ∈ g, 0 ≤ z ∧ z ≤ 1099511627776) :
    Calls Try.prog 32 #[.slice bo m cap2] w fun e w' => e = .returned (.int .i64 g.sum) ∧ w' = w := by
  obtain ⟨S, hS⟩ : ∃ S, S = g.sum := ⟨_, rfl⟩
  rw [← hS]
  have HS := Lib.hid hS
  have H2 := Lib.hid h2
  have HM := Lib.hid hm
  have HG := Lib.hid (fun k => itake_bd hg k)
  clear h2 hg hS hm
  have HZ := Lib.hid (show (0 : Int) = (g.take 0).sum by simp)
  go_enter Try.func32, Try.ntmps32
  go_wp2
  go_loopw [3, 4] (fun s i wr => ∃ k : Nat, k ≤ m ∧ s = .int .i64 (g.take k).sum ∧ i = .int .i64 (k : Int) ∧ Hid (wr = w)) (fun _ i _ => m - (intOf i).toNat)
  case atStart => exact ⟨0, Nat.zero_le _, by rw [← HZ.out], rfl, Lib.hid rfl⟩
  case round =>
    obtain ⟨k, hk, rfl, rfl, hw⟩ := hrel
    by_cases hlt : k < m
    · have l1 : (k : Int) < (m : Int) := by omega
      have l0 : (0 : Int) ≤ (k : Int) := by omega
      have hwe := hw.out
      subst hwe
      obtain ⟨bg, og, rfl, hbg, hc2⟩ := H2.out.get HM.out (by omega)
      have c3 := hc2 k hlt
      have HT := Lib.hid (itake_step (zs := g) (k := k) (by rw [← HM.out]; exact hlt))
      have hb1 := HG.out (k + 1)
      rw [← HT.out, ← HM.out] at hb1
      have v1 : IntKind.i64.wrap ((g.take k).sum + g.getD k 0) = (g.take k).sum + g.getD k 0 := IntWalk.i64_in _ (by omega)
      clear hc2
      generalize g.getD k 0 = y at *
      generalize (g.take k).sum = s at *
      go_wp2
      go_roundw
      case rel => exact ⟨k + 1, by omega, by rw [← HT.out], by go_num, Lib.hid (by trivial)⟩
      case measure => simp [intOf]; omega
    · obtain rfl : k = m := by omega
      have HE := Lib.hid (show (g.take k).sum = S by rw [HS.out, List.take_of_length_le (by rw [← HM.out]; exact Nat.le_refl _)])
      go_wp2
      go_ret
      exact ⟨by rw [← HE.out]; rfl, hw.out⟩

theorem drew_below {w w' : World} (h : ∃ q, w' = w.drewN q) : Below w.heap.size w w' := by
  obtain ⟨q, rfl⟩ := h
  exact below_drewN (Below.refl _ _) q

set_option maxHeartbeats 4000000 in
theorem radj_bad (lost : Int) (ao : Option Addr) (n cap : Nat) (l : List In1) (w : World) (h : Ins w (.slice ao n cap) l) (hn : n = l.length) (hf : fewB l = true) (hw : adjN lost l ≠ 0) :
    Calls Try.prog 20 #[.int .i64 lost, .slice ao n cap] w fun e w' => e = .returned (.tuple #[.slice none 0 0, .int .i64 (adjN lost l)]) ∧ Below w.heap.size w w' := by
  obtain ⟨r, hr⟩ : ∃ r, r = adjN lost l := ⟨_, rfl⟩
  rw [← hr] at hw ⊢
  unfold adjN at hr
  have h31 : n ≤ 31 := by rw [hn]; exact ((few_iff l).1 hf).1
  have H := Lib.hid h
  have HN := Lib.hid hn
  have HMay := Lib.hid (rmay_any ao n cap l w h hn hf)
  have HV := Lib.hid (fun w h => rweights_any ao n cap l w h hn h31)
  clear h hf
  cases hm : mayB l with
  | false =>
    rw [if_pos (.inl hm)] at hr
    subst hr
    rw [hm] at HMay
    clear hm hn
    go_enter Try.func20, Try.ntmps20
    go_wp2_with fail
    refine HMay.out.mono ?_
    rintro e w1 ⟨rfl, hb⟩
    have HB := Lib.hid (drew_below hb)
    clear hb
    go_wp2
    go_ret2
    exact ⟨rfl, HB.out⟩
  | true =>
    rw [hm] at HMay
    by_cases c1 : lost < 0
    · rw [if_pos (.inr c1)] at hr
      subst hr
      have d1 : decide (lost < 0) = true := by simpa using c1
      clear hm hn
      go_enter Try.func20, Try.ntmps20
      go_wp2_with fail
      refine HMay.out.mono ?_
      rintro e w1 ⟨rfl, hb⟩
      have HB := Lib.hid (drew_below hb)
      clear hb
      go_wp2
      go_ret2
      exact ⟨rfl, HB.out⟩
    · rw [if_neg (by simp [hm]; omega)] at hr
      have d1 : decide (lost < 0) = false := by simpa using c1
      have HSu := Lib.hid (fun a c w (hb : Ints w (.slice a n c) (valsL l)) => rsum_any a n c (valsL l) w hb (by rw [vals_len, hn]) (by omega) (may_vals hm))
      by_cases c2 : (valsL l).sum < lost
      · rw [if_pos c2] at hr
        subst hr
        have d2 : decide ((valsL l).sum < lost) = true := by simpa using c2
        clear hm hn
        generalize (valsL l).sum = S at *
        go_enter Try.func20, Try.ntmps20
        go_wp2_with fail
        refine HMay.out.mono ?_
        rintro e w1 ⟨rfl, hb⟩
        have HB := Lib.hid (drew_below hb)
        clear hb
        go_wp2_with fail
        refine (HV.out _ (H.out.below HB.out)).mono ?_
        rintro e w2 ⟨a, c, rfl, hk, hb⟩
        have HB2 := Lib.hid (bt HB.out hb)
        have HK := Lib.hid hk
        clear hb hk
        go_wp2_with fail
        refine (HSu.out _ _ _ HK.out).mono ?_
        rintro e w3 ⟨rfl, rfl⟩
        go_wp2
        go_ret2
        exact ⟨rfl, HB2.out⟩
      · rw [if_neg c2] at hr
        have d2 : decide ((valsL l).sum < lost) = false := by simpa using c2
        have HEr := Lib.hid (fun a c w (hb : Ints w (.slice a n c) (valsL l)) => error_any lost a n c (valsL l) w hb (by rw [vals_len, hn]))
        rw [← hr] at HEr
        have d3 : (r == 0) = false := by rw [beq_eq_false_iff_ne]; exact hw
        have d4 : (r != 0) = true := by simp [bne, d3]
        clear hm hr hw hn
        generalize (valsL l).sum = S at *
        go_enter Try.func20, Try.ntmps20
        go_wp2_with fail
        refine HMay.out.mono ?_
        rintro e w1 ⟨rfl, hb⟩
        have HB := Lib.hid (drew_below hb)
        clear hb
        go_wp2_with fail
        refine (HV.out _ (H.out.below HB.out)).mono ?_
        rintro e w2 ⟨a, c, rfl, hk, hb⟩
        have HB2 := Lib.hid (bt HB.out hb)
        have HK := Lib.hid hk
        clear hb hk
        go_wp2_with fail
        refine (HSu.out _ _ _ HK.out).mono ?_
        rintro e w3 ⟨rfl, rfl⟩
        go_wp2_with fail
        refine (HV.out _ (H.out.below HB2.out)).mono ?_
        rintro e w3 ⟨a3, c3, rfl, hk, hb⟩
        have HB3 := Lib.hid (bt HB2.out hb)
        have HK3 := Lib.hid hk
        clear hb hk
        go_wp2_with fail
        refine (HEr.out _ _ _ HK3.out).mono ?_
        rintro e w4 ⟨rfl, rfl⟩
        go_wp2
        go_ret2
        exact ⟨rfl, HB3.out⟩

set_option maxHeartbeats 4000000 in
theorem radj_any (T : Nat) (W : List Nat) (ao : Option Addr) (n cap : Nat) (l : List In1) (w : World) (h : Ins w (.slice ao n cap) l) (hn : n = l.length) (hf : fewB l = true) (hw : adjN T l = 0) (hW : valsL l = natI W) :
    Calls Try.prog 20 #[.int .i64 (T : Int), .slice ao n cap] w fun e w' => ∃ b out, e = .returned (.tuple #[.slice (some ⟨b, 0, none⟩) n n, .int .i64 0]) ∧ IsSplit T W out ∧ Blk w' b (natI out) ∧ w.heap.size ≤ b ∧ Below w.heap.size w w' := by
  obtain ⟨hm, h0, hS, hwr⟩ := adj_ok hw
  have h31 : n ≤ 31 := by rw [hn]; exact ((few_iff l).1 hf).1
  have H := Lib.hid h
  have HMay := Lib.hid (rmay_any ao n cap l w h hn hf)
  rw [hm] at HMay
  have HV := Lib.hid (fun w h => rweights_any ao n cap l w h hn h31)
  have d1 : decide ((T : Int) < 0) = false := by rw [decide_eq_false_iff_not]; omega
  have HSu := Lib.hid (fun a c w (hb : Ints w (.slice a n c) (valsL l)) => rsum_any a n c (valsL l) w hb (by rw [vals_len, hn]) (by omega) (may_vals hm))
  have HEr := Lib.hid (fun a c w (hb : Ints w (.slice a n c) (valsL l)) => error_any T a n c (valsL l) w hb (by rw [vals_len, hn]))
  rw [hwr] at HEr
  have hWl : W.length = n := by have := congrArg List.length hW; rw [vals_len] at this; simp [natI] at this; omega
  have HSp := Lib.hid (fun a c w (hb : Ints w (.slice a n c) (valsL l)) => refsplit_any T a n c W w (by rw [← hW]; exact hb) hWl.symm (by rw [← hW]; exact hwr))
  have d2 : decide ((valsL l).sum < (T : Int)) = false := by rw [decide_eq_false_iff_not]; omega
  have HWl := Lib.hid hWl
  clear hm hw hwr h0 hS hW hn h hf hWl
  generalize (valsL l).sum = S at *
  go_enter Try.func20, Try.ntmps20
  go_wp2_with fail
  refine HMay.out.mono ?_
  rintro e w1 ⟨rfl, hb⟩
  have HB := Lib.hid (drew_below hb)
  clear hb
  go_wp2_with fail
  refine (HV.out _ (H.out.below HB.out)).mono ?_
  rintro e w2 ⟨a, c, rfl, hk, hb⟩
  have HB2 := Lib.hid (bt HB.out hb)
  have HK := Lib.hid hk
  clear hb hk
  go_wp2_with fail
  refine (HSu.out _ _ _ HK.out).mono ?_
  rintro e w3 ⟨rfl, rfl⟩
  go_wp2_with fail
  refine (HV.out _ (H.out.below HB2.out)).mono ?_
  rintro e w3 ⟨a3, c3, rfl, hk, hb⟩
  have HB3 := Lib.hid (bt HB2.out hb)
  have HK3 := Lib.hid hk
  clear hb hk
  go_wp2_with fail
  refine (HEr.out _ _ _ HK3.out).mono ?_
  rintro e w4 ⟨rfl, rfl⟩
  go_wp2_with fail
  refine (HV.out _ (H.out.below HB3.out)).mono ?_
  rintro e w5 ⟨a5, c5, rfl, hk, hb⟩
  have HB5 := Lib.hid (bt HB3.out hb)
  have HK5 := Lib.hid hk
  clear hb hk
  go_wp2_with fail
  refine (HSp.out _ _ _ HK5.out).mono ?_
  intro e w6 hpost
  unfold RefPost at hpost
  obtain ⟨u, out, rfl, hs, hp, hb⟩ := hpost
  obtain ⟨b2, rfl, hk2, hlo⟩ := hp.blk
  rw [hs.len, HWl.out]
  have HB6 := Lib.hid (bt HB5.out hb)
  have HQ := Lib.hid (And.intro hs (And.intro hk2 (Nat.le_trans HB5.out.size hlo)))
  clear hs hp hb hk2 hlo
  go_wp2
  go_ret2
  exact ⟨b2, out, rfl, HQ.out.1, HQ.out.2.1, HQ.out.2.2, HB6.out⟩
end Go.Proofs.Ytoaopgamfndfgaa
