/-
  AverageFair.
-/
import Derived.Test.YtoaopgamfndfgaaLawSums
import Derived.Test.YtoaopgamfndfgaaGrows
import Derived.BigQuiet
namespace Go.Proofs.Ytoaopgamfndfgaa
open Go Go.RowKit
set_option linter.unusedVariables false
set_option linter.unusedSimpArgs false

theorem split_cap {T : Nat} {W out : List Nat} (h : IsSplit T W out) (hS : 0 < T → 0 < W.sum) (hT : T ≤ W.sum) {i : Nat} (hi : i < W.length) : out.getD i 0 ≤ W.getD i 0 := by
  rcases Nat.eq_zero_or_pos W.sum with h0 | h0
  · have := split_le h hS i
    omega
  · have h1 := split_near h h0 hi
    have h2 : T * W.getD i 0 ≤ W.sum * W.getD i 0 := Nat.mul_le_mul_right _ hT
    have h3 : T * W.getD i 0 / W.sum ≤ W.getD i 0 := Nat.div_le_of_le_mul h2
    rcases h1 with h1 | ⟨h1, h4⟩
    · omega
    · have h5 := Nat.div_add_mod (T * W.getD i 0) W.sum
      have h6 : W.sum * (T * W.getD i 0 / W.sum) < W.sum * W.getD i 0 := by omega
      have := Nat.lt_of_mul_lt_mul_left h6
      omega
theorem split_alike {T : Nat} {W out : List Nat} (h : IsSplit T W out) {i k : Nat} (hi : i < W.length) (hk : k < W.length) (e : W.getD i 0 = W.getD k 0) : out.getD i 0 ≤ out.getD k 0 + 1 ∧ out.getD k 0 ≤ out.getD i 0 + 1 := by
  rcases Nat.lt_trichotomy i k with g | g | g
  · have := grows_eq h hk hi g e.symm; omega
  · subst g; omega
  · have := grows_eq h hi hk g e; omega

namespace averageFair
set_option maxRecDepth 100000 in
set_option maxHeartbeats 2000000 in
theorem skip (ao bo : Option Addr) (n cap m cap2 : Nat) (l : List In1) (S i k : Int) (w : World) (h : Ins w (.slice ao n cap) l) (hn : n = l.length) (hwf : ∀ o ∈ l, o.wf) (hcap : n ≤ maxLen) (hf : (fewB l && decide (m ≤ 60)) = false ∨ i < 0 ∨ (n : Int) ≤ i ∨ k < 0 ∨ (n : Int) ≤ k) :
    Calls Try.prog 8 #[.slice ao n cap, .slice bo m cap2, .int .i64 S, .int .i64 i, .int .i64 k] w fun e w' => e = .returned (.bool true) ∧ Below w.heap.size w w' := by
  have HF := Lib.hid (fun w h => few_any ao bo n cap m cap2 l w h hn hwf hcap)
  have H := Lib.hid h
  obtain ⟨x, hx⟩ : ∃ x, x = (fewB l && decide (m ≤ 60)) := ⟨_, rfl⟩
  rw [← hx] at HF hf
  clear h hn hwf hcap hx
  have key : x = false ∨ (x = true ∧ decide (i < 0) = true) ∨ (x = true ∧ decide (i < 0) = false ∧ decide ((n : Int) ≤ i) = true) ∨ (x = true ∧ decide (i < 0) = false ∧ decide ((n : Int) ≤ i) = false ∧ decide (k < 0) = true) ∨ (x = true ∧ decide (i < 0) = false ∧ decide ((n : Int) ≤ i) = false ∧ decide (k < 0) = false ∧ decide ((n : Int) ≤ k) = true) := by
    simp only [decide_eq_true_eq, decide_eq_false_iff_not]
    cases x <;> simp at hf ⊢ <;> omega
  clear hf
  rcases key with rfl | ⟨rfl, d1⟩ | ⟨rfl, d1, d2⟩ | ⟨rfl, d1, d2, d3⟩ | ⟨rfl, d1, d2, d3, d4⟩
  all_goals
    go_enter Try.func8, Try.ntmps8
    go_wp2_with fail
    refine (awake43_any _).mono ?_
    rintro e w1 ⟨rfl, hb1⟩
    have HB1 := Lib.hid hb1
    clear hb1
    go_wp2_with fail
    refine (HF.out _ (H.out.below HB1.out)).mono ?_
    rintro e w2 ⟨rfl, rfl⟩
    go_wp2
    go_ret
    exact ⟨rfl, HB1.out⟩

set_option maxRecDepth 100000 in
set_option maxHeartbeats 2000000 in
theorem bad (ao bo : Option Addr) (n cap m cap2 : Nat) (l : List In1) (g : List Int) (S : Int) (i k : Int) (w : World) (h : Ins w (.slice ao n cap) l) (hn : n = l.length) (h2 : Ints w (.slice bo m cap2) g) (hm : m = g.length) (hwf : ∀ o ∈ l, o.wf) (hcap : n ≤ maxLen) (hf : (fewB l && decide (m ≤ 60)) = true) (hw : wholeN l g S ≠ 0)
    (hi : ¬ (i < 0 ∨ (n : Int) ≤ i ∨ k < 0 ∨ (n : Int) ≤ k)) :
    Calls Try.prog 8 #[.slice ao n cap, .slice bo m cap2, .int .i64 S, .int .i64 i, .int .i64 k] w fun e w' => e = .returned (.bool true) ∧ Below w.heap.size w w' := by
  have d1 : decide (i < 0) = false := by rw [decide_eq_false_iff_not]; omega
  have d2 : decide ((n : Int) ≤ i) = false := by rw [decide_eq_false_iff_not]; omega
  have d3 : decide (k < 0) = false := by rw [decide_eq_false_iff_not]; omega
  have d4 : decide ((n : Int) ≤ k) = false := by rw [decide_eq_false_iff_not]; omega
  have HF := Lib.hid (fun w h => few_any ao bo n cap m cap2 l w h hn hwf hcap)
  rw [hf] at HF
  have HW := Lib.hid (fun w h h2 => whole_bad ao bo n cap m cap2 l g S w h hn h2 hm hw)
  have H := Lib.hid h
  have H2 := Lib.hid h2
  obtain ⟨r, hr⟩ : ∃ r, r = wholeN l g S := ⟨_, rfl⟩
  rw [← hr] at HW hw
  have d5 : (r == 0) = false := by rw [beq_eq_false_iff_ne]; exact hw
  have d6 : (r != 0) = true := by simp [bne, d5]
  by_cases hv : mayB l = true ∧ goneB l g = true
  · have e1 : m = n := by rw [hm, hn]; exact ((gone_iff l g).1 hv.2).1
    subst e1
    have HV := Lib.hid (fun w h h2 => vals_any ao bo m cap cap2 l g w h hn h2 hv.1 hv.2)
    clear h hn hwf hcap hf h2 hm hw hr hv hi
    go_enter Try.func8, Try.ntmps8
    go_wp2_with fail
    refine (awake43_any _).mono ?_
    rintro e w1 ⟨rfl, hb1⟩
    have HB1 := Lib.hid hb1
    clear hb1
    go_wp2_with fail
    refine (HF.out _ (H.out.below HB1.out)).mono ?_
    rintro e w2 ⟨rfl, rfl⟩
    go_wp2_with fail
    refine (HV.out _ (H.out.below HB1.out) (H2.out.below HB1.out)).mono ?_
    rintro e w2 ⟨b, rfl, -, -, hb⟩
    have HB2 := Lib.hid (bt HB1.out hb)
    clear hb
    go_wp2_with fail
    refine (HW.out _ (H.out.below HB2.out) (H2.out.below HB2.out)).mono ?_
    rintro e w3 ⟨rfl, hb⟩
    have HB3 := Lib.hid (bt HB2.out hb)
    clear hb
    go_wp2
    go_ret
    exact ⟨rfl, HB3.out⟩
  · have HV := Lib.hid (fun w h h2 => vals_bad ao bo n cap m cap2 l g w h hn h2 hm hv)
    have hr1 : r = 1 := by
      rw [hr]
      unfold wholeN
      rw [if_pos]
      cases c1 : mayB l with
      | false => exact .inl rfl
      | true =>
        cases c2 : goneB l g with
        | false => exact .inr (.inl rfl)
        | true => exact absurd ⟨c1, c2⟩ hv
    subst hr1
    clear h hn hwf hcap hf h2 hm hw hr hv hi d5 d6
    go_enter Try.func8, Try.ntmps8
    go_wp2_with fail
    refine (awake43_any _).mono ?_
    rintro e w1 ⟨rfl, hb1⟩
    have HB1 := Lib.hid hb1
    clear hb1
    go_wp2_with fail
    refine (HF.out _ (H.out.below HB1.out)).mono ?_
    rintro e w2 ⟨rfl, rfl⟩
    go_wp2_with fail
    refine (HV.out _ (H.out.below HB1.out) (H2.out.below HB1.out)).mono ?_
    rintro e w2 ⟨rfl, hb⟩
    have HB2 := Lib.hid (bt HB1.out hb)
    clear hb
    go_wp2_with fail
    refine (HW.out _ (H.out.below HB2.out) (H2.out.below HB2.out)).mono ?_
    rintro e w3 ⟨rfl, hb⟩
    have HB3 := Lib.hid (bt HB2.out hb)
    clear hb
    go_wp2
    go_ret
    exact ⟨rfl, HB3.out⟩

set_option maxRecDepth 100000 in
set_option maxHeartbeats 8000000 in
theorem core (T : Nat) (W : List Nat) (ao bo : Option Addr) (n cap cap2 : Nat) (l : List In1) (g : List Int) (S : Int) (i k : Nat) (w : World) (h : Ins w (.slice ao n cap) l) (hn : n = l.length) (h2 : Ints w (.slice bo n cap2) g) (hwf : ∀ o ∈ l, o.wf) (hcap : n ≤ maxLen) (hf : (fewB l && decide (n ≤ 60)) = true) (hw : WholeOk l g S T W) (hi : i < n) (hk : k < n) :
    Calls Try.prog 8 #[.slice ao n cap, .slice bo n cap2, .int .i64 S, .int .i64 (i : Int), .int .i64 (k : Int)] w fun e w' => e = .returned (.bool true) ∧ Below w.heap.size w w' := by
  have d1 : decide ((i : Int) < 0) = false := by rw [decide_eq_false_iff_not]; omega
  have d2 : decide ((n : Int) ≤ (i : Int)) = false := by rw [decide_eq_false_iff_not]; omega
  have d2' : decide (n ≤ i) = false := by rw [decide_eq_false_iff_not]; omega
  have d3 : decide ((k : Int) < 0) = false := by rw [decide_eq_false_iff_not]; omega
  have d4 : decide ((n : Int) ≤ (k : Int)) = false := by rw [decide_eq_false_iff_not]; omega
  have d4' : decide (n ≤ k) = false := by rw [decide_eq_false_iff_not]; omega
  have HF := Lib.hid (fun w h => few_any ao bo n cap n cap2 l w h hn hwf hcap)
  rw [hf] at HF
  have HW := Lib.hid (fun w h h2 => whole_any T W ao bo n cap cap2 l g S w h hn h2 hw.ok hw.sum hw.vals)
  have HV := Lib.hid (fun w h h2 => vals_any ao bo n cap cap2 l g w h hn h2 hw.may hw.gone)
  have H := Lib.hid h
  have H2 := Lib.hid h2
  have HN := Lib.hid hn
  have HO := Lib.hid hw
  have HP := Lib.hid (show 0 < n by omega)
  clear h hn hwf hcap hf h2 hw
  go_enter Try.func8, Try.ntmps8
  go_wp2_with fail
  refine (awake43_any _).mono ?_
  rintro e w1 ⟨rfl, hb1⟩
  have HB1 := Lib.hid hb1
  clear hb1
  go_wp2_with fail
  refine (HF.out _ (H.out.below HB1.out)).mono ?_
  rintro e w2 ⟨rfl, rfl⟩
  go_wp2_with fail
  refine (HV.out _ (H.out.below HB1.out) (H2.out.below HB1.out)).mono ?_
  rintro e w2 ⟨bv, rfl, hkv, -, hb⟩
  have HB2 := Lib.hid (bt HB1.out hb)
  have HKV := Lib.hid hkv
  clear hb hkv
  go_wp2_with fail
  refine (HW.out _ (H.out.below HB2.out) (H2.out.below HB2.out)).mono ?_
  rintro e w3 ⟨b1, b2, out, rfl, hs, hk1, hk2, -, -, hb⟩
  have HB3 := Lib.hid (bt HB2.out hb)
  obtain ⟨bl, off, rfl, -, hc0⟩ := (H.out.below HB3.out).get HN.out HP.out
  have hkv := HKV.out.below hb
  have hol : out.length = n := by rw [hs.len, HO.out.wl, HN.out]
  obtain ⟨-, c0⟩ := hc0 i hi
  obtain ⟨-, e0⟩ := hc0 k hk
  rw [val_nat HO.out.vals] at c0 e0
  have c1 := hk1.at (n := n) (k := i) (by simp [natI, hol]) hi
  have e1 := hk1.at (n := n) (k := k) (by simp [natI, hol]) hk
  rw [natI_getD] at c1 e1
  have c2 := hk2.at (n := n) (k := i) (by rw [gets_len, HO.out.gl, HN.out]) hi
  have e2 := hk2.at (n := n) (k := k) (by rw [gets_len, HO.out.gl, HN.out]) hk
  rw [gets_get (by rw [HO.out.gl, ← HN.out]; omega)] at c2 e2
  have c3 := hkv.at (n := n) (k := i) (by rw [leftV_len, HN.out]) hi
  have e3 := hkv.at (n := n) (k := k) (by rw [leftV_len, HN.out]) hk
  rw [leftV_get (by rw [← HN.out]; omega), val_nat HO.out.vals] at c3 e3
  have q1 := split_cap hs HO.out.ss HO.out.ts (i := i) (by rw [HO.out.wl, ← HN.out]; exact hi)
  have q2 := split_cap hs HO.out.ss HO.out.ts (i := k) (by rw [HO.out.wl, ← HN.out]; exact hk)
  have HAl := Lib.hid (split_alike hs (i := i) (k := k) (by rw [HO.out.wl, ← HN.out]; exact hi) (by rw [HO.out.wl, ← HN.out]; exact hk))
  have gd1 := gone_getD HO.out.may HO.out.gone i
  have gd2 := gone_getD HO.out.may HO.out.gone k
  have wd : ∀ j, W.getD j 0 ≤ 1099511627776 := fun j => by
    by_cases hj : j < W.length
    · rw [List.getD_eq_getElem?_getD, List.getElem?_eq_getElem hj]; exact HO.out.wb _ (List.getElem_mem hj)
    · rw [List.getD_eq_getElem?_getD, List.getElem?_eq_none (by omega)]; simp
  have wd1 := wd i
  have wd2 := wd k
  have l1 : (i : Int) < (n : Int) := by omega
  have l2 : (0 : Int) ≤ (i : Int) := by omega
  have l3 : (k : Int) < (n : Int) := by omega
  have l4 : (0 : Int) ≤ (k : Int) := by omega
  generalize W.getD i 0 = x at *
  generalize W.getD k 0 = x' at *
  generalize out.getD i 0 = p at *
  generalize out.getD k 0 = p' at *
  generalize g.getD i 0 = y at *
  generalize g.getD k 0 = y' at *
  obtain ⟨a, ha⟩ : ∃ a : Nat, x = p + a := ⟨x - p, by omega⟩
  obtain ⟨a', ha'⟩ : ∃ a : Nat, x' = p' + a := ⟨x' - p', by omega⟩
  have E1 : IntKind.i64.wrap ((x : Int) - y + (y - (p : Int))) = (a : Int) := i64_eq (by omega) (by omega)
  have E2 : IntKind.i64.wrap ((x' : Int) - y' + (y' - (p' : Int))) = (a' : Int) := i64_eq (by omega) (by omega)
  have E1b : (x : Int) - y + (y - (p : Int)) = (a : Int) := by omega
  have E2b : (x' : Int) - y' + (y' - (p' : Int)) = (a' : Int) := by omega
  have E1c : IntKind.i64.wrap (a : Int) = (a : Int) := IntWalk.i64_in _ (by omega)
  have E2c : IntKind.i64.wrap (a' : Int) = (a' : Int) := IntWalk.i64_in _ (by omega)
  have E3 : IntKind.i64.wrap ((x : Int) - (p : Int)) = (a : Int) := i64_eq (by omega) (by omega)
  have E4 : IntKind.i64.wrap ((x' : Int) - (p' : Int)) = (a' : Int) := i64_eq (by omega) (by omega)
  have E5 : IntKind.i64.wrap ((a : Int) - (a' : Int)) = (a : Int) - (a' : Int) := IntWalk.i64_in _ (by omega)
  have E6 : IntKind.i64.wrap ((a' : Int) - (a : Int)) = (a' : Int) - (a : Int) := IntWalk.i64_in _ (by omega)
  have f1 : ((a : Int) == (a : Int)) = true := by simp
  have f2 : ((a : Int) != (a : Int)) = false := by simp
  have f3 : ((a' : Int) == (a' : Int)) = true := by simp
  have f4 : ((a' : Int) != (a' : Int)) = false := by simp
  have f5 : decide ((a : Int) < 0) = false := by rw [decide_eq_false_iff_not]; omega
  have f6 : decide ((a' : Int) < 0) = false := by rw [decide_eq_false_iff_not]; omega
  have HQ := Lib.hid (show x = x' → decide ((a : Int) - (a' : Int) ≤ 1) = true ∧ decide ((a' : Int) - (a : Int) ≤ 1) = true from fun e => by
    have := HAl.out e
    simp only [decide_eq_true_eq]
    omega)
  have HNE := Lib.hid (show ((x : Int) == (x' : Int)) = true → x = x' from fun e => by rw [beq_iff_eq] at e; omega)
  clear hb hs hk1 hk2 hkv hc0 hol q1 q2 gd1 gd2 wd wd1 wd2 ha ha' HAl
  cases f7 : ((x : Int) == (x' : Int)) with
  | true =>
    have f8 : ((x : Int) != (x' : Int)) = false := by simp [bne, f7]
    obtain ⟨r1, r2⟩ := HQ.out (HNE.out f7)
    go_wp2_with fail
    go_quiet (fail)
    go_wp2_with fail
    go_quiet (fail)
    go_wp2_with fail
    go_quiet (fail)
    go_wp2
    go_ret
    exact ⟨rfl, below_drewN (below_drewN (below_drewN HB3.out _) _) _⟩
  | false =>
    have f8 : ((x : Int) != (x' : Int)) = true := by simp [bne, f7]
    go_wp2_with fail
    go_quiet (fail)
    go_wp2_with fail
    go_quiet (fail)
    go_wp2_with fail
    go_quiet (fail)
    go_wp2
    go_ret
    exact ⟨rfl, below_drewN (below_drewN (below_drewN HB3.out _) _) _⟩

theorem walk (v0 v1 : Value) (a2 a3 a4 : Int) (w : World) (w0 : Is22 w v0) (w1 : Is23 w v1) (w2 : (Lit.int .i64 a2).wf = true) (w3 : (Lit.int .i64 a3).wf = true) (w4 : (Lit.int .i64 a4).wf = true) :
    Calls Try.prog 8 #[v0, v1, .int .i64 a2, .int .i64 a3, .int .i64 a4] w fun e w' => e = .returned (.bool true) ∧ Below w.heap.size w w' := by
  obtain ⟨l, h, hwf⟩ := w0
  obtain ⟨g, h2, _⟩ := w1
  obtain ⟨ao, cap, rfl, hc1, hc2, _⟩ := h.shape
  obtain ⟨bo, cap2, rfl, _⟩ := h2.shape
  by_cases hs : (fewB l && decide (g.length ≤ 60)) = false ∨ a3 < 0 ∨ (l.length : Int) ≤ a3 ∨ a4 < 0 ∨ (l.length : Int) ≤ a4
  · exact skip ao bo _ cap _ cap2 l a2 a3 a4 w h rfl hwf (Nat.le_trans hc1 hc2) hs
  · have hf : (fewB l && decide (g.length ≤ 60)) = true := by
      cases e : (fewB l && decide (g.length ≤ 60))
      · exact absurd (.inl e) hs
      · rfl
    have hi : ¬ (a3 < 0 ∨ (l.length : Int) ≤ a3 ∨ a4 < 0 ∨ (l.length : Int) ≤ a4) := fun e => hs (.inr e)
    by_cases hw : wholeN l g a2 = 0
    · obtain ⟨T, W, ho⟩ := whole_is hw
      have e := ho.gl
      rw [e] at h2 hf ⊢
      obtain ⟨i, rfl⟩ := Int.eq_ofNat_of_zero_le (show 0 ≤ a3 by omega)
      obtain ⟨k, rfl⟩ := Int.eq_ofNat_of_zero_le (show 0 ≤ a4 by omega)
      exact core T W ao bo _ cap cap2 l g a2 i k w h rfl h2 hwf (Nat.le_trans hc1 hc2) hf ho (by omega) (by omega)
    · exact bad ao bo _ cap _ cap2 l g a2 a3 a4 w h rfl h2 rfl hwf (Nat.le_trans hc1 hc2) hf hw hi
end averageFair
end Go.Proofs.Ytoaopgamfndfgaa
