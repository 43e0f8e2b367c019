/-
  AverageOrder. (Printed by tools/gen_order.py.)
-/
import Derived.Test.YtoaopgamfndfgaaLawSums
import Derived.Test.YtoaopgamfndfgaaAppRow
import Derived.Test.YtoaopgamfndfgaaRefPay
import Derived.BigQuiet
namespace Go.Proofs.Ytoaopgamfndfgaa
open Go Go.RowKit
set_option linter.unusedVariables false
set_option linter.unusedSimpArgs false

theorem isum_set : ∀ (g : List Int) (j : Nat) (v : Int), j < g.length → (g.set j v).sum = g.sum - g.getD j 0 + v
  | [], j, v, h => by simp at h
  | x :: g, 0, v, _ => by simp; omega
  | x :: g, j + 1, v, h => by
    have := isum_set g j v (by simpa using h)
    simp only [List.set_cons_succ, List.sum_cons, List.getD_cons_succ, this]
    omega
theorem order_gone {l : List In1} {g : List Int} {j : Nat} {c : Int} (h1 : g.length = l.length) (hj : j < l.length) (h0 : 0 ≤ c) (hc : c ≤ g.getD j 0) (hz : g.getD j 0 ≤ (l.getD j default).z) : goneB l (g.set j (g.getD j 0 - c)) = goneB l g := by
  rw [Bool.eq_iff_iff, gone_iff, gone_iff]
  refine and_congr (by simp) ⟨fun h k hk => ?_, fun h k hk => ?_⟩
  · have := h k hk
    unfold goneAt at this ⊢
    rw [set_getD] at this
    by_cases e : j = k
    · subst e
      simp only [Bool.and_eq_true, decide_eq_true_eq]
      omega
    · rw [if_neg (by omega)] at this
      exact this
  · have := h k hk
    unfold goneAt at this ⊢
    rw [set_getD]
    by_cases e : j = k
    · subst e
      rw [if_pos ⟨rfl, by omega⟩]
      simp only [Bool.and_eq_true, decide_eq_true_eq]
      omega
    · rw [if_neg (by omega)]
      exact this
theorem order_same {l : List In1} {g : List Int} {j : Nat} {c S : Int} (h1 : g.length = l.length) (hj : j < l.length) (h0 : 0 ≤ c) (hc : c ≤ g.getD j 0) (hz : g.getD j 0 ≤ (l.getD j default).z) (hS : 0 ≤ S) (hS2 : S + c ≤ 1099511627776) :
    wholeN l (g.set j (g.getD j 0 - c)) (S + c) = wholeN l g S ∧ (g.set j (g.getD j 0 - c)).sum + (S + c) = g.sum + S := by
  have e := isum_set g j (g.getD j 0 - c) (by omega)
  have e2 : (g.set j (g.getD j 0 - c)).sum + (S + c) = g.sum + S := by omega
  refine ⟨?_, e2⟩
  unfold wholeN
  rw [order_gone h1 hj h0 hc hz, e2]
  congr 1
  simp only [eq_iff_iff]
  have a1 : ¬ S + c < 0 := by omega
  have a2 : ¬ 1099511627776 < S + c := by omega
  have a3 : ¬ S < 0 := by omega
  have a4 : ¬ 1099511627776 < S := by omega
  simp [a1, a2, a3, a4]
theorem whole_no {l : List In1} {g : List Int} {S : Int} (h : mayB l = false ∨ 1099511627776 < S) : wholeN l g S = 1 := by
  unfold wholeN
  rw [if_pos]
  rcases h with h | h
  · exact .inl h
  · exact .inr (.inr (.inr h))

namespace averageOrder
set_option maxRecDepth 100000 in
set_option maxHeartbeats 4000000 in
theorem skip1 (ao bo : Option Addr) (n cap m cap2 : Nat) (l : List In1) (S f c : Int) (w : World) (h : Ins w (.slice ao n cap) l) (hn : n = l.length) (hwf : ∀ o ∈ l, o.wf) (hcap : n ≤ maxLen) (hf : (fewB l && decide (m ≤ 60)) = false ∨ m ≠ n ∨ f < 0 ∨ (m : Int) ≤ f) :
    Calls Try.prog 6 #[.slice ao n cap, .slice bo m cap2, .int .i64 S, .int .i64 f, .int .i64 c] w fun e w' => e = .returned (.bool true) ∧ Below w.heap.size w w' := by
  have HF := Lib.hid (fun w h => few_any ao bo n cap m cap2 l w h hn hwf hcap)
  have H := Lib.hid h
  obtain ⟨x, hx⟩ : ∃ x, x = (fewB l && decide (m ≤ 60)) := ⟨_, rfl⟩
  rw [← hx] at HF hf
  clear h hn hwf hcap hx
  have key : x = false ∨ (x = true ∧ ((m : Int) == (n : Int)) = false ∧ ((m : Int) != (n : Int)) = true) ∨ (x = true ∧ m = n ∧ decide (f < 0) = true) ∨ (x = true ∧ m = n ∧ decide (f < 0) = false ∧ decide ((m : Int) ≤ f) = true) := by
    simp only [decide_eq_true_eq, decide_eq_false_iff_not]
    by_cases e : m = n
    · cases x <;> simp [e] at hf ⊢ <;> omega
    · have e1 : ((m : Int) == (n : Int)) = false := by rw [beq_eq_false_iff_ne]; omega
      have e2 : ((m : Int) != (n : Int)) = true := by simp [bne, e1]
      cases x <;> simp [e1, e2]
  clear hf
  rcases key with rfl | ⟨rfl, d1, d1'⟩ | ⟨rfl, rfl, d2⟩ | ⟨rfl, rfl, d2, d3⟩
  all_goals
    go_enter Try.func6, Try.ntmps6
    go_wp2_with fail
    refine (awake43_any _).mono ?_
    rintro e w1 ⟨rfl, hb1⟩
    have HB1 := Lib.hid hb1
    clear hb1
    have HFq := Lib.hid (fun q => HF.out (w1.drewN q) ((H.out.below HB1.out).drewN q))
    go_wp2_with fail
    go_quiet ((go_at_call 11; exact (HFq.out _).mono fun e w' h => ⟨h.1, ⟨_, h.2⟩⟩))
    go_wp2
    go_ret
    exact ⟨rfl, below_drewN HB1.out _⟩

set_option maxRecDepth 100000 in
set_option maxHeartbeats 8000000 in
theorem skip2 (ao bo : Option Addr) (n cap cap2 : Nat) (l : List In1) (g : List Int) (S c : Int) (j : Nat) (w : World) (h : Ins w (.slice ao n cap) l) (hn : n = l.length) (h2 : Ints w (.slice bo n cap2) g) (hm : n = g.length) (hwf : ∀ o ∈ l, o.wf) (hcap : n ≤ maxLen) (hf : (fewB l && decide (n ≤ 60)) = true) (hj : j < n)
    (hs : (l.getD j default).z < g.getD j 0 ∨ c < 0 ∨ g.getD j 0 < c ∨ S < 0 ∨ 1099511627776 < S) :
    Calls Try.prog 6 #[.slice ao n cap, .slice bo n cap2, .int .i64 S, .int .i64 (j : Int), .int .i64 c] w fun e w' => e = .returned (.bool true) ∧ Below w.heap.size w w' := by
  have HF := Lib.hid (fun w h => few_any ao bo n cap n cap2 l w h hn hwf hcap)
  rw [hf] at HF
  have H := Lib.hid h
  have H2 := Lib.hid h2
  have HN := Lib.hid hn
  have HM := Lib.hid hm
  have d2 : decide ((j : Int) < 0) = false := by rw [decide_eq_false_iff_not]; omega
  have d3 : decide ((n : Int) ≤ (j : Int)) = false := by rw [decide_eq_false_iff_not]; omega
  have d3' : decide (n ≤ j) = false := by rw [decide_eq_false_iff_not]; omega
  have l1 : (j : Int) < (n : Int) := by omega
  have l0 : (0 : Int) ≤ (j : Int) := by omega
  obtain ⟨y, hy⟩ : ∃ y, y = g.getD j 0 := ⟨_, rfl⟩
  obtain ⟨z, hz⟩ : ∃ z, z = (l.getD j default).z := ⟨_, rfl⟩
  rw [← hy, ← hz] at hs
  have HY := Lib.hid hy
  have HZ := Lib.hid hz
  clear h hn h2 hm hwf hcap hf hy hz
  have key : decide (z < y) = true ∨ (decide (z < y) = false ∧ decide (c < 0) = true) ∨ (decide (z < y) = false ∧ decide (c < 0) = false ∧ decide (y < c) = true) ∨ (decide (z < y) = false ∧ decide (c < 0) = false ∧ decide (y < c) = false ∧ decide (S < 0) = true) ∨ (decide (z < y) = false ∧ decide (c < 0) = false ∧ decide (y < c) = false ∧ decide (S < 0) = false ∧ decide (1099511627776 < S) = true) := by
    simp only [decide_eq_true_eq, decide_eq_false_iff_not]
    omega
  clear hs
  rcases key with d4 | ⟨d4, d5⟩ | ⟨d4, d5, d6⟩ | ⟨d4, d5, d6, d7⟩ | ⟨d4, d5, d6, d7, d8⟩
  all_goals
    go_enter Try.func6, Try.ntmps6
    go_wp2_with fail
    refine (awake43_any _).mono ?_
    rintro e w1 ⟨rfl, hb1⟩
    have HB1 := Lib.hid hb1
    obtain ⟨bl, off, rfl, -, hc0⟩ := (H.out.below hb1).get HN.out (by omega)
    obtain ⟨bg, og, rfl, -, hc1⟩ := (H2.out.below hb1).get HM.out (by omega)
    obtain ⟨-, c0⟩ := hc0 j hj
    have c1 := hc1 j hj
    rw [← HZ.out] at c0
    rw [← HY.out] at c1
    clear hb1 hc0 hc1
    have HFq := Lib.hid (fun q => HF.out (w1.drewN q) ((H.out.below HB1.out).drewN q))
    go_wp2_with fail
    go_quiet ((go_at_call 11; exact (HFq.out _).mono fun e w' h => ⟨h.1, ⟨_, h.2⟩⟩))
    go_wp2
    go_ret
    exact ⟨rfl, below_drewN HB1.out _⟩

set_option maxRecDepth 100000 in
set_option maxHeartbeats 8000000 in
theorem coreBB (ao bo : Option Addr) (n cap cap2 : Nat) (l : List In1) (g : List Int) (S c : Int) (j : Nat) (w : World) (h : Ins w (.slice ao n cap) l) (hn : n = l.length) (h2 : Ints w (.slice bo n cap2) g) (hm : n = g.length) (hwf : ∀ o ∈ l, o.wf) (hcap : n ≤ maxLen) (hf : (fewB l && decide (n ≤ 60)) = true) (hj : j < n)
    (hs : ¬ ((l.getD j default).z < g.getD j 0 ∨ c < 0 ∨ g.getD j 0 < c ∨ S < 0 ∨ 1099511627776 < S)) (hyy : g.getD j 0 ≤ 9223372036854775807) (S2 : Int) (hS2 : S2 = IntKind.i64.wrap (S + c)) (hw1 : wholeN l g S ≠ 0) (hw2 : wholeN l (g.set j (g.getD j 0 - c)) S2 ≠ 0) (hk : (1099511627776 < S2 → wholeN l (g.set j (g.getD j 0 - c)) S2 = 1) ∧ (S2 ≤ 1099511627776 → wholeN l g S = wholeN l (g.set j (g.getD j 0 - c)) S2)) :
    Calls Try.prog 6 #[.slice ao n cap, .slice bo n cap2, .int .i64 S, .int .i64 (j : Int), .int .i64 c] w fun e w' => e = .returned (.bool true) ∧ Below w.heap.size w w' := by
  obtain ⟨i0, hi, hz0, hz1, hz2⟩ := info_parts Try.infoI64
  have HF := Lib.hid (fun w h => few_any ao bo n cap n cap2 l w h hn hwf hcap)
  rw [hf] at HF
  have h31 : n ≤ 31 := by
    rw [hn]
    have : fewB l = true := by revert hf; cases fewB l <;> simp
    exact ((few_iff l).1 this).1
  have H := Lib.hid h
  have H2 := Lib.hid h2
  have HN := Lib.hid hn
  have HM := Lib.hid hm
  have d2 : decide ((j : Int) < 0) = false := by rw [decide_eq_false_iff_not]; omega
  have d3 : decide ((n : Int) ≤ (j : Int)) = false := by rw [decide_eq_false_iff_not]; omega
  have d3' : decide (n ≤ j) = false := by rw [decide_eq_false_iff_not]; omega
  have l1 : (j : Int) < (n : Int) := by omega
  have l0 : (0 : Int) ≤ (j : Int) := by omega
  have HWC2 := Lib.hid (show n = (g.set j (g.getD j 0 - c)).length by rw [List.length_set]; exact hm)
  have HW1 := Lib.hid (fun w h h2 => whole_bad ao bo n cap n cap2 l g S w h hn h2 hm hw1)
  have HW2 := Lib.hid (fun gb gc w h h2 => whole_bad ao (some ⟨gb, 0, none⟩) n cap n gc l (g.set j (g.getD j 0 - c)) S2 w h hn h2 HWC2.out hw2)
  have HK := Lib.hid hk
  have HSm := Lib.hid (fun w => same_any (.slice none 0 0) (.slice none 0 0) [] [] w (Ints.nil w) (Ints.nil w))
  rw [show decide (([] : List Int) = []) = true from by simp] at HSm
  generalize wholeN l g S = r1 at *
  generalize wholeN l (g.set j (g.getD j 0 - c)) S2 = r2 at *
  clear hw1 hw2 hk
  obtain ⟨y, hy⟩ : ∃ y, y = g.getD j 0 := ⟨_, rfl⟩
  obtain ⟨z, hz⟩ : ∃ z, z = (l.getD j default).z := ⟨_, rfl⟩
  rw [← hy] at hyy
  rw [← hy, ← hz] at hs
  have HY := Lib.hid hy
  have HZ := Lib.hid hz
  have d4 : decide (z < y) = false := by rw [decide_eq_false_iff_not]; omega
  have d5 : decide (c < 0) = false := by rw [decide_eq_false_iff_not]; omega
  have d6 : decide (y < c) = false := by rw [decide_eq_false_iff_not]; omega
  have d7 : decide (S < 0) = false := by rw [decide_eq_false_iff_not]; omega
  have d8 : decide (1099511627776 < S) = false := by rw [decide_eq_false_iff_not]; omega
  have v1 : IntKind.i64.wrap (y - c) = y - c := IntWalk.i64_in _ (by omega)
  have v2 : IntKind.i64.wrap (S + c) = S2 := hS2.symm
  clear h hn h2 hm hwf hcap hf hy hz hs hS2 hyy
  go_enter Try.func6, Try.ntmps6
  go_wp2_with fail
  refine (awake43_any _).mono ?_
  rintro e w1 ⟨rfl, hb1⟩
  have HB1 := Lib.hid hb1
  obtain ⟨bl, off, rfl, -, hc0⟩ := (H.out.below hb1).get HN.out (by omega)
  obtain ⟨bg, og, rfl, -, hc1⟩ := (H2.out.below hb1).get HM.out (by omega)
  obtain ⟨-, c0⟩ := hc0 j hj
  have c1 := hc1 j hj
  rw [← HZ.out] at c0
  rw [← HY.out] at c1
  clear hb1 hc0 hc1
  have HFq := Lib.hid (fun q => HF.out (w1.drewN q) ((H.out.below HB1.out).drewN q))
  go_wp2_with fail
  go_quiet ((go_at_call 11; exact (HFq.out _).mono fun e w' h => ⟨h.1, ⟨_, h.2⟩⟩))
  have HB2 := Lib.hid (below_drewN HB1.out nq)
  clear c0 c1 HFq
  generalize w1.drewN nq = w2 at *
  have HR2 := Lib.hid ((H2.out.below HB2.out).below ((Below.refl w2.heap.size w2).alloc (Nat.le_refl _) (.cells #[] 2)))
  have hln : g.length = n := HM.out.symm
  have HR2 := Lib.hid (show Row (w2.alloc (.cells #[] 2)) (.slice (some ⟨bg, og, none⟩) n cap2) 1 n (g.map (Value.int .i64)) by have := HR2.out; unfold Ints at this; rwa [hln] at this)
  clear hln
  go_wp2_with (at_builtin; refine wpList_row rfl (.tmp 73) (.tmp 74) 23 rfl 2 i0 (.int .i64 0) 1 8 Try.underlying23 hi hz0 hz1 hz2 rfl (by decide) _ 0 [] rfl (lit0 w2 2 _ rfl) _ n cap2 (g.map (Value.int .i64)) rfl HR2.out (by intro u hu; obtain ⟨x, _, rfl⟩ := List.mem_map.1 hu; rfl) (by unfold maxLen; omega) (by omega) ?_; intro v3 w3 hown ht hlo; have HO3 := Lib.hid hown; have HT3 := Lib.hid ht; have HL3 := Lib.hid hlo; clear hown ht hlo; obtain ⟨gb, gc, rfl, gg1, gg2, gg3, gg4⟩ := own_ints (by have := HO3.out; simpa using this) (show 0 < n by omega); have c3 := (gg3 j hj).1; have f3 := (gg3 j hj).2; have HG4 := Lib.hid (gg4 j (y - c) hj); clear gg1 gg2 gg3 gg4; rw [← HY.out] at c3)
  have HLo := Lib.hid (show w2.heap.size ≤ gb by
    rcases HL3.out gb rfl with e | e
    · cases e; exact Nat.le_refl _
    · simp at e; omega)
  have HB3 := Lib.hid (show Below w2.heap.size w2 (w3.setCell ⟨gb, j, none⟩ (.int .i64 (y - c))) from by
    have b1 := (Below.refl w2.heap.size w2).alloc (Nat.le_refl _) (.cells #[] 2)
    have b2 : Below w2.heap.size (w2.alloc (.cells #[] 2)) w3 := HT3.out.below b1.size (fun x hx => by cases hx; exact Nat.le_refl _)
    exact (b1.trans b2).setCell (p := ⟨gb, j, none⟩) HLo.out _)
  have HI4 := Lib.hid (show Ints (w3.setCell ⟨gb, j, none⟩ (.int .i64 (y - c))) (.slice (some ⟨gb, 0, none⟩) n gc) (g.set j (y - c)) by
    have := Row.of_own HG4.out
    unfold Ints
    rw [List.length_set, HM.out.symm]
    exact this)
  have HB4 := Lib.hid (bt HB2.out HB3.out)
  clear HO3 HT3 HL3 HG4 HLo HB3 HR2 c3 f3
  generalize w3.setCell ⟨gb, j, none⟩ (.int .i64 (y - c)) = w4 at *
  refine (HW1.out _ (H.out.below HB4.out) (H2.out.below HB4.out)).mono ?_
  rintro e w5 ⟨rfl, hb⟩
  have HB5 := Lib.hid (bt HB4.out hb)
  have HI5 := Lib.hid (HI4.out.below hb)
  clear hb
  go_wp2_with fail
  refine (HW2.out _ _ _ (H.out.below HB5.out) (by rw [← HY.out]; exact HI5.out)).mono ?_
  rintro e w6 ⟨rfl, hb⟩
  have HB6 := Lib.hid (bt HB5.out hb)
  clear hb
  by_cases hgt : 1099511627776 < S2
  · have d9 : decide (1099511627776 < S2) = true := by rw [decide_eq_true_iff]; exact hgt
    obtain rfl : r2 = 1 := HK.out.1 hgt
    clear hgt
    go_wp2
    go_ret
    exact ⟨rfl, HB6.out⟩
  · have d9 : decide (1099511627776 < S2) = false := by rw [decide_eq_false_iff_not]; exact hgt
    obtain rfl : r1 = r2 := HK.out.2 (by omega)
    have e1 : (r1 == r1) = true := by simp
    clear hgt
    go_wp2_with fail
    refine (HSm.out _).mono ?_
    rintro e w7 ⟨rfl, hq⟩
    have HB7 := Lib.hid (bt HB6.out (drew_below hq))
    clear hq
    go_wp2
    go_ret
    exact ⟨rfl, HB7.out⟩

set_option maxRecDepth 100000 in
set_option maxHeartbeats 8000000 in
theorem coreOB (T : Nat) (W : List Nat) (ao bo : Option Addr) (n cap cap2 : Nat) (l : List In1) (g : List Int) (S c : Int) (j : Nat) (w : World) (h : Ins w (.slice ao n cap) l) (hn : n = l.length) (h2 : Ints w (.slice bo n cap2) g) (hm : n = g.length) (hwf : ∀ o ∈ l, o.wf) (hcap : n ≤ maxLen) (hf : (fewB l && decide (n ≤ 60)) = true) (hj : j < n)
    (hs : ¬ ((l.getD j default).z < g.getD j 0 ∨ c < 0 ∨ g.getD j 0 < c ∨ S < 0 ∨ 1099511627776 < S)) (hyy : g.getD j 0 ≤ 9223372036854775807) (S2 : Int) (hS2 : S2 = IntKind.i64.wrap (S + c)) (hw : WholeOk l g S T W) (hw2 : wholeN l (g.set j (g.getD j 0 - c)) S2 = 1) (hgt : 1099511627776 < S2) :
    Calls Try.prog 6 #[.slice ao n cap, .slice bo n cap2, .int .i64 S, .int .i64 (j : Int), .int .i64 c] w fun e w' => e = .returned (.bool true) ∧ Below w.heap.size w w' := by
  obtain ⟨i0, hi, hz0, hz1, hz2⟩ := info_parts Try.infoI64
  have HF := Lib.hid (fun w h => few_any ao bo n cap n cap2 l w h hn hwf hcap)
  rw [hf] at HF
  have h31 : n ≤ 31 := by
    rw [hn]
    have : fewB l = true := by revert hf; cases fewB l <;> simp
    exact ((few_iff l).1 this).1
  have H := Lib.hid h
  have H2 := Lib.hid h2
  have HN := Lib.hid hn
  have HM := Lib.hid hm
  have d2 : decide ((j : Int) < 0) = false := by rw [decide_eq_false_iff_not]; omega
  have d3 : decide ((n : Int) ≤ (j : Int)) = false := by rw [decide_eq_false_iff_not]; omega
  have d3' : decide (n ≤ j) = false := by rw [decide_eq_false_iff_not]; omega
  have l1 : (j : Int) < (n : Int) := by omega
  have l0 : (0 : Int) ≤ (j : Int) := by omega
  have HWC2 := Lib.hid (show n = (g.set j (g.getD j 0 - c)).length by rw [List.length_set]; exact hm)
  have HW1 := Lib.hid (fun w h h2 => whole_any T W ao bo n cap cap2 l g S w h hn h2 hw.ok hw.sum hw.vals)
  have HWl := Lib.hid (show W.length = n by rw [hw.wl, hn])
  have h40 : n ≤ 4096 := by omega
  have hw2' : wholeN l (g.set j (g.getD j 0 - c)) S2 ≠ 0 := by rw [hw2]; decide
  have d9 : decide (1099511627776 < S2) = true := by rw [decide_eq_true_iff]; exact hgt
  have HW2 := Lib.hid (fun gb gc w h h2 => whole_bad ao (some ⟨gb, 0, none⟩) n cap n gc l (g.set j (g.getD j 0 - c)) S2 w h hn h2 HWC2.out hw2')
  rw [hw2] at HW2
  clear hw hw2 hw2' hgt
  obtain ⟨y, hy⟩ : ∃ y, y = g.getD j 0 := ⟨_, rfl⟩
  obtain ⟨z, hz⟩ : ∃ z, z = (l.getD j default).z := ⟨_, rfl⟩
  rw [← hy] at hyy
  rw [← hy, ← hz] at hs
  have HY := Lib.hid hy
  have HZ := Lib.hid hz
  have d4 : decide (z < y) = false := by rw [decide_eq_false_iff_not]; omega
  have d5 : decide (c < 0) = false := by rw [decide_eq_false_iff_not]; omega
  have d6 : decide (y < c) = false := by rw [decide_eq_false_iff_not]; omega
  have d7 : decide (S < 0) = false := by rw [decide_eq_false_iff_not]; omega
  have d8 : decide (1099511627776 < S) = false := by rw [decide_eq_false_iff_not]; omega
  have v1 : IntKind.i64.wrap (y - c) = y - c := IntWalk.i64_in _ (by omega)
  have v2 : IntKind.i64.wrap (S + c) = S2 := hS2.symm
  clear h hn h2 hm hwf hcap hf hy hz hs hS2 hyy
  go_enter Try.func6, Try.ntmps6
  go_wp2_with fail
  refine (awake43_any _).mono ?_
  rintro e w1 ⟨rfl, hb1⟩
  have HB1 := Lib.hid hb1
  obtain ⟨bl, off, rfl, -, hc0⟩ := (H.out.below hb1).get HN.out (by omega)
  obtain ⟨bg, og, rfl, -, hc1⟩ := (H2.out.below hb1).get HM.out (by omega)
  obtain ⟨-, c0⟩ := hc0 j hj
  have c1 := hc1 j hj
  rw [← HZ.out] at c0
  rw [← HY.out] at c1
  clear hb1 hc0 hc1
  have HFq := Lib.hid (fun q => HF.out (w1.drewN q) ((H.out.below HB1.out).drewN q))
  go_wp2_with fail
  go_quiet ((go_at_call 11; exact (HFq.out _).mono fun e w' h => ⟨h.1, ⟨_, h.2⟩⟩))
  have HB2 := Lib.hid (below_drewN HB1.out nq)
  clear c0 c1 HFq
  generalize w1.drewN nq = w2 at *
  have HR2 := Lib.hid ((H2.out.below HB2.out).below ((Below.refl w2.heap.size w2).alloc (Nat.le_refl _) (.cells #[] 2)))
  have hln : g.length = n := HM.out.symm
  have HR2 := Lib.hid (show Row (w2.alloc (.cells #[] 2)) (.slice (some ⟨bg, og, none⟩) n cap2) 1 n (g.map (Value.int .i64)) by have := HR2.out; unfold Ints at this; rwa [hln] at this)
  clear hln
  go_wp2_with (at_builtin; refine wpList_row rfl (.tmp 73) (.tmp 74) 23 rfl 2 i0 (.int .i64 0) 1 8 Try.underlying23 hi hz0 hz1 hz2 rfl (by decide) _ 0 [] rfl (lit0 w2 2 _ rfl) _ n cap2 (g.map (Value.int .i64)) rfl HR2.out (by intro u hu; obtain ⟨x, _, rfl⟩ := List.mem_map.1 hu; rfl) (by unfold maxLen; omega) (by omega) ?_; intro v3 w3 hown ht hlo; have HO3 := Lib.hid hown; have HT3 := Lib.hid ht; have HL3 := Lib.hid hlo; clear hown ht hlo; obtain ⟨gb, gc, rfl, gg1, gg2, gg3, gg4⟩ := own_ints (by have := HO3.out; simpa using this) (show 0 < n by omega); have c3 := (gg3 j hj).1; have f3 := (gg3 j hj).2; have HG4 := Lib.hid (gg4 j (y - c) hj); clear gg1 gg2 gg3 gg4; rw [← HY.out] at c3)
  have HLo := Lib.hid (show w2.heap.size ≤ gb by
    rcases HL3.out gb rfl with e | e
    · cases e; exact Nat.le_refl _
    · simp at e; omega)
  have HB3 := Lib.hid (show Below w2.heap.size w2 (w3.setCell ⟨gb, j, none⟩ (.int .i64 (y - c))) from by
    have b1 := (Below.refl w2.heap.size w2).alloc (Nat.le_refl _) (.cells #[] 2)
    have b2 : Below w2.heap.size (w2.alloc (.cells #[] 2)) w3 := HT3.out.below b1.size (fun x hx => by cases hx; exact Nat.le_refl _)
    exact (b1.trans b2).setCell (p := ⟨gb, j, none⟩) HLo.out _)
  have HI4 := Lib.hid (show Ints (w3.setCell ⟨gb, j, none⟩ (.int .i64 (y - c))) (.slice (some ⟨gb, 0, none⟩) n gc) (g.set j (y - c)) by
    have := Row.of_own HG4.out
    unfold Ints
    rw [List.length_set, HM.out.symm]
    exact this)
  have HB4 := Lib.hid (bt HB2.out HB3.out)
  clear HO3 HT3 HL3 HG4 HLo HB3 HR2 c3 f3
  generalize w3.setCell ⟨gb, j, none⟩ (.int .i64 (y - c)) = w4 at *
  refine (HW1.out _ (H.out.below HB4.out) (H2.out.below HB4.out)).mono ?_
  rintro e w5 ⟨b1, b2, out, rfl, hs, hk1, -, -, -, hb⟩
  have HB5 := Lib.hid (bt HB4.out hb)
  have HI5 := Lib.hid (HI4.out.below hb)
  have HS := Lib.hid hs
  have HK1 := Lib.hid (hk1.ints (n := n) (by simp [natI, hs.len, HWl.out]) h40)
  clear hb hs hk1
  go_wp2_with fail
  refine (HW2.out _ _ _ (H.out.below HB5.out) (by rw [← HY.out]; exact HI5.out)).mono ?_
  rintro e w6 ⟨rfl, hb⟩
  have HB6 := Lib.hid (bt HB5.out hb)
  clear hb
  go_wp2
  go_ret
  exact ⟨rfl, HB6.out⟩

set_option maxRecDepth 100000 in
set_option maxHeartbeats 8000000 in
theorem coreOO (T : Nat) (W : List Nat) (ao bo : Option Addr) (n cap cap2 : Nat) (l : List In1) (g : List Int) (S c : Int) (j : Nat) (w : World) (h : Ins w (.slice ao n cap) l) (hn : n = l.length) (h2 : Ints w (.slice bo n cap2) g) (hm : n = g.length) (hwf : ∀ o ∈ l, o.wf) (hcap : n ≤ maxLen) (hf : (fewB l && decide (n ≤ 60)) = true) (hj : j < n)
    (hs : ¬ ((l.getD j default).z < g.getD j 0 ∨ c < 0 ∨ g.getD j 0 < c ∨ S < 0 ∨ 1099511627776 < S)) (hyy : g.getD j 0 ≤ 9223372036854775807) (S2 : Int) (hS2 : S2 = IntKind.i64.wrap (S + c)) (hw : WholeOk l g S T W) (hw2 : wholeN l (g.set j (g.getD j 0 - c)) S2 = 0) (hsum : (g.set j (g.getD j 0 - c)).sum + S2 = (T : Int)) (hle : S2 ≤ 1099511627776) :
    Calls Try.prog 6 #[.slice ao n cap, .slice bo n cap2, .int .i64 S, .int .i64 (j : Int), .int .i64 c] w fun e w' => e = .returned (.bool true) ∧ Below w.heap.size w w' := by
  obtain ⟨i0, hi, hz0, hz1, hz2⟩ := info_parts Try.infoI64
  have HF := Lib.hid (fun w h => few_any ao bo n cap n cap2 l w h hn hwf hcap)
  rw [hf] at HF
  have h31 : n ≤ 31 := by
    rw [hn]
    have : fewB l = true := by revert hf; cases fewB l <;> simp
    exact ((few_iff l).1 this).1
  have H := Lib.hid h
  have H2 := Lib.hid h2
  have HN := Lib.hid hn
  have HM := Lib.hid hm
  have d2 : decide ((j : Int) < 0) = false := by rw [decide_eq_false_iff_not]; omega
  have d3 : decide ((n : Int) ≤ (j : Int)) = false := by rw [decide_eq_false_iff_not]; omega
  have d3' : decide (n ≤ j) = false := by rw [decide_eq_false_iff_not]; omega
  have l1 : (j : Int) < (n : Int) := by omega
  have l0 : (0 : Int) ≤ (j : Int) := by omega
  have HWC2 := Lib.hid (show n = (g.set j (g.getD j 0 - c)).length by rw [List.length_set]; exact hm)
  have HW1 := Lib.hid (fun w h h2 => whole_any T W ao bo n cap cap2 l g S w h hn h2 hw.ok hw.sum hw.vals)
  have HWl := Lib.hid (show W.length = n by rw [hw.wl, hn])
  have h40 : n ≤ 4096 := by omega
  have HW2 := Lib.hid (fun gb gc w h h2 => whole_any T W ao (some ⟨gb, 0, none⟩) n cap gc l (g.set j (g.getD j 0 - c)) S2 w h hn h2 hw2 hsum hw.vals)
  have d9 : decide (1099511627776 < S2) = false := by rw [decide_eq_false_iff_not]; omega
  clear hw hw2 hsum hle
  obtain ⟨y, hy⟩ : ∃ y, y = g.getD j 0 := ⟨_, rfl⟩
  obtain ⟨z, hz⟩ : ∃ z, z = (l.getD j default).z := ⟨_, rfl⟩
  rw [← hy] at hyy
  rw [← hy, ← hz] at hs
  have HY := Lib.hid hy
  have HZ := Lib.hid hz
  have d4 : decide (z < y) = false := by rw [decide_eq_false_iff_not]; omega
  have d5 : decide (c < 0) = false := by rw [decide_eq_false_iff_not]; omega
  have d6 : decide (y < c) = false := by rw [decide_eq_false_iff_not]; omega
  have d7 : decide (S < 0) = false := by rw [decide_eq_false_iff_not]; omega
  have d8 : decide (1099511627776 < S) = false := by rw [decide_eq_false_iff_not]; omega
  have v1 : IntKind.i64.wrap (y - c) = y - c := IntWalk.i64_in _ (by omega)
  have v2 : IntKind.i64.wrap (S + c) = S2 := hS2.symm
  clear h hn h2 hm hwf hcap hf hy hz hs hS2 hyy
  go_enter Try.func6, Try.ntmps6
  go_wp2_with fail
  refine (awake43_any _).mono ?_
  rintro e w1 ⟨rfl, hb1⟩
  have HB1 := Lib.hid hb1
  obtain ⟨bl, off, rfl, -, hc0⟩ := (H.out.below hb1).get HN.out (by omega)
  obtain ⟨bg, og, rfl, -, hc1⟩ := (H2.out.below hb1).get HM.out (by omega)
  obtain ⟨-, c0⟩ := hc0 j hj
  have c1 := hc1 j hj
  rw [← HZ.out] at c0
  rw [← HY.out] at c1
  clear hb1 hc0 hc1
  have HFq := Lib.hid (fun q => HF.out (w1.drewN q) ((H.out.below HB1.out).drewN q))
  go_wp2_with fail
  go_quiet ((go_at_call 11; exact (HFq.out _).mono fun e w' h => ⟨h.1, ⟨_, h.2⟩⟩))
  have HB2 := Lib.hid (below_drewN HB1.out nq)
  clear c0 c1 HFq
  generalize w1.drewN nq = w2 at *
  have HR2 := Lib.hid ((H2.out.below HB2.out).below ((Below.refl w2.heap.size w2).alloc (Nat.le_refl _) (.cells #[] 2)))
  have hln : g.length = n := HM.out.symm
  have HR2 := Lib.hid (show Row (w2.alloc (.cells #[] 2)) (.slice (some ⟨bg, og, none⟩) n cap2) 1 n (g.map (Value.int .i64)) by have := HR2.out; unfold Ints at this; rwa [hln] at this)
  clear hln
  go_wp2_with (at_builtin; refine wpList_row rfl (.tmp 73) (.tmp 74) 23 rfl 2 i0 (.int .i64 0) 1 8 Try.underlying23 hi hz0 hz1 hz2 rfl (by decide) _ 0 [] rfl (lit0 w2 2 _ rfl) _ n cap2 (g.map (Value.int .i64)) rfl HR2.out (by intro u hu; obtain ⟨x, _, rfl⟩ := List.mem_map.1 hu; rfl) (by unfold maxLen; omega) (by omega) ?_; intro v3 w3 hown ht hlo; have HO3 := Lib.hid hown; have HT3 := Lib.hid ht; have HL3 := Lib.hid hlo; clear hown ht hlo; obtain ⟨gb, gc, rfl, gg1, gg2, gg3, gg4⟩ := own_ints (by have := HO3.out; simpa using this) (show 0 < n by omega); have c3 := (gg3 j hj).1; have f3 := (gg3 j hj).2; have HG4 := Lib.hid (gg4 j (y - c) hj); clear gg1 gg2 gg3 gg4; rw [← HY.out] at c3)
  have HLo := Lib.hid (show w2.heap.size ≤ gb by
    rcases HL3.out gb rfl with e | e
    · cases e; exact Nat.le_refl _
    · simp at e; omega)
  have HB3 := Lib.hid (show Below w2.heap.size w2 (w3.setCell ⟨gb, j, none⟩ (.int .i64 (y - c))) from by
    have b1 := (Below.refl w2.heap.size w2).alloc (Nat.le_refl _) (.cells #[] 2)
    have b2 : Below w2.heap.size (w2.alloc (.cells #[] 2)) w3 := HT3.out.below b1.size (fun x hx => by cases hx; exact Nat.le_refl _)
    exact (b1.trans b2).setCell (p := ⟨gb, j, none⟩) HLo.out _)
  have HI4 := Lib.hid (show Ints (w3.setCell ⟨gb, j, none⟩ (.int .i64 (y - c))) (.slice (some ⟨gb, 0, none⟩) n gc) (g.set j (y - c)) by
    have := Row.of_own HG4.out
    unfold Ints
    rw [List.length_set, HM.out.symm]
    exact this)
  have HB4 := Lib.hid (bt HB2.out HB3.out)
  clear HO3 HT3 HL3 HG4 HLo HB3 HR2 c3 f3
  generalize w3.setCell ⟨gb, j, none⟩ (.int .i64 (y - c)) = w4 at *
  refine (HW1.out _ (H.out.below HB4.out) (H2.out.below HB4.out)).mono ?_
  rintro e w5 ⟨b1, b2, out, rfl, hs, hk1, -, -, -, hb⟩
  have HB5 := Lib.hid (bt HB4.out hb)
  have HI5 := Lib.hid (HI4.out.below hb)
  have HS := Lib.hid hs
  have HK1 := Lib.hid (hk1.ints (n := n) (by simp [natI, hs.len, HWl.out]) h40)
  clear hb hs hk1
  go_wp2_with fail
  refine (HW2.out _ _ _ (H.out.below HB5.out) (by rw [← HY.out]; exact HI5.out)).mono ?_
  rintro e w6 ⟨b3, b4, out', rfl, hs, hk3, -, -, -, hb⟩
  obtain rfl := HS.out.unique hs
  have HB6 := Lib.hid (bt HB5.out hb)
  have HK3 := Lib.hid (hk3.ints (n := n) (by simp [natI, hs.len, HWl.out]) h40)
  have HSm := Lib.hid (same_any _ _ _ _ w6 (HK1.out.below hb) HK3.out)
  rw [show decide (natI out = natI out) = true from by simp] at HSm
  clear hb hs hk3
  go_wp2_with fail
  refine HSm.out.mono ?_
  rintro e w7 ⟨rfl, hq⟩
  have HB7 := Lib.hid (bt HB6.out (drew_below hq))
  clear hq
  go_wp2
  go_ret
  exact ⟨rfl, HB7.out⟩

theorem walk (v0 v1 : Value) (a2 a3 a4 : Int) (w : World) (w0 : Is22 w v0) (w1 : Is23 w v1) (w2 : (Lit.int .i64 a2).wf = true) (w3 : (Lit.int .i64 a3).wf = true) (w4 : (Lit.int .i64 a4).wf = true) :
    Calls Try.prog 6 #[v0, v1, .int .i64 a2, .int .i64 a3, .int .i64 a4] w fun e w' => e = .returned (.bool true) ∧ Below w.heap.size w w' := by
  obtain ⟨l, h, hwf⟩ := w0
  obtain ⟨g, h2, hgw⟩ := w1
  obtain ⟨ao, cap, rfl, hc1, hc2, _⟩ := h.shape
  obtain ⟨bo, cap2, rfl, _⟩ := h2.shape
  have hcap := Nat.le_trans hc1 hc2
  by_cases hs : (fewB l && decide (g.length ≤ 60)) = false ∨ g.length ≠ l.length ∨ a3 < 0 ∨ (g.length : Int) ≤ a3
  · exact skip1 ao bo _ cap _ cap2 l a2 a3 a4 w h rfl hwf hcap hs
  · have hf : (fewB l && decide (g.length ≤ 60)) = true := by
      cases e : (fewB l && decide (g.length ≤ 60))
      · exact absurd (.inl e) hs
      · rfl
    have hlen : g.length = l.length := by
      by_cases e : g.length = l.length
      · exact e
      · exact absurd (.inr (.inl e)) hs
    have h0 : 0 ≤ a3 ∧ a3 < (g.length : Int) := by
      have := fun e => hs (.inr (.inr (.inl e)))
      have := fun e => hs (.inr (.inr (.inr e)))
      omega
    obtain ⟨j, rfl⟩ := Int.eq_ofNat_of_zero_le h0.1
    have hj : j < l.length := by omega
    have hyy : g.getD j 0 ≤ 9223372036854775807 := by
      have := (bounds_i64 (hgw (g[j]'(by omega)) (List.getElem_mem _))).2
      rw [List.getD_eq_getElem?_getD, List.getElem?_eq_getElem (by omega)]
      exact this
    rw [hlen] at h2 hf ⊢
    by_cases hb : (l.getD j default).z < g.getD j 0 ∨ a4 < 0 ∨ g.getD j 0 < a4 ∨ a2 < 0 ∨ 1099511627776 < a2
    · exact skip2 ao bo _ cap cap2 l g a2 a4 j w h rfl h2 hlen.symm hwf hcap hf hj hb
    · obtain ⟨S2, hS2⟩ : ∃ S2, S2 = IntKind.i64.wrap (a2 + a4) := ⟨_, rfl⟩
      have g1 : 0 ≤ a4 ∧ a4 ≤ g.getD j 0 ∧ g.getD j 0 ≤ (l.getD j default).z ∧ 0 ≤ a2 ∧ a2 ≤ 1099511627776 := by omega
      cases hm : mayB l with
      | false =>
        have e1 := whole_no (l := l) (g := g) (S := a2) (.inl hm)
        have e2 := whole_no (l := l) (g := g.set j (g.getD j 0 - a4)) (S := S2) (.inl hm)
        exact coreBB ao bo _ cap cap2 l g a2 a4 j w h rfl h2 hlen.symm hwf hcap hf hj hb hyy S2 hS2 (by rw [e1]; decide) (by rw [e2]; decide) ⟨fun _ => e2, fun _ => by rw [e1, e2]⟩
      | true =>
        have hz := val_getD hm j
        have e3 : S2 = a2 + a4 := by rw [hS2]; exact IntWalk.i64_in _ (by omega)
        by_cases hgt : 1099511627776 < S2
        · have e2 := whole_no (l := l) (g := g.set j (g.getD j 0 - a4)) (S := S2) (.inr hgt)
          by_cases hw : wholeN l g a2 = 0
          · obtain ⟨T, W, ho⟩ := whole_is hw
            exact coreOB T W ao bo _ cap cap2 l g a2 a4 j w h rfl h2 hlen.symm hwf hcap hf hj hb hyy S2 hS2 ho e2 hgt
          · exact coreBB ao bo _ cap cap2 l g a2 a4 j w h rfl h2 hlen.symm hwf hcap hf hj hb hyy S2 hS2 hw (by rw [e2]; decide) ⟨fun _ => e2, fun e => by omega⟩
        · obtain ⟨e4, e5⟩ := order_same hlen hj g1.1 g1.2.1 g1.2.2.1 g1.2.2.2.1 (by omega)
          rw [← e3] at e4 e5
          by_cases hw : wholeN l g a2 = 0
          · obtain ⟨T, W, ho⟩ := whole_is hw
            exact coreOO T W ao bo _ cap cap2 l g a2 a4 j w h rfl h2 hlen.symm hwf hcap hf hj hb hyy S2 hS2 ho (by rw [e4]; exact hw) (by rw [e5]; exact ho.sum) (by omega)
          · exact coreBB ao bo _ cap cap2 l g a2 a4 j w h rfl h2 hlen.symm hwf hcap hf hj hb hyy S2 hS2 hw (by rw [e4]; exact hw) ⟨fun e => by omega, fun _ => e4.symm⟩

end averageOrder
end Go.Proofs.Ytoaopgamfndfgaa
