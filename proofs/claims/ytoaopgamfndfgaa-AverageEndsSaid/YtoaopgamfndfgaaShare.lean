/-
  The document's Same; the statements' example; share.Most.
-/
import Derived.Test.YtoaopgamfndfgaaSplit
import Derived.Test.YtoaopgamfndfgaaArgI64
namespace Go.Proofs.Ytoaopgamfndfgaa
open Go Go.RowKit
set_option linter.unusedVariables false
set_option linter.unusedSimpArgs false

theorem bt {W w w' : World} (h1 : Below W.heap.size W w) (h2 : Below w.heap.size w w') : Below W.heap.size W w' := h1.trans (h2.mono h1.size)
theorem Ints.drewN {w : World} {v : Value} {zs : List Int} (h : Ints w v zs) (n : Nat) : Ints (w.drewN n) v zs := Row.drewN h n
theorem Parts.ints {w0 w : World} {v : Value} {out : List Nat} (h : Parts w0 w v out) (hl : out.length ≤ 4096) : Ints w v (natI out) := by
  obtain ⟨b, rfl, hb, _⟩ := h
  have e : (natI out).map (Value.int .i64) = (nums out).toList := by simp [natI, nums, List.map_map, Function.comp_def]
  refine ⟨by simp [natI], some ⟨b, 0, none⟩, out.length, by simp [natI], by simp [natI], by unfold maxLen; omega, (fun h => by cases h), fun a ha j u hu => ?_⟩
  cases ha
  rw [add_in]
  rw [e] at hu
  have : (nums out)[j]? = some u := by simpa using hu
  simp [World.cell?, hb, this]

theorem take_eq_step {xs ys : List Int} {k : Nat} (h1 : k < xs.length) (h2 : k < ys.length) (h : xs.take k = ys.take k) (e : xs[k] = ys[k]) : xs.take (k + 1) = ys.take (k + 1) := by
  rw [List.take_succ_eq_append_getElem h1, List.take_succ_eq_append_getElem h2, h, e]

set_option maxHeartbeats 1000000 in
theorem same_any (a b : Value) (xs ys : List Int) (w : World) (h1 : Ints w a xs) (h2 : Ints w b ys) :
    Calls Try.prog 17 #[a, b] w fun e w' => e = .returned (.bool (decide (xs = ys))) ∧ ∃ m, w' = w.drewN m := by
  obtain ⟨ao, cap, ea, k1, k2, _⟩ := h1.shape
  obtain ⟨bo, cap2, eb, k3, k4, _⟩ := h2.shape
  obtain ⟨n, HN⟩ : ∃ n, Hid (n = xs.length) := ⟨_, rfl⟩
  obtain ⟨m, HM⟩ : ∃ m, Hid (m = ys.length) := ⟨_, rfl⟩
  rw [← HN.out] at ea k1
  rw [← HM.out] at eb k3
  unfold maxLen at k2 k4
  have H1 := Lib.hid h1
  have H2 := Lib.hid h2
  clear h1 h2
  subst ea eb
  obtain ⟨x, hx⟩ : ∃ x, x = decide (xs = ys) := ⟨_, rfl⟩
  rw [← hx]
  by_cases hnm : n = m
  · subst hnm
    have HX := Lib.hid hx
    clear hx
    go_enter Try.func17, Try.ntmps17
    go_wp2
    go_loopw [5] (fun i wr => ∃ k : Nat, k ≤ n ∧ i = .int .i64 (k : Int) ∧ Hid (xs.take k = ys.take k) ∧ Hid (∃ q, wr = w.drewN q)) (fun i _ => n - (intOf i).toNat)
    case atStart => exact ⟨0, Nat.zero_le _, rfl, Lib.hid rfl, Lib.hid ⟨0, rfl⟩⟩
    case round =>
      obtain ⟨k, hk, rfl, ht, hw⟩ := hrel
      have I1 : Ints wr (.slice ao n cap) xs := by obtain ⟨q, e⟩ := hw.out; rw [e]; exact H1.out.drewN q
      have I2 : Ints wr (.slice bo n cap2) ys := by obtain ⟨q, e⟩ := hw.out; rw [e]; exact H2.out.drewN q
      by_cases hlt : k < n
      · obtain ⟨b1, o1, c1', e, _, _, _, hc1⟩ := I1.at (by rw [← HN.out]; omega)
        have c1 := hc1 k (by rw [← HN.out]; exact hlt)
        rw [← HN.out] at e
        cases e
        obtain ⟨b2, o2, c2', e, _, _, _, hc2⟩ := I2.at (by rw [← HM.out]; omega)
        have c2 := hc2 k (by rw [← HM.out]; exact hlt)
        rw [← HM.out] at e
        cases e
        have l1 : (k : Int) < (n : Int) := by omega
        by_cases he : xs[k]'(by rw [← HN.out]; exact hlt) = ys[k]'(by rw [← HM.out]; exact hlt)
        · have HS := Lib.hid (take_eq_step (by rw [← HN.out]; exact hlt) (by rw [← HM.out]; exact hlt) ht.out he)
          rw [he] at c1
          generalize ys[k]'(by rw [← HM.out]; exact hlt) = y at *
          clear hc1 hc2 I1 I2 he
          go_wp2_with fail
          go_quiet (fail)
          go_wp2
          go_roundw
          case rel => exact ⟨k + 1, by omega, by go_num, Lib.hid HS.out, Lib.hid (by obtain ⟨q, e⟩ := hw.out; exact ⟨q + nq, by rw [e, World.drewN_drewN]⟩)⟩
          case measure => simp [intOf]; omega
        · have HD := Lib.hid (show x = false by
            rw [HX.out, decide_eq_false_iff_not]
            intro e; subst e; exact he rfl)
          have d1 : (xs[k]'(by rw [← HN.out]; exact hlt) == ys[k]'(by rw [← HM.out]; exact hlt)) = false := by rw [beq_eq_false_iff_ne]; exact he
          have d2 : (xs[k]'(by rw [← HN.out]; exact hlt) != ys[k]'(by rw [← HM.out]; exact hlt)) = true := by simp [bne, d1]
          generalize ys[k]'(by rw [← HM.out]; exact hlt) = y at *
          generalize xs[k]'(by rw [← HN.out]; exact hlt) = z at *
          clear hc1 hc2 I1 I2 he
          go_wp2_with fail
          go_quiet (fail)
          go_wp2
          go_ret
          exact ⟨by rw [HD.out]; rfl, by obtain ⟨q, e⟩ := hw.out; exact ⟨q + nq, by rw [e, World.drewN_drewN]⟩⟩
      · have HD := Lib.hid (show x = true by
          rw [HX.out, decide_eq_true_iff]
          have := ht.out
          rwa [List.take_of_length_le (by rw [← HN.out]; omega), List.take_of_length_le (by rw [← HM.out]; omega)] at this)
        clear I1 I2
        go_wp2
        go_ret
        exact ⟨by rw [HD.out]; rfl, hw.out⟩
  · have HD := Lib.hid (show x = false by
      rw [hx, decide_eq_false_iff_not]
      intro e; subst e; exact hnm (by rw [HN.out, HM.out]))
    have d1 : ((n : Int) == (m : Int)) = false := by rw [beq_eq_false_iff_ne]; omega
    have d2 : ((n : Int) != (m : Int)) = true := by simp [bne, d1]
    clear hx
    go_enter Try.func17, Try.ntmps17
    go_wp2
    go_ret
    exact ⟨by rw [HD.out]; rfl, 0, rfl⟩

theorem lit_ints (w : World) (cs : List Nat) (b n : Nat) (hb : b = w.heap.size) (hn : n = cs.length) (hl : cs.length ≤ 4096) : Ints (w.alloc (.cells (nums cs) 2)) (.slice (some ⟨b, 0, none⟩) n n) (natI cs) := by
  subst hb hn
  exact Parts.ints (w0 := w) ⟨w.heap.size, rfl, heap_alloc_new _ _, Nat.le_refl _⟩ hl
theorem ex1 : ∀ out, IsSplit 10 [1, 1, 1] out → out = [4, 3, 3] := fun out h => h.unique ⟨[0, 1, 2], by decide, by unfold Srtd Lx; decide, by decide⟩
theorem ex2 : ∀ out, IsSplit 7 [5, 0, 5] out → out = [4, 0, 3] := fun out h => h.unique ⟨[0, 2, 1], by decide, by unfold Srtd Lx; decide, by decide⟩

end Go.Proofs.Ytoaopgamfndfgaa
