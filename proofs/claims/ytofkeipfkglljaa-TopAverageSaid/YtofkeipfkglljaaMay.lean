/-
  average.may, average.sacrificedMay, average.sum.
-/
import Derived.Test.YtofkeipfkglljaaMark
import Derived.Test.YtofkeipfkglljaaMap
namespace Go.Proofs.Ytofkeipfkglljaa
open Go Go.RowKit
set_option linter.unusedVariables false
set_option linter.unusedSimpArgs false

def seen (l : List In1) (k : Nat) (s : ByteArray) : Bool := (l.take k).any fun o => decide (o.t = s)
theorem seen_zero (l : List In1) : (fun _ => false) = seen l 0 := by funext s; simp [seen]
theorem seen_step {l : List In1} {k : Nat} (hk : k < l.length) : (fun u => if u = (l.getD k default).t then true else seen l k u) = seen l (k + 1) := by
  funext u
  have e : l.getD k default = l[k] := by rw [List.getD_eq_getElem?_getD, List.getElem?_eq_getElem hk]; rfl
  rw [e]
  unfold seen
  rw [List.take_succ_eq_append_getElem hk, List.any_append]
  by_cases h : u = l[k].t
  · subst h; simp
  · rw [if_neg h]
    have h' : ¬ l[k].t = u := fun e => h e.symm
    simp [h']
theorem okAt_eq (l : List In1) (k : Nat) : okAt l k = (nameB (l.getD k default).t && decide (0 ≤ (l.getD k default).z) && decide ((l.getD k default).z ≤ 1099511627776) && ! seen l k (l.getD k default).t) := rfl
theorem name_small {s : ByteArray} (h : nameB s = true) : s.size ≤ maxLen := by
  have := (name_iff s).1 h
  unfold maxLen; omega
theorem bmap_run {P : Program} {k e t : TypeId} {w : World} {b n : Nat} {f : ByteArray → Bool} (h : BMap P k e w b n f) (hk : P.underlying k = some .string) (ht : P.underlying t = some (.map k e)) (he : P.underlying e = some .bool) (hz : (zeroValue e).run P w = .ok (.bool false) w)
    (s : ByteArray) (hs : s.size ≤ maxLen) : (Instr.lookup t (.map (some b)) (.string s) false).run P w = .ok (.bool (f s)) w := by
  obtain ⟨D, ho, hf⟩ := h
  obtain ⟨v, ps, hrun, hv⟩ := ho.lookup (Maps.string_keyed hk) ht hz (plainElem_bool he false) (WideMaps.keyOf_string_mk hk hs)
  obtain ⟨c, rfl, hc⟩ := plain_bool_inv he hv
  simp only [Prod.mk.injEq] at hc
  have h1 := (hf s).symm.trans hc.1
  have e : f s = c := by injection h1 with h1; injection h1
  rw [e]; exact hrun
theorem zeroBool (w : World) : (zeroValue 4).run Try.prog w = .ok (.bool false) w := by kernel_rfl

theorem run_make_hint {P : Program} {t k e : TypeId} (hu : P.underlying t = some (.map k e)) (q : IntKind) (n : Int) (w : World) : (Instr.makeMap t (some (.int q n))).run P w = .ok (.map (some w.heap.size)) (w.alloc (.map #[] 0)) := by
  simp [Instr.makeMap, run_underlying hu, asInt, asIntOf, Result.andThen]

set_option maxHeartbeats 4000000 in
theorem may_any (ao : Option Addr) (n cap : Nat) (l : List In1) (w : World) (h : Ins w (.slice ao n cap) l) (hn : n = l.length) :
    Calls Try.prog 20 #[.slice ao n cap] w fun e w' => e = .returned (.bool (mayB l)) ∧ Below w.heap.size w w' := by
  obtain ⟨x, hx⟩ : ∃ x, x = mayB l := ⟨_, rfl⟩
  rw [← hx]
  have HX := Lib.hid hx
  have H := Lib.hid h
  have HN := Lib.hid hn
  clear hx h
  by_cases h1 : n < 1
  · have d1 : decide ((n : Int) < 1) = true := by rw [decide_eq_true_iff]; omega
    have HR := Lib.hid (show x = false by rw [HX.out, Bool.eq_false_iff]; intro hm; have := (may_iff l).1 hm; omega)
    go_enter Try.func20, Try.ntmps20
    go_wp2
    go_ret
    exact ⟨by rw [HR.out]; rfl, Below.refl _ _⟩
  · have d1 : decide ((n : Int) < 1) = false := by rw [decide_eq_false_iff_not]; omega
    by_cases h2 : 4096 < n
    · have d2 : decide ((4096 : Int) < (n : Int)) = true := by rw [decide_eq_true_iff]; omega
      have HR := Lib.hid (show x = false by rw [HX.out, Bool.eq_false_iff]; intro hm; have := (may_iff l).1 hm; omega)
      go_enter Try.func20, Try.ntmps20
      go_wp2
      go_ret
      exact ⟨by rw [HR.out]; rfl, Below.refl _ _⟩
    · have d2 : decide ((4096 : Int) < (n : Int)) = false := by rw [decide_eq_false_iff_not]; omega
      have HNm := Lib.hid (fun z w => name_any z w)
      have hmm := run_make_hint (P := Try.prog) (t := 88) Try.underlying88 .i64 (n : Int)
      obtain ⟨bl, off, rfl, hbl, hc⟩ := H.out.get hn (by omega)
      have HC := Lib.hid hc
      clear hc
      have HB0 := Lib.hid ((Below.refl w.heap.size w).alloc (Nat.le_refl _) (.map #[] 0))
      have HM0 := Lib.hid (BMap.made Try.prog 9 4 w)
      rw [seen_zero l] at HM0
      clear hn
      go_enter Try.func20, Try.ntmps20
      go_wp2
      go_loopw [19] (fun i wr => ∃ k : Nat, k ≤ n ∧ i = .int .i64 (k : Int) ∧ Hid (∀ j, j < k → okAt l j = true) ∧ Hid (BMap Try.prog 9 4 wr w.heap.size k (seen l k)) ∧ Hid (Below w.heap.size w wr)) (fun i _ => n - (intOf i).toNat)
      case atStart => exact ⟨0, Nat.zero_le _, rfl, Lib.hid (fun j hj => by omega), HM0, HB0⟩
      case round =>
        clear HM0 HB0 hmm
        obtain ⟨k, hk, rfl, hp, hm, hb⟩ := hrel
        by_cases hlt : k < n
        · have l1 : (k : Int) < (n : Int) := by omega
          have l0 : (0 : Int) ≤ (k : Int) := by omega
          have HS := Lib.hid (seen_step (l := l) (k := k) (by rw [← HN.out]; exact hlt))
          have HO := Lib.hid (okAt_eq l k)
          have HBad := Lib.hid (fun h => may_bad (l := l) (k := k) (by rw [← HN.out]; exact hlt) h)
          have HP := Lib.hid (show okAt l k = true → ∀ j, j < k + 1 → okAt l j = true from fun h j hj => by
            by_cases e : j = k
            · subst e; exact h
            · exact hp.out j (by omega))
          obtain ⟨c1, c2⟩ := HC.out k hlt
          have c1 : wr.cell? ⟨bl, off + k * 2, none⟩ = some (.string (l.getD k default).t) := by rw [hb.out.cell (by show bl < _; omega)]; exact c1
          have c2 : wr.cell? ⟨bl, off + k * 2 + 1, none⟩ = some (.int .i64 (l.getD k default).z) := by rw [hb.out.cell (by show bl < _; omega)]; exact c2
          obtain ⟨t, ht⟩ : ∃ t, t = (l.getD k default).t := ⟨_, rfl⟩
          obtain ⟨z, hz⟩ : ∃ z, z = (l.getD k default).z := ⟨_, rfl⟩
          rw [← ht] at c1 HO HS
          rw [← hz] at c2 HO
          clear ht hz
          have HW1 := Lib.hid (hb.out.alloc hb.out.size (.cells #[.string t, .int .i64 z] 48))
          have HM1 := Lib.hid (hm.out.touch ((Touch.refl (fun _ => False) wr).alloc (.cells #[.string t, .int .i64 z] 48)) (fun h => h))
          cases g1 : nameB t with
          | false =>
            have HR := Lib.hid (show x = false by rw [HX.out]; exact HBad.out (by rw [HO.out, g1]; rfl))
            go_wp2_with fail
            refine (HNm.out _ _).mono ?_
            rintro e w1 ⟨rfl, rfl⟩
            go_wp2
            go_ret
            exact ⟨by rw [HR.out]; rfl, HW1.out⟩
          | true =>
            have hts := name_small g1
            by_cases g2 : z < 0
            · have d3 : decide (z < 0) = true := by rw [decide_eq_true_iff]; exact g2
              have HR := Lib.hid (show x = false by rw [HX.out]; exact HBad.out (by rw [HO.out, g1, show decide (0 ≤ z) = false by rw [decide_eq_false_iff_not]; omega]; rfl))
              go_wp2_with fail
              refine (HNm.out _ _).mono ?_
              rintro e w1 ⟨rfl, rfl⟩
              go_wp2
              go_ret
              exact ⟨by rw [HR.out]; rfl, HW1.out⟩
            · have d3 : decide (z < 0) = false := by rw [decide_eq_false_iff_not]; exact g2
              by_cases g3 : 1099511627776 < z
              · have d4 : decide (1099511627776 < z) = true := by rw [decide_eq_true_iff]; exact g3
                have HR := Lib.hid (show x = false by rw [HX.out]; exact HBad.out (by rw [HO.out, g1, show decide (z ≤ 1099511627776) = false by rw [decide_eq_false_iff_not]; omega]; simp))
                go_wp2_with fail
                refine (HNm.out _ _).mono ?_
                rintro e w1 ⟨rfl, rfl⟩
                go_wp2
                go_ret
                exact ⟨by rw [HR.out]; rfl, HW1.out⟩
              · have d4 : decide (1099511627776 < z) = false := by rw [decide_eq_false_iff_not]; exact g3
                have hlk := bmap_run (t := 88) HM1.out Try.underlying9 Try.underlying88 Try.underlying4 (zeroBool _) t hts
                cases g4 : seen l k t with
                | true =>
                  have HR := Lib.hid (show x = false by rw [HX.out]; exact HBad.out (by rw [HO.out, g1, g4]; simp))
                  rw [g4] at hlk
                  go_wp2_with fail
                  refine (HNm.out _ _).mono ?_
                  rintro e w1 ⟨rfl, rfl⟩
                  go_wp2
                  go_ret
                  exact ⟨by rw [HR.out]; rfl, HW1.out⟩
                | false =>
                  have HQ := Lib.hid (HP.out (by rw [HO.out, g1, g4, show decide (0 ≤ z) = true by rw [decide_eq_true_iff]; omega, show decide (z ≤ 1099511627776) = true by rw [decide_eq_true_iff]; omega]; rfl))
                  rw [g4] at hlk
                  go_wp2_with fail
                  refine (HNm.out _ _).mono ?_
                  rintro e w1 ⟨rfl, rfl⟩
                  go_wp2_with (at_mapUpdate; refine wpList_bset _ rfl _ _ _ 88 rfl 9 4 Try.underlying9 Try.underlying88 Try.underlying4 w.heap.size k (seen l k) rfl HM1.out (by unfold maxLen; omega) t rfl hts true rfl ?_; intro w2 hm2 ht2)
                  go_roundw
                  case rel => exact ⟨k + 1, by omega, by go_num, HQ, Lib.hid (by rw [← HS.out]; exact hm2), Lib.hid (HW1.out.trans (ht2.below HW1.out.size (fun x hx => by subst hx; exact Nat.le_refl _)))⟩
                  case measure => simp [intOf]; omega
        · obtain rfl : k = n := by omega
          have HR := Lib.hid (show x = true by rw [HX.out, may_iff]; exact ⟨by rw [← HN.out]; omega, by rw [← HN.out]; omega, fun j hj => hp.out j (by rw [HN.out]; exact hj)⟩)
          go_wp2
          go_ret
          exact ⟨by rw [HR.out]; rfl, hb.out⟩
end Go.Proofs.Ytofkeipfkglljaa
