/-
  average.Values, average.Whole.
-/
import Derived.Test.YtofkeipfkglljaaAdj
import Derived.OwnWalk
namespace Go.Proofs.Ytofkeipfkglljaa
open Go Go.RowKit
set_option linter.unusedVariables false
set_option linter.unusedSimpArgs false

theorem gone_bd {l : List In1} {g : List Int} (hm : mayB l = true) (h : goneB l g = true) : ∀ z ∈ g, 0 ≤ z ∧ z ≤ 1099511627776 := by
  intro z hz
  obtain ⟨k, hk, rfl⟩ := List.mem_iff_getElem.1 hz
  obtain ⟨h1, h2⟩ := (gone_iff l g).1 h
  have h3 := h2 k (by omega)
  have h4 := may_vals hm ((valsL l)[k]'(by rw [vals_len]; omega)) (List.getElem_mem _)
  have e1 : (l.getD k default).z = (valsL l)[k]'(by rw [vals_len]; omega) := by rw [← vals_get, List.getD_eq_getElem?_getD, List.getElem?_eq_getElem (by rw [vals_len]; omega)]; rfl
  have e2 : g.getD k 0 = g[k] := by rw [List.getD_eq_getElem?_getD, List.getElem?_eq_getElem hk]; rfl
  simp only [goneAt, Bool.and_eq_true, decide_eq_true_eq, e1, e2] at h3
  omega
theorem gone_getD {l : List In1} {g : List Int} (hm : mayB l = true) (h : goneB l g = true) (k : Nat) : 0 ≤ g.getD k 0 ∧ g.getD k 0 ≤ 1099511627776 := by
  by_cases hk : k < g.length
  · have e2 : g.getD k 0 = g[k] := by rw [List.getD_eq_getElem?_getD, List.getElem?_eq_getElem hk]; rfl
    rw [e2]; exact gone_bd hm h _ (List.getElem_mem _)
  · rw [List.getD_eq_getElem?_getD, List.getElem?_eq_none (by omega)]; simp
theorem val_getD {l : List In1} (hm : mayB l = true) (k : Nat) : 0 ≤ (l.getD k default).z ∧ (l.getD k default).z ≤ 1099511627776 := by
  rw [← vals_get]
  by_cases hk : k < (valsL l).length
  · have e2 : (valsL l).getD k 0 = (valsL l)[k] := by rw [List.getD_eq_getElem?_getD, List.getElem?_eq_getElem hk]; rfl
    rw [e2]; exact may_vals hm _ (List.getElem_mem _)
  · rw [List.getD_eq_getElem?_getD, List.getElem?_eq_none (by omega)]; simp

/-- What is left of each. -/
def leftV (l : List In1) (g : List Int) : List Int := (List.range l.length).map fun i => (l.getD i default).z - g.getD i 0
theorem leftV_len (l : List In1) (g : List Int) : (leftV l g).length = l.length := by simp [leftV]
theorem leftV_get {l : List In1} {g : List Int} {k : Nat} (h : k < l.length) : (leftV l g).getD k 0 = (l.getD k default).z - g.getD k 0 := by
  simp [leftV, List.getD_eq_getElem?_getD, h]
/-- What each gets. -/
def getsL (g : List Int) (out : List Nat) : List Int := (List.range g.length).map fun i => g.getD i 0 - ((out.getD i 0 : Nat) : Int)
theorem gets_len (g : List Int) (out : List Nat) : (getsL g out).length = g.length := by simp [getsL]
theorem gets_get {g : List Int} {out : List Nat} {k : Nat} (h : k < g.length) : (getsL g out).getD k 0 = g.getD k 0 - ((out.getD k 0 : Nat) : Int) := by
  simp [getsL, List.getD_eq_getElem?_getD, h]

/-- What Whole tells is wrong. -/
def wholeN (l : List In1) (g : List Int) (S : Int) : Int := if mayB l = false ∨ goneB l g = false ∨ S < 0 ∨ 1099511627776 < S then 1 else adjN (g.sum + S) l
theorem whole_ok {l : List In1} {g : List Int} {S : Int} (h : wholeN l g S = 0) : mayB l = true ∧ goneB l g = true ∧ 0 ≤ S ∧ S ≤ 1099511627776 ∧ adjN (g.sum + S) l = 0 := by
  unfold wholeN at h
  split at h
  · cases h
  · rename_i h1
    refine ⟨?_, ?_, ?_, ?_, h⟩
    · cases hm : mayB l
      · exact absurd (.inl hm) h1
      · rfl
    · cases hm : goneB l g
      · exact absurd (.inr (.inl hm)) h1
      · rfl
    · have := fun e => h1 (.inr (.inr (.inl e))); omega
    · have := fun e => h1 (.inr (.inr (.inr e))); omega

set_option maxHeartbeats 8000000 in
theorem whole_bad (ao bo : Option Addr) (n cap m cap2 : Nat) (l : List In1) (g : List Int) (S : Int) (w : World) (h : Ins w (.slice ao n cap) l) (hn : n = l.length) (h2 : Ints w (.slice bo m cap2) g) (hm : m = g.length) (hw : wholeN l g S ≠ 0) :
    Calls Try.prog 10 #[.slice ao n cap, .slice bo m cap2, .int .i64 S] w fun e w' => e = .returned (.tuple #[.slice none 0 0, .slice none 0 0, .int .i64 (wholeN l g S)]) ∧ Below w.heap.size w w' := by
  obtain ⟨r, hr⟩ : ∃ r, r = wholeN l g S := ⟨_, rfl⟩
  rw [← hr] at hw ⊢
  unfold wholeN at hr
  have HMay := Lib.hid (may_any ao n cap l w h hn)
  have H := Lib.hid h
  have H2 := Lib.hid h2
  cases c1 : mayB l with
  | false =>
    rw [c1] at HMay
    rw [if_pos (.inl c1)] at hr
    subst hr
    clear c1 hw hn hm h h2
    go_enter Try.func10, Try.ntmps10
    go_wp2_with fail
    refine HMay.out.mono ?_
    rintro e w1 ⟨rfl, hb⟩
    have HB := Lib.hid hb
    clear hb
    go_wp2
    go_ret3
    exact ⟨rfl, HB.out⟩
  | true =>
    rw [c1] at HMay
    have h40 : n ≤ 4096 := by rw [hn]; exact ((may_iff l).1 c1).2.1
    have HG := Lib.hid (fun w (hi : Ins w (.slice ao n cap) l) (h2 : Ints w (.slice bo m cap2) g) => gone_any ao bo n cap m cap2 l g w hi hn h2 hm h40)
    cases c2 : goneB l g with
    | false =>
      rw [c2] at HG
      rw [if_pos (.inr (.inl c2))] at hr
      subst hr
      clear c1 c2 hw hn hm h h2
      go_enter Try.func10, Try.ntmps10
      go_wp2_with fail
      refine HMay.out.mono ?_
      rintro e w1 ⟨rfl, hb⟩
      have HB := Lib.hid hb
      clear hb
      go_wp2_with fail
      refine (HG.out _ (H.out.below HB.out) (H2.out.below HB.out)).mono ?_
      rintro e w2 ⟨rfl, rfl⟩
      go_wp2
      go_ret3
      exact ⟨rfl, HB.out⟩
    | true =>
      rw [c2] at HG
      by_cases c3 : S < 0
      · rw [if_pos (.inr (.inr (.inl c3)))] at hr
        subst hr
        have d1 : decide (S < 0) = true := by simpa using c3
        clear c1 c2 hw hn hm h h2
        go_enter Try.func10, Try.ntmps10
        go_wp2_with fail
        refine HMay.out.mono ?_
        rintro e w1 ⟨rfl, hb⟩
        have HB := Lib.hid hb
        clear hb
        go_wp2_with fail
        refine (HG.out _ (H.out.below HB.out) (H2.out.below HB.out)).mono ?_
        rintro e w2 ⟨rfl, rfl⟩
        go_wp2
        go_ret3
        exact ⟨rfl, HB.out⟩
      · have d1 : decide (S < 0) = false := by simpa using c3
        by_cases c4 : 1099511627776 < S
        · rw [if_pos (.inr (.inr (.inr c4)))] at hr
          subst hr
          have d2 : decide (1099511627776 < S) = true := by simpa using c4
          clear c1 c2 hw hn hm h h2
          go_enter Try.func10, Try.ntmps10
          go_wp2_with fail
          refine HMay.out.mono ?_
          rintro e w1 ⟨rfl, hb⟩
          have HB := Lib.hid hb
          clear hb
          go_wp2_with fail
          refine (HG.out _ (H.out.below HB.out) (H2.out.below HB.out)).mono ?_
          rintro e w2 ⟨rfl, rfl⟩
          go_wp2
          go_ret3
          exact ⟨rfl, HB.out⟩
        · rw [if_neg (by simp [c1, c2]; omega)] at hr
          have d2 : decide (1099511627776 < S) = false := by simpa using c4
          have hgl : g.length ≤ 4096 := by rw [((gone_iff l g).1 c2).1]; exact ((may_iff l).1 c1).2.1
          have hgb := gone_bd c1 c2
          have hsb := isum_bd 1099511627776 g hgb
          have HSu := Lib.hid (fun w (h2 : Ints w (.slice bo m cap2) g) => sum_any bo m cap2 g w h2 hm (by omega) hgb)
          have v1 : IntKind.i64.wrap (g.sum + S) = g.sum + S := IntWalk.i64_in _ (by omega)
          have HA := Lib.hid (fun w (hi : Ins w (.slice ao n cap) l) => adj_bad (g.sum + S) ao n cap l w hi hn (by rw [← hr]; exact hw))
          rw [← hr] at HA
          have d3 : (r == 0) = false := by rw [beq_eq_false_iff_ne]; exact hw
          have d4 : (r != 0) = true := by simp [bne, d3]
          clear c1 c2 hw hn hm h h2 hr hgb hsb hgl
          generalize g.sum = G at *
          go_enter Try.func10, Try.ntmps10
          go_wp2_with fail
          refine HMay.out.mono ?_
          rintro e w1 ⟨rfl, hb⟩
          have HB := Lib.hid hb
          clear hb
          go_wp2_with fail
          refine (HG.out _ (H.out.below HB.out) (H2.out.below HB.out)).mono ?_
          rintro e w2 ⟨rfl, rfl⟩
          go_wp2_with fail
          refine (HSu.out _ (H2.out.below HB.out)).mono ?_
          rintro e w2 ⟨rfl, rfl⟩
          go_wp2_with fail
          refine (HA.out _ (H.out.below HB.out)).mono ?_
          rintro e w3 ⟨rfl, hb⟩
          have HB3 := Lib.hid (bt HB.out hb)
          clear hb
          go_wp2
          go_ret3
          exact ⟨rfl, HB3.out⟩

set_option maxHeartbeats 8000000 in
theorem whole_any (T : Nat) (W : List Nat) (ao bo : Option Addr) (n cap cap2 : Nat) (l : List In1) (g : List Int) (S : Int) (w : World) (h : Ins w (.slice ao n cap) l) (hn : n = l.length) (h2 : Ints w (.slice bo n cap2) g) (hw : wholeN l g S = 0) (hT : g.sum + S = (T : Int)) (hW : valsL l = natI W) :
    Calls Try.prog 10 #[.slice ao n cap, .slice bo n cap2, .int .i64 S] w fun e w' => ∃ b1 b2 out, e = .returned (.tuple #[.slice (some ⟨b1, 0, none⟩) n n, .slice (some ⟨b2, 0, none⟩) n n, .int .i64 0]) ∧ IsSplit T W out ∧ Blk w' b1 (natI out) ∧ Blk w' b2 (getsL g out) ∧ w.heap.size ≤ b1 ∧ b1 < b2 ∧ Below w.heap.size w w' := by
  obtain ⟨c1, c2, c3, c4, hA⟩ := whole_ok hw
  have HMay := Lib.hid (may_any ao n cap l w h hn)
  have H := Lib.hid h
  have H2 := Lib.hid h2
  rw [c1] at HMay
  have h40 : n ≤ 4096 := by rw [hn]; exact ((may_iff l).1 c1).2.1
  have hm : n = g.length := by rw [hn]; exact ((gone_iff l g).1 c2).1.symm
  have HG := Lib.hid (fun w (hi : Ins w (.slice ao n cap) l) (h2 : Ints w (.slice bo n cap2) g) => gone_any ao bo n cap n cap2 l g w hi hn h2 hm h40)
  rw [c2] at HG
  have d1 : decide (S < 0) = false := by rw [decide_eq_false_iff_not]; omega
  have d2 : decide (1099511627776 < S) = false := by rw [decide_eq_false_iff_not]; omega
  have hgb := gone_bd c1 c2
  have hsb := isum_bd 1099511627776 g hgb
  have HSu := Lib.hid (fun w (h2 : Ints w (.slice bo n cap2) g) => sum_any bo n cap2 g w h2 hm (by omega) hgb)
  rw [hT] at hA
  have HA := Lib.hid (fun w (hi : Ins w (.slice ao n cap) l) => adj_any T W ao n cap l w hi hn hA hW)
  obtain ⟨-, -, -, hwr⟩ := adj_ok hA
  rw [hW] at hwr
  obtain ⟨T', W', e1, e2, hTb, _, _, _, hSS⟩ := wrong_ok hwr
  have hTb : T ≤ 1099511627776 := by omega
  obtain rfl : W = W' := by
    have := congrArg (List.map Int.toNat) e2
    simpa [natI, List.map_map, Function.comp_def] using this
  have HLE := Lib.hid (fun (out : List Nat) (hs : IsSplit T W out) (i : Nat) => Nat.le_trans (split_le hs (by intro h; exact hSS (by omega)) i) hTb)
  have hWl : W.length = n := by have := congrArg List.length hW; rw [vals_len] at this; simp [natI] at this; omega
  have HWl := Lib.hid hWl
  have HN := Lib.hid hn
  have HM := Lib.hid hm
  have HBd := Lib.hid (fun k => gone_getD c1 c2 k)
  have MK1 : ∀ w, (Instr.makeSlice 45 (.int .i64 (n : Int)) (.int .i64 (n : Int))).run Try.prog w = .ok (.slice (some ⟨w.heap.size, 0, none⟩) n n) (w.alloc (.cells (iA (List.replicate n 0)) 2)) := fun w => by
    rw [← zeros_nums, ← made_nums]; exact run_make_row' _ _ _ 8 Try.underlying45 Try.infoI64 rfl _ _ n (by omega) (by omega) w
  have HMK := Lib.hid MK1
  have v1 : IntKind.i64.wrap (g.sum + S) = (T : Int) := by rw [hT]; exact IntWalk.i64_in _ (by omega)
  clear c1 c2 c3 c4 hA hw hn hm h h2 hgb hsb hT hW hwr e1 e2 hTb hSS hWl MK1
  generalize g.sum = G at *
  go_enter Try.func10, Try.ntmps10
  go_wp2_with fail
  refine HMay.out.mono ?_
  rintro e w1 ⟨rfl, hb⟩
  have HB := Lib.hid hb
  clear hb
  go_wp2_with fail
  refine (HG.out _ (H.out.below HB.out) (H2.out.below HB.out)).mono ?_
  rintro e w2 ⟨rfl, rfl⟩
  go_wp2_with fail
  refine (HSu.out _ (H2.out.below HB.out)).mono ?_
  rintro e w2 ⟨rfl, rfl⟩
  go_wp2_with fail
  refine (HA.out _ (H.out.below HB.out)).mono ?_
  rintro e w3 ⟨b1, out, rfl, hs, hbk, hlo, hb⟩
  have HB3 := Lib.hid (bt HB.out hb)
  have HLo := Lib.hid (Nat.le_trans HB.out.size hlo)
  have HK := Lib.hid hbk
  have HS := Lib.hid hs
  have HLt := Lib.hid hbk.lt
  have HLG := Lib.hid (show (getsL g out).length = (List.replicate n (0 : Int)).length by rw [gets_len, List.length_replicate, HM.out])
  have HOl := Lib.hid (show out.length = n by rw [hs.len, HWl.out])
  have HK0 := Lib.hid (blk_new w3 (List.replicate n 0))
  have HKo := Lib.hid (hbk.below ((Below.refl w3.heap.size w3).alloc (Nat.le_refl _) (.cells (iA (List.replicate n 0)) 2)))
  have HBo := Lib.hid (HB3.out.alloc HB3.out.size (.cells (iA (List.replicate n 0)) 2))
  clear hb hlo hbk hs HMay HG HSu HA
  have MK1 := HMK.out
  go_wp2
  go_loopw [48] (fun i wr => ∃ k : Nat, k ≤ n ∧ i = .int .i64 (k : Int) ∧ Hid (Blk wr w3.heap.size (mixL (getsL g out) (List.replicate n 0) k)) ∧ Hid (Blk wr b1 (natI out)) ∧ Hid (Below w.heap.size w wr)) (fun i _ => n - (intOf i).toNat)
  case atStart => exact ⟨0, Nat.zero_le _, rfl, Lib.hid (by rw [mix_zero]; exact HK0.out), HKo, HBo⟩
  case round =>
    clear HK0 HKo HBo MK1
    obtain ⟨k, hk, rfl, hm, hko, hb⟩ := hrel
    by_cases hlt : k < n
    · have l1 : (k : Int) < (n : Int) := by omega
      have l0 : (0 : Int) ≤ (k : Int) := by omega
      obtain ⟨bg, og, rfl, hbg, hc⟩ := H2.out.get HM.out (by omega)
      have c2 : wr.cell? ⟨bg, og + k, none⟩ = some (.int .i64 (g.getD k 0)) := by rw [hb.out.cell (by show bg < _; omega)]; exact hc k hlt
      have HSt := Lib.hid (mix_set HLG.out (k := k) (by rw [gets_len, ← HM.out]; exact hlt))
      rw [gets_get (by rw [← HM.out]; exact hlt)] at HSt
      have c3 := hm.out.cell (mix_get HLG.out (k := k) (by rw [gets_len, ← HM.out]; exact hlt))
      have c4 := hm.out.free k
      have c5 : wr.cell? ⟨b1, k, none⟩ = some (.int .i64 ((out.getD k 0 : Nat) : Int)) := hko.out.cell (by
        simp only [natI, List.getElem?_map, List.getD_eq_getElem?_getD, List.getElem?_eq_getElem (show k < out.length by rw [HOl.out]; exact hlt)]; rfl)
      obtain ⟨q1, q2⟩ := HBd.out k
      have q3 := HLE.out out HS.out k
      generalize g.getD k 0 = y at *
      generalize out.getD k 0 = z at *
      have v1 : IntKind.i64.wrap (y - (z : Int)) = y - (z : Int) := IntWalk.i64_in _ (by omega)
      clear hc q1 q2 q3
      go_wp2
      go_roundw
      case rel => exact ⟨k + 1, by omega, by go_num, Lib.hid (by rw [← HSt.out]; exact hm.out.set k _), Lib.hid ((Below.heap_setCell _ _ _ _ (show b1 ≠ w3.heap.size by have := HLt.out; omega)).trans hko.out), Lib.hid (hb.out.setCell (p := ⟨w3.heap.size, k, none⟩) (by have := HLo.out; have := HLt.out; show _ ≤ w3.heap.size; omega) _)⟩
      case measure => simp [intOf]; omega
    · obtain rfl : k = n := by omega
      go_wp2
      go_ret3
      exact ⟨b1, w3.heap.size, out, rfl, HS.out, hko.out, by have hx := hm.out; rwa [mix_all (by rw [gets_len, ← HM.out]) (by simp)] at hx, HLo.out, HLt.out, hb.out⟩
end Go.Proofs.Ytofkeipfkglljaa
