/-
  The document's right, Whole, Pays.
-/
import Derived.Test.YtoaopgamfndfgaaRef43
import Derived.Deep.RegionLaw
namespace Go.Proofs.Ytoaopgamfndfgaa
open Go Go.RowKit
set_option linter.unusedVariables false
set_option linter.unusedSimpArgs false

set_option maxRecDepth 100000 in
set_option maxHeartbeats 4000000 in
theorem rright_any (ao bo : Option Addr) (n cap m cap2 : Nat) (l : List In1) (g : List Int) (w : World) (h : Ins w (.slice ao n cap) l) (hn : n = l.length) (h2 : Ints w (.slice bo m cap2) g) (hm : m = g.length) (hf : fewB l = true) :
    Calls Try.prog 37 #[.slice ao n cap, .slice bo m cap2] w fun e w' => e = .returned (.bool (mayB l && goneB l g)) ∧ ∃ q, w' = w.drewN q := by
  obtain ⟨x, hx⟩ : ∃ x, x = (mayB l && goneB l g) := ⟨_, rfl⟩
  rw [← hx]
  have HX := Lib.hid hx
  have H := Lib.hid h
  have H2 := Lib.hid h2
  have HN := Lib.hid hn
  have HM := Lib.hid hm
  have h31 : n ≤ 31 := by rw [hn]; exact ((few_iff l).1 hf).1
  have HMay := Lib.hid (rmay_any ao n cap l w h hn hf)
  clear hx h h2 hn hm hf
  cases c1 : mayB l with
  | false =>
    have HR := Lib.hid (show x = false by rw [HX.out, c1]; rfl)
    rw [c1] at HMay
    clear c1
    go_enter Try.func37, Try.ntmps37
    go_wp2_with fail
    refine HMay.out.mono ?_
    rintro e w1 ⟨rfl, hq⟩
    have HQ := Lib.hid hq
    clear hq
    go_wp2
    go_ret
    exact ⟨by rw [HR.out]; rfl, HQ.out⟩
  | true =>
    rw [c1] at HMay
    have HX := Lib.hid (show x = goneB l g by rw [HX.out, c1]; rfl)
    clear c1
    by_cases h1 : m = n
    · subst h1
      go_enter Try.func37, Try.ntmps37
      go_wp2_with fail
      refine HMay.out.mono ?_
      rintro e w1 ⟨rfl, hq⟩
      have HQ := Lib.hid hq
      clear hq
      go_wp2
      go_loopw [5] (fun i wr => ∃ k : Nat, k ≤ m ∧ i = .int .i64 (k : Int) ∧ Hid (∀ j, j < k → goneAt l g j = true) ∧ Hid (∃ q, wr = w.drewN q)) (fun i _ => m - (intOf i).toNat)
      case atStart => exact ⟨0, Nat.zero_le _, rfl, Lib.hid (fun j hj => by omega), HQ⟩
      case round =>
        clear HQ
        obtain ⟨k, hk, rfl, hp, hw⟩ := hrel
        by_cases hlt : k < m
        · have l1 : (k : Int) < (m : Int) := by omega
          have l0 : (0 : Int) ≤ (k : Int) := by omega
          have I1 := Lib.hid (show Ins wr (.slice ao m cap) l by obtain ⟨q, e⟩ := hw.out; rw [e]; exact H.out.drewN q)
          have I2 := Lib.hid (show Ints wr (.slice bo m cap2) g by obtain ⟨q, e⟩ := hw.out; rw [e]; exact H2.out.drewN q)
          obtain ⟨bl, off, rfl, hbl, hc⟩ := I1.out.get HN.out (by omega)
          obtain ⟨bg, og, rfl, hbg, hc2⟩ := I2.out.get HM.out (by omega)
          obtain ⟨-, c2⟩ := hc k hlt
          have c3 := hc2 k hlt
          have HO := Lib.hid (show goneAt l g k = (decide (0 ≤ g.getD k 0) && decide (g.getD k 0 ≤ (l.getD k default).z)) from rfl)
          have HBad := Lib.hid (fun h => gone_bad (l := l) (g := g) (k := k) (by rw [← HN.out]; exact hlt) h)
          have HP := Lib.hid (show goneAt l g k = true → ∀ j, j < k + 1 → goneAt l g j = true from fun h j hj => by
            by_cases e : j = k
            · subst e; exact h
            · exact hp.out j (by omega))
          clear hc hc2 hbl hbg
          generalize g.getD k 0 = y at *
          generalize (l.getD k default).z = z at *
          by_cases g2 : y < 0
          · have d3 : decide (y < 0) = true := by rw [decide_eq_true_iff]; exact g2
            have HR := Lib.hid (show x = false by rw [HX.out]; exact HBad.out (by rw [HO.out, show decide (0 ≤ y) = false by rw [decide_eq_false_iff_not]; omega]; rfl))
            go_wp2_with fail
            go_quiet (fail)
            go_wp2
            go_ret
            exact ⟨by rw [HR.out]; rfl, by obtain ⟨q, e⟩ := hw.out; exact ⟨_, by rw [e, World.drewN_drewN]⟩⟩
          · have d3 : decide (y < 0) = false := by rw [decide_eq_false_iff_not]; exact g2
            by_cases g3 : z < y
            · have d4 : decide (z < y) = true := by rw [decide_eq_true_iff]; exact g3
              have HR := Lib.hid (show x = false by rw [HX.out]; exact HBad.out (by rw [HO.out, show decide (y ≤ z) = false by rw [decide_eq_false_iff_not]; omega]; simp))
              go_wp2_with fail
              go_quiet (fail)
              go_wp2
              go_ret
              exact ⟨by rw [HR.out]; rfl, by obtain ⟨q, e⟩ := hw.out; exact ⟨_, by rw [e, World.drewN_drewN]⟩⟩
            · have d4 : decide (z < y) = false := by rw [decide_eq_false_iff_not]; exact g3
              have HQ := Lib.hid (HP.out (by rw [HO.out, show decide (0 ≤ y) = true by rw [decide_eq_true_iff]; omega, show decide (y ≤ z) = true by rw [decide_eq_true_iff]; omega]; rfl))
              go_wp2_with fail
              go_quiet (fail)
              go_wp2
              go_roundw
              case rel => exact ⟨k + 1, by omega, by go_num, HQ, Lib.hid (by obtain ⟨q, e⟩ := hw.out; exact ⟨_, by rw [e, World.drewN_drewN]⟩)⟩
              case measure => simp [intOf]; omega
        · obtain rfl : k = m := by omega
          have HR := Lib.hid (show x = true by rw [HX.out, gone_iff]; exact ⟨by rw [← HN.out, ← HM.out], fun j hj => hp.out j (by rw [HN.out]; exact hj)⟩)
          go_wp2
          go_ret
          exact ⟨by rw [HR.out]; rfl, hw.out⟩
    · have HR := Lib.hid (show x = false by rw [HX.out]; exact gone_len (by rw [← HN.out, ← HM.out]; exact h1))
      have d1 : ((m : Int) == (n : Int)) = false := by rw [beq_eq_false_iff_ne]; omega
      have d2 : ((m : Int) != (n : Int)) = true := by simp [bne, d1]
      clear h1
      go_enter Try.func37, Try.ntmps37
      go_wp2_with fail
      refine HMay.out.mono ?_
      rintro e w1 ⟨rfl, hq⟩
      have HQ := Lib.hid hq
      clear hq
      go_wp2
      go_ret
      exact ⟨by rw [HR.out]; rfl, HQ.out⟩

set_option maxHeartbeats 8000000 in
theorem rwhole_bad (ao bo : Option Addr) (n cap m cap2 : Nat) (l : List In1) (g : List Int) (S : Int) (w : World) (h : Ins w (.slice ao n cap) l) (hn : n = l.length) (h2 : Ints w (.slice bo m cap2) g) (hm : m = g.length) (hf : fewB l = true) (hw : wholeN l g S ≠ 0) :
    Calls Try.prog 25 #[.slice ao n cap, .slice bo m cap2, .int .i64 S] w fun e w' => e = .returned (.tuple #[.slice none 0 0, .slice none 0 0, .int .i64 (wholeN l g S)]) ∧ Below w.heap.size w w' := by
  obtain ⟨r, hr⟩ : ∃ r, r = wholeN l g S := ⟨_, rfl⟩
  rw [← hr] at hw ⊢
  unfold wholeN at hr
  have HR := Lib.hid (rright_any ao bo n cap m cap2 l g w h hn h2 hm hf)
  have H := Lib.hid h
  have H2 := Lib.hid h2
  by_cases c12 : mayB l = true ∧ goneB l g = true
  · obtain ⟨c1, c2⟩ := c12
    rw [c1, c2, Bool.and_self] at HR
    by_cases c3 : S < 0
    · rw [if_pos (.inr (.inr (.inl c3)))] at hr
      subst hr
      have d1 : decide (S < 0) = true := by simpa using c3
      clear c1 c2 hw hn hm h h2 hf
      go_enter Try.func25, Try.ntmps25
      go_wp2_with fail
      refine HR.out.mono ?_
      rintro e w1 ⟨rfl, hq⟩
      have HB := Lib.hid (drew_below hq)
      clear hq
      go_wp2
      go_ret3
      exact ⟨rfl, HB.out⟩
    · have d1 : decide (S < 0) = false := by simpa using c3
      by_cases c4 : 1099511627776 < S
      · rw [if_pos (.inr (.inr (.inr c4)))] at hr
        subst hr
        have d2 : decide (1099511627776 < S) = true := by simpa using c4
        clear c1 c2 hw hn hm h h2 hf
        go_enter Try.func25, Try.ntmps25
        go_wp2_with fail
        refine HR.out.mono ?_
        rintro e w1 ⟨rfl, hq⟩
        have HB := Lib.hid (drew_below hq)
        clear hq
        go_wp2
        go_ret3
        exact ⟨rfl, HB.out⟩
      · rw [if_neg (by simp [c1, c2]; omega)] at hr
        have d2 : decide (1099511627776 < S) = false := by simpa using c4
        have hgl : g.length ≤ 4096 := by rw [((gone_iff l g).1 c2).1]; exact ((may_iff l).1 c1).2.1
        have hgb := gone_bd c1 c2
        have hsb := isum_bd 1099511627776 g hgb
        have HSu := Lib.hid (fun w (h2 : Ints w (.slice bo m cap2) g) => rsum_any bo m cap2 g w h2 hm (by omega) hgb)
        have v1 : IntKind.i64.wrap (g.sum + S) = g.sum + S := IntWalk.i64_in _ (by omega)
        have HA := Lib.hid (fun w (hi : Ins w (.slice ao n cap) l) => radj_bad (g.sum + S) ao n cap l w hi hn hf (by rw [← hr]; exact hw))
        rw [← hr] at HA
        have d3 : (r == 0) = false := by rw [beq_eq_false_iff_ne]; exact hw
        have d4 : (r != 0) = true := by simp [bne, d3]
        clear c1 c2 hw hn hm h h2 hr hgb hsb hgl hf
        generalize g.sum = G at *
        go_enter Try.func25, Try.ntmps25
        go_wp2_with fail
        refine HR.out.mono ?_
        rintro e w1 ⟨rfl, hq⟩
        have HB := Lib.hid (drew_below hq)
        clear hq
        go_wp2_with fail
        refine (HSu.out _ (H2.out.below HB.out)).mono ?_
        rintro e w2 ⟨rfl, rfl⟩
        go_wp2_with fail
        refine (HA.out _ (H.out.below HB.out)).mono ?_
        rintro e w3 ⟨rfl, hb⟩
        have HB3 := Lib.hid (bt HB.out hb)
        clear hb
        go_wp2
        go_ret3
        exact ⟨rfl, HB3.out⟩
  · have e1 : (mayB l && goneB l g) = false := by
      rw [Bool.eq_false_iff]; intro e; exact c12 (by simpa using e)
    rw [e1] at HR
    rw [if_pos (by
      cases c1 : mayB l with
      | false => exact .inl rfl
      | true =>
        cases c2 : goneB l g with
        | false => exact .inr (.inl rfl)
        | true => exact absurd ⟨c1, c2⟩ c12)] at hr
    subst hr
    clear c12 e1 hw hn hm h h2 hf
    go_enter Try.func25, Try.ntmps25
    go_wp2_with fail
    refine HR.out.mono ?_
    rintro e w1 ⟨rfl, hq⟩
    have HB := Lib.hid (drew_below hq)
    clear hq
    go_wp2
    go_ret3
    exact ⟨rfl, HB.out⟩

def RWPost (T : Nat) (W : List Nat) (g : List Int) (n : Nat) (w : World) (e : Ending) (w' : World) : Prop :=
  ∃ b1 v2 out base, e = .returned (.tuple #[.slice (some ⟨b1, 0, none⟩) n n, v2, .int .i64 0]) ∧ IsSplit T W out ∧ w'.ownsRow base 2 1 v2 n ((getsL g out).map (Value.int .i64)) ∧ w.heap.size ≤ base ∧ Below w.heap.size w w'

set_option maxRecDepth 100000 in
set_option maxHeartbeats 8000000 in
theorem rwhole_any (T : Nat) (W : List Nat) (ao bo : Option Addr) (n cap cap2 : Nat) (l : List In1) (g : List Int) (S : Int) (w : World) (h : Ins w (.slice ao n cap) l) (hn : n = l.length) (h2 : Ints w (.slice bo n cap2) g) (hf : fewB l = true) (hw : WholeOk l g S T W) :
    Calls Try.prog 25 #[.slice ao n cap, .slice bo n cap2, .int .i64 S] w (RWPost T W g n w) := by
  have hm : n = g.length := by rw [hn]; exact hw.gl.symm
  have HR := Lib.hid (rright_any ao bo n cap n cap2 l g w h hn h2 hm hf)
  rw [hw.may, hw.gone, Bool.and_self] at HR
  obtain ⟨i0, hi, hz0, hz1, hz2⟩ := info_parts Try.infoI64
  have H := Lib.hid h
  have H2 := Lib.hid h2
  have HO := Lib.hid hw
  have d1 : decide (S < 0) = false := by rw [decide_eq_false_iff_not]; have := hw.s0; omega
  have d2 : decide (1099511627776 < S) = false := by rw [decide_eq_false_iff_not]; have := hw.s1; omega
  have h31 : n ≤ 31 := by rw [hn]; exact ((few_iff l).1 hf).1
  have HSu := Lib.hid (fun w (h2 : Ints w (.slice bo n cap2) g) => rsum_any bo n cap2 g w h2 hm (by omega) (gone_bd hw.may hw.gone))
  obtain ⟨-, -, -, -, hA⟩ := whole_ok hw.ok
  rw [hw.sum] at hA
  have HA := Lib.hid (fun w (hi : Ins w (.slice ao n cap) l) => radj_any T W ao n cap l w hi hn hf hA hw.vals)
  have v1 : IntKind.i64.wrap (g.sum + S) = (T : Int) := by rw [hw.sum]; have := hw.t1; exact IntWalk.i64_in _ (by omega)
  have HN := Lib.hid hn
  have HM := Lib.hid hm
  clear hA hw hn hm h h2 hf
  generalize g.sum = G at *
  go_enter Try.func25, Try.ntmps25
  go_wp2_with fail
  refine HR.out.mono ?_
  rintro e w1 ⟨rfl, hq⟩
  have HB := Lib.hid (drew_below hq)
  clear hq
  go_wp2_with fail
  refine (HSu.out _ (H2.out.below HB.out)).mono ?_
  rintro e w2 ⟨rfl, rfl⟩
  go_wp2_with fail
  refine (HA.out _ (H.out.below HB.out)).mono ?_
  rintro e w3 ⟨b1, out, rfl, hs, hbk, hlo, hb⟩
  have HB3 := Lib.hid (bt HB.out hb)
  have HS := Lib.hid hs
  have HLt := Lib.hid hbk.lt
  have HOl := Lib.hid (show out.length = n by rw [hs.len, HO.out.wl, HN.out])
  have HK := Lib.hid (fun k (hk : k < n) => hbk.at (n := n) (k := k) (by simp [natI, HOl.out]) hk)
  have HLE := Lib.hid (fun k => Nat.le_trans (split_le hs HO.out.ss k) HO.out.t1)
  have HGD := Lib.hid (fun k => gone_getD HO.out.may HO.out.gone k)
  have HGl := Lib.hid (show (getsL g out).length = n by rw [gets_len, HM.out])
  have HO0 := Lib.hid (show (w3.alloc (.cells #[] 2)).ownsRow w3.heap.size 2 1 (.slice (some ⟨w3.heap.size, 0, none⟩) 0 0) 0 (((getsL g out).take 0).map (Value.int .i64)) from own_lit w3 _ 0 #[] (by unfold maxLen; omega) rfl)
  have HB0 := Lib.hid ((Below.refl w3.heap.size w3).alloc (Nat.le_refl _) (.cells #[] 2))
  clear hb hlo hbk hs HR HSu HA
  go_wp2_with fail
  go_loopw [11, 12] (fun s i wr => ∃ (k : Nat) (v : Value), k ≤ n ∧ i = .int .i64 (k : Int) ∧ s = v ∧ Hid (wr.ownsRow w3.heap.size 2 1 v k (((getsL g out).take k).map (Value.int .i64))) ∧ Hid (Below w3.heap.size w3 wr)) (fun _ i _ => n - (intOf i).toNat)
  case atStart => exact ⟨0, _, Nat.zero_le _, rfl, rfl, HO0, HB0⟩
  case round =>
    clear HO0 HB0
    obtain ⟨k, v, hk, rfl, rfl, ho, hbl⟩ := hrel
    by_cases hlt : k < n
    · have l1 : (k : Int) < (n : Int) := by omega
      have l0 : (0 : Int) ≤ (k : Int) := by omega
      obtain ⟨bg, og, rfl, hbg, hc⟩ := (H2.out.below HB3.out).get HM.out (by omega)
      have c1 : wr.cell? ⟨bg, og + k, none⟩ = some (.int .i64 (g.getD k 0)) := by rw [hbl.out.cell (by show bg < _; omega)]; exact hc k hlt
      have c2 : wr.cell? ⟨b1, k, none⟩ = some (.int .i64 ((out.getD k 0 : Nat) : Int)) := by
        rw [hbl.out.cell (by show b1 < _; exact HLt.out)]; have := HK.out k hlt; rwa [natI_getD] at this
      have hkv : k < (getsL g out).length := by rw [HGl.out]; exact hlt
      have HTk := Lib.hid (show ((getsL g out).take (k + 1)).map (Value.int .i64) = ((getsL g out).take k).map (Value.int .i64) ++ [.int .i64 (g.getD k 0 - ((out.getD k 0 : Nat) : Int))] by
        rw [← gets_get (by rw [← HM.out]; exact hlt), List.take_succ_eq_append_getElem hkv, List.getD_eq_getElem?_getD, List.getElem?_eq_getElem hkv, List.map_append]
        rfl)
      have q1 := HGD.out k
      have q2 := HLE.out k
      generalize g.getD k 0 = y at *
      generalize out.getD k 0 = p at *
      obtain ⟨z, hz⟩ : ∃ z, z = y - (p : Int) := ⟨_, rfl⟩
      have v2 : IntKind.i64.wrap (y - (p : Int)) = z := by rw [hz]; exact IntWalk.i64_in _ (by omega)
      rw [← hz] at HTk
      clear hz
      have L1 : k + 1 ≤ maxLen := by unfold maxLen; omega
      have L2 : (k + 1) * 8 ≤ 140737488355328 := by omega
      have Z1 : 0 < 1 := by decide
      have HA := Lib.hid ((Below.refl wr.heap.size wr).alloc (Nat.le_refl _) (.cells #[.int .i64 z] 2))
      have m1 := cell_later HA.out c1
      have m2 := cell_later HA.out c2
      have HOw := Lib.hid ((ho.out.alloc (.cells #[.int .i64 z] 2)).drew)
      have HBo := Lib.hid ((hbl.out.alloc hbl.out.size (.cells #[.int .i64 z] 2)).drew)
      have HBs : w3.heap.size ≤ ((wr.alloc (.cells #[.int .i64 z] 2)).drew).heap.size := by have := hbl.out.size; simp; omega
      clear hc hkv q1 q2 hbg
      go_wp2_with fail
      go_region_law (refine step_app rfl (.tmp 44) (.tmp 54) 23 rfl w3.heap.size 2 i0 (.int .i64 0) 1 8 Try.underlying23 hi hz0 hz1 hz2 rfl Z1 _ _ _ rfl HOw.out HBo.out (Nat.le_refl _) HBs #[.int .i64 z] wr.heap.size rfl (new_cells _ _ _) rfl (one_int _ _) L1 L2 ?_; intro v4 w4 hown4 hb4 _; have HO4 := Lib.hid hown4; have HB4 := Lib.hid hb4; clear hown4 hb4)
      all_goals
        go_wp2
        go_roundw
        case rel => exact ⟨k + 1, v4, by omega, by go_num, rfl, Lib.hid (by rw [HTk.out]; exact HO4.out), HB4⟩
        case measure => simp [intOf]; omega
    · obtain rfl : k = n := by omega
      obtain ⟨ao4, cap4, rfl⟩ := own_shape ho.out
      have HFin := Lib.hid (show wr.ownsRow w3.heap.size 2 1 (.slice ao4 k cap4) k ((getsL g out).map (Value.int .i64)) by
        have := ho.out
        rwa [List.take_of_length_le (by rw [HGl.out]; exact Nat.le_refl _)] at this)
      have HB5 := Lib.hid (bt HB3.out hbl.out)
      go_wp2
      go_ret3
      exact ⟨b1, _, out, w3.heap.size, rfl, HS.out, HFin.out, HB3.out.size, HB5.out⟩
end Go.Proofs.Ytoaopgamfndfgaa
