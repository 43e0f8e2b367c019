/-
  AverageSums.
-/
import Derived.Test.YtoaopgamfndfgaaAwake
import Derived.Test.YtoaopgamfndfgaaTimes
import Derived.Test.YtoaopgamfndfgaaSums
import Derived.BigQuiet
namespace Go.Proofs.Ytoaopgamfndfgaa
open Go Go.RowKit
set_option linter.unusedVariables false
set_option linter.unusedSimpArgs false

theorem natI_getD (W : List Nat) (k : Nat) : (natI W).getD k 0 = ((W.getD k 0 : Nat) : Int) := nat_get
theorem val_nat {l : List In1} {W : List Nat} (h : valsL l = natI W) (k : Nat) : (l.getD k default).z = ((W.getD k 0 : Nat) : Int) := by
  rw [← vals_get, h, natI_getD]
/-- Where a block of numbers is read. -/
theorem Blk.at {w : World} {b n k : Nat} {xs : List Int} (h : Blk w b xs) (hn : xs.length = n) (hk : k < n) : w.cell? ⟨b, k, none⟩ = some (.int .i64 (xs.getD k 0)) := by
  refine h.cell ?_
  rw [List.getD_eq_getElem?_getD, List.getElem?_eq_getElem (by omega)]; rfl

namespace averageSums
set_option maxHeartbeats 1000000 in
theorem skip (ao bo : Option Addr) (n cap m cap2 : Nat) (l : List In1) (S : Int) (w : World) (h : Ins w (.slice ao n cap) l) (hn : n = l.length) (hwf : ∀ o ∈ l, o.wf) (hcap : n ≤ maxLen) (hf : (fewB l && decide (m ≤ 60)) = false) :
    Calls Try.prog 4 #[.slice ao n cap, .slice bo m cap2, .int .i64 S] w fun e w' => e = .returned (.bool true) ∧ Below w.heap.size w w' := by
  have HF := Lib.hid (fun w h => few_any ao bo n cap m cap2 l w h hn hwf hcap)
  rw [hf] at HF
  have H := Lib.hid h
  clear h hn hwf hcap hf
  go_enter Try.func4, Try.ntmps4
  go_wp2_with fail
  refine (awake43_any _).mono ?_
  rintro e w1 ⟨rfl, hb1⟩
  have HB1 := Lib.hid hb1
  clear hb1
  go_wp2_with fail
  refine (HF.out _ (H.out.below HB1.out)).mono ?_
  rintro e w2 ⟨rfl, rfl⟩
  go_wp2
  go_ret
  exact ⟨rfl, HB1.out⟩

set_option maxHeartbeats 1000000 in
theorem bad (ao bo : Option Addr) (n cap m cap2 : Nat) (l : List In1) (g : List Int) (S : Int) (w : World) (h : Ins w (.slice ao n cap) l) (hn : n = l.length) (h2 : Ints w (.slice bo m cap2) g) (hm : m = g.length) (hwf : ∀ o ∈ l, o.wf) (hcap : n ≤ maxLen) (hf : (fewB l && decide (m ≤ 60)) = true) (hw : wholeN l g S ≠ 0) :
    Calls Try.prog 4 #[.slice ao n cap, .slice bo m cap2, .int .i64 S] w fun e w' => e = .returned (.bool true) ∧ Below w.heap.size w w' := by
  have HF := Lib.hid (fun w h => few_any ao bo n cap m cap2 l w h hn hwf hcap)
  rw [hf] at HF
  have HW := Lib.hid (fun w h h2 => whole_bad ao bo n cap m cap2 l g S w h hn h2 hm hw)
  have H := Lib.hid h
  have H2 := Lib.hid h2
  generalize wholeN l g S = r at *
  have d3 : (r == 0) = false := by rw [beq_eq_false_iff_ne]; exact hw
  have d4 : (r != 0) = true := by simp [bne, d3]
  clear h hn hwf hcap hf h2 hm hw
  go_enter Try.func4, Try.ntmps4
  go_wp2_with fail
  refine (awake43_any _).mono ?_
  rintro e w1 ⟨rfl, hb1⟩
  have HB1 := Lib.hid hb1
  clear hb1
  go_wp2_with fail
  refine (HF.out _ (H.out.below HB1.out)).mono ?_
  rintro e w2 ⟨rfl, rfl⟩
  go_wp2_with fail
  refine (HW.out _ (H.out.below HB1.out) (H2.out.below HB1.out)).mono ?_
  rintro e w2 ⟨rfl, hb⟩
  have HB2 := Lib.hid (bt HB1.out hb)
  clear hb
  go_wp2
  go_ret
  exact ⟨rfl, HB2.out⟩

set_option maxRecDepth 100000 in
set_option maxHeartbeats 8000000 in
theorem core (T : Nat) (W : List Nat) (ao bo : Option Addr) (n cap cap2 : Nat) (l : List In1) (g : List Int) (S : Int) (w : World) (h : Ins w (.slice ao n cap) l) (hn : n = l.length) (h2 : Ints w (.slice bo n cap2) g) (hwf : ∀ o ∈ l, o.wf) (hcap : n ≤ maxLen) (hf : (fewB l && decide (n ≤ 60)) = true) (hw : WholeOk l g S T W) :
    Calls Try.prog 4 #[.slice ao n cap, .slice bo n cap2, .int .i64 S] w fun e w' => e = .returned (.bool true) ∧ Below w.heap.size w w' := by
  have HF := Lib.hid (fun w h => few_any ao bo n cap n cap2 l w h hn hwf hcap)
  rw [hf] at HF
  have HW := Lib.hid (fun w h h2 => whole_any T W ao bo n cap cap2 l g S w h hn h2 hw.ok hw.sum hw.vals)
  have H := Lib.hid h
  have H2 := Lib.hid h2
  have HN := Lib.hid hn
  have HO := Lib.hid hw
  have h31 : n ≤ 31 := by
    rw [hn]
    have : fewB l = true := by revert hf; cases fewB l <;> simp
    exact ((few_iff l).1 this).1
  have hp : 0 < n := by rw [hn]; exact hw.pos
  clear h hn hwf hcap hf h2 hw
  go_enter Try.func4, Try.ntmps4
  go_wp2_with fail
  refine (awake43_any _).mono ?_
  rintro e w1 ⟨rfl, hb1⟩
  have HB1 := Lib.hid hb1
  clear hb1
  go_wp2_with fail
  refine (HF.out _ (H.out.below HB1.out)).mono ?_
  rintro e w2 ⟨rfl, rfl⟩
  go_wp2_with fail
  refine (HW.out _ (H.out.below HB1.out) (H2.out.below HB1.out)).mono ?_
  rintro e w2 ⟨b1, b2, out, rfl, hs, hk1, hk2, -, -, hb⟩
  have HB2 := Lib.hid (bt HB1.out hb)
  have HS := Lib.hid hs
  have HOL := Lib.hid (show out.length = n by rw [hs.len, HO.out.wl, HN.out])
  have HSUM := Lib.hid (split_sum hs HO.out.ss)
  have HC0 := Lib.hid ((H.out.below HB2.out).get HN.out hp)
  have HC1 := Lib.hid ((H2.out.below HB2.out).get (by rw [HO.out.gl]; exact HN.out) hp)
  obtain ⟨bl, off, rfl, -, hc0⟩ := HC0.out
  obtain ⟨bg, og, rfl, -, hc1⟩ := HC1.out
  have HC0 := Lib.hid hc0
  have HC1 := Lib.hid hc1
  have HC2 := Lib.hid (fun k (hk : k < n) => hk1.at (n := n) (k := k) (by simp [natI, HOL.out]) hk)
  have HC3 := Lib.hid (fun k (hk : k < n) => hk2.at (n := n) (k := k) (by rw [gets_len, HO.out.gl, HN.out]) hk)
  have HGB := Lib.hid (fun k => itake_bd (gone_bd HO.out.may HO.out.gone) k)
  have HGD := Lib.hid (fun k => gone_getD HO.out.may HO.out.gone k)
  have HLE := Lib.hid (fun k => Nat.le_trans (split_le hs HO.out.ss k) HO.out.t1)
  have HS01 := Lib.hid (And.intro HO.out.s0 HO.out.s1)
  clear hb hs hk1 hk2 hc0 hc1 HW HF
  go_wp2_with fail
  go_loopw [10, 11, 12, 13, 14] (fun lo al go va i wr => ∃ (k : Nat) (s : Int) (t v : Nat), k ≤ n ∧ i = .int .i64 (k : Int) ∧ lo = .int .i64 (S + s) ∧ al = .int .i64 (t : Int) ∧ go = .int .i64 (S + s - (t : Int)) ∧ va = .int .i64 (v : Int) ∧ Hid (s = (g.take k).sum) ∧ Hid (t = (out.take k).sum) ∧ Hid (v = (W.take k).sum) ∧ Hid (∃ q, wr = w2.drewN q)) (fun _ _ _ _ i _ => n - (intOf i).toNat)
  case atStart => exact ⟨0, 0, 0, 0, Nat.zero_le _, rfl, by simp, rfl, by simp, rfl, Lib.hid (by simp), Lib.hid (by simp), Lib.hid (by simp), Lib.hid ⟨0, rfl⟩⟩
  case round =>
    obtain ⟨k, s, t, v, hk, rfl, rfl, rfl, rfl, rfl, hs, ht, hv, hw⟩ := hrel
    by_cases hlt : k < n
    · have l1 : (k : Int) < (n : Int) := by omega
      have l0 : (0 : Int) ≤ (k : Int) := by omega
      obtain ⟨-, c0⟩ := HC0.out k hlt
      have c1 := HC1.out k hlt
      have c2 := HC2.out k hlt
      have c3 := HC3.out k hlt
      rw [val_nat HO.out.vals] at c0
      rw [natI_getD] at c2
      rw [gets_get (by rw [HO.out.gl, ← HN.out]; exact hlt)] at c3
      have c0 : wr.cell? ⟨bl, off + k * 2 + 1, none⟩ = some (.int .i64 ((W.getD k 0 : Nat) : Int)) := by obtain ⟨q, e⟩ := hw.out; rw [e]; exact c0
      have c1 : wr.cell? ⟨bg, og + k, none⟩ = some (.int .i64 (g.getD k 0)) := by obtain ⟨q, e⟩ := hw.out; rw [e]; exact c1
      have c2 : wr.cell? ⟨b1, k, none⟩ = some (.int .i64 ((out.getD k 0 : Nat) : Int)) := by obtain ⟨q, e⟩ := hw.out; rw [e]; exact c2
      have c3 : wr.cell? ⟨b2, k, none⟩ = some (.int .i64 (g.getD k 0 - ((out.getD k 0 : Nat) : Int))) := by obtain ⟨q, e⟩ := hw.out; rw [e]; exact c3
      have g1 := itake_step (zs := g) (k := k) (by rw [HO.out.gl, ← HN.out]; exact hlt)
      have g2 := take_sum_step (W := out) (k := k) (by rw [HOL.out]; exact hlt)
      have g3 := take_sum_step (W := W) (k := k) (by rw [HO.out.wl, ← HN.out]; exact hlt)
      have g4 := take_sum_le out (k + 1)
      rw [HSUM.out] at g4
      have g5 := take_sum_le W (k + 1)
      have g6 : W.sum ≤ 4503599627370496 := sum_bd2 HO.out.wb (by rw [HO.out.wl, ← HN.out]; omega)
      have g7 := HGB.out (k + 1)
      rw [HO.out.gl, ← HN.out] at g7
      have g8 := HO.out.t1
      obtain ⟨s0, s1⟩ := HS01.out
      have hs' := hs.out
      have ht' := ht.out
      have hv' := hv.out
      have gd := HGD.out k
      have od := HLE.out k
      obtain ⟨v2, hv2⟩ : ∃ v2, v2 = v + W.getD k 0 := ⟨_, rfl⟩
      obtain ⟨t2, ht2⟩ : ∃ t2, t2 = t + out.getD k 0 := ⟨_, rfl⟩
      obtain ⟨s2, hs2⟩ : ∃ s2, s2 = s + g.getD k 0 := ⟨_, rfl⟩
      have E1 : IntKind.i64.wrap (S + s + g.getD k 0) = S + s2 := by rw [IntWalk.i64_in _ (by omega)]; omega
      have E2 : IntKind.i64.wrap ((t : Int) + ((out.getD k 0 : Nat) : Int)) = (t2 : Int) := i64_eq (by omega) (by omega)
      have E3 : IntKind.i64.wrap ((v : Int) + ((W.getD k 0 : Nat) : Int)) = (v2 : Int) := i64_eq (by omega) (by omega)
      have E4 : IntKind.i64.wrap (S + s - (t : Int) + (g.getD k 0 - ((out.getD k 0 : Nat) : Int))) = S + s2 - (t2 : Int) := by rw [IntWalk.i64_in _ (by omega)]; omega
      have E5 : IntKind.i64.wrap (g.getD k 0 - ((out.getD k 0 : Nat) : Int)) = g.getD k 0 - ((out.getD k 0 : Nat) : Int) := IntWalk.i64_in _ (by omega)
      have HX := Lib.hid (show s2 = (g.take (k + 1)).sum ∧ t2 = (out.take (k + 1)).sum ∧ v2 = (W.take (k + 1)).sum from ⟨by omega, by omega, by omega⟩)
      generalize g.getD k 0 = y at *
      generalize out.getD k 0 = p at *
      generalize W.getD k 0 = x at *
      have F1 : (y - (p : Int) == y - (p : Int)) = true := by simp
      have F2 : (y - (p : Int) != y - (p : Int)) = false := by simp
      clear g1 g2 g3 g4 g5 g6 g7 g8 hs' ht' hv' hv2 ht2 hs2 s0 s1 gd od
      go_wp2_with fail
      go_quiet (fail)
      go_wp2_with fail
      go_quiet (fail)
      go_wp2
      go_roundw
      case rel => exact ⟨k + 1, s2, t2, v2, by omega, by go_num, rfl, rfl, rfl, rfl, Lib.hid HX.out.1, Lib.hid HX.out.2.1, Lib.hid HX.out.2.2, Lib.hid (by obtain ⟨q, e⟩ := hw.out; exact ⟨_, by rw [e, World.drewN_drewN]⟩)⟩
      case measure => simp [intOf]; omega
    · obtain rfl : k = n := by omega
      have hs' : S + s = (T : Int) := by have := hs.out; rw [List.take_of_length_le (by rw [HO.out.gl, ← HN.out]; omega)] at this; rw [this, Int.add_comm]; exact HO.out.sum
      have ht' : t = T := by have := ht.out; rw [List.take_of_length_le (by rw [HOL.out]; omega), HSUM.out] at this; exact this
      have HTS := Lib.hid (show v = W.sum by have := hv.out; rwa [List.take_of_length_le (by rw [HO.out.wl, ← HN.out]; omega)] at this)
      have HTB := Lib.hid (show v ≤ 4503599627370496 by rw [HTS.out]; exact sum_bd2 HO.out.wb (by rw [HO.out.wl, ← HN.out]; omega))
      have HTV := Lib.hid (show T ≤ v by rw [HTS.out]; exact HO.out.ts)
      rw [hs', ht']
      rw [show (T : Int) - (T : Int) = 0 from by omega]
      clear hs ht hv hk hlt hs' ht'
      go_wp2_with fail
      go_loopw [15] (fun i wr => ∃ k2 : Nat, k2 ≤ k ∧ i = .int .i64 (k2 : Int) ∧ Hid (∃ q, wr = w2.drewN q)) (fun i _ => k - (intOf i).toNat)
      case atStart => exact ⟨0, Nat.zero_le _, rfl, hw⟩
      case round =>
        clear hw
        obtain ⟨k2, hk, rfl, hw⟩ := hrel
        have HBw := Lib.hid (show Below w.heap.size w wr by obtain ⟨q, e⟩ := hw.out; rw [e]; exact below_drewN HB2.out q)
        by_cases hlt : k2 < k
        · have l1 : (k2 : Int) < (k : Int) := by omega
          have l0 : (0 : Int) ≤ (k2 : Int) := by omega
          by_cases hv0 : v = 0
          · have hT0 : T = 0 := by have := HTV.out; omega
            have d1 : decide (0 < (v : Int)) = false := by rw [decide_eq_false_iff_not]; omega
            have d1' : decide (0 < v) = false := by rw [decide_eq_false_iff_not]; omega
            clear hv0 hT0
            go_wp2
            go_ret
            exact ⟨rfl, HBw.out⟩
          · have d1 : decide (0 < (v : Int)) = true := by rw [decide_eq_true_iff]; omega
            have d1' : decide (0 < v) = true := by rw [decide_eq_true_iff]; omega
            obtain ⟨-, c0⟩ := HC0.out k2 hlt
            have c2 := HC2.out k2 hlt
            rw [val_nat HO.out.vals] at c0
            rw [natI_getD] at c2
            have c0 : wr.cell? ⟨bl, off + k2 * 2 + 1, none⟩ = some (.int .i64 ((W.getD k2 0 : Nat) : Int)) := by obtain ⟨q, e⟩ := hw.out; rw [e]; exact c0
            have c2 : wr.cell? ⟨b1, k2, none⟩ = some (.int .i64 ((out.getD k2 0 : Nat) : Int)) := by obtain ⟨q, e⟩ := hw.out; rw [e]; exact c2
            have hnear := split_near HS.out (by rw [← HTS.out]; omega) (i := k2) (by rw [HO.out.wl, ← HN.out]; exact hlt)
            rw [← HTS.out] at hnear
            have hxW : W.getD k2 0 ≤ W.sum := getD_le_sum W k2
            have hT := HO.out.t1
            have htb := HTB.out
            have hq : T * W.getD k2 0 / v ≤ T := pt_le (by rw [HTS.out]; exact hxW) (by omega)
            have HTM := Lib.hid (fun w => times_any T (W.getD k2 0) v (by omega) (by rw [← HTS.out] at hxW; omega) (by omega) (by omega) (by omega) w)
            obtain ⟨lw, hlw⟩ : ∃ x, x = T * W.getD k2 0 / v := ⟨_, rfl⟩
            obtain ⟨rs, hrs⟩ : ∃ x, x = T * W.getD k2 0 % v := ⟨_, rfl⟩
            rw [← hlw, ← hrs] at HTM hnear
            rw [← hlw] at hq
            generalize out.getD k2 0 = p at *
            generalize W.getD k2 0 = x at *
            have E1 : IntKind.i64.wrap ((lw : Int) + 1) = (lw : Int) + 1 := IntWalk.i64_in _ (by omega)
            rcases hnear with hp | ⟨hp, hr⟩
            · subst hp
              have f1 : ((p : Int) == (p : Int)) = true := by simp
              have f2 : ((p : Int) != (p : Int)) = false := by simp
              have f3 : decide ((p : Int) < (p : Int)) = false := by simp
              have f3' : decide (p < p) = false := by simp
              have f4 : decide ((p : Int) + 1 < (p : Int)) = false := by rw [decide_eq_false_iff_not]; omega
              clear hlw hrs hq hT htb hxW hv0
              cases f5 : ((rs : Int) == 0) with
              | true =>
                go_wp2_with fail
                refine (HTM.out _).mono ?_
                rintro e w3 ⟨rfl, rfl⟩
                go_wp2
                go_roundw
                case rel => exact ⟨k2 + 1, by omega, by go_num, hw⟩
                case measure => simp [intOf]; omega
              | false =>
                go_wp2_with fail
                refine (HTM.out _).mono ?_
                rintro e w3 ⟨rfl, rfl⟩
                go_wp2
                go_roundw
                case rel => exact ⟨k2 + 1, by omega, by go_num, hw⟩
                case measure => simp [intOf]; omega
            · subst hp
              have f1 : ((((lw + 1 : Nat) : Int)) == (lw : Int)) = false := by rw [beq_eq_false_iff_ne]; omega
              have f2 : ((((lw + 1 : Nat) : Int)) != (lw : Int)) = true := by rw [bne, f1]; rfl
              have f3 : decide (((lw + 1 : Nat) : Int) < (lw : Int)) = false := by rw [decide_eq_false_iff_not]; omega
              have f3' : decide ((lw + 1) < lw) = false := by rw [decide_eq_false_iff_not]; omega
              have f4 : decide ((lw : Int) + 1 < ((lw + 1 : Nat) : Int)) = false := by rw [decide_eq_false_iff_not]; omega
              have f5 : ((rs : Int) == 0) = false := by rw [beq_eq_false_iff_ne]; omega
              clear hlw hrs hq hT htb hxW hv0 hr
              generalize lw + 1 = p at *
              go_wp2_with fail
              refine (HTM.out _).mono ?_
              rintro e w3 ⟨rfl, rfl⟩
              go_wp2
              go_roundw
              case rel => exact ⟨k2 + 1, by omega, by go_num, hw⟩
              case measure => simp [intOf]; omega
        · obtain rfl : k2 = k := by omega
          go_wp2
          go_ret
          exact ⟨rfl, HBw.out⟩

theorem walk (v0 v1 : Value) (a2 : Int) (w : World) (w0 : Is22 w v0) (w1 : Is23 w v1) (w2 : (Lit.int .i64 a2).wf = true) :
    Calls Try.prog 4 #[v0, v1, .int .i64 a2] w fun e w' => e = .returned (.bool true) ∧ Below w.heap.size w w' := by
  obtain ⟨l, h, hwf⟩ := w0
  obtain ⟨g, h2, _⟩ := w1
  obtain ⟨ao, cap, rfl, hc1, hc2, _⟩ := h.shape
  obtain ⟨bo, cap2, rfl, _⟩ := h2.shape
  cases hf : (fewB l && decide (g.length ≤ 60)) with
  | false => exact skip ao bo _ cap _ cap2 l a2 w h rfl hwf (Nat.le_trans hc1 hc2) hf
  | true =>
    by_cases hw : wholeN l g a2 = 0
    · obtain ⟨T, W, ho⟩ := whole_is hw
      have e := ho.gl
      rw [e] at h2 hf ⊢
      exact core T W ao bo _ cap cap2 l g a2 w h rfl h2 hwf (Nat.le_trans hc1 hc2) hf ho
    · exact bad ao bo _ cap _ cap2 l g a2 w h rfl h2 rfl hwf (Nat.le_trans hc1 hc2) hf hw
end averageSums
end Go.Proofs.Ytoaopgamfndfgaa
