/-
  few; ClaimWhole.
-/
import Derived.Test.YtamfdkigokicoaaCAwake
namespace Go.Proofs.Ytamfdkigokicoaa
open Go Go.RowKit
set_option linter.unusedVariables false
set_option linter.unusedSimpArgs false

/-- Few, and of few causes. -/
def fewP (l : List Po) : Bool := decide (l.length ≤ 12) && (List.range l.length).all fun k => decide ((l.getD k default).zs.length ≤ 70)
theorem fewP_iff (l : List Po) : fewP l = true ↔ l.length ≤ 12 ∧ ∀ k, k < l.length → (l.getD k default).zs.length ≤ 70 := by
  simp [fewP]

set_option maxHeartbeats 2000000 in
theorem few44_any (ao : Option Addr) (n cap : Nat) (l : List Po) (w : World) (h : Pos w (.slice ao n cap) l) (hn : n = l.length) (hcap : n ≤ maxLen) :
    Calls Try.prog 10 #[.slice ao n cap] w fun e w' => e = .returned (.bool (fewP l)) ∧ w' = w := by
  obtain ⟨x, hx⟩ : ∃ x, x = fewP l := ⟨_, rfl⟩
  rw [← hx]
  have HX := Lib.hid hx
  have H := Lib.hid h
  have HN := Lib.hid hn
  have hcap : n ≤ 9223372036854775807 := by unfold maxLen at hcap; omega
  clear hx h hn
  go_enter Try.func10, Try.ntmps10
  go_wp2
  go_loopw [3] (fun i wr => ∃ k : Nat, k ≤ n ∧ i = .int .i64 (k : Int) ∧ Hid (∀ j, j < k → (l.getD j default).zs.length ≤ 70) ∧ Hid (wr = w)) (fun i _ => n - (intOf i).toNat)
  case atStart => exact ⟨0, Nat.zero_le _, rfl, Lib.hid (fun j hj => by omega), Lib.hid rfl⟩
  case round =>
    obtain ⟨k, hk, rfl, hp, hw⟩ := hrel
    by_cases hlt : k < n
    · have l1 : (k : Int) < (n : Int) := by omega
      have l0 : (0 : Int) ≤ (k : Int) := by omega
      have hwe := hw.out
      subst hwe
      obtain ⟨bl, off, rfl, hbl, hc⟩ := H.out.get HN.out (by omega)
      obtain ⟨i, f, t, sum, own, a, m, cap', zs, first, last, share, e, hmm, hc1, hc2, hi, k0, k1, k2, k3, k4, k5, k6, k7, k8⟩ := Pos.one hlt hc hbl (Below.refl _ _) (H.out.mem (by rw [← HN.out]; exact hlt))
      have HE := Lib.hid (show (l.getD k default).zs.length = m by rw [e]; exact hmm.symm)
      clear hc e hi hc1 hc2 hmm k0 k1 k2 k3 k4 k6 k7 k8
      by_cases g : 70 < m
      · have d1 : decide ((70 : Int) < (m : Int)) = true := by rw [decide_eq_true_iff]; omega
        have HR := Lib.hid (show x = false by rw [HX.out, Bool.eq_false_iff]; intro hf; have := ((fewP_iff l).1 hf).2 k (by rw [← HN.out]; exact hlt); rw [HE.out] at this; omega)
        go_wp2
        go_ret
        exact ⟨by rw [HR.out]; rfl, rfl⟩
      · have d1 : decide ((70 : Int) < (m : Int)) = false := by rw [decide_eq_false_iff_not]; omega
        have HQ := Lib.hid (show ∀ j, j < k + 1 → (l.getD j default).zs.length ≤ 70 from fun j hj => by
          by_cases e' : j = k
          · subst e'; rw [HE.out]; omega
          · exact hp.out j (by omega))
        go_wp2
        go_roundw
        case rel => exact ⟨k + 1, by omega, by go_num, HQ, Lib.hid (by trivial)⟩
        case measure => simp [intOf]; omega
    · obtain rfl : k = n := by omega
      have HR := Lib.hid (show x = decide ((k : Int) ≤ 12) by
        rw [HX.out]
        have ha : (List.range l.length).all (fun k => decide ((l.getD k default).zs.length ≤ 70)) = true := by
          rw [List.all_eq_true]
          intro j hj
          rw [decide_eq_true_iff]
          exact hp.out j (by have := HN.out; have := List.mem_range.1 hj; omega)
        unfold fewP
        rw [ha, Bool.and_true, ← HN.out, decide_eq_decide]; omega)
      go_wp2
      go_ret
      exact ⟨by rw [HR.out]; rfl, hw.out⟩

theorem split_cap {T : Nat} {W out : List Nat} (h : IsSplit T W out) (hS : 0 < T → 0 < W.sum) (hT : T ≤ W.sum) {i : Nat} (hi : i < W.length) : out.getD i 0 ≤ W.getD i 0 := by
  rcases Nat.eq_zero_or_pos W.sum with h0 | h0
  · have := split_le h hS i
    omega
  · have h1 := split_near h h0 hi
    have h2 : T * W.getD i 0 ≤ W.sum * W.getD i 0 := Nat.mul_le_mul_right _ hT
    have h3 : T * W.getD i 0 / W.sum ≤ W.getD i 0 := Nat.div_le_of_le_mul h2
    rcases h1 with h1 | ⟨h1, h4⟩
    · omega
    · have h5 := Nat.div_add_mod (T * W.getD i 0) W.sum
      have h6 : W.sum * (T * W.getD i 0 / W.sum) < W.sum * W.getD i 0 := by omega
      have := Nat.lt_of_mul_lt_mul_left h6
      omega

namespace claimWhole
set_option maxHeartbeats 1000000 in
theorem skip (a0 : Int) (ao : Option Addr) (n cap : Nat) (l : List Po) (w : World) (h : Pos w (.slice ao n cap) l) (hn : n = l.length) (hcap : n ≤ maxLen) (hf : fewP l = false) :
    Calls Try.prog 3 #[.int .i64 a0, .slice ao n cap] w fun e w' => e = .returned (.bool true) ∧ Below w.heap.size w w' := by
  have HF := Lib.hid (fun w h => few44_any ao n cap l w h hn hcap)
  rw [hf] at HF
  have H := Lib.hid h
  clear h hn hcap hf
  go_enter Try.func3, Try.ntmps3
  go_wp2_with fail
  refine (awake44_any _).mono ?_
  rintro e w1 ⟨rfl, hb1⟩
  have HB1 := Lib.hid hb1
  clear hb1
  go_wp2_with fail
  refine (HF.out _ (H.out.below HB1.out)).mono ?_
  rintro e w2 ⟨rfl, rfl⟩
  go_wp2_with fail
  refine (awake44_any _).mono ?_
  rintro e w3 ⟨rfl, hb3⟩
  have HB3 := Lib.hid (bt HB1.out hb3)
  clear hb3
  go_wp2
  go_ret
  exact ⟨rfl, HB3.out⟩

set_option maxHeartbeats 1000000 in
theorem bad (a0 : Int) (ao : Option Addr) (n cap : Nat) (l : List Po) (w : World) (h : Pos w (.slice ao n cap) l) (hn : n = l.length) (hcap : n ≤ maxLen) (hf : fewP l = true) (hs : shareB a0 l = false) :
    Calls Try.prog 3 #[.int .i64 a0, .slice ao n cap] w fun e w' => e = .returned (.bool true) ∧ Below w.heap.size w w' := by
  have HF := Lib.hid (fun w h => few44_any ao n cap l w h hn hcap)
  rw [hf] at HF
  have HS := Lib.hid (fun w h => share_bad a0 ao n cap l w h hn hcap hs)
  have H := Lib.hid h
  clear h hn hcap hf hs
  go_enter Try.func3, Try.ntmps3
  go_wp2_with fail
  refine (awake44_any _).mono ?_
  rintro e w1 ⟨rfl, hb1⟩
  have HB1 := Lib.hid hb1
  clear hb1
  go_wp2_with fail
  refine (HF.out _ (H.out.below HB1.out)).mono ?_
  rintro e w2 ⟨rfl, rfl⟩
  go_wp2_with fail
  refine (HS.out _ (H.out.below HB1.out)).mono ?_
  rintro e w3 ⟨rfl, hb3⟩
  have HB3 := Lib.hid (bt HB1.out hb3)
  clear hb3
  go_wp2
  go_ret
  exact ⟨rfl, HB3.out⟩

set_option maxRecDepth 100000 in
set_option maxHeartbeats 4000000 in
theorem good (a0 : Int) (ao : Option Addr) (n cap : Nat) (l : List Po) (w : World) (h : Pos w (.slice ao n cap) l) (hn : n = l.length) (hcap : n ≤ maxLen) (hf : fewP l = true) (hs : shareB a0 l = true) :
    Calls Try.prog 3 #[.int .i64 a0, .slice ao n cap] w fun e w' => e = .returned (.bool true) ∧ Below w.heap.size w w' := by
  have HF := Lib.hid (fun w h => few44_any ao n cap l w h hn hcap)
  rw [hf] at HF
  have h12 : n ≤ 12 := by rw [hn]; exact ((fewP_iff l).1 hf).1
  have HS := Lib.hid (fun w h => share_any a0 ao n cap l w h hn (by omega) hs)
  have H := Lib.hid h
  have HN := Lib.hid hn
  simp only [shareB, Bool.and_eq_true, decide_eq_true_eq] at hs
  obtain ⟨hpos, hmay, hsum⟩ := hs
  have hloss : 0 ≤ a0 ∧ a0 ≤ 1099511627776 := by simpa [sumB] using hsum
  obtain ⟨T, hT⟩ := Int.eq_ofNat_of_zero_le hloss.1
  subst hT
  have hmk := (allMay_iff l).1 hmay
  have HLn := Lib.hid (fun k (hk : k < n) w hi => rline_any (l.getD k default) w hi (hmk k (by omega)))
  obtain ⟨W, hW⟩ : ∃ W, W = linesN l := ⟨_, rfl⟩
  have hWl : W.length = n := by rw [hW, hn]; simp [linesN]
  have hWb : ∀ x ∈ W, x ≤ 1099511627776 := by rw [hW]; exact lines_le hmay
  have hWs : W.sum ≤ 13194139533312 := by have := nsum_le W hWb; rw [hWl] at this; have : n * 1099511627776 ≤ 12 * 1099511627776 := Nat.mul_le_mul_right _ h12; omega
  have HWs := Lib.hid hWs
  have HWl := Lib.hid hWl
  have HW := Lib.hid hW
  have HP := Lib.hid (show ∀ out, IsShared ((T : Nat) : Int) l out → out.length = n ∧ (∀ k, k < n → out.getD k 0 ≤ W.getD k 0) ∧ out.sum = min T W.sum from fun out hsh => by
    refine ⟨by rw [shared_len hsh, hn], ?_⟩
    unfold IsShared at hsh
    rw [← hW] at hsh
    rcases hsh with ⟨h1, rfl⟩ | ⟨h1, h2⟩
    · refine ⟨fun k _ => Nat.le_refl _, ?_⟩
      simp at h1; omega
    · have h3 : T ≤ W.sum := by simpa using h1
      have h2 : IsSplit T W out := by simpa using h2
      refine ⟨fun k hk => split_cap h2 (fun h => by omega) h3 (by omega), ?_⟩
      rw [split_sum h2 (fun h => by omega)]; omega)
  clear h hn hcap hf hpos hmay hsum hloss hmk hW hWl hWb hWs
  go_enter Try.func3, Try.ntmps3
  go_wp2_with fail
  refine (awake44_any _).mono ?_
  rintro e w1 ⟨rfl, hb1⟩
  have HB1 := Lib.hid hb1
  clear hb1
  go_wp2_with fail
  refine (HF.out _ (H.out.below HB1.out)).mono ?_
  rintro e w2 ⟨rfl, rfl⟩
  go_wp2_with fail
  refine (HS.out _ (H.out.below HB1.out)).mono ?_
  rintro e w3 ⟨b, out, rfl, hsh, hbk, -, hb3⟩
  have HB3 := Lib.hid (bt HB1.out hb3)
  obtain ⟨p1, p2, p3⟩ := HP.out out hsh
  have HP1 := Lib.hid p1
  have HP2 := Lib.hid p2
  have HP3 := Lib.hid p3
  have HBk := Lib.hid hbk
  have HOs := Lib.hid (show out.sum ≤ 13194139533312 by rw [p3]; have := HWs.out; omega)
  clear hsh hbk hb3 p1 p2 p3 HF HS HP
  go_wp2
  go_loopw [7, 8, 38] (fun s t i wr => ∃ (k A B : Nat), k ≤ n ∧ i = .int .i64 (k : Int) ∧ s = .int .i64 (A : Int) ∧ t = .int .i64 (B : Int) ∧ Hid (A = (out.take k).sum) ∧ Hid (B = (W.take k).sum) ∧ Hid (Below w3.heap.size w3 wr)) (fun _ _ i _ => n - (intOf i).toNat)
  case atStart => exact ⟨0, 0, 0, Nat.zero_le _, rfl, rfl, rfl, Lib.hid (by simp), Lib.hid (by simp), Lib.hid (Below.refl _ _)⟩
  case round =>
    obtain ⟨k, A, B, hk, rfl, rfl, rfl, hA, hB, hb⟩ := hrel
    by_cases hlt : k < n
    · have l1 : (k : Int) < (n : Int) := by omega
      have l0 : (0 : Int) ≤ (k : Int) := by omega
      obtain ⟨bl, off, rfl, hbl, hc⟩ := H.out.get HN.out (by omega)
      have HK2 := Lib.hid (HLn.out k hlt)
      have hge2 : W.getD k 0 = (l.getD k default).lineN := by rw [HW.out]; exact lines_getN (by rw [← HN.out]; exact hlt)
      obtain ⟨i, f, t, sum, own, a, m, cap', zs, first, last, share, e, hmm, hc1, hc2, hi, k0, k1, k2, k3, k4, k5, k6, k7, k8⟩ := Pos.one hlt hc hbl (bt HB3.out hb.out) (H.out.mem (by rw [← HN.out]; exact hlt))
      have hP2 := HP2.out k hlt
      have hS1 := take_sum (W := out) (k := k) (by rw [HP1.out]; exact hlt)
      have hS2 := take_sum (W := W) (k := k) (by rw [HWl.out]; exact hlt)
      have hS3 := take_sum_le out (k + 1)
      have hS4 := take_sum_le W (k + 1)
      have hS5 := HOs.out
      have hS6 := HWs.out
      have c1 : wr.cell? ⟨b, k, none⟩ = some (.int .i64 ((out.getD k 0 : Nat) : Int)) := (HBk.out.below hb.out).cell (by
        simp only [natI, List.getElem?_map, List.getD_eq_getElem?_getD, List.getElem?_eq_getElem (show k < out.length by rw [HP1.out]; exact hlt)]; rfl)
      rw [e] at HK2 hge2
      rw [hge2] at hP2 hS2
      generalize (Po.mk i f t sum own (.slice a m cap') zs first last share).lineN = L at *
      generalize out.getD k 0 = O at *
      have HK3 := Lib.hid (HK2.out wr hi)
      unfold Po.val Po.cells at HK3
      dsimp only at HK3
      have v1 : IntKind.i64.wrap ((A : Int) + (O : Int)) = ((A + O : Nat) : Int) := by
        rw [← Int.natCast_add]; have := hA.out; exact IntWalk.i64_in _ (by omega)
      have v2 : IntKind.i64.wrap ((B : Int) + (L : Int)) = ((B + L : Nat) : Int) := by
        rw [← Int.natCast_add]; have := hB.out; exact IntWalk.i64_in _ (by omega)
      have HA2 := Lib.hid (show A + O = (out.take (k + 1)).sum by have := hA.out; omega)
      have HB2 := Lib.hid (show B + L = (W.take (k + 1)).sum by have := hB.out; omega)
      have d1 : decide ((O : Int) < 0) = false := by rw [decide_eq_false_iff_not]; omega
      have d2 : decide (L < O) = false := by rw [decide_eq_false_iff_not]; omega
      clear hc e hi hc1 hc2 HK2 hmm hge2 hP2 hS1 hS2 hS3 hS4 hS5 hS6
      go_wp2_with fail
      refine HK3.out.mono ?_
      rintro e w4 ⟨rfl, hb4⟩
      have HB4 := Lib.hid (bt hb.out hb4)
      clear hb4
      go_wp2
      go_roundw
      case rel => exact ⟨k + 1, A + O, B + L, by omega, by go_num, rfl, rfl, HA2, HB2, HB4⟩
      case measure => simp [intOf]; omega
    · obtain rfl : k = n := by omega
      have HR := Lib.hid (show min ((T : Nat) : Int) (B : Int) = (A : Int) by
        have h1 := hA.out
        have h2 := hB.out
        rw [List.take_of_length_le (by rw [HP1.out]; exact Nat.le_refl _), HP3.out] at h1
        rw [List.take_of_length_le (by rw [HWl.out]; exact Nat.le_refl _)] at h2
        rw [h1, h2]; omega)
      have hr := HR.out
      go_wp2
      go_ret
      exact ⟨by first | rfl | (simp), bt HB3.out hb.out⟩

theorem walk (a0 : Int) (v1 : Value) (w : World) (w0 : (Lit.int .i64 a0).wf = true) (w1 : Is22 w v1) :
    Calls Try.prog 3 #[.int .i64 a0, v1] w fun e w' => e = .returned (.bool true) ∧ Below w.heap.size w w' := by
  obtain ⟨l, h, -⟩ := w1
  obtain ⟨ao, cap, rfl, h1, h2, _⟩ := h.shape
  cases hf : fewP l with
  | false => exact skip a0 ao l.length cap l w h rfl (by omega) hf
  | true =>
    cases hs : shareB a0 l with
    | false => exact bad a0 ao l.length cap l w h rfl (by omega) hf hs
    | true => exact good a0 ao l.length cap l w h rfl (by omega) hf hs
end claimWhole
end Go.Proofs.Ytamfdkigokicoaa
