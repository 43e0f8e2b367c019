/-
  claim.Share, of a loss that can be shared.
-/
import Derived.Test.YtamfdkigokicoaaShareD
namespace Go.Proofs.Ytamfdkigokicoaa
open Go Go.RowKit
set_option linter.unusedVariables false
set_option linter.unusedSimpArgs false

set_option maxRecDepth 100000 in
set_option maxHeartbeats 8000000 in
theorem share_any (loss : Int) (ao : Option Addr) (n cap : Nat) (l : List Po) (w : World) (h : Pos w (.slice ao n cap) l) (hn : n = l.length) (h40 : n ≤ 4096) (hb : shareB loss l = true) :
    Calls Try.prog 11 #[.int .i64 loss, .slice ao n cap] w fun e w' => ∃ b out, e = .returned (.tuple #[.slice (some ⟨b, 0, none⟩) n n, .int .i64 0]) ∧ IsShared loss l out ∧ Blk w' b (natI out) ∧ w.heap.size ≤ b ∧ Below w.heap.size w w' := by
  have HC := Lib.hid (has_pol ao n cap l w h hn (by unfold maxLen; omega))
  have HS := Lib.hid (fun w => issum_any loss w)
  simp only [shareB, Bool.and_eq_true, decide_eq_true_eq] at hb
  obtain ⟨h0, hmay, hsum⟩ := hb
  have hmk := (allMay_iff l).1 hmay
  have HLn := Lib.hid (fun k (hk : k < n) w hi => line_any (l.getD k default) w hi (hmk k (by omega)))
  rw [hmay] at HC
  rw [hsum] at HS
  have H := Lib.hid h
  have HN := Lib.hid hn
  have d1 : ((n : Int) == 0) = false := by rw [beq_eq_false_iff_ne]; omega
  have d2 : decide ((4096 : Int) < (n : Int)) = false := by rw [decide_eq_false_iff_not]; omega
  have MK1 : ∀ w, (Instr.makeSlice 25 (.int .i64 (n : Int)) (.int .i64 (n : Int))).run Try.prog w = .ok (.slice (some ⟨w.heap.size, 0, none⟩) n n) (w.alloc (.cells (iA (List.replicate n 0)) 2)) := fun w => by
    rw [← zeros_nums, ← made_nums]; exact run_make_row' _ _ _ 8 Try.underlying25 Try.infoI64 rfl _ _ n (by omega) (by omega) w
  have HMK := Lib.hid MK1
  obtain ⟨W, hW⟩ : ∃ W, W = linesN l := ⟨_, rfl⟩
  have HW := Lib.hid hW
  have hWl : W.length = n := by rw [hW, hn]; simp [linesN]
  have HWl := Lib.hid hWl
  have hWb : ∀ x ∈ W, x ≤ 1099511627776 := by rw [hW]; exact lines_le hmay
  have hWs : W.sum ≤ 4503599627370496 := by have := nsum_le W hWb; rw [hWl] at this; have : n * 1099511627776 ≤ 4096 * 1099511627776 := Nat.mul_le_mul_right _ h40; omega
  have HWs := Lib.hid hWs
  have HTk := Lib.hid (fun k => take_sum_le W k)
  have HL0 := Lib.hid (show (natI W).length = (List.replicate n (0 : Int)).length by rw [List.length_replicate, ← hWl]; simp [natI])
  have hloss : 0 ≤ loss ∧ loss ≤ 1099511627776 := by simpa [sumB] using hsum
  obtain ⟨T, hT⟩ := Int.eq_ofNat_of_zero_le hloss.1
  subst hT
  have HWr := Lib.hid (fun (hS : T ≤ W.sum) => by have := lines_wrong (T := T) hmay h0 (by omega) (by omega) (by rw [← hW]; exact hS); rw [← hW] at this; exact this)
  have HSp := Lib.hid (fun (w : World) (v : Value) (hi : Ints w v (natI W)) (hwr : wrongN (T : Int) (natI W) = 0) => split_any T v W w hi hwr)
  have HI := Lib.hid (show ∀ out, (W.sum < T ∧ out = W) ∨ (T ≤ W.sum ∧ IsSplit T W out) → IsShared ((T : Nat) : Int) l out from fun out h => by
    unfold IsShared; rw [← hW]; simpa using h)
  have hT40 : T ≤ 1099511627776 := by omega
  clear h hn hmay hsum h0 hmk MK1 hW hWl hWb hWs hloss
  go_enter Try.func11, Try.ntmps11
  go_wp2_with fail
  refine HC.out.mono ?_
  rintro e w1 ⟨rfl, hb⟩
  have HB1 := Lib.hid hb
  clear hb
  go_wp2_with fail
  refine (HS.out _).mono ?_
  rintro e w1' ⟨rfl, rfl⟩
  have HK0 := Lib.hid (blk_new w1' (List.replicate n 0))
  have HBo := Lib.hid (HB1.out.alloc HB1.out.size (.cells (iA (List.replicate n 0)) 2))
  have HLo := Lib.hid HB1.out.size
  have MK1 := HMK.out
  clear HC HS
  go_wp2
  go_loopw [8, 34] (fun s i wr => ∃ (k S : Nat), k ≤ n ∧ i = .int .i64 (k : Int) ∧ s = .int .i64 (S : Int) ∧ Hid (S = (W.take k).sum) ∧ Hid (Blk wr w1'.heap.size (mixL (natI W) (List.replicate n 0) k)) ∧ Hid (Below w.heap.size w wr)) (fun _ i _ => n - (intOf i).toNat)
  case atStart => exact ⟨0, 0, Nat.zero_le _, rfl, rfl, Lib.hid (by simp), Lib.hid (by rw [mix_zero]; exact HK0.out), HBo⟩
  case round =>
    clear HK0 HBo MK1
    obtain ⟨k, S, hk, rfl, rfl, hs, hm, hb⟩ := hrel
    by_cases hlt : k < n
    · have l1 : (k : Int) < (n : Int) := by omega
      have l0 : (0 : Int) ≤ (k : Int) := by omega
      obtain ⟨bl, off, rfl, hbl, hc⟩ := H.out.get HN.out (by omega)
      have HK2 := Lib.hid (HLn.out k hlt)
      have HSt := Lib.hid (mix_set HL0.out (k := k) (by have := HL0.out; simp at this; omega))
      have HTs := Lib.hid (take_sum (W := W) (k := k) (by rw [HWl.out]; exact hlt))
      have HTl := Lib.hid (HTk.out (k + 1))
      have hge : (natI W).getD k 0 = ((l.getD k default).lineN : Int) := by rw [HW.out]; exact lines_get (by rw [← HN.out]; exact hlt)
      have hge2 : W.getD k 0 = (l.getD k default).lineN := by rw [HW.out]; exact lines_getN (by rw [← HN.out]; exact hlt)
      rw [hge] at HSt
      rw [hge2] at HTs
      obtain ⟨i, f, t, sum, own, a, m, cap', zs, first, last, share, e, hmm, hc1, hc2, hi, k0, k1, k2, k3, k4, k5, k6, k7, k8⟩ := Pos.one hlt hc hbl hb.out (H.out.mem (by rw [← HN.out]; exact hlt))
      rw [e] at HK2 HSt HTs
      clear hge hge2
      generalize (Po.mk i f t sum own (.slice a m cap') zs first last share).lineN = L at *
      have HB2 := Lib.hid (hb.out.alloc hb.out.size (.cells #[.string i, .string f, .string t, .int .i64 sum, .int .i64 own, .slice a m cap', .int .i64 first, .int .i64 last, .int .i64 share] 32))
      have hba := (Below.refl wr.heap.size wr).alloc (Nat.le_refl _) (.cells #[.string i, .string f, .string t, .int .i64 sum, .int .i64 own, .slice a m cap', .int .i64 first, .int .i64 last, .int .i64 share] 32)
      have HM2 := Lib.hid (hm.out.below hba)
      have HK3 := Lib.hid (HK2.out (wr.alloc (.cells #[.string i, .string f, .string t, .int .i64 sum, .int .i64 own, .slice a m cap', .int .i64 first, .int .i64 last, .int .i64 share] 32)) (hi.below hba))
      unfold Po.val Po.cells at HK3
      dsimp only at HK3
      have v1 : IntKind.i64.wrap ((S : Int) + (L : Int)) = ((S + L : Nat) : Int) := by
        rw [← Int.natCast_add]
        have h1 := hs.out; have h2 := HTs.out; have h3 := HTl.out; have h4 := HWs.out
        exact IntWalk.i64_in _ (by omega)
      have HS2 := Lib.hid (show S + L = (W.take (k + 1)).sum by rw [HTs.out, ← hs.out])
      clear hc e hi hc1 hc2 hba HK2 hmm
      go_wp2_with fail
      refine HK3.out.mono ?_
      rintro e w3 ⟨rfl, hb3⟩
      have HB3 := Lib.hid (bt HB2.out hb3)
      have HM3 := Lib.hid (HM2.out.below hb3)
      have f1 := HM3.out.free k
      have c1 := HM3.out.cell (mix_get HL0.out (k := k) (by have := HL0.out; simp at this; omega))
      clear hb3 HK3
      go_wp2
      go_roundw
      case rel => exact ⟨k + 1, S + L, by omega, by go_num, rfl, HS2, Lib.hid (by rw [← HSt.out]; exact HM3.out.set k _), Lib.hid (HB3.out.setCell (p := ⟨w1'.heap.size, k, none⟩) HLo.out _)⟩
      case measure => simp [intOf]; omega
    · obtain rfl : k = n := by omega
      have hSW : S = W.sum := by have := hs.out; rwa [List.take_of_length_le (by rw [HWl.out]; omega)] at this
      have hMW : Blk wr w1'.heap.size (natI W) := by have hx := hm.out; rwa [mix_all (by rw [HL0.out]; simp) (by simp)] at hx
      have HMW := Lib.hid hMW
      by_cases g : S < T
      · have d3 : decide (S < T) = true := by rw [decide_eq_true_iff]; omega
        have HR := Lib.hid (HI.out W (.inl ⟨by omega, rfl⟩))
        clear hSW hMW
        go_wp2
        go_ret2
        exact ⟨_, W, rfl, HR.out, HMW.out, HLo.out, hb.out⟩
      · have d3 : decide (S < T) = false := by rw [decide_eq_false_iff_not]; omega
        have HSp2 := Lib.hid (HSp.out wr (.slice (some ⟨w1'.heap.size, 0, none⟩) k k) (hMW.ints (by simp [natI]; exact HWl.out.symm) h40) (HWr.out (by omega)))
        have HG := Lib.hid (show T ≤ W.sum by omega)
        clear hSW hMW g
        go_wp2_with fail
        refine HSp2.out.mono ?_
        rintro e w4 ⟨u, out, rfl, hsp, hpt, hb4⟩
        obtain ⟨b, rfl, hbk, hblo⟩ := hpt.blk
        have HR := Lib.hid (HI.out out (.inr ⟨HG.out, hsp⟩))
        have HOl := Lib.hid (show out.length = k by rw [hsp.len, HWl.out])
        have HF := Lib.hid (And.intro hbk (And.intro (Nat.le_trans hb.out.size hblo) (bt hb.out hb4)))
        clear hsp hpt hbk hblo hb4
        go_wp2
        go_ret2
        exact ⟨b, out, by rw [HOl.out]; rfl, HR.out, HF.out.1, HF.out.2.1, HF.out.2.2⟩
end Go.Proofs.Ytamfdkigokicoaa
