/-
  AverageAdjusts.
-/
import Derived.Test.YtoaopgamfndfgaaRef43
import Derived.Test.YtoaopgamfndfgaaEqual
namespace Go.Proofs.Ytoaopgamfndfgaa
open Go Go.RowKit
set_option linter.unusedVariables false
set_option linter.unusedSimpArgs false

theorem aright_bad (lost : Int) (ao po : Option Addr) (n cap pn pc : Nat) (l : List In1) (w : World) (h : Ins w (.slice ao n cap) l) (hn : n = l.length) (hw : adjN lost l ≠ 0) :
    Calls Try.prog 21 #[.int .i64 lost, .slice po pn pc, .slice ao n cap] w fun e w' => e = .returned (.bool false) ∧ Below w.heap.size w w' := by
  have HA := Lib.hid (adj_bad lost ao n cap l w h hn hw)
  generalize adjN lost l = r at *
  have d3 : (r == 0) = false := by rw [beq_eq_false_iff_ne]; exact hw
  clear hw hn h
  go_enter Try.func21, Try.ntmps21
  go_wp2_with fail
  refine HA.out.mono ?_
  rintro e w1 ⟨rfl, hb⟩
  have HB := Lib.hid hb
  clear hb
  go_wp2
  go_ret
  exact ⟨rfl, HB.out⟩
theorem aright_any (T : Nat) (W out : List Nat) (ao po : Option Addr) (n cap pn pc : Nat) (l : List In1) (zs : List Int) (w : World) (h : Ins w (.slice ao n cap) l) (hn : n = l.length) (hp : Ints w (.slice po pn pc) zs) (hw : adjN T l = 0) (hW : valsL l = natI W) (hs : IsSplit T W out) :
    Calls Try.prog 21 #[.int .i64 (T : Int), .slice po pn pc, .slice ao n cap] w fun e w' => e = .returned (.bool (decide (natI out = zs))) ∧ Below w.heap.size w w' := by
  have HA := Lib.hid (adj_any T W ao n cap l w h hn hw hW)
  have HP := Lib.hid hp
  have hWl : W.length = n := by have := congrArg List.length hW; rw [vals_len] at this; simp [natI] at this; omega
  have HS := Lib.hid hs
  have h40 : n ≤ 4096 := by rw [hn]; exact ((may_iff l).1 (adj_ok hw).1).2.1
  obtain ⟨x, hx⟩ : ∃ x, x = decide (natI out = zs) := ⟨_, rfl⟩
  rw [← hx]
  have HX := Lib.hid hx
  have HWl := Lib.hid hWl
  clear hw hn h hp hW hs hx hWl
  go_enter Try.func21, Try.ntmps21
  go_wp2_with fail
  refine HA.out.mono ?_
  rintro e w1 ⟨b, out1, rfl, hs1, hk, -, hb⟩
  obtain rfl := HS.out.unique hs1
  have HE := Lib.hid (equal_any _ _ _ _ w1 (hk.ints (by simp [natI, hs1.len, HWl.out]) h40) (HP.out.below hb))
  rw [← HX.out] at HE
  have HB := Lib.hid hb
  clear hb hs1 hk
  go_wp2_with fail
  refine HE.out.mono ?_
  rintro e w2 ⟨rfl, q, rfl⟩
  go_wp2
  go_ret
  exact ⟨rfl, below_drewN HB.out q⟩

namespace averageAdjusts
set_option maxHeartbeats 1000000 in
theorem skip (lost : Int) (ao bo : Option Addr) (n cap m cap2 : Nat) (l : List In1) (w : World) (h : Ins w (.slice ao n cap) l) (hn : n = l.length) (hwf : ∀ o ∈ l, o.wf) (hcap : n ≤ maxLen) (hf : (fewB l && decide (m ≤ 60)) = false) :
    Calls Try.prog 9 #[.int .i64 lost, .slice ao n cap, .slice bo m cap2] w fun e w' => e = .returned (.bool true) ∧ Below w.heap.size w w' := by
  have HF := Lib.hid (fun w h => few_any ao bo n cap m cap2 l w h hn hwf hcap)
  rw [hf] at HF
  have H := Lib.hid h
  clear h hn hwf hcap hf
  go_enter Try.func9, Try.ntmps9
  go_wp2_with fail
  refine (awake43_any _).mono ?_
  rintro e w1 ⟨rfl, hb1⟩
  have HB1 := Lib.hid hb1
  clear hb1
  go_wp2_with fail
  refine (HF.out _ (H.out.below HB1.out)).mono ?_
  rintro e w2 ⟨rfl, rfl⟩
  go_wp2
  go_ret
  exact ⟨rfl, HB1.out⟩

set_option maxHeartbeats 2000000 in
theorem bad (lost : Int) (ao bo : Option Addr) (n cap m cap2 : Nat) (l : List In1) (zs : List Int) (w : World) (h : Ins w (.slice ao n cap) l) (hn : n = l.length) (h2 : Ints w (.slice bo m cap2) zs) (hwf : ∀ o ∈ l, o.wf) (hcap : n ≤ maxLen) (hf : (fewB l && decide (m ≤ 60)) = true) (hfe : fewB l = true) (hw : adjN lost l ≠ 0) :
    Calls Try.prog 9 #[.int .i64 lost, .slice ao n cap, .slice bo m cap2] w fun e w' => e = .returned (.bool true) ∧ Below w.heap.size w w' := by
  have HF := Lib.hid (fun w h => few_any ao bo n cap m cap2 l w h hn hwf hcap)
  rw [hf] at HF
  have HA := Lib.hid (fun w h => adj_bad lost ao n cap l w h hn hw)
  have HR := Lib.hid (fun w h => radj_bad lost ao n cap l w h hn hfe hw)
  have HRi := Lib.hid (fun po pn pc w h => aright_bad lost ao po n cap pn pc l w h hn hw)
  have H := Lib.hid h
  generalize adjN lost l = r at *
  have d3 : (r == 0) = false := by rw [beq_eq_false_iff_ne]; exact hw
  have d4 : (r == r) = true := by simp
  have d5 : (r != r) = false := by simp
  have HSm := Lib.hid (fun w => same_any (.slice none 0 0) (.slice none 0 0) [] [] w (Ints.nil w) (Ints.nil w))
  rw [show decide (([] : List Int) = []) = true from by simp] at HSm
  clear h hn hwf hcap hf hfe hw h2
  go_enter Try.func9, Try.ntmps9
  go_wp2_with fail
  refine (awake43_any _).mono ?_
  rintro e w1 ⟨rfl, hb1⟩
  have HB1 := Lib.hid hb1
  clear hb1
  go_wp2_with fail
  refine (HF.out _ (H.out.below HB1.out)).mono ?_
  rintro e w2 ⟨rfl, rfl⟩
  go_wp2_with fail
  refine (HA.out _ (H.out.below HB1.out)).mono ?_
  rintro e w2 ⟨rfl, hb⟩
  have HB2 := Lib.hid (bt HB1.out hb)
  clear hb
  go_wp2_with fail
  refine (HR.out _ (H.out.below HB2.out)).mono ?_
  rintro e w3 ⟨rfl, hb⟩
  have HB3 := Lib.hid (bt HB2.out hb)
  clear hb
  go_wp2_with fail
  refine (HSm.out _).mono ?_
  rintro e w4 ⟨rfl, hq⟩
  have HB4 := Lib.hid (bt HB3.out (drew_below hq))
  clear hq
  go_wp2_with fail
  refine (HRi.out _ _ _ _ (H.out.below HB4.out)).mono ?_
  rintro e w5 ⟨rfl, hb⟩
  have HB5 := Lib.hid (bt HB4.out hb)
  clear hb
  go_wp2_with fail
  refine (HRi.out _ _ _ _ (H.out.below HB5.out)).mono ?_
  rintro e w6 ⟨rfl, hb⟩
  have HB6 := Lib.hid (bt HB5.out hb)
  clear hb
  go_wp2
  go_ret
  exact ⟨rfl, HB6.out⟩

set_option maxHeartbeats 4000000 in
theorem core (T : Nat) (W : List Nat) (ao bo : Option Addr) (n cap m cap2 : Nat) (l : List In1) (zs : List Int) (w : World) (h : Ins w (.slice ao n cap) l) (hn : n = l.length) (h2 : Ints w (.slice bo m cap2) zs) (hwf : ∀ o ∈ l, o.wf) (hcap : n ≤ maxLen) (hf : (fewB l && decide (m ≤ 60)) = true) (hfe : fewB l = true) (hw : adjN T l = 0) (hW : valsL l = natI W) :
    Calls Try.prog 9 #[.int .i64 (T : Int), .slice ao n cap, .slice bo m cap2] w fun e w' => e = .returned (.bool true) ∧ Below w.heap.size w w' := by
  have HF := Lib.hid (fun w h => few_any ao bo n cap m cap2 l w h hn hwf hcap)
  rw [hf] at HF
  have HA := Lib.hid (fun w h => adj_any T W ao n cap l w h hn hw hW)
  have HR := Lib.hid (fun w h => radj_any T W ao n cap l w h hn hfe hw hW)
  have HRi := Lib.hid (fun out hs po pn pc zs w h hp => aright_any T W out ao po n cap pn pc l zs w h hn hp hw hW hs)
  have H := Lib.hid h
  have H2 := Lib.hid h2
  have h40 : n ≤ 4096 := by rw [hn]; exact ((may_iff l).1 (adj_ok hw).1).2.1
  have HWl := Lib.hid (show W.length = n by have := congrArg List.length hW; rw [vals_len] at this; simp [natI] at this; omega)
  clear h hn hwf hcap hf hfe hw h2 hW
  go_enter Try.func9, Try.ntmps9
  go_wp2_with fail
  refine (awake43_any _).mono ?_
  rintro e w1 ⟨rfl, hb1⟩
  have HB1 := Lib.hid hb1
  clear hb1
  go_wp2_with fail
  refine (HF.out _ (H.out.below HB1.out)).mono ?_
  rintro e w2 ⟨rfl, rfl⟩
  go_wp2_with fail
  refine (HA.out _ (H.out.below HB1.out)).mono ?_
  rintro e w2 ⟨b2, out, rfl, hs, hk2, -, hb⟩
  have HB2 := Lib.hid (bt HB1.out hb)
  have HS := Lib.hid hs
  have HOl := Lib.hid (show n = (natI out).length by simp [natI, hs.len, HWl.out])
  have HK2 := Lib.hid (hk2.ints HOl.out h40)
  clear hb hs hk2
  go_wp2_with fail
  refine (HR.out _ (H.out.below HB2.out)).mono ?_
  rintro e w3 ⟨b3, out3, rfl, hs, hk3, -, hb⟩
  obtain rfl := HS.out.unique hs
  have HB3 := Lib.hid (bt HB2.out hb)
  have HK3 := Lib.hid (hk3.ints HOl.out h40)
  have HK2 := Lib.hid (HK2.out.below hb)
  have HSm := Lib.hid (same_any _ _ _ _ w3 HK2.out HK3.out)
  rw [show decide (natI out = natI out) = true from by simp] at HSm
  clear hb hs hk3
  go_wp2_with fail
  refine HSm.out.mono ?_
  rintro e w4 ⟨rfl, hq⟩
  have hbq := drew_below hq
  have HB4 := Lib.hid (bt HB3.out hbq)
  have HK2 := Lib.hid (HK2.out.below hbq)
  have HK3 := Lib.hid (HK3.out.below hbq)
  have HR1 := Lib.hid (HRi.out out HS.out _ _ _ zs w4 (H.out.below HB4.out) (H2.out.below HB4.out))
  obtain ⟨x, hx⟩ : ∃ x, x = decide (natI out = zs) := ⟨_, rfl⟩
  rw [← hx] at HR1
  have HX := Lib.hid hx
  clear hq hbq hx HSm
  go_wp2_with fail
  refine HR1.out.mono ?_
  rintro e w5 ⟨rfl, hb⟩
  have HB5 := Lib.hid (bt HB4.out hb)
  have HK2 := Lib.hid (HK2.out.below hb)
  have HK3 := Lib.hid (HK3.out.below hb)
  have HS5 := Lib.hid (same_any _ _ _ _ w5 (H2.out.below HB5.out) HK3.out)
  rw [show decide (zs = natI out) = x from by rw [HX.out, decide_eq_decide]; exact eq_comm] at HS5
  have x1 : (x == x) = true := beq_self_eq_true x
  clear hb HR1
  go_wp2_with fail
  refine HS5.out.mono ?_
  rintro e w6 ⟨rfl, hq⟩
  have hbq := drew_below hq
  have HB6 := Lib.hid (bt HB5.out hbq)
  have HK2 := Lib.hid (HK2.out.below hbq)
  have HR6 := Lib.hid (HRi.out out HS.out _ _ _ (natI out) w6 (H.out.below HB6.out) HK2.out)
  rw [show decide (natI out = natI out) = true from by simp] at HR6
  clear hq hbq HS5
  go_wp2_with fail
  refine HR6.out.mono ?_
  rintro e w7 ⟨rfl, hb⟩
  have HB7 := Lib.hid (bt HB6.out hb)
  clear hb
  go_wp2
  go_ret
  exact ⟨rfl, HB7.out⟩

theorem walk (a0 : Int) (v1 v2 : Value) (w : World) (w0 : (Lit.int .i64 a0).wf = true) (w1 : Is22 w v1) (w2 : Is23 w v2) :
    Calls Try.prog 9 #[.int .i64 a0, v1, v2] w fun e w' => e = .returned (.bool true) ∧ Below w.heap.size w w' := by
  obtain ⟨l, h, hwf⟩ := w1
  obtain ⟨g, h2, _⟩ := w2
  obtain ⟨ao, cap, rfl, hc1, hc2, _⟩ := h.shape
  obtain ⟨bo, cap2, rfl, _⟩ := h2.shape
  cases hf : (fewB l && decide (g.length ≤ 60)) with
  | false => exact skip a0 ao bo _ cap _ cap2 l w h rfl hwf (Nat.le_trans hc1 hc2) hf
  | true =>
    have hfe : fewB l = true := by revert hf; cases fewB l <;> simp
    by_cases hw : adjN a0 l = 0
    · obtain ⟨hm, h0, _, _⟩ := adj_ok hw
      obtain ⟨T, rfl⟩ := Int.eq_ofNat_of_zero_le h0
      obtain ⟨W, hW, _⟩ := may_nat hm
      exact core T W ao bo _ cap _ cap2 l g w h rfl h2 hwf (Nat.le_trans hc1 hc2) hf hfe hw hW
    · exact bad a0 ao bo _ cap _ cap2 l g w h rfl h2 hwf (Nat.le_trans hc1 hc2) hf hfe hw
end averageAdjusts
end Go.Proofs.Ytoaopgamfndfgaa
