/-
  AverageEnds.
-/
import Derived.Test.YtoaopgamfndfgaaEndsP
import Derived.Deep.RegionLaw
import Derived.Deep.RegionHeld3
namespace Go.Proofs.Ytoaopgamfndfgaa
open Go Go.RowKit
set_option linter.unusedVariables false
set_option linter.unusedSimpArgs false

/-- all: the values, appended one by one; stated of the world behind. -/
def Alls (w0 wr : World) (v : Value) (l : List In1) (k : Nat) : Prop := wr.ownsRow w0.heap.size 2 1 v k (((valsL l).take k).map (Value.int .i64))
def nobody : ByteArray := ⟨#[110, 111, 98, 111, 100, 121, 45, 97, 116, 45, 115, 116, 97, 107, 101]⟩

namespace averageEnds
set_option maxRecDepth 100000 in
set_option maxHeartbeats 1000000 in
theorem skip (ao : Option Addr) (n cap : Nat) (l : List In1) (w : World) (h : Ins w (.slice ao n cap) l) (hn : n = l.length) (hwf : ∀ o ∈ l, o.wf) (hcap : n ≤ maxLen) (hf : fewB l = false) :
    Calls Try.prog 7 #[.slice ao n cap] w fun e w' => e = .returned (.bool true) ∧ Below w.heap.size w w' := by
  have HF := Lib.hid (fun w h => few_any ao none n cap 0 0 l w h hn hwf hcap)
  rw [hf, Bool.false_and] at HF
  have H := Lib.hid h
  clear h hn hwf hcap hf
  go_enter Try.func7, Try.ntmps7
  go_wp2_with fail
  refine (awake43_any _).mono ?_
  rintro e w1 ⟨rfl, hb1⟩
  have HB1 := Lib.hid hb1
  clear hb1
  go_wp2_with fail
  refine (HF.out _ (H.out.below HB1.out)).mono ?_
  rintro e w2 ⟨rfl, rfl⟩
  go_wp2
  go_ret
  exact ⟨rfl, HB1.out⟩

/-- What stands ahead of the first Whole, and what follows it. -/
structure Ahead (w w0 : World) (bn : Nat) (a : Option Addr) (n c : Nat) (l : List In1) (W : World) : Prop where
  non : Blk W bn (List.replicate n 0)
  all : Ints W (.slice a n c) (valsL l)
  b : Below w.heap.size w W

set_option maxRecDepth 100000 in
set_option maxHeartbeats 16000000 in
theorem core (ao : Option Addr) (n cap : Nat) (l : List In1) (w : World) (h : Ins w (.slice ao n cap) l) (hn : n = l.length) (hwf : ∀ o ∈ l, o.wf) (hcap : n ≤ maxLen) (hf : fewB l = true) :
    Calls Try.prog 7 #[.slice ao n cap] w fun e w' => e = .returned (.bool true) ∧ Below w.heap.size w w' := by
  obtain ⟨i0, hi, hz0, hz1, hz2⟩ := info_parts Try.infoI64
  have HF := Lib.hid (fun w h => few_any ao none n cap 0 0 l w h hn hwf hcap)
  rw [hf, Bool.true_and, show decide (0 ≤ 60) = true from rfl] at HF
  have H := Lib.hid h
  have HN := Lib.hid hn
  have h31 : n ≤ 31 := by rw [hn]; exact ((few_iff l).1 hf).1
  have MK1 : ∀ w, (Instr.makeSlice 23 (.int .i64 (n : Int)) (.int .i64 (n : Int))).run Try.prog w = .ok (.slice (some ⟨w.heap.size, 0, none⟩) n n) (w.alloc (.cells (iA (List.replicate n 0)) 2)) := fun w => by
    rw [← zeros_nums, ← made_nums]; exact run_make_row' _ _ _ 8 Try.underlying23 Try.infoI64 rfl _ _ n (by omega) (by omega) w
  have HMK := Lib.hid MK1
  clear h hn hwf hcap MK1
  go_enter Try.func7, Try.ntmps7
  go_wp2_with fail
  refine (awake43_any _).mono ?_
  rintro e w1 ⟨rfl, hb1⟩
  have HB1 := Lib.hid hb1
  clear hb1
  go_wp2_with fail
  refine (HF.out _ (H.out.below HB1.out)).mono ?_
  rintro e w2 ⟨rfl, rfl⟩
  have MK1 := HMK.out
  have HK0 := Lib.hid (blk_new w2 (List.replicate n 0))
  have HB0 := Lib.hid (HB1.out.alloc HB1.out.size (.cells (iA (List.replicate n 0)) 2))
  have HS0 := Lib.hid (show w2.heap.size + 1 = (w2.alloc (.cells (iA (List.replicate n 0)) 2)).heap.size by simp)
  go_wp2_with fail
  rw [HS0.out]
  generalize w2.alloc (.cells (iA (List.replicate n 0)) 2) = w3 at *
  obtain ⟨bn, hbn⟩ : ∃ b, b = w2.heap.size := ⟨_, rfl⟩
  rw [← hbn] at HK0 HS0 ⊢
  have HLt := Lib.hid (show bn < w3.heap.size by have := HS0.out; omega)
  have HO0 := Lib.hid (show (w3.alloc (.cells #[] 2)).ownsRow w3.heap.size 2 1 (.slice (some ⟨w3.heap.size, 0, none⟩) 0 0) 0 (((valsL l).take 0).map (Value.int .i64)) from own_lit w3 _ 0 #[] (by unfold maxLen; omega) rfl)
  have HBB := Lib.hid ((Below.refl w3.heap.size w3).alloc (Nat.le_refl _) (.cells #[] 2))
  clear hbn HS0 MK1 HMK HB1 HF
  go_loopw [4, 5] (fun s i wr => ∃ (k : Nat) (v : Value), k ≤ n ∧ i = .int .i64 (k : Int) ∧ s = v ∧ Hid (wr.ownsRow w3.heap.size 2 1 v k (((valsL l).take k).map (Value.int .i64))) ∧ Hid (Below w3.heap.size w3 wr)) (fun _ i _ => n - (intOf i).toNat)
  case atStart => exact ⟨0, _, Nat.zero_le _, rfl, rfl, HO0, HBB⟩
  case round =>
    clear HO0 HBB
    obtain ⟨k, v, hk, rfl, rfl, ho, hbl⟩ := hrel
    by_cases hlt : k < n
    · have l1 : (k : Int) < (n : Int) := by omega
      have l0 : (0 : Int) ≤ (k : Int) := by omega
      obtain ⟨bl, off, rfl, hbl0, hc⟩ := (H.out.below HB0.out).get HN.out (by omega)
      obtain ⟨-, c2⟩ := hc k hlt
      have c2 : wr.cell? ⟨bl, off + k * 2 + 1, none⟩ = some (.int .i64 (l.getD k default).z) := by rw [hbl.out.cell (by show bl < _; omega)]; exact c2
      rw [← vals_get] at c2
      have hkv : k < (valsL l).length := by rw [vals_len, ← HN.out]; exact hlt
      have HTk := Lib.hid (show ((valsL l).take (k + 1)).map (Value.int .i64) = ((valsL l).take k).map (Value.int .i64) ++ [.int .i64 ((valsL l).getD k 0)] by
        rw [List.take_succ_eq_append_getElem hkv, List.getD_eq_getElem?_getD, List.getElem?_eq_getElem hkv, List.map_append]
        rfl)
      generalize (valsL l).getD k 0 = y at *
      clear hc hkv
      go_wp2_with (at_builtin; refine wp_app rfl (.tmp 34) (.tmp 40) 23 rfl w3.heap.size 2 i0 (.int .i64 0) 1 8 Try.underlying23 hi hz0 hz1 hz2 rfl (by decide) _ _ _ rfl ho.out hbl.out (Nat.le_refl _) hbl.out.size #[.int .i64 y] _ (by first | rfl | (simp; done)) rfl rfl (one_int _ _) (by unfold maxLen; omega) (by omega) ?_; intro v1 w2 hown hb1 _; have HO1 := Lib.hid hown; have HB1 := Lib.hid hb1; clear hown hb1)
      go_roundw
      case rel => exact ⟨k + 1, v1, by omega, by go_num, rfl, Lib.hid (by rw [HTk.out]; exact HO1.out), HB1⟩
      case measure => simp [intOf]; omega
    · obtain rfl : k = n := by omega
      obtain ⟨ao2, cap2, rfl⟩ := own_shape ho.out
      have HInt := Lib.hid (show Ints wr (.slice ao2 k cap2) (valsL l) by
        have hrow := Row.of_own ho.out
        rw [List.take_of_length_le (by rw [vals_len, ← HN.out]; exact Nat.le_refl _)] at hrow
        unfold Ints
        rw [vals_len, ← HN.out]
        exact hrow)
      have HNo := Lib.hid (HK0.out.below hbl.out)
      have HBw := Lib.hid (bt HB0.out hbl.out)
      obtain ⟨n, rfl⟩ : ∃ n, n = k := ⟨k, rfl⟩
      obtain ⟨wz, hwz⟩ : ∃ wz, wz = wr := ⟨_, rfl⟩
      subst hwz
      clear ho hbl hk hlt HK0 HB0 HLt
      have hp' : 1 ≤ n ∨ mayB l = false := by
        cases hm : mayB l
        · exact .inr rfl
        · left; have := ((may_iff l).1 hm).1; rw [HN.out]; exact this
      cases hm : mayB l with
      | false =>
        have HW1 := Lib.hid (fun w h h2 => whole_bad ao (some ⟨bn, 0, none⟩) n cap n n l (List.replicate n 0) 0 w h HN.out h2 (by simp) (by rw [whole_no (.inl hm)]; decide))
        have HW2 := Lib.hid (fun w h h2 => whole_bad ao ao2 n cap n cap2 l (valsL l) 0 w h HN.out h2 (by rw [vals_len, HN.out]) (by rw [whole_no (.inl hm)]; decide))
        have HP2 := Lib.hid (fun w h h2 => pays_bad ao ao2 n cap n cap2 l (valsL l) 0 w h HN.out h2 (by rw [vals_len, HN.out]) (by rw [whole_no (.inl hm)]; decide))
        rw [whole_no (.inl hm)] at HW1 HW2 HP2
        clear hm hp'
        go_wp2_with fail
        refine (HW1.out _ (H.out.below HBw.out) (HNo.out.ints (by simp) (by omega))).mono ?_
        rintro e w5 ⟨rfl, hb⟩
        have HB5 := Lib.hid (bt HBw.out hb)
        have HI5 := Lib.hid (HInt.out.below hb)
        clear hb
        go_wp2_with fail
        refine (HW2.out _ (H.out.below HB5.out) HI5.out).mono ?_
        rintro e w6 ⟨rfl, hb⟩
        have HB6 := Lib.hid (bt HB5.out hb)
        have HI6 := Lib.hid (HI5.out.below hb)
        clear hb
        go_wp2_with fail
        refine (HP2.out _ (H.out.below HB6.out) HI6.out).mono ?_
        rintro e w7 ⟨rfl, hb⟩
        have HB7 := Lib.hid (bt HB6.out hb)
        clear hb
        go_wp2
        go_ret
        exact ⟨rfl, HB7.out⟩
      | true =>
        have hp : 1 ≤ n := by rcases hp' with e | e; exact e; rw [hm] at e; cases e
        clear hp'
        obtain ⟨W1, hw1⟩ := ends_none hm
        rw [← HN.out] at hw1
        have HO1 := Lib.hid hw1
        have HW1 := Lib.hid (fun w h h2 => whole_any 0 W1 ao (some ⟨bn, 0, none⟩) n cap n l (List.replicate n 0) 0 w h HN.out h2 hw1.ok hw1.sum hw1.vals)
        rcases ends_all hm with h3 | ⟨T, W, hw, hT⟩
        · have HW2 := Lib.hid (fun w h h2 => whole_bad ao ao2 n cap n cap2 l (valsL l) 0 w h HN.out h2 (by rw [vals_len, HN.out]) (by rw [h3]; decide))
          have HP2 := Lib.hid (fun w h h2 => pays_bad ao ao2 n cap n cap2 l (valsL l) 0 w h HN.out h2 (by rw [vals_len, HN.out]) (by rw [h3]; decide))
          rw [h3] at HW2 HP2
          clear hm h3 hw1
          go_wp2_with fail
          refine (HW1.out _ (H.out.below HBw.out) (HNo.out.ints (by simp) (by omega))).mono ?_
          rintro e w5 ⟨b1, b2, out, rfl, -, -, -, -, -, hb⟩
          have HB5 := Lib.hid (bt HBw.out hb)
          have HI5 := Lib.hid (HInt.out.below hb)
          clear hb
          go_wp2_with fail
          refine (HW2.out _ (H.out.below HB5.out) HI5.out).mono ?_
          rintro e w6 ⟨rfl, hb⟩
          have HB6 := Lib.hid (bt HB5.out hb)
          have HI6 := Lib.hid (HI5.out.below hb)
          clear hb
          go_wp2_with fail
          refine (HP2.out _ (H.out.below HB6.out) HI6.out).mono ?_
          rintro e w7 ⟨rfl, hb⟩
          have HB7 := Lib.hid (bt HB6.out hb)
          clear hb
          go_wp2
          go_ret
          exact ⟨rfl, HB7.out⟩
        · have HW2 := Lib.hid (fun w h h2 => whole_any T W ao ao2 n cap cap2 l (valsL l) 0 w h HN.out h2 hw.ok hw.sum hw.vals)
          have HP2 := Lib.hid (fun w h h2 => pays_any T W ao ao2 n cap cap2 l (valsL l) 0 w h HN.out h2 hw)
          have HO := Lib.hid hw
          have HT := Lib.hid hT
          clear hm hw1 hw hT
          go_wp2_with fail
          refine (HW1.out _ (H.out.below HBw.out) (HNo.out.ints (by simp) (by omega))).mono ?_
          rintro e w5 ⟨b1, b2, out, rfl, hs, hk1, hk2, -, -, hb⟩
          have HB5 := Lib.hid (bt HBw.out hb)
          have HI5 := Lib.hid (HInt.out.below hb)
          have HNo5 := Lib.hid (HNo.out.below hb)
          have HS1 := Lib.hid hs
          have HK1 := Lib.hid hk1
          have HK2 := Lib.hid hk2
          clear hb hs hk1 hk2
          go_wp2_with fail
          refine (HW2.out _ (H.out.below HB5.out) HI5.out).mono ?_
          rintro e w6 ⟨b3, b4, out2, rfl, hs, hk3, hk4, -, -, hb⟩
          have HB6 := Lib.hid (bt HB5.out hb)
          have HI6 := Lib.hid (HI5.out.below hb)
          have HNo6 := Lib.hid (HNo5.out.below hb)
          have HK1 := Lib.hid (HK1.out.below hb)
          have HK2 := Lib.hid (HK2.out.below hb)
          have HS2 := Lib.hid hs
          have HK3 := Lib.hid hk3
          have HK4 := Lib.hid hk4
          clear hb hs hk3 hk4
          go_wp2_with fail
          refine (HP2.out _ (H.out.below HB6.out) HI6.out).mono ?_
          rintro e w7 ⟨v7, out3, rfl, hs, hd, hb⟩
          obtain rfl := HS2.out.unique hs
          have hgz : ∀ j, (getsL (valsL l) out2).getD j 0 = 0 := fun j => by
            by_cases hj : j < (valsL l).length
            · rw [gets_get hj, split_all HS2.out HT.out (by rw [HO.out.wl, ← vals_len]; exact hj), vals_get, val_nat HO.out.vals]
              omega
            · rw [List.getD_eq_getElem?_getD, List.getElem?_eq_none (by rw [gets_len]; omega)]; rfl
          rw [pays_none hgz] at hd
          obtain ⟨ad, cd, rfl, -⟩ := hd.shape
          have HB7 := Lib.hid (bt HB6.out hb)
          have HI7 := Lib.hid (HI6.out.below hb)
          have HNo7 := Lib.hid (HNo6.out.below hb)
          have HC := Lib.hid (fun k (hk : k < n) => show w7.cell? ⟨b1, k, none⟩ = some (.int .i64 0) ∧ w7.cell? ⟨b2, k, none⟩ = some (.int .i64 0) ∧ w7.cell? ⟨b3, k, none⟩ = some (.int .i64 (l.getD k default).z) ∧ w7.cell? ⟨b4, k, none⟩ = some (.int .i64 0) from by
            have q1 := (HK1.out.below hb).at (n := n) (k := k) (by simp [natI, HS1.out.len, HO1.out.wl, HN.out]) hk
            have q2 := (HK2.out.below hb).at (n := n) (k := k) (by rw [gets_len]; simp) hk
            have q3 := (HK3.out.below hb).at (n := n) (k := k) (by simp [natI, HS2.out.len, HO.out.wl, HN.out]) hk
            have q4 := (HK4.out.below hb).at (n := n) (k := k) (by rw [gets_len, vals_len, HN.out]) hk
            rw [natI_getD, split_nil HS1.out] at q1
            rw [gets_get (by simpa using hk), zeros_get, split_nil HS1.out] at q2
            rw [natI_getD, split_all HS2.out HT.out (by rw [HO.out.wl, ← HN.out]; exact hk), ← val_nat HO.out.vals] at q3
            rw [hgz] at q4
            exact ⟨by simpa using q1, by simpa using q2, q3, q4⟩)
          obtain ⟨bl, off, rfl, -, hc0⟩ := (H.out.below HB7.out).get HN.out (by omega)
          have HC0 := Lib.hid hc0
          clear hb hs hd hgz hc0
          go_wp2_with fail
          go_loopw [14] (fun i wr => ∃ k : Nat, k ≤ n ∧ i = .int .i64 (k : Int) ∧ Hid (∃ q, wr = w7.drewN q)) (fun i _ => n - (intOf i).toNat)
          case atStart => exact ⟨0, Nat.zero_le _, rfl, Lib.hid ⟨0, rfl⟩⟩
          case round =>
            obtain ⟨k, hk, rfl, hw⟩ := hrel
            by_cases hlt : k < n
            · have l1 : (k : Int) < (n : Int) := by omega
              have l0 : (0 : Int) ≤ (k : Int) := by omega
              have l2 : decide ((n : Int) ≤ (k : Int)) = false := by rw [decide_eq_false_iff_not]; omega
              have l2' : decide (n ≤ k) = false := by rw [decide_eq_false_iff_not]; omega
              obtain ⟨q1, q2, q3, q4⟩ := HC.out k hlt
              obtain ⟨-, q5⟩ := HC0.out k hlt
              generalize (l.getD k default).z = z at *
              have q1 : wr.cell? ⟨b1, k, none⟩ = some (.int .i64 0) := by obtain ⟨q, e⟩ := hw.out; rw [e]; exact q1
              have q2 : wr.cell? ⟨b2, k, none⟩ = some (.int .i64 0) := by obtain ⟨q, e⟩ := hw.out; rw [e]; exact q2
              have q3 : wr.cell? ⟨b3, k, none⟩ = some (.int .i64 z) := by obtain ⟨q, e⟩ := hw.out; rw [e]; exact q3
              have q4 : wr.cell? ⟨b4, k, none⟩ = some (.int .i64 0) := by obtain ⟨q, e⟩ := hw.out; rw [e]; exact q4
              have q5 : wr.cell? ⟨bl, off + k * 2 + 1, none⟩ = some (.int .i64 z) := by obtain ⟨q, e⟩ := hw.out; rw [e]; exact q5
              have f1 : (z == z) = true := by simp
              have f2 : (z != z) = false := by simp
              go_wp2_with fail
              go_quiet (fail)
              go_wp2
              go_roundw
              case rel => exact ⟨k + 1, by omega, by go_num, Lib.hid (by obtain ⟨q, e⟩ := hw.out; exact ⟨_, by rw [e, World.drewN_drewN]⟩)⟩
              case measure => simp [intOf]; omega
            · obtain rfl : k = n := by omega
              obtain ⟨j0, hj, hj0, hj1, hj2⟩ := info_parts Try.infoInterest
              have HBr := Lib.hid (show Below w7.heap.size w7 wr by obtain ⟨q, e⟩ := hw.out; rw [e]; exact below_drewN (Below.refl _ _) q)
              have HIr := Lib.hid ((H.out.below HB7.out).below HBr.out)
              have HNr := Lib.hid (HNo7.out.below HBr.out)
              have HAr := Lib.hid (HI7.out.below HBr.out)
              have HBr2 := Lib.hid (bt HB7.out HBr.out)
              have HZ0 := Lib.hid (show 0 ≤ (valsL l).getD 0 0 ∧ (valsL l).getD 0 0 ≤ 1099511627776 by rw [vals_get]; exact val_getD HO.out.may 0)
              have HRow := Lib.hid (show Row (wr.alloc (.cells #[] 35)) (.slice (some ⟨bl, off, none⟩) k cap) 2 k (l.flatMap In1.cells) by
                have := HIr.out.below ((Below.refl wr.heap.size wr).alloc (Nat.le_refl _) (.cells #[] 35))
                unfold Ins at this
                rwa [← HN.out] at this)
              obtain ⟨n, rfl⟩ : ∃ n, n = k := ⟨k, rfl⟩
              obtain ⟨wy, hwy⟩ : ∃ wy, wy = wr := ⟨_, rfl⟩
              subst hwy
              clear hk hlt hw HK1 HK2 HK3 HK4 HC HC0 HW1 HW2 HP2 HBw HInt HNo HNo5 HNo6 HNo7 HI5 HI6 HI7 HB5 HB6 HB7 HBr HIr
              go_wp2_with (at_builtin; first | (refine wpList_row rfl (.tmp 142) (.tmp 143) 22 rfl 35 j0 _ 2 24 Try.underlying22 hj hj0 hj1 hj2 rfl (by decide) _ 0 [] rfl (lit0s wy 35 2 _ rfl) _ n cap (l.flatMap In1.cells) rfl HRow.out (in_one l) (by unfold maxLen; omega) (by omega) ?_; intro v8 w8 hown ht hlo; rw [Nat.zero_add, List.nil_append] at hown; have HO8 := Lib.hid hown; have HT8 := Lib.hid ht; have HL8 := Lib.hid hlo; clear hown ht hlo; obtain ⟨a8, c8, rfl⟩ := own_shape HO8.out) | go_loud (refine wpList_own rfl (.tmp 145) (.tmp 147) 22 rfl 35 j0 _ 2 24 Try.underlying22 hj hj0 hj1 hj2 rfl (by decide) _ n _ rfl (HO8.out.alloc _) ⟨w8.heap.size, 0, none⟩ 1 1 [.string nobody, .int .i64 0] rfl rfl (new_cells w8 #[.string nobody, .int .i64 0] _) (in_one [⟨nobody, 0⟩]) (by unfold maxLen; omega) (by omega) ?_; intro v9 w9 hown hg hlo; have HO9 := Lib.hid hown; have HG9 := Lib.hid hg; clear hown hg hlo; obtain ⟨a9, c9, rfl⟩ := own_shape HO9.out))
              have HBl8 := Lib.hid (show Below wy.heap.size wy w8 from by
                have b1 := (Below.refl wy.heap.size wy).alloc (Nat.le_refl _) (.cells #[] 35)
                exact b1.trans (HT8.out.below b1.size (fun x hx => by cases hx; exact Nat.le_refl _)))
              have HOb8 := Lib.hid (show ∀ x, (Value.slice a8 n c8).ownBlock = some x → wy.heap.size ≤ x from fun x hx => by
                rcases HL8.out x hx with e | e
                · cases e; exact Nat.le_refl _
                · simp at e; omega)
              have HBl9 := Lib.hid (show Below wy.heap.size wy w9 from by
                have b1 := HBl8.out.alloc HBl8.out.size (.cells #[.string nobody, .int .i64 0] 35)
                exact b1.grown HG9.out b1.size (fun x hx => HOb8.out x hx))
              have HOne := Lib.hid (show Ins w9 (.slice a9 (n + 1) c9) (l ++ [⟨nobody, 0⟩]) by
                have := Row.of_own HO9.out
                unfold Ins
                rw [List.flatMap_append, List.length_append, ← HN.out]
                simpa [In1.cells] using this)
              have HN9 := Lib.hid (HNr.out.below HBl9.out)
              have HA9 := Lib.hid (HAr.out.below HBl9.out)
              have HB9 := Lib.hid (bt HBr2.out HBl9.out)
              clear HO8 HT8 HL8 HBl8 HOb8 HBl9 HO9 HG9 HNr HAr HBr2 HRow
              obtain ⟨ba, oa, rfl, hba, hca⟩ := HA9.out.get (by rw [vals_len]; exact HN.out) (by omega)
              obtain ⟨z0, hz0e⟩ : ∃ z, z = (valsL l).getD 0 0 := ⟨_, rfl⟩
              have hca0 := hca 0 (by omega)
              rw [← hz0e, Nat.add_zero] at hca0
              obtain ⟨s, hse⟩ : ∃ s, s = min z0 9 := ⟨_, rfl⟩
              have hmin : min z0 9 = s := hse.symm
              have HCl := Lib.hid (fun W (hW : Below w9.heap.size w9 W) => show W.cell? ⟨ba, oa, none⟩ = some (.int .i64 z0) from by rw [hW.cell (p := ⟨ba, oa, none⟩) hba]; exact hca0)
              have P0 := Below.refl w9.heap.size w9
              have P1 := P0.alloc (Nat.le_refl _) (.cells #[] 2)
              have P2 := P1.alloc P1.size (.cells #[.int .i64 0] 2)
              have P3 := P0.alloc (Nat.le_refl _) (.cells #[.int .i64 0] 2)
              have P4 := P3.alloc P3.size (.cells #[] 2)
              have m0 := hca0
              have m1 := HCl.out _ P1
              have m2 := HCl.out _ P2
              have m3 := HCl.out _ P3
              have m4 := HCl.out _ P4
              have B1 := Lib.hid P1.drew
              have B2 := Lib.hid P2.drew
              have B4 := Lib.hid P4.drew
              have B3 := Lib.hid P3.drew
              have B0 := Lib.hid P0.drew
              have O1 := Lib.hid (show ((w9.alloc (.cells #[] 2)).drew).ownsRow 0 2 1 (.slice (some ⟨w9.heap.size, 0, none⟩) 0 0) 0 [] from lit0s w9 2 1 _ rfl)
              have O2 := Lib.hid (show (((w9.alloc (.cells #[] 2)).alloc (.cells #[.int .i64 0] 2)).drew).ownsRow 0 2 1 (.slice (some ⟨w9.heap.size, 0, none⟩) 0 0) 0 [] from (lit0s w9 2 1 _ rfl).alloc _)
              have O4 := Lib.hid (show (((w9.alloc (.cells #[.int .i64 0] 2)).alloc (.cells #[] 2)).drew).ownsRow 0 2 1 (.slice (some ⟨w9.heap.size + 1, 0, none⟩) 0 0) 0 [] from lit0s (w9.alloc (.cells #[.int .i64 0] 2)) 2 1 _ (by simp))
              have HNI := Lib.hid (show Row w9 (.slice (some ⟨bn, 0, none⟩) n n) 1 n ((List.replicate n (0 : Int)).map (Value.int .i64)) by
                have := HN9.out.ints (n := n) (by simp) (by omega)
                unfold Ints at this
                rwa [List.length_replicate] at this)
              have R1 := Lib.hid (show Row ((w9.alloc (.cells #[] 2)).drew) (.slice (some ⟨bn, 0, none⟩) n n) 1 n ((List.replicate n (0 : Int)).map (Value.int .i64)) from HNI.out.below P1.drew)
              have R2 := Lib.hid (show Row (((w9.alloc (.cells #[] 2)).alloc (.cells #[.int .i64 0] 2)).drew) (.slice (some ⟨bn, 0, none⟩) n n) 1 n ((List.replicate n (0 : Int)).map (Value.int .i64)) from HNI.out.below P2.drew)
              have R4 := Lib.hid (show Row (((w9.alloc (.cells #[.int .i64 0] 2)).alloc (.cells #[] 2)).drew) (.slice (some ⟨bn, 0, none⟩) n n) 1 n ((List.replicate n (0 : Int)).map (Value.int .i64)) from HNI.out.below P4.drew)
              have N2 := Lib.hid (show ∀ j u, [Value.int .i64 0][j]? = some u → (((w9.alloc (.cells #[] 2)).alloc (.cells #[.int .i64 0] 2)).drew).cell? ((⟨w9.heap.size + 1, 0, none⟩ : Addr).add j) = some u from by
                have h := new_cells (w9.alloc (.cells #[] 2)) #[.int .i64 0] 2
                have e : (w9.alloc (.cells #[] 2)).heap.size = w9.heap.size + 1 := by simp
                rw [e] at h
                exact h)
              have N4 := Lib.hid (show ∀ j u, [Value.int .i64 0][j]? = some u → (((w9.alloc (.cells #[.int .i64 0] 2)).alloc (.cells #[] 2)).drew).cell? ((⟨w9.heap.size, 0, none⟩ : Addr).add j) = some u from news_alloc (.cells #[] 2) (new_cells w9 #[.int .i64 0] 2))
              have HRep := Lib.hid (show (List.replicate n (0 : Int)).map (Value.int .i64) ++ [Value.int .i64 0] = (List.replicate (n + 1) (0 : Int)).map (Value.int .i64) by rw [List.replicate_succ', List.map_append]; rfl)
              have L1 : 0 + n ≤ maxLen := by unfold maxLen; omega
              have L2 : (0 + n) * 8 ≤ 140737488355328 := by omega
              have L3 : n + 1 ≤ maxLen := by unfold maxLen; omega
              have L4 : (n + 1) * 8 ≤ 140737488355328 := by omega
              have Z1 : 0 < 1 := by decide
              have lz : (0 : Int) < (n : Int) := by omega
              have lz' : 0 < n := hp
              clear hba hca hz0e hse P0 P1 P2 P3 P4 hca0 HNI HN9 HA9
              go_cut [16, 17, 18] from 149 to 163 (fun cc zz hh wx => Hid (Last l n w cc zz hh wx))
              case first =>
                go_region_held3 (fun W => W.cell? ⟨ba, oa, none⟩ = some (.int .i64 z0) ∧ Below w9.heap.size w9 W)
                  (first | exact ⟨HCl.out _ HL13.out.1, HL13.out.1⟩ | exact ⟨m12, HB12.out⟩ | exact ⟨ma, HBa.out⟩ | exact ⟨m11, HB11.out⟩ | exact ⟨m4, B4.out⟩ | exact ⟨m2, B2.out⟩ | exact ⟨m3, B3.out⟩ | exact ⟨m1, B1.out⟩ | exact ⟨m0, B0.out⟩ | (with_reducible assumption))
                  (first
                  | (refine step_row rfl (.tmp 151) (.tmp 152) 23 rfl 2 i0 (.int .i64 0) 1 8 Try.underlying23 hi hz0 hz1 hz2 rfl Z1 (.slice (some ⟨w9.heap.size, 0, none⟩) 0 0) 0 [] rfl (by first | exact O1.out | exact O2.out) ⟨bn, 0, none⟩ n n ((List.replicate n (0 : Int)).map (Value.int .i64)) rfl (by first | exact R1.out | exact R2.out) (int_one _) L1 L2 ?_; intro v11 w11 hown ht hlo; rw [Nat.zero_add, List.nil_append] at hown; have HO11 := Lib.hid hown; have HT11 := Lib.hid ht; have HB11 := Lib.hid (show Below w9.heap.size w9 w11 by first | exact B1.out.trans (ht.below B1.out.size (fun x hx => by cases hx; exact Nat.le_refl _)) | exact B2.out.trans (ht.below B2.out.size (fun x hx => by cases hx; exact Nat.le_refl _))); have HOb11 := Lib.hid (show ∀ x, v11.ownBlock = some x → w9.heap.size ≤ x from fun x hx => by rcases hlo x hx with e | e; cases e; exact Nat.le_refl _; simp at e; omega); have m11 := HCl.out w11 HB11.out; have HBa := Lib.hid (HB11.out.alloc HB11.out.size (.cells #[.int .i64 0] 2)); have ma := HCl.out _ HBa.out; clear hown ht hlo; obtain ⟨a11, c11, rfl⟩ := own_shape HO11.out)
                  | (refine step_row rfl (.tmp 151) (.tmp 152) 23 rfl 2 i0 (.int .i64 0) 1 8 Try.underlying23 hi hz0 hz1 hz2 rfl Z1 (.slice (some ⟨w9.heap.size + 1, 0, none⟩) 0 0) 0 [] rfl O4.out ⟨bn, 0, none⟩ n n ((List.replicate n (0 : Int)).map (Value.int .i64)) rfl R4.out (int_one _) L1 L2 ?_; intro v11 w11 hown ht hlo; rw [Nat.zero_add, List.nil_append] at hown; have HO11 := Lib.hid hown; have HT11 := Lib.hid ht; have HB11 := Lib.hid (show Below w9.heap.size w9 w11 from B4.out.trans (ht.below B4.out.size (fun x hx => by cases hx; exact Nat.le_succ _))); have HOb11 := Lib.hid (show ∀ x, v11.ownBlock = some x → w9.heap.size ≤ x from fun x hx => by rcases hlo x hx with e | e; cases e; exact Nat.le_succ _; simp at e; omega); have m11 := HCl.out w11 HB11.out; clear hown ht hlo; obtain ⟨a11, c11, rfl⟩ := own_shape HO11.out)
                  | (refine step_own rfl (.tmp 153) (.tmp 154) 23 rfl 2 i0 (.int .i64 0) 1 8 Try.underlying23 hi hz0 hz1 hz2 rfl Z1 (.slice a11 n c11) n _ rfl (HO11.out.alloc _) ⟨w11.heap.size, 0, none⟩ 1 1 [.int .i64 0] rfl rfl (new_cells w11 #[.int .i64 0] 2) (one_int _ _) L3 L4 ?_; intro v12 w12 hown hg hlo; rw [HRep.out] at hown; have HO12 := Lib.hid hown; have HBa := HB11.out.alloc HB11.out.size (.cells #[.int .i64 0] 2); have HB12 := Lib.hid (HBa.grown hg HBa.size (fun x hx => HOb11.out x hx)); have m12 := HCl.out w12 HB12.out; clear hown hg hlo HBa; obtain ⟨a12, c12, rfl⟩ := own_shape HO12.out)
                  | (refine step_own rfl (.tmp 153) (.tmp 154) 23 rfl 2 i0 (.int .i64 0) 1 8 Try.underlying23 hi hz0 hz1 hz2 rfl Z1 (.slice a11 n c11) n _ rfl HO11.out ⟨w9.heap.size + 1, 0, none⟩ 1 1 [.int .i64 0] rfl rfl (news_touch N2.out HT11.out (by intro e; simp [Value.ownBlock] at e)) (one_int _ _) L3 L4 ?_; intro v12 w12 hown hg hlo; rw [HRep.out] at hown; have HO12 := Lib.hid hown; have HB12 := Lib.hid (HB11.out.grown hg HB11.out.size (fun x hx => HOb11.out x hx)); have m12 := HCl.out w12 HB12.out; clear hown hg hlo; obtain ⟨a12, c12, rfl⟩ := own_shape HO12.out)
                  | (refine step_own rfl (.tmp 153) (.tmp 154) 23 rfl 2 i0 (.int .i64 0) 1 8 Try.underlying23 hi hz0 hz1 hz2 rfl Z1 (.slice a11 n c11) n _ rfl HO11.out ⟨w9.heap.size, 0, none⟩ 1 1 [.int .i64 0] rfl rfl (news_touch N4.out HT11.out (by intro e; simp [Value.ownBlock] at e)) (one_int _ _) L3 L4 ?_; intro v12 w12 hown hg hlo; rw [HRep.out] at hown; have HO12 := Lib.hid hown; have HB12 := Lib.hid (HB11.out.grown hg HB11.out.size (fun x hx => HOb11.out x hx)); have m12 := HCl.out w12 HB12.out; clear hown hg hlo; obtain ⟨a12, c12, rfl⟩ := own_shape HO12.out)
                  | (go_at_call 15; refine (last_any w9 l n HN.out nobody a9 (n + 1) c9 a12 c12 s w12 HB12.out rfl (HOne.out.below HB12.out) (by have := Row.of_own HO12.out; unfold Ints; rwa [List.length_replicate])).mono ?_; rintro e w13 ⟨v13, rfl, cc, zz, hh, rfl, hL⟩; have HL13 := Lib.hid hL; clear hL))
                all_goals
                  dsimp only [Exit.then]
                  apply_assumption
                  go_meet
                  exact Lib.hid ⟨HB9.out.trans (HL13.out.1.mono HB9.out.size), HL13.out.2⟩
              case rest =>
                obtain ⟨hbF, hcase⟩ := hcut.out
                have HBF := Lib.hid hbF
                have f1 : (((n : Int) + 1) == ((n : Int) + 1)) = true := by simp
                have l1 : (n : Int) < (n : Int) + 1 := by omega
                have l0 : (0 : Int) ≤ (n : Int) := by omega
                rcases hcase with ⟨r, hr, rfl, rfl, rfl⟩ | ⟨b8, b9, rfl, rfl, rfl, k1, k2⟩
                · have g1 : (r == 0) = false := by rw [beq_eq_false_iff_ne]; exact hr
                  have g2 : (r != 0) = true := by simp [bne, g1]
                  clear hr hbF m0 m1 m2 m3 m4
                  go_wp2
                  go_ret
                  exact ⟨rfl, HBF.out⟩
                · clear hbF m0 m1 m2 m3 m4
                  go_wp2
                  go_ret
                  exact ⟨rfl, HBF.out⟩

theorem walk (v0 : Value) (w : World) (w0 : Is22 w v0) :
    Calls Try.prog 7 #[v0] w fun e w' => e = .returned (.bool true) ∧ Below w.heap.size w w' := by
  obtain ⟨l, h, hwf⟩ := w0
  obtain ⟨ao, cap, rfl, hc1, hc2, _⟩ := h.shape
  cases hf : fewB l with
  | false => exact skip ao _ cap l w h rfl hwf (Nat.le_trans hc1 hc2) hf
  | true => exact core ao _ cap l w h rfl hwf (Nat.le_trans hc1 hc2) hf
end averageEnds
end Go.Proofs.Ytoaopgamfndfgaa
