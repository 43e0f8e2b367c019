/-
  ShareRight: just the parts of a split are right.
-/
import Derived.Test.YtilfkpgdibhecaaEqual
namespace Go.Proofs.Ytilfkpgdibhecaa
open Go Go.RowKit
set_option linter.unusedVariables false
set_option linter.unusedSimpArgs false

namespace shareRight
theorem core1 (T : Int) (ao : Option Addr) (n cap : Nat) (oo : Option Addr) (on oc : Nat) (a m : Int) (w : World) (h : 40 < n) :
    Calls Try.prog 9 #[.int .i64 T, .slice ao n cap, .slice oo on oc, .int .u8 a, .int .i8 m] w fun e w' => e = .returned (.bool true) ∧ Below w.heap.size w w' := by
  have d1 : decide ((40 : Int) < (n : Int)) = true := by rw [decide_eq_true_iff]; omega
  go_enter Try.func9, Try.ntmps9
  go_wp2_with fail
  refine (awake_any _).mono ?_
  rintro e w1 ⟨rfl, hb1⟩
  have HB1 := Lib.hid hb1
  clear hb1
  go_wp2_with fail
  refine (awake_any _).mono ?_
  rintro e w2 ⟨rfl, hb2⟩
  have HB2 := Lib.hid hb2
  clear hb2
  go_wp2
  go_ret
  exact ⟨rfl, bt HB1.out HB2.out⟩
theorem core2 (T : Int) (ao : Option Addr) (n cap : Nat) (oo : Option Addr) (on oc : Nat) (a m : Int) (w : World) (h : n ≤ 40) (h2 : 40 < on) :
    Calls Try.prog 9 #[.int .i64 T, .slice ao n cap, .slice oo on oc, .int .u8 a, .int .i8 m] w fun e w' => e = .returned (.bool true) ∧ Below w.heap.size w w' := by
  have d1 : decide ((40 : Int) < (n : Int)) = false := by rw [decide_eq_false_iff_not]; omega
  have d2 : decide ((40 : Int) < (on : Int)) = true := by rw [decide_eq_true_iff]; omega
  go_enter Try.func9, Try.ntmps9
  go_wp2_with fail
  refine (awake_any _).mono ?_
  rintro e w1 ⟨rfl, hb1⟩
  have HB1 := Lib.hid hb1
  clear hb1
  go_wp2_with fail
  refine (awake_any _).mono ?_
  rintro e w2 ⟨rfl, hb2⟩
  have HB2 := Lib.hid hb2
  clear hb2
  go_wp2
  go_ret
  exact ⟨rfl, bt HB1.out HB2.out⟩

set_option maxHeartbeats 1000000 in
theorem core3 (T : Int) (ao : Option Addr) (n cap : Nat) (oo : Option Addr) (on oc : Nat) (a m : Int) (zs : List Int) (w : World) (h : Ints w (.slice ao n cap) zs) (hn : n = zs.length) (h40 : n ≤ 40) (h2 : on ≤ 40) (hwr : wrongN T zs ≠ 0) :
    Calls Try.prog 9 #[.int .i64 T, .slice ao n cap, .slice oo on oc, .int .u8 a, .int .i8 m] w fun e w' => e = .returned (.bool true) ∧ Below w.heap.size w w' := by
  have d1 : decide ((40 : Int) < (n : Int)) = false := by rw [decide_eq_false_iff_not]; omega
  have d2 : decide ((40 : Int) < (on : Int)) = false := by rw [decide_eq_false_iff_not]; omega
  have H := Lib.hid h
  have HE := Lib.hid (fun w1 (h1 : Ints w1 (.slice ao n cap) zs) => error_any T ao n cap zs w1 h1 hn)
  have HR := Lib.hid (fun (o : Value) w1 (h1 : Ints w1 (.slice ao n cap) zs) => right_bad T o _ zs w1 h1 hwr)
  have d3 : (wrongN T zs == 0) = false := by rw [beq_eq_false_iff_ne]; exact hwr
  have d4 : (wrongN T zs != 0) = true := by simp [bne, d3]
  generalize wrongN T zs = r at *
  clear h hwr hn
  go_enter Try.func9, Try.ntmps9
  go_wp2_with fail
  refine (awake_any _).mono ?_
  rintro e w1 ⟨rfl, hb1⟩
  have HB1 := Lib.hid hb1
  have H1 := Lib.hid (H.out.below hb1)
  clear hb1
  go_wp2_with fail
  refine (HE.out _ H1.out).mono ?_
  rintro e w2 ⟨rfl, rfl⟩
  go_wp2_with fail
  refine (HR.out _ _ H1.out).mono ?_
  rintro e w2 ⟨rfl, rfl⟩
  go_wp2_with fail
  refine (HR.out _ _ H1.out).mono ?_
  rintro e w2 ⟨rfl, rfl⟩
  go_wp2
  go_ret
  exact ⟨rfl, HB1.out⟩

theorem set_eq (out : List Nat) (i : Nat) (m : Int) (hi : i < out.length) : decide ((natI out).set i (((out.getD i 0 : Nat) : Int) + m) = natI out) = decide (m = 0) := by
  apply decide_eq_decide.2
  have hg : out.getD i 0 = out[i] := by simp [hi]
  constructor
  · intro h
    have := congrArg (fun l => l[i]?) h
    simp [natI, hi] at this
    omega
  · rintro rfl
    apply List.ext_getElem (by simp)
    intro j h1 h2
    rw [List.getElem_set]
    split
    · rename_i e; subst e; rw [hg]; simp [natI]
    · rfl

theorem iints {w : World} {b n : Nat} {xs : List Int} (hn : n = xs.length) (hl : n ≤ 4096) (h : w.heap[b]? = some (.cells (iA xs) 2 (0, 0))) : Ints w (.slice (some ⟨b, 0, none⟩) n n) xs := by
  subst hn
  refine ⟨by simp, some ⟨b, 0, none⟩, xs.length, by simp, by simp, by unfold maxLen; omega, (fun h => by cases h), fun a ha j u hu => ?_⟩
  cases ha
  rw [add_in]
  have : (iA xs)[j]? = some u := by unfold iA; simpa using hu
  simp [World.cell?, h, this]

set_option maxHeartbeats 4000000 in
theorem core (T : Nat) (ao : Option Addr) (n cap : Nat) (oo : Option Addr) (on oc : Nat) (a : Nat) (m : Int) (W : List Nat) (zs : List Int) (w : World) (h : Ints w (.slice ao n cap) (natI W)) (hn : n = W.length) (ho : Ints w (.slice oo on oc) zs) (h40 : n ≤ 40) (h2 : on ≤ 40) (ha : a < 256) (hm : -128 ≤ m ∧ m < 128) (hwr : wrongN T (natI W) = 0) :
    Calls Try.prog 9 #[.int .i64 (T : Int), .slice ao n cap, .slice oo on oc, .int .u8 (a : Int), .int .i8 m] w fun e w' => e = .returned (.bool true) ∧ Below w.heap.size w w' := by
  have d1 : decide ((40 : Int) < (n : Int)) = false := by rw [decide_eq_false_iff_not]; omega
  have d2 : decide ((40 : Int) < (on : Int)) = false := by rw [decide_eq_false_iff_not]; omega
  have H := Lib.hid h
  have HO := Lib.hid ho
  have HN := Lib.hid hn
  obtain ⟨T', W', e1, e2, hT, h0, _, _, hSS⟩ := wrong_ok hwr
  obtain rfl : T = T' := by omega
  obtain rfl : W = W' := by
    have := congrArg (List.map Int.toNat) e2
    simpa [natI, List.map_map, Function.comp_def] using this
  have HE := Lib.hid (fun w1 (h1 : Ints w1 (.slice ao n cap) (natI W)) => error_any T ao n cap (natI W) w1 h1 (by rw [hn]; simp [natI]))
  rw [hwr] at HE
  have HS := Lib.hid (fun w1 (h1 : Ints w1 (.slice ao n cap) (natI W)) => refsplit_any T ao n cap W w1 h1 hn hwr)
  have HR := Lib.hid (fun (out : List Nat) (hs : IsSplit T W out) (po : Option Addr) (pn pc : Nat) (ys : List Int) w1 (h1 : Ints w1 (.slice ao n cap) (natI W)) (h3 : Ints w1 (.slice po pn pc) ys) => right_ok T po pn pc _ W out ys w1 h1 h3 hwr hs)
  have HLE := Lib.hid (fun (out : List Nat) (hs : IsSplit T W out) (i : Nat) => split_le hs hSS i)
  have hp : 0 < n := by rw [hn]; exact h0
  have HT := Lib.hid hT
  clear h ho hwr e1 e2 hT h0 hSS hn
  have a1 : IntKind.i64.wrap (a : Int) = (a : Int) := IntWalk.i64_in _ (by omega)
  have a2 : Int.tmod (a : Int) (n : Int) = ((a % n : Nat) : Int) := (Int.ofNat_tmod a n).symm
  have a3 : ((n : Int) == 0) = false := by rw [beq_eq_false_iff_ne]; omega
  have hi : a % n < n := Nat.mod_lt _ hp
  generalize a % n = i at *
  have a4 : IntKind.i64.wrap m = m := IntWalk.i64_in _ (by omega)
  go_enter Try.func9, Try.ntmps9
  go_wp2_with fail
  refine (awake_any _).mono ?_
  rintro e w1 ⟨rfl, hb1⟩
  have HB1 := Lib.hid hb1
  have H1 := Lib.hid (H.out.below hb1)
  have HO1 := Lib.hid (HO.out.below hb1)
  clear hb1
  go_wp2_with fail
  refine (HE.out _ H1.out).mono ?_
  rintro e w2 ⟨rfl, rfl⟩
  go_wp2_with fail
  refine (HS.out _ H1.out).mono ?_
  rintro e w3 ⟨u, out, rfl, hs, hp3, hb3⟩
  have hol := hs.len
  rw [← HN.out] at hol
  have HI3 := Lib.hid (hp3.ints (by omega))
  obtain ⟨b, rfl, hb, hlo⟩ := hp3
  simp only [hol] at HI3 ⊢
  have HR1 := Lib.hid (HR.out out hs _ _ _ _ w3 (H1.out.below hb3) HI3.out)
  rw [decide_eq_true rfl] at HR1
  have HCB := Lib.hid hb
  have HLO := Lib.hid hlo
  have HSS := Lib.hid hs
  have HB3 := Lib.hid hb3
  have hlt3 : b < w3.heap.size := by
    rcases Nat.lt_or_ge b w3.heap.size with g | g
    · exact g
    · rw [Array.getElem?_eq_none g] at hb; cases hb
  have HLT3 := Lib.hid hlt3
  clear hb hlo hs hb3 hlt3
  go_wp2_with fail
  refine HR1.out.mono ?_
  rintro e w4 ⟨rfl, hb4⟩
  have HB4 := Lib.hid hb4
  have HR2 := Lib.hid (HR.out out HSS.out _ _ _ _ w4 ((H1.out.below HB3.out).below hb4) ((HO1.out.below HB3.out).below hb4))
  clear hb4
  obtain ⟨x, hx⟩ : ∃ x, x = decide (zs = natI out) := ⟨_, rfl⟩
  rw [← hx] at HR2
  have HX := Lib.hid hx
  clear hx
  go_wp2_with fail
  refine HR2.out.mono ?_
  rintro e w5 ⟨rfl, hb5⟩
  have HB5 := Lib.hid (bt HB4.out hb5)
  have HSM := Lib.hid (same_any _ _ _ _ w5 ((HO1.out.below HB3.out).below HB5.out) (HI3.out.below HB5.out))
  rw [← HX.out] at HSM
  clear hb5
  have x1 : (x == x) = true := beq_self_eq_true x
  have x2 : (x != x) = false := by simp
  go_wp2_with fail
  refine HSM.out.mono ?_
  rintro e w6 ⟨rfl, q, rfl⟩
  have HC6 := Lib.hid (show (w5.drewN q).heap[b]? = some (.cells (nums out) 2 (0, 0)) by
    rw [← HCB.out]; exact (below_drewN HB5.out q).block b HLT3.out)
  have HB6 := Lib.hid (below_drewN HB5.out q)
  clear HSM HR2 HR1
  generalize w5.drewN q = w6 at *
  obtain ⟨y, hy⟩ : ∃ y, y = out.getD i 0 := ⟨_, rfl⟩
  have hyl : y ≤ 1099511627776 := by rw [hy]; exact Nat.le_trans (HLE.out out HSS.out i) HT.out
  have hye : out[i]? = some y := by rw [hy]; simp [List.getD_eq_getElem?_getD, hol, hi]
  have c1 : w6.cell? ⟨b, i, none⟩ = some (.int .i64 (y : Int)) := by simp [World.cell?, HC6.out, nums, hye]
  have c2 : w6.frozen? ⟨b, i, none⟩ = false := by simp [World.frozen?, HC6.out]
  have s1 : IntKind.i64.wrap ((y : Int) + m) = (y : Int) + m := IntWalk.i64_in _ (by omega)
  have HY := Lib.hid hy
  have li : (i : Int) < (n : Int) := by omega
  clear hy hyl hye
  go_wp2_with fail
  have HI7 := Lib.hid (show Ints (w6.setCell ⟨b, i, none⟩ (.int .i64 ((y : Int) + m))) (.slice (some ⟨b, 0, none⟩) n n) ((natI out).set i ((y : Int) + m)) by
    refine iints (by simp [natI, hol]) (by omega) ?_
    rw [heap_set HC6.out, ← iA_nat, iA_set])
  have HB7 := Lib.hid (show Below w2.heap.size w2 (w6.setCell ⟨b, i, none⟩ (.int .i64 ((y : Int) + m))) from (bt HB3.out HB6.out).setCell (p := ⟨b, i, none⟩) HLO.out _)
  have HR7 := Lib.hid (HR.out out HSS.out _ _ _ _ (w6.setCell ⟨b, i, none⟩ (.int .i64 ((y : Int) + m))) (H1.out.below HB7.out) HI7.out)
  rw [HY.out, set_eq out i m (by omega), ← HY.out] at HR7
  refine HR7.out.mono ?_
  rintro e w8 ⟨rfl, hb8⟩
  have HB8 := Lib.hid (bt HB1.out (bt HB7.out hb8))
  clear hb8 HR7 HI7 HB7
  have z1 : (m == 0) = decide (m = 0) := by rw [Bool.eq_iff_iff]; simp
  have z2 : (decide (m = 0) == decide (m = 0)) = true := beq_self_eq_true _
  generalize decide (m = 0) = z at *
  go_wp2
  go_ret
  exact ⟨rfl, HB8.out⟩

theorem walk (a0 : Int) (v1 v2 : Value) (a3 a4 : Int) (w : World) (w0 : (Lit.int .i64 a0).wf = true) (w1 : Is22 w v1) (w2 : Is22 w v2) (w3 : (Lit.int .u8 a3).wf = true) (w4 : (Lit.int .i8 a4).wf = true) :
    Calls Try.prog 9 #[.int .i64 a0, v1, v2, .int .u8 a3, .int .i8 a4] w fun e w' => e = .returned (.bool true) ∧ Below w.heap.size w w' := by
  obtain ⟨zs, h, _⟩ := w1
  obtain ⟨ys, h2, _⟩ := w2
  obtain ⟨ao, cap, rfl, _⟩ := h.shape
  obtain ⟨bo, cap2, rfl, _⟩ := h2.shape
  by_cases hl : zs.length ≤ 40
  · by_cases hl2 : ys.length ≤ 40
    · by_cases hwr : wrongN a0 zs = 0
      · obtain ⟨T', W, rfl, rfl, _, h0, hnb, _⟩ := wrong_ok hwr
        have hA : 0 ≤ a3 ∧ a3 < 256 := by simp [Lit.wf, IntKind.min, IntKind.max, IntKind.bits, IntKind.signed] at w3; omega
        have hM : -128 ≤ a4 ∧ a4 < 128 := by simp [Lit.wf, IntKind.min, IntKind.max, IntKind.bits, IntKind.signed] at w4; omega
        obtain ⟨A, rfl⟩ : ∃ A : Nat, a3 = (A : Int) := ⟨a3.toNat, by omega⟩
        exact core T' ao _ cap bo _ cap2 A a4 W ys w h (by simp [natI]) h2 hl hl2 (by omega) hM hwr
      · exact core3 a0 ao _ cap bo _ cap2 a3 a4 zs w h rfl hl hl2 hwr
    · exact core2 a0 ao _ cap bo _ cap2 a3 a4 w hl (by omega)
  · exact core1 a0 ao _ cap bo _ cap2 a3 a4 w (by omega)
end shareRight
end Go.Proofs.Ytilfkpgdibhecaa
