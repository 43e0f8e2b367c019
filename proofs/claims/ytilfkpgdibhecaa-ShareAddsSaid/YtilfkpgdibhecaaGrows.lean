/-
  ShareGrows: who has the greater weight has no smaller part.
-/
import Derived.Test.YtilfkpgdibhecaaMost
namespace Go.Proofs.Ytilfkpgdibhecaa
open Go Go.RowKit
set_option linter.unusedVariables false
set_option linter.unusedSimpArgs false

theorem take_closed {k : Nat → Nat} {ys : List Nat} {m i j : Nat} (h : Srtd k ys) (hj : j ∈ ys.take m) (hi : i ∈ ys) (hl : Lx k i j) : i ∈ ys.take m := by
  have e := List.take_append_drop m ys
  rw [← e] at hi h
  rcases List.mem_append.1 hi with hi | hi
  · exact hi
  · exact ((List.pairwise_append.1 h).2.2 j hj i hi).asymm hl |>.elim
theorem ind_le {ys : List Nat} {m i j : Nat} (h : j ∈ ys.take m → i ∈ ys.take m) : (if j ∈ ys.take m then 1 else 0) ≤ (if i ∈ ys.take m then 1 else 0 : Nat) := by
  by_cases h1 : j ∈ ys.take m
  · rw [if_pos h1, if_pos (h h1)]; exact Nat.le_refl _
  · rw [if_neg h1]; exact Nat.zero_le _
theorem ind_one (ys : List Nat) (m i : Nat) : (if i ∈ ys.take m then 1 else 0 : Nat) ≤ 1 := by split <;> omega

theorem split_get {T : Nat} {W ys : List Nat} {i : Nat} (hi : i < W.length) : (outL T W ys (leftL T W)).getD i 0 = T * W.getD i 0 / W.sum + if i ∈ ys.take (leftL T W) then 1 else 0 := by
  rw [List.getD_eq_getElem?_getD, outL_get hi]
  simp [ptsL, hi]
theorem key_get {T : Nat} {W : List Nat} {i : Nat} (hi : i < W.length) : keyL (rtsL T W) i = T * W.getD i 0 % W.sum := by simp [keyL, rtsL, hi]

theorem left0 (T : Nat) (W : List Nat) (h : T = 0) : leftL T W = 0 := by subst h; simp [leftL]

/-- Who has the greater weight has no smaller part. -/
theorem grows_lt {T : Nat} {W out : List Nat} (h : IsSplit T W out) {i j : Nat} (hi : i < W.length) (hj : j < W.length) (hw : W.getD j 0 < W.getD i 0) : out.getD j 0 ≤ out.getD i 0 := by
  obtain ⟨ys, p, s, rfl⟩ := h
  rw [split_get hi, split_get hj]
  have m1 := Nat.mul_le_mul_left T (Nat.le_of_lt hw)
  have d1 := Nat.div_le_div_right (c := W.sum) m1
  have b1 := ind_one ys (leftL T W) j
  by_cases e : T * W.getD j 0 / W.sum = T * W.getD i 0 / W.sum
  · refine Nat.add_le_add d1 (ind_le fun hm => ?_)
    by_cases hT : T = 0
    · rw [left0 T W hT] at hm; simp at hm
    · refine take_closed s hm (p.mem_iff.2 (List.mem_range.2 hi)) (.inl ?_)
      rw [key_get hi, key_get hj]
      have m2 : T * W.getD j 0 < T * W.getD i 0 := Nat.mul_lt_mul_of_pos_left hw (by omega)
      have q1 := Nat.div_add_mod (T * W.getD j 0) W.sum
      have q2 := Nat.div_add_mod (T * W.getD i 0) W.sum
      rw [e] at q1
      omega
  · omega
/-- Of alike weights who stands first has the greater part, by one at most. -/
theorem grows_eq {T : Nat} {W out : List Nat} (h : IsSplit T W out) {i j : Nat} (hi : i < W.length) (hj : j < W.length) (hij : j < i) (hw : W.getD i 0 = W.getD j 0) : out.getD i 0 ≤ out.getD j 0 ∧ out.getD j 0 ≤ out.getD i 0 + 1 := by
  obtain ⟨ys, p, s, rfl⟩ := h
  rw [split_get hi, split_get hj, hw]
  have b1 := ind_one ys (leftL T W) j
  have b2 := ind_one ys (leftL T W) i
  have h1 : (if i ∈ ys.take (leftL T W) then 1 else 0) ≤ (if j ∈ ys.take (leftL T W) then 1 else 0 : Nat) := ind_le fun hm => by
    refine take_closed s hm (p.mem_iff.2 (List.mem_range.2 hj)) (.inr ⟨?_, hij⟩)
    rw [key_get hi, key_get hj, hw]
  constructor <;> omega

theorem out_sum {T : Nat} {W ys : List Nat} (p : ys.Perm (List.range W.length)) (m : Nat) (hm : m ≤ W.length) : (outL T W ys m).sum = (ptsL T W).sum + m := by
  induction m with
  | zero => rw [outL_zero]; rfl
  | succ m ih =>
    have hl : ys.length = W.length := by rw [p.length_eq]; simp
    obtain ⟨i, hi⟩ := get_some (xs := ys) (i := m) (by omega)
    have hin : i < W.length := List.mem_range.1 (p.mem_iff.1 (List.mem_of_getElem? hi))
    obtain ⟨x, hx⟩ := get_some (xs := outL T W ys m) (i := i) (by simpa [outL] using hin)
    rw [← outL_step' p hi hx]
    obtain ⟨hxl, hxe⟩ := List.getElem?_eq_some_iff.1 hx
    have e1 : outL T W ys m = (outL T W ys m).take i ++ x :: (outL T W ys m).drop (i + 1) := by
      conv => lhs; rw [← List.take_append_drop i (outL T W ys m)]
      rw [List.drop_eq_getElem_cons hxl, hxe]
    have e2 : ((outL T W ys m).set i (x + 1)).sum = (outL T W ys m).sum + 1 := by
      conv => lhs; rw [e1]
      conv => rhs; rw [e1]
      rw [set_mid _ _ x (x + 1) i (by rw [List.length_take]; omega)]
      simp only [List.sum_append, List.sum_cons]; omega
    rw [e2, ih (by omega)]; omega
theorem split_sum {T : Nat} {W out : List Nat} (h : IsSplit T W out) (hS : 0 < T → 0 < W.sum) : out.sum = T := by
  obtain ⟨ys, p, s, rfl⟩ := h
  by_cases hT : T = 0
  · rw [left0 T W hT, outL_zero]; subst hT
    unfold ptsL
    simp only [Nat.zero_mul, Nat.zero_div]
    have : ∀ l : List Nat, (l.map fun _ => 0).sum = 0 := fun l => by
      induction l with
      | nil => rfl
      | cons a l ih => simp [ih]
    exact this W
  · have hS' := hS (by omega)
    rw [out_sum p _ (Nat.le_of_lt (left_lt T W hS'))]
    have := pts_le T W hS'
    unfold leftL; omega
theorem split_le {T : Nat} {W out : List Nat} (h : IsSplit T W out) (hS : 0 < T → 0 < W.sum) (i : Nat) : out.getD i 0 ≤ T := by
  rw [← split_sum h hS]
  rcases Nat.lt_or_ge i out.length with hi | hi
  · have : out.getD i 0 = out[i] := by simp [hi]
    rw [this]
    exact le_sum (List.getElem_mem _)
  · simp [hi]

theorem nat_get {W : List Nat} {k : Nat} : (natI W).getD k 0 = ((W.getD k 0 : Nat) : Int) := by
  rcases Nat.lt_or_ge k W.length with h | h
  · simp [natI, h]
  · simp [natI, h]

namespace shareGrows
theorem core1 (T : Int) (ao : Option Addr) (n cap : Nat) (w : World) (h : 40 < n) :
    Calls Try.prog 5 #[.int .i64 T, .slice ao n cap] w fun e w' => e = .returned (.bool true) ∧ Below w.heap.size w w' := by
  have d1 : decide ((40 : Int) < (n : Int)) = true := by rw [decide_eq_true_iff]; omega
  go_enter Try.func5, Try.ntmps5
  go_wp2_with fail
  refine (awake_any _).mono ?_
  rintro e w1 ⟨rfl, hb1⟩
  have HB1 := Lib.hid hb1
  clear hb1
  go_wp2_with fail
  refine (awake_any _).mono ?_
  rintro e w2 ⟨rfl, hb2⟩
  have HB2 := Lib.hid hb2
  clear hb2
  go_wp2
  go_ret
  exact ⟨rfl, bt HB1.out HB2.out⟩

set_option maxHeartbeats 1000000 in
theorem core2 (T : Int) (ao : Option Addr) (n cap : Nat) (zs : List Int) (w : World) (h : Ints w (.slice ao n cap) zs) (hl : n ≤ 40) (hwr : wrongN T zs ≠ 0) :
    Calls Try.prog 5 #[.int .i64 T, .slice ao n cap] w fun e w' => e = .returned (.bool true) ∧ Below w.heap.size w w' := by
  have d1 : decide ((40 : Int) < (n : Int)) = false := by rw [decide_eq_false_iff_not]; omega
  have d2 : (wrongN T zs == 0) = false := by rw [beq_eq_false_iff_ne]; exact hwr
  have d3 : (wrongN T zs != 0) = true := by simp [bne, d2]
  have H := Lib.hid h
  have HW := Lib.hid (fun w1 (h1 : Ints w1 (.slice ao n cap) zs) => split_bad T _ zs w1 h1 hwr)
  clear h hwr
  generalize wrongN T zs = r at *
  go_enter Try.func5, Try.ntmps5
  go_wp2_with fail
  refine (awake_any _).mono ?_
  rintro e w1 ⟨rfl, hb1⟩
  have HB1 := Lib.hid hb1
  have H1 := Lib.hid (H.out.below hb1)
  clear hb1
  go_wp2_with fail
  refine (HW.out _ H1.out).mono ?_
  rintro e w2 ⟨rfl, rfl⟩
  go_wp2
  go_ret
  exact ⟨rfl, HB1.out⟩

set_option maxRecDepth 100000 in
set_option maxHeartbeats 4000000 in
theorem core (T : Nat) (ao : Option Addr) (n cap : Nat) (W : List Nat) (w : World) (h : Ints w (.slice ao n cap) (natI W)) (hn : n = W.length) (hl : n ≤ 40) (hT : T ≤ 1099511627776) (hSS : 0 < T → 0 < W.sum) (hwr : wrongN T (natI W) = 0) :
    Calls Try.prog 5 #[.int .i64 (T : Int), .slice ao n cap] w fun e w' => e = .returned (.bool true) ∧ Below w.heap.size w w' := by
  have d1 : decide ((40 : Int) < (n : Int)) = false := by rw [decide_eq_false_iff_not]; omega
  have H := Lib.hid h
  have HN := Lib.hid hn
  have HW := Lib.hid (fun w1 (h1 : Ints w1 (.slice ao n cap) (natI W)) => split_any T _ W w1 h1 hwr)
  have HSS := Lib.hid hSS
  clear h hn hwr hSS
  go_enter Try.func5, Try.ntmps5
  go_wp2_with fail
  refine (awake_any _).mono ?_
  rintro e w1 ⟨rfl, hb1⟩
  have HB1 := Lib.hid hb1
  have H1 := Lib.hid (H.out.below hb1)
  clear hb1
  go_wp2_with fail
  refine (HW.out _ H1.out).mono ?_
  rintro e w2 ⟨u, out, rfl, hs, hp, hb2⟩
  have hol := hs.len
  have HP := Lib.hid (hp.ints (by rw [hol, ← HN.out]; omega))
  obtain ⟨bp, rfl, _, _⟩ := hp
  have HB2 := Lib.hid (bt HB1.out hb2)
  have H2 := Lib.hid (H1.out.below hb2)
  rw [hol, ← HN.out] at HP ⊢
  have HOL := Lib.hid (show out.length = n by rw [hol, HN.out])
  have HS := Lib.hid hs
  have HOB := Lib.hid (fun i => show out.getD i 0 ≤ T from split_le hs HSS.out i)
  clear hb2 hs hol HW
  go_wp2_with fail
  go_loopw [35] (fun i wr => ∃ k : Nat, k ≤ n ∧ i = .int .i64 (k : Int) ∧ Hid (∃ q, wr = w2.drewN q)) (fun i _ => n - (intOf i).toNat)
  case atStart => exact ⟨0, Nat.zero_le _, rfl, Lib.hid ⟨0, rfl⟩⟩
  case round =>
    obtain ⟨i, hi, rfl, hw⟩ := hrel
    by_cases hlt : i < n
    · obtain ⟨wo, hwo⟩ : ∃ wo : World, wo = wr := ⟨_, rfl⟩
      subst hwo
      go_wp2_with fail
      go_loopw [39] (fun j wr => ∃ k : Nat, k ≤ i ∧ j = .int .i64 (k : Int) ∧ Hid (∃ q, wr = w2.drewN q)) (fun j _ => i - (intOf j).toNat)
      case atStart => exact ⟨0, Nat.zero_le _, rfl, hw⟩
      case round =>
        obtain ⟨k, hk, rfl, hw2⟩ := hrel
        by_cases hlt2 : k < i
        · have I1 : Ints wr (.slice ao n cap) (natI W) := by obtain ⟨q, e⟩ := hw2.out; rw [e]; exact H2.out.drewN q
          have I2 : Ints wr (.slice (some ⟨bp, 0, none⟩) n n) (natI out) := by obtain ⟨q, e⟩ := hw2.out; rw [e]; exact HP.out.drewN q
          obtain ⟨b1, o1, e, _, hc1⟩ := I1.get (by simp [natI]; exact HN.out) (by omega)
          cases e
          obtain ⟨b2, o2, e, _, hc2⟩ := I2.get (by simp [natI]; exact HOL.out.symm) (by omega)
          cases e
          have c1 := hc1 i (by omega)
          have c2 := hc1 k (by omega)
          have c3 := hc2 i (by omega)
          have c4 := hc2 k (by omega)
          rw [nat_get] at c1 c2 c3 c4
          rw [Nat.zero_add] at c3 c4
          have ki := HN.out
          have G1 := Lib.hid (fun (h : W.getD k 0 < W.getD i 0) => grows_lt HS.out (i := i) (j := k) (by omega) (by omega) h)
          have G2 := Lib.hid (fun (h : W.getD i 0 < W.getD k 0) => grows_lt HS.out (i := k) (j := i) (by omega) (by omega) h)
          have G3 := Lib.hid (fun (h : W.getD i 0 = W.getD k 0) => grows_eq HS.out (i := i) (j := k) (by omega) (by omega) hlt2 h)
          have l1 : (i : Int) < (n : Int) := by omega
          have l2 : (k : Int) < (n : Int) := by omega
          have hpT := HOB.out i
          clear hc1 hc2 I1 I2 ki
          generalize W.getD i 0 = x at *
          generalize W.getD k 0 = y at *
          generalize out.getD i 0 = p at *
          generalize out.getD k 0 = q at *
          rcases Nat.lt_trichotomy y x with hxy | hxy | hxy
          · have g := G1.out hxy
            have e1 : decide (y < x) = true := by rw [decide_eq_true_iff]; exact hxy
            have e2 : decide (p < q) = false := by rw [decide_eq_false_iff_not]; omega
            have e3 : decide (x < y) = false := by rw [decide_eq_false_iff_not]; omega
            have e4 : ((x : Int) == (y : Int)) = false := by rw [beq_eq_false_iff_ne]; omega
            clear g hxy G1 G2 G3
            go_wp2_with fail
            go_quiet (fail)
            go_wp2_with fail
            go_quiet (fail)
            go_wp2
            go_roundw
            case rel => exact ⟨k + 1, by omega, by go_num, Lib.hid (by obtain ⟨q, e⟩ := hw2.out; first | exact ⟨_, by rw [e, World.drewN_drewN]⟩ | exact ⟨_, by rw [e, World.drewN_drewN, World.drewN_drewN]⟩)⟩
            case measure => simp [intOf]; omega
          · subst hxy
            obtain ⟨g1, g2⟩ := G3.out rfl
            have e2 : decide (q < p) = false := by rw [decide_eq_false_iff_not]; omega
            have e3 : decide (p + 1 < q) = false := by rw [decide_eq_false_iff_not]; omega
            have e5 : decide ((p : Int) + 1 < (q : Int)) = false := by rw [decide_eq_false_iff_not]; omega
            have e4 : decide (y < y) = false := by simp
            have E1 : IntKind.i64.wrap ((p : Int) + 1) = (p : Int) + 1 := IntWalk.i64_in _ (by omega)
            clear g1 g2 G1 G2 G3
            go_wp2_with fail
            go_quiet (fail)
            go_wp2_with fail
            go_quiet (fail)
            go_wp2
            go_roundw
            case rel => exact ⟨k + 1, by omega, by go_num, Lib.hid (by obtain ⟨q, e⟩ := hw2.out; first | exact ⟨_, by rw [e, World.drewN_drewN]⟩ | exact ⟨_, by rw [e, World.drewN_drewN, World.drewN_drewN]⟩)⟩
            case measure => simp [intOf]; omega
          · have g := G2.out hxy
            have e1 : decide (y < x) = false := by rw [decide_eq_false_iff_not]; omega
            have e2 : decide (q < p) = false := by rw [decide_eq_false_iff_not]; omega
            have e3 : decide (x < y) = true := by rw [decide_eq_true_iff]; exact hxy
            have e4 : ((x : Int) == (y : Int)) = false := by rw [beq_eq_false_iff_ne]; omega
            clear g hxy G1 G2 G3
            go_wp2_with fail
            go_quiet (fail)
            go_wp2_with fail
            go_quiet (fail)
            go_wp2
            go_roundw
            case rel => exact ⟨k + 1, by omega, by go_num, Lib.hid (by obtain ⟨q, e⟩ := hw2.out; first | exact ⟨_, by rw [e, World.drewN_drewN]⟩ | exact ⟨_, by rw [e, World.drewN_drewN, World.drewN_drewN]⟩)⟩
            case measure => simp [intOf]; omega
        · obtain rfl : i = k := by omega
          go_wp2
          go_roundw
          case rel => exact ⟨i + 1, by omega, by go_num, hw2⟩
          case measure => simp [intOf]; omega
    · go_wp2
      go_ret
      exact ⟨rfl, by obtain ⟨q, e⟩ := hw.out; rw [e]; exact below_drewN HB2.out q⟩

theorem walk (a0 : Int) (v1 : Value) (w : World) (w0 : (Lit.int .i64 a0).wf = true) (w1 : Is22 w v1) :
    Calls Try.prog 5 #[.int .i64 a0, v1] w fun e w' => e = .returned (.bool true) ∧ Below w.heap.size w w' := by
  obtain ⟨zs, h, _⟩ := w1
  obtain ⟨ao, cap, rfl, _⟩ := h.shape
  by_cases hl : zs.length ≤ 40
  · by_cases hwr : wrongN a0 zs = 0
    · obtain ⟨T, W, rfl, rfl, hT, _, _, _, hSS⟩ := wrong_ok hwr
      exact core T ao _ cap W w h (by simp [natI]) hl hT hSS hwr
    · exact core2 a0 ao _ cap zs w h hl hwr
  · exact core1 a0 ao _ cap w (by omega)
end shareGrows
end Go.Proofs.Ytilfkpgdibhecaa
