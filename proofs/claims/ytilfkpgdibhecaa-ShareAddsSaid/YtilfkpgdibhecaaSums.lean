/-
  ShareSums: to the last unit.
-/
import Derived.Test.YtilfkpgdibhecaaGrows
import Derived.Test.YtilfkpgdibhecaaErr
import Derived.Test.YtilfkpgdibhecaaTimes
namespace Go.Proofs.Ytilfkpgdibhecaa
open Go Go.RowKit
set_option linter.unusedVariables false
set_option linter.unusedSimpArgs false

theorem rts_sum {T : Nat} {W ys : List Nat} (p : ys.Perm (List.range W.length)) : (ys.map (keyL (rtsL T W))).sum = (rtsL T W).sum := by
  have h1 : ((List.range W.length).map (keyL (rtsL T W))) = rtsL T W := by
    apply List.ext_getElem?
    intro j
    rcases Nat.lt_or_ge j W.length with h | h
    · simp [keyL, rtsL, h]
    · simp [keyL, rtsL, h]
  have h2 := (p.map (keyL (rtsL T W))).sum_nat
  rwa [h1] at h2
/-- Who gets one more has something left. -/
theorem rest_pos {T : Nat} {W ys : List Nat} (hS : 0 < W.sum) (p : ys.Perm (List.range W.length)) (s : Srtd (keyL (rtsL T W)) ys) {i : Nat} (hi : i ∈ ys.take (leftL T W)) : keyL (rtsL T W) i ≠ 0 := by
  intro h0
  have hsum := rts_sum (T := T) p
  have hl := left_mul T W hS
  have e := List.take_append_drop (leftL T W) ys
  rw [← e] at s
  have hd : ∀ j ∈ ys.drop (leftL T W), keyL (rtsL T W) j = 0 := fun j hj => by
    have := (List.pairwise_append.1 s).2.2 i hi j hj
    unfold Lx at this
    omega
  rw [← e, List.map_append, List.sum_append] at hsum
  have hz : ((ys.drop (leftL T W)).map (keyL (rtsL T W))).sum = 0 := by
    have : ∀ l : List Nat, (∀ j ∈ l, keyL (rtsL T W) j = 0) → (l.map (keyL (rtsL T W))).sum = 0 := fun l hl => by
      induction l with
      | nil => rfl
      | cons a l ih => rw [List.map_cons, List.sum_cons, hl a (by simp), ih (fun j hj => hl j (List.mem_cons_of_mem _ hj))]
    exact this _ hd
  have hlt := sum_lt W.sum hS ((ys.take (leftL T W)).map (keyL (rtsL T W))) (by intro e'; rw [List.map_eq_nil_iff] at e'; rw [e'] at hi; simp at hi) (fun x hx => by
    obtain ⟨j, hj, rfl⟩ := List.mem_map.1 hx
    have hjn : j < W.length := List.mem_range.1 (p.mem_iff.1 (List.mem_of_mem_take hj))
    rw [key_get hjn]
    exact Nat.mod_lt _ hS)
  rw [List.length_map, List.length_take] at hlt
  have := Nat.mul_le_mul_right W.sum (Nat.min_le_left (leftL T W) ys.length)
  omega
/-- Each part is its share rounded down, or one more where something was left. -/
theorem split_near {T : Nat} {W out : List Nat} (h : IsSplit T W out) (hS : 0 < W.sum) {i : Nat} (hi : i < W.length) :
    out.getD i 0 = T * W.getD i 0 / W.sum ∨ (out.getD i 0 = T * W.getD i 0 / W.sum + 1 ∧ T * W.getD i 0 % W.sum ≠ 0) := by
  obtain ⟨ys, p, s, rfl⟩ := h
  rw [split_get hi]
  by_cases hm : i ∈ ys.take (leftL T W)
  · rw [if_pos hm]
    exact .inr ⟨rfl, by have := rest_pos hS p s hm; rwa [key_get hi] at this⟩
  · rw [if_neg hm]; exact .inl rfl

theorem getD_le_sum (W : List Nat) (k : Nat) : W.getD k 0 ≤ W.sum := by
  rcases Nat.lt_or_ge k W.length with h | h
  · have e1 : W.getD k 0 = W[k] := by simp [h]
    rw [e1]; exact le_sum (List.getElem_mem _)
  · have e1 : W.getD k 0 = 0 := by simp [h]
    rw [e1]; exact Nat.zero_le _
theorem natI_take (W : List Nat) (k : Nat) : (natI W).take k = natI (W.take k) := by simp [natI, List.map_take]
theorem take_sum_step {W : List Nat} {k : Nat} (hk : k < W.length) : (W.take k).sum + W.getD k 0 = (W.take (k + 1)).sum := by
  rw [List.take_succ_eq_append_getElem hk, List.sum_append]; simp [hk]
theorem take_sum_le (W : List Nat) (k : Nat) : (W.take k).sum ≤ W.sum := by
  conv => rhs; rw [← List.take_append_drop k W]
  rw [List.sum_append]; omega

namespace shareSums
theorem core1 (T : Int) (ao : Option Addr) (n cap : Nat) (w : World) (h : 40 < n) :
    Calls Try.prog 4 #[.int .i64 T, .slice ao n cap] w fun e w' => e = .returned (.bool true) ∧ Below w.heap.size w w' := by
  have d1 : decide ((40 : Int) < (n : Int)) = true := by rw [decide_eq_true_iff]; omega
  go_enter Try.func4, Try.ntmps4
  go_wp2_with fail
  refine (awake_any _).mono ?_
  rintro e w1 ⟨rfl, hb1⟩
  have HB1 := Lib.hid hb1
  clear hb1
  go_wp2_with fail
  refine (awake_any _).mono ?_
  rintro e w2 ⟨rfl, hb2⟩
  have HB2 := Lib.hid hb2
  clear hb2
  go_wp2
  go_ret
  exact ⟨rfl, bt HB1.out HB2.out⟩

set_option maxHeartbeats 1000000 in
theorem core2 (T : Int) (ao : Option Addr) (n cap : Nat) (zs : List Int) (w : World) (h : Ints w (.slice ao n cap) zs) (hn : n = zs.length) (hl : n ≤ 40) (hwr : wrongN T zs ≠ 0) :
    Calls Try.prog 4 #[.int .i64 T, .slice ao n cap] w fun e w' => e = .returned (.bool true) ∧ Below w.heap.size w w' := by
  have d1 : decide ((40 : Int) < (n : Int)) = false := by rw [decide_eq_false_iff_not]; omega
  have d2 : (wrongN T zs == 0) = false := by rw [beq_eq_false_iff_ne]; exact hwr
  have d3 : (wrongN T zs != 0) = true := by simp [bne, d2]
  have H := Lib.hid h
  have HW := Lib.hid (fun w1 (h1 : Ints w1 (.slice ao n cap) zs) => split_bad T _ zs w1 h1 hwr)
  have HE := Lib.hid (fun w1 (h1 : Ints w1 (.slice ao n cap) zs) => error_any T ao n cap zs w1 h1 hn)
  clear h hwr hn
  generalize wrongN T zs = r at *
  go_enter Try.func4, Try.ntmps4
  go_wp2_with fail
  refine (awake_any _).mono ?_
  rintro e w1 ⟨rfl, hb1⟩
  have HB1 := Lib.hid hb1
  have H1 := Lib.hid (H.out.below hb1)
  clear hb1
  go_wp2_with fail
  refine (HW.out _ H1.out).mono ?_
  rintro e w2 ⟨rfl, rfl⟩
  go_wp2_with fail
  refine (HE.out _ H1.out).mono ?_
  rintro e w3 ⟨rfl, rfl⟩
  go_wp2
  go_ret
  exact ⟨rfl, HB1.out⟩

set_option maxRecDepth 100000 in
set_option maxHeartbeats 4000000 in
theorem core (T : Nat) (ao : Option Addr) (n cap : Nat) (W : List Nat) (w : World) (h : Ints w (.slice ao n cap) (natI W)) (hn : n = W.length) (hl : n ≤ 40) (hn0 : 0 < n) (hT : T ≤ 1099511627776) (hw : ∀ x ∈ W, x ≤ 1099511627776) (hSS : 0 < T → 0 < W.sum) (hwr : wrongN T (natI W) = 0) :
    Calls Try.prog 4 #[.int .i64 (T : Int), .slice ao n cap] w fun e w' => e = .returned (.bool true) ∧ Below w.heap.size w w' := by
  have d1 : decide ((40 : Int) < (n : Int)) = false := by rw [decide_eq_false_iff_not]; omega
  have H := Lib.hid h
  have HN := Lib.hid hn
  have HW := Lib.hid (fun w1 (h1 : Ints w1 (.slice ao n cap) (natI W)) => split_any T _ W w1 h1 hwr)
  have HSS := Lib.hid hSS
  have HWB := Lib.hid hw
  clear h hn hwr hSS hw
  go_enter Try.func4, Try.ntmps4
  go_wp2_with fail
  refine (awake_any _).mono ?_
  rintro e w1 ⟨rfl, hb1⟩
  have HB1 := Lib.hid hb1
  have H1 := Lib.hid (H.out.below hb1)
  clear hb1
  go_wp2_with fail
  refine (HW.out _ H1.out).mono ?_
  rintro e w2 ⟨u, out, rfl, hs, hp, hb2⟩
  have hol := hs.len
  have HP := Lib.hid (hp.ints (by rw [hol, ← HN.out]; omega))
  obtain ⟨bp, rfl, _, _⟩ := hp
  have HB2 := Lib.hid (bt HB1.out hb2)
  have H2 := Lib.hid (H1.out.below hb2)
  rw [hol, ← HN.out] at HP ⊢
  have HOL := Lib.hid (show out.length = n by rw [hol, HN.out])
  have HS := Lib.hid hs
  have HSUM := Lib.hid (split_sum hs HSS.out)
  have HTT := Lib.hid hT
  clear hb2 hs hol HW hT
  obtain ⟨b1, o1, e, _, hc1⟩ := H2.out.get (by simp [natI]; exact HN.out) hn0
  cases e
  obtain ⟨b2, o2, e, _, hc2⟩ := HP.out.get (by simp [natI]; exact HOL.out.symm) hn0
  cases e
  have HC1 := Lib.hid hc1
  have HC2 := Lib.hid hc2
  clear hc1 hc2
  go_wp2_with fail
  go_loop [7, 8, 40] (fun sm al i => ∃ (k s t : Nat), k ≤ n ∧ i = .int .i64 (k : Int) ∧ sm = .int .i64 (s : Int) ∧ al = .int .i64 (t : Int) ∧ Hid (s = (out.take k).sum) ∧ Hid (t = (W.take k).sum)) (fun _ _ i => n - (intOf i).toNat)
  case atStart => exact ⟨0, 0, 0, Nat.zero_le _, rfl, rfl, rfl, Lib.hid (by simp), Lib.hid (by simp)⟩
  case round =>
    obtain ⟨k, s, t, hk, rfl, rfl, rfl, hs, ht⟩ := hrel
    by_cases hlt : k < n
    · have c1 := HC1.out k hlt
      have c2 := HC2.out k hlt
      rw [nat_get] at c1 c2
      rw [Nat.zero_add] at c2
      have l1 : (k : Int) < (n : Int) := by omega
      have hT := HTT.out
      have g1 := take_sum_step (W := out) (k := k) (by rw [HOL.out]; exact hlt)
      have g2 := take_sum_step (W := W) (k := k) (by rw [← HN.out]; exact hlt)
      have g3 := take_sum_le out (k + 1)
      rw [HSUM.out] at g3
      have g4 : (W.take (k + 1)).sum ≤ 4503599627370496 := sum_bd2 (fun x hx => HWB.out x (List.mem_of_mem_take hx)) (by rw [List.length_take]; omega)
      have hs' := hs.out
      have ht' := ht.out
      obtain ⟨s2, hs2⟩ : ∃ s2, s2 = s + out.getD k 0 := ⟨_, rfl⟩
      obtain ⟨t2, ht2⟩ : ∃ t2, t2 = t + W.getD k 0 := ⟨_, rfl⟩
      have E1 : IntKind.i64.wrap ((s : Int) + (out.getD k 0 : Nat)) = (s2 : Int) := i64_eq (by omega) (by omega)
      have E2 : IntKind.i64.wrap ((t : Int) + (W.getD k 0 : Nat)) = (t2 : Int) := i64_eq (by omega) (by omega)
      have HX := Lib.hid (show s2 = (out.take (k + 1)).sum ∧ t2 = (W.take (k + 1)).sum from ⟨by omega, by omega⟩)
      generalize out.getD k 0 = p at *
      generalize W.getD k 0 = x at *
      clear g1 g2 g3 g4 hs' ht' hs2 ht2 hT
      go_wp2
      go_round
      case rel => exact ⟨k + 1, s2, t2, by omega, by go_num, rfl, rfl, Lib.hid HX.out.1, Lib.hid HX.out.2⟩
      case measure => simp [intOf]; omega
    · obtain rfl : n = k := by omega
      have hs' : s = T := by have := hs.out; rw [List.take_of_length_le (by rw [HOL.out]; omega), HSUM.out] at this; exact this
      subst hs'
      have HTS := Lib.hid (show t = W.sum by have := ht.out; rwa [List.take_of_length_le (by rw [← HN.out]; omega)] at this)
      have HTB := Lib.hid (show t ≤ 4503599627370496 by rw [HTS.out]; exact sum_bd2 HWB.out (by rw [← HN.out]; omega))
      clear hs ht hk hlt
      go_wp2_with fail
      go_loop [61] (fun i => ∃ k : Nat, k ≤ n ∧ i = .int .i64 (k : Int)) (fun i => n - (intOf i).toNat)
      case atStart => exact ⟨0, Nat.zero_le _, rfl⟩
      case round =>
        obtain ⟨k, hk, rfl⟩ := hrel
        by_cases hlt : k < n
        · by_cases ht0 : t = 0
          · have hs0 : s = 0 := by
              rcases Nat.eq_zero_or_pos s with g | g
              · exact g
              · have := HSS.out g; have := HTS.out; omega
            subst ht0 hs0
            go_wp2
            go_ret
            exact ⟨rfl, HB2.out⟩
          · have d5 : ((t : Int) == 0) = false := by rw [beq_eq_false_iff_ne]; omega
            have c1 := HC1.out k hlt
            have c2 := HC2.out k hlt
            rw [nat_get] at c1 c2
            rw [Nat.zero_add] at c2
            have l1 : (k : Int) < (n : Int) := by omega
            have S0 : 0 < W.sum := by rw [← HTS.out]; omega
            have hnear := split_near HS.out S0 (i := k) (by rw [← HN.out]; exact hlt)
            rw [← HTS.out] at hnear
            have hxW : W.getD k 0 ≤ W.sum := getD_le_sum W k
            have hT := HTT.out
            have htb := HTB.out
            have hq : s * W.getD k 0 / t ≤ s := pt_le (by rw [HTS.out]; exact hxW) (by omega)
            have HTM := Lib.hid (fun w => times_any s (W.getD k 0) t (by omega) (by rw [← HTS.out] at hxW; omega) (by omega) (by omega) (by omega) w)
            obtain ⟨lw, hlw⟩ : ∃ x, x = s * W.getD k 0 / t := ⟨_, rfl⟩
            obtain ⟨rs, hrs⟩ : ∃ x, x = s * W.getD k 0 % t := ⟨_, rfl⟩
            rw [← hlw, ← hrs] at HTM hnear
            rw [← hlw] at hq
            generalize out.getD k 0 = p at *
            generalize W.getD k 0 = x at *
            have E1 : IntKind.i64.wrap ((lw : Int) + 1) = (lw : Int) + 1 := IntWalk.i64_in _ (by omega)
            rcases hnear with hp | ⟨hp, hr⟩
            · subst hp
              have f1 : ((p : Int) == (p : Int)) = true := by simp
              have f2 : ((p : Int) != (p : Int)) = false := by simp
              clear hlw hrs hq hT htb hxW S0 ht0
              go_wp2_with fail
              refine (HTM.out _).mono ?_
              rintro e w3 ⟨rfl, rfl⟩
              go_wp2
              go_round
              case rel => exact ⟨k + 1, by omega, by go_num⟩
              case measure => simp [intOf]; omega
            · subst hp
              have f1 : ((((lw + 1 : Nat) : Int)) == (lw : Int)) = false := by rw [beq_eq_false_iff_ne]; omega
              have f2 : ((((lw + 1 : Nat) : Int)) != (lw : Int)) = true := by rw [bne, f1]; rfl
              have f3 : ((((lw + 1 : Nat) : Int)) == (lw : Int) + 1) = true := by rw [beq_iff_eq]; omega
              have f4 : ((((lw + 1 : Nat) : Int)) != (lw : Int) + 1) = false := by rw [bne, f3]; rfl
              have f5 : ((rs : Int) == 0) = false := by rw [beq_eq_false_iff_ne]; omega
              clear hlw hrs hq hT htb hxW S0 ht0 hr
              generalize lw + 1 = p at *
              go_wp2_with fail
              refine (HTM.out _).mono ?_
              rintro e w3 ⟨rfl, rfl⟩
              go_wp2
              go_round
              case rel => exact ⟨k + 1, by omega, by go_num⟩
              case measure => simp [intOf]; omega
        · go_wp2
          go_ret
          exact ⟨rfl, HB2.out⟩

theorem walk (a0 : Int) (v1 : Value) (w : World) (w0 : (Lit.int .i64 a0).wf = true) (w1 : Is22 w v1) :
    Calls Try.prog 4 #[.int .i64 a0, v1] w fun e w' => e = .returned (.bool true) ∧ Below w.heap.size w w' := by
  obtain ⟨zs, h, _⟩ := w1
  obtain ⟨ao, cap, rfl, _⟩ := h.shape
  by_cases hl : zs.length ≤ 40
  · by_cases hwr : wrongN a0 zs = 0
    · obtain ⟨T, W, rfl, rfl, hT, h0, _, hw, hSS⟩ := wrong_ok hwr
      exact core T ao _ cap W w h (by simp [natI]) hl (by simpa [natI] using h0) hT hw hSS hwr
    · exact core2 a0 ao _ cap zs w h rfl hl hwr
  · exact core1 a0 ao _ cap w (by omega)
end shareSums
end Go.Proofs.Ytilfkpgdibhecaa
