/-
  DiscountBack.
-/
import Derived.Test.YtbehepeebffmoaaLawC
import Derived.Test.YtbehepeebffmoaaLawL
namespace Go.Proofs.Ytbehepeebffmoaa
open Go Go.RowKit
set_option linter.unusedVariables false
set_option linter.unusedSimpArgs false

theorem near_form {P Q : Nat} (hQ : 1 ≤ Q) : nearN P Q = (2 * P + Q) / (2 * Q) := by
  have h1 := Nat.div_add_mod P Q
  have h2 := Nat.mod_lt P (show Q > 0 from hQ)
  unfold nearN
  generalize P / Q = m at *
  generalize P % Q = r at *
  subst h1
  have e : 2 * (Q * m + r) + Q = (2 * r + Q) + 2 * Q * m := by rw [Nat.mul_add, ← Nat.mul_assoc]; omega
  rw [e, Nat.add_mul_div_left _ _ (by omega), Nat.add_comm]
  congr 1
  by_cases hc : Q - r ≤ r
  · rw [if_pos hc, Nat.div_eq_of_lt_le (k := 1)] <;> omega
  · rw [if_neg hc, Nat.div_eq_of_lt (by omega)]
theorem near_mono {P1 Q1 P2 Q2 : Nat} (h1 : 1 ≤ Q1) (h2 : 1 ≤ Q2) (h : P2 * Q1 ≤ P1 * Q2) : nearN P2 Q2 ≤ nearN P1 Q1 := by
  rw [near_form h1, near_form h2, Nat.le_div_iff_mul_le (by omega)]
  have h3 : (2 * P2 + Q2) / (2 * Q2) * (2 * Q2) ≤ 2 * P2 + Q2 := Nat.div_mul_le_self _ _
  have h4 : (2 * P2 + Q2) / (2 * Q2) * (2 * Q1) * (2 * Q2) ≤ (2 * P1 + Q1) * (2 * Q2) := by
    rw [Nat.mul_right_comm]
    refine Nat.le_trans (Nat.mul_le_mul_right _ h3) ?_
    rw [Nat.add_mul, Nat.add_mul]
    have e1 : 2 * P2 * (2 * Q1) = 4 * (P2 * Q1) := by rw [Nat.mul_mul_mul_comm]
    have e2 : 2 * P1 * (2 * Q2) = 4 * (P1 * Q2) := by rw [Nat.mul_mul_mul_comm]
    have e3 : Q2 * (2 * Q1) = Q1 * (2 * Q2) := by rw [Nat.mul_left_comm, Nat.mul_left_comm Q1, Nat.mul_comm Q2]
    rw [e1, e2, e3]
    omega
  exact Nat.le_of_mul_le_mul_right h4 (by omega)

theorem even_get {T n i : Nat} (hi : i < n) : (evenL T n).getD i 0 = T / n + if i < T % n then 1 else 0 := even_split (even_is T n) i hi
theorem even_down {T n i : Nat} (hi : i + 1 < n) : (evenL T n).getD (i + 1) 0 ≤ (evenL T n).getD i 0 := by
  rw [even_get hi, even_get (by omega)]; split <;> split <;> omega
theorem even_near {T n i : Nat} (hi : i < n) : (evenL T n).getD 0 0 ≤ (evenL T n).getD i 0 + 1 := by
  rw [even_get hi, even_get (by omega)]; split <;> split <;> omega
theorem near_down' {S N D T B : Int} {out : List Nat} {k : Nat} (h1 : okK S N D T B out k = true) (h2 : okK S N D T B out (k + 1) = true) : nearK S N D T B out (k + 1) ≤ nearK S N D T B out k := by
  unfold okK at h1 h2
  unfold nearK
  obtain ⟨p1, q1, o1, i1⟩ : ∃ p q o, intP (rst S out k) N D T B = (p, q, o) := ⟨_, _, _, rfl⟩
  obtain ⟨p2, q2, o2, i2⟩ : ∃ p q o, intP (rst S out (k + 1)) N D T B = (p, q, o) := ⟨_, _, _, rfl⟩
  rw [i1] at h1 ⊢
  rw [i2] at h2 ⊢
  have h1 : o1 = true := h1
  have h2 : o2 = true := h2
  subst h1 h2
  obtain ⟨P1, Q1, rfl, rfl, f1⟩ := fine_of i1
  obtain ⟨P2, Q2, rfl, rfl, f2⟩ := fine_of i2
  simp only [Int.toNat_natCast]
  refine near_mono f1.pos f2.pos ?_
  obtain ⟨a1, a2, a3, a4, a5, a6, a7, a8, a9⟩ := f1.ok
  refine longer_cross (c := D.toNat * B.toNat) (Nat.mul_pos (by omega) (by omega)) f2.cross f1.cross ?_
  refine Nat.mul_le_mul_right _ (Nat.mul_le_mul_right _ ?_)
  have h : rst S out (k + 1) ≤ rst S out k := by
    unfold rst
    have h3 : (out.take k).sum ≤ (out.take (k + 1)).sum := by
      have := take_le (out.take (k + 1)) k
      rwa [List.take_take, Nat.min_eq_left (Nat.le_succ k)] at this
    omega
  omega
theorem getD_sum {out : List Nat} {k : Nat} (h : k < out.length) : (out.take (k + 1)).sum = (out.take k).sum + out.getD k 0 := by
  refine take_sum_next ?_
  rw [List.getD_eq_getElem?_getD, List.getElem?_eq_getElem h]; rfl
theorem nears_getD {S N D T B : Int} {out : List Nat} {k : Nat} (h : k < out.length) : (nears S N D T B out).getD k 0 = nearK S N D T B out k := by
  rw [List.getD_eq_getElem?_getD, nears_get h]; rfl
theorem nearK_lt {S N D T B : Int} {out : List Nat} {k : Nat} (h1 : okK S N D T B out k = true) : nearK S N D T B out k ≤ 9223372036854775807 := by
  unfold okK at h1
  unfold nearK
  obtain ⟨p1, q1, o1, i1⟩ : ∃ p q o, intP (rst S out k) N D T B = (p, q, o) := ⟨_, _, _, rfl⟩
  rw [i1] at h1 ⊢
  have h1 : o1 = true := h1
  subst h1
  obtain ⟨P1, Q1, rfl, rfl, f1⟩ := fine_of i1
  simp only [Int.toNat_natCast]
  rw [near_form f1.pos]
  have h2 := f1.pos
  have h3 := f1.lt
  have h4 : (2 * P1 + Q1) / (2 * Q1) < P1 + 1 := by
    rw [Nat.div_lt_iff_lt_mul (by omega), Nat.add_mul, Nat.one_mul]
    have : 2 * P1 ≤ P1 * (2 * Q1) := by rw [Nat.mul_comm 2 P1]; exact Nat.mul_le_mul_left _ (by omega)
    omega
  omega

/-- What the last statement reads. -/
def QB (bv ov r : Nat) (w0 : World) (y p q : Int) (W : World) : Prop := W.cell? ⟨bv, ov, none⟩ = some (.int .i64 y) ∧ W.cell? ⟨r, 0, none⟩ = some (.int .i64 p) ∧ W.cell? ⟨r, 1, none⟩ = some (.int .i64 q) ∧ Below w0.heap.size w0 W
theorem QB.drew {bv ov r : Nat} {w0 w : World} {y p q : Int} (h : QB bv ov r w0 y p q w) : QB bv ov r w0 y p q w.drew := by
  obtain ⟨c1, c2, c3, h0⟩ := h
  exact ⟨c1, c2, c3, h0.drew⟩

namespace discountBack
set_option maxHeartbeats 2000000 in
theorem skip (S N D T B n : Int) (w : World) (h1 : 60 < n) (h2 : n ≤ 4096) :
    Calls Try.prog 9 #[.int .i64 S, .agg #[.int .i64 N, .int .i64 D], .int .i64 n, .int .i64 T, .int .i64 B] w fun e w' => e = .returned (.bool true) ∧ Below w.heap.size w w' := by
  have d1 : decide (60 < n) = true := by rw [decide_eq_true_iff]; exact h1
  have d2 : decide (n ≤ 4096) = true := by rw [decide_eq_true_iff]; exact h2
  clear h1 h2
  go_enter Try.func9, Try.ntmps9
  go_wp2_with fail
  refine (awake39_any _).mono ?_
  rintro e w1 ⟨rfl, hb⟩
  have HS := Lib.hid (bx_new hb)
  clear hb
  go_wp2
  go_ret
  exact ⟨rfl, HS.out.2.2.2⟩

set_option maxHeartbeats 4000000 in
theorem no (S N D T B n : Int) (w : World) (hn : n ≤ 60 ∨ 4096 < n) (hV : ¬ schV S N D T B n) :
    Calls Try.prog 9 #[.int .i64 S, .agg #[.int .i64 N, .int .i64 D], .int .i64 n, .int .i64 T, .int .i64 B] w fun e w' => e = .returned (.bool true) ∧ Below w.heap.size w w' := by
  have HP := Lib.hid (fun w => (sch_any S N D T B n w hn).mono (fun e w' h => show e = .returned (.tuple #[.slice none 0 0, .slice none 0 0, .bool false]) ∧ Below w.heap.size w w' from by
    obtain ⟨hb, ⟨_, he⟩ | ⟨hv, _⟩⟩ := h
    · exact ⟨he, hb⟩
    · exact absurd hv hV))
  have hd : decide (60 < n) = false ∨ (decide (60 < n) = true ∧ decide (n ≤ 4096) = false) := by
    by_cases h : 60 < n
    · right; rw [decide_eq_true_iff, decide_eq_false_iff_not]; omega
    · left; rw [decide_eq_false_iff_not]; exact h
  clear hn hV
  rcases hd with a1 | ⟨a1, a2⟩
  all_goals
    go_enter Try.func9, Try.ntmps9
    go_wp2_with fail
    refine (awake39_any _).mono ?_
    rintro e w1 ⟨rfl, hb⟩
    have HS := Lib.hid (bx_new hb)
    obtain ⟨b, hb0⟩ : ∃ b, b = w.heap.size := ⟨_, rfl⟩
    rw [← hb0] at HS ⊢
    clear hb hb0
    obtain ⟨c1, c2, -, -⟩ := HS.out
    go_wp2_with fail
    refine (HP.out _).mono ?_
    rintro e w2 ⟨rfl, hb⟩
    have HS2 := Lib.hid (HS.out.below hb)
    clear hb c1 c2
    go_wp2
    go_ret
    exact ⟨rfl, HS2.out.2.2.2⟩

set_option maxRecDepth 100000 in
set_option maxHeartbeats 8000000 in
theorem yes (S : Nat) (N D T B : Int) (n : Nat) (w : World) (h60 : n ≤ 60) (hV : schV (S : Int) N D T B (n : Int)) :
    Calls Try.prog 9 #[.int .i64 (S : Int), .agg #[.int .i64 N, .int .i64 D], .int .i64 (n : Int), .int .i64 T, .int .i64 B] w fun e w' => e = .returned (.bool true) ∧ Below w.heap.size w w' := by
  obtain ⟨out, ho⟩ : ∃ o, o = evenL S n := ⟨_, rfl⟩
  obtain ⟨L, hL⟩ : ∃ o, o = nears (S : Int) N D T B out := ⟨_, rfl⟩
  have HP := Lib.hid (fun w => (sch_any (S : Int) N D T B (n : Int) w (by omega)).mono (fun e w' h => show ∃ u v, e = .returned (.tuple #[u, v, .bool true]) ∧ Ints w' u (natI out) ∧ Ints w' v (natI L) ∧ Below w.heap.size w w' from by
    obtain ⟨hb, ⟨hn, _⟩ | ⟨_, u, v, he, h1, h2⟩⟩ := h
    · exact absurd hV hn
    · simp only [Int.toNat_natCast] at h1 h2
      rw [← ho] at h1 h2
      rw [← hL] at h2
      exact ⟨u, v, he, h1, h2, hb⟩))
  obtain ⟨v1, v2, v3, v4, v5⟩ := hV
  simp only [Int.toNat_natCast] at v5
  rw [← ho] at v5
  have hol : out.length = n := by rw [ho, even_len]
  have hLl : L.length = n := by rw [hL, nears_len, hol]
  have hsum : out.sum = S := by rw [ho]; exact even_sum S n (by omega)
  have HOut := Lib.hid (show (∀ k, k + 1 < n → out.getD (k + 1) 0 ≤ out.getD k 0 ∧ L.getD (k + 1) 0 ≤ L.getD k 0) ∧ (∀ k, k < n → out.getD 0 0 ≤ out.getD k 0 + 1 ∧ (out.take (k + 1)).sum = (out.take k).sum + out.getD k 0 ∧ out.getD k 0 ≤ S ∧ L.getD k 0 ≤ 9223372036854775807) by
    refine ⟨fun k hk => ⟨?_, ?_⟩, fun k hk => ⟨?_, getD_sum (by omega), ?_, ?_⟩⟩
    · rw [ho]; exact even_down hk
    · rw [hL, nears_getD (by omega), nears_getD (by omega)]; exact near_down' (v5 k (by omega)) (v5 (k + 1) hk)
    · rw [ho]; exact even_near hk
    · have h1 := getD_sum (out := out) (k := k) (by omega)
      have h2 := take_le out (k + 1)
      omega
    · rw [hL, nears_getD (by omega)]; exact nearK_lt (v5 k hk))
  have HTake := Lib.hid (show ∀ k, (out.take k).sum ≤ S from fun k => by rw [← hsum]; exact take_le out k)
  have HAll := Lib.hid (show (out.take n).sum = S by rw [List.take_of_length_le (by omega), hsum])
  obtain ⟨p, q, o, hi⟩ : ∃ p q o, intP (S : Int) N D T B = (p, q, o) := ⟨_, _, _, rfl⟩
  have hk0 := v5 0 (by omega)
  have hr0 : rst (S : Int) out 0 = (S : Int) := by simp [rst]
  have hL0 : L.getD 0 0 = nearN p.toNat q.toNat := by
    rw [hL, nears_getD (by omega)]
    unfold nearK
    rw [hr0, hi]
  unfold okK at hk0
  rw [hr0, hi] at hk0
  have hk0 : o = true := hk0
  subst hk0
  obtain ⟨P, Q, rfl, rfl, hf⟩ := fine_of hi
  have HI := Lib.hid (fun w => interest_any (S : Int) N D T B w)
  rw [hi] at HI
  unfold vR at HI
  dsimp only at HI
  have HN := Lib.hid (fun w => rnear_any P Q hf.lt (by have := hf.le; omega) hf.pos w)
  simp only [Int.toNat_natCast] at hL0
  rw [← hL0] at HN
  have HLen := Lib.hid (And.intro hol hLl)
  have HN60 := Lib.hid (show 1 ≤ n by omega)
  have HS40 := Lib.hid v4
  have a1 : decide (60 < (n : Int)) = false := by rw [decide_eq_false_iff_not]; omega
  clear ho hL v1 v2 v3 v4 v5 hol hLl hsum hi hr0 hL0 hf
  go_enter Try.func9, Try.ntmps9
  go_wp2_with fail
  refine (awake39_any _).mono ?_
  rintro e w1 ⟨rfl, hb⟩
  have HS := Lib.hid (bx_new hb)
  obtain ⟨b, hb0⟩ : ∃ b, b = w.heap.size := ⟨_, rfl⟩
  rw [← hb0] at HS ⊢
  clear hb hb0
  obtain ⟨c1, c2, -, -⟩ := HS.out
  go_wp2_with fail
  refine (HP.out _).mono ?_
  rintro e w2 ⟨u, v, rfl, h1, h2, hb⟩
  have HS2 := Lib.hid (HS.out.below hb)
  obtain ⟨ao, cap, eu, -⟩ := h1.shape
  obtain ⟨ao2, cap2, ev, -⟩ := h2.shape
  rw [show (natI out).length = n by simp [natI, HLen.out.1]] at eu
  rw [show (natI L).length = n by simp [natI, HLen.out.2]] at ev
  subst eu ev
  obtain ⟨bu, ou, rfl, -, hcu⟩ := h1.get (by simp [natI, HLen.out.1]) HN60.out
  obtain ⟨bv, ov, rfl, -, hcv⟩ := h2.get (by simp [natI, HLen.out.2]) HN60.out
  have HCu := Lib.hid (show ∀ k, k < n → w2.cell? ⟨bu, ou + k, none⟩ = some (.int .i64 ((out.getD k 0 : Nat) : Int)) from fun k hk => by rw [hcu k hk, nat_get])
  have HCv := Lib.hid (show ∀ k, k < n → w2.cell? ⟨bv, ov + k, none⟩ = some (.int .i64 ((L.getD k 0 : Nat) : Int)) from fun k hk => by rw [hcv k hk, nat_get])
  clear hb c1 c2 h1 h2 hcu hcv
  go_wp2_with fail
  go_loopw [14, 15] (fun s i wr => ∃ k : Nat, k ≤ n ∧ s = .int .i64 (((out.take k).sum : Nat) : Int) ∧ i = .int .i64 (k : Int) ∧ Hid (∃ m, wr = w2.drewN m)) (fun _ i _ => n - (intOf i).toNat)
  case atStart => exact ⟨0, Nat.zero_le _, by simp, rfl, Lib.hid ⟨0, rfl⟩⟩
  case round =>
    obtain ⟨k, hk, rfl, rfl, hw⟩ := hrel
    obtain ⟨mm, rfl⟩ := hw.out
    by_cases hlt : k < n
    · have l1 : (k : Int) < (n : Int) := by omega
      have l0 : (0 : Int) ≤ (k : Int) := by omega
      have cu := HCu.out k hlt
      have cu0 := HCu.out 0 HN60.out
      rw [Nat.add_zero] at cu0
      obtain ⟨g1, g2, g3, g4⟩ := HOut.out.2 k hlt
      have g5 := HTake.out (k + 1)
      have g6 := (HOut.out.2 0 HN60.out).2.2.1
      have hS := HS40.out
      obtain ⟨x, hx⟩ : ∃ x, x = out.getD k 0 := ⟨_, rfl⟩
      obtain ⟨x0, hx0⟩ : ∃ x, x = out.getD 0 0 := ⟨_, rfl⟩
      obtain ⟨s, hs⟩ : ∃ x, x = (out.take k).sum := ⟨_, rfl⟩
      obtain ⟨s', hs'⟩ : ∃ x, x = (out.take (k + 1)).sum := ⟨_, rfl⟩
      rw [← hx] at cu g1 g2 g3
      rw [← hx0] at cu0 g1 g6
      rw [← hs] at g2 ⊢
      rw [← hs'] at g2 g5
      have w1' : IntKind.i64.wrap ((s : Int) + (x : Int)) = (s' : Int) := i64d (by omega) (by omega)
      have w2' : IntKind.i64.wrap ((x0 : Int) - (x : Int)) = (x0 : Int) - (x : Int) := IntWalk.i64_in _ (by omega)
      have t3 : decide (1 < (x0 : Int) - (x : Int)) = false := by rw [decide_eq_false_iff_not]; omega
      have HSk := Lib.hid hs'
      by_cases hk0 : k = 0
      · subst hk0
        obtain rfl : x = x0 := by rw [hx, hx0]
        rw [Nat.add_zero] at cu
        clear g1 g2 g3 g4 g5 g6 hS hx hx0 hs hs' cu0
        go_wp2_with fail
        go_quiet (fail)
        go_wp2
        go_roundw
        case rel => exact ⟨1, by omega, by rw [← HSk.out], rfl, Lib.hid ⟨mm + nq, by first | rfl | rw [World.drewN_drewN]⟩⟩
        case measure => simp [intOf]; omega
      · obtain ⟨j, rfl⟩ : ∃ j, k = j + 1 := ⟨k - 1, by omega⟩
        have cv := HCv.out (j + 1) hlt
        have cu1 := HCu.out j (by omega)
        have cv1 := HCv.out j (by omega)
        obtain ⟨f1, f2⟩ := HOut.out.1 j hlt
        obtain ⟨x1, hx1⟩ : ∃ x, x = out.getD j 0 := ⟨_, rfl⟩
        obtain ⟨y, hy⟩ : ∃ x, x = L.getD (j + 1) 0 := ⟨_, rfl⟩
        obtain ⟨y1, hy1⟩ : ∃ x, x = L.getD j 0 := ⟨_, rfl⟩
        rw [← hx1] at cu1 f1
        rw [← hx] at f1
        rw [← hy] at cv f2
        rw [← hy1] at cv1 f2
        have t1 : decide (y1 < y) = false := by rw [decide_eq_false_iff_not]; omega
        have t2 : decide (x1 < x) = false := by rw [decide_eq_false_iff_not]; omega
        have t1b : decide ((y1 : Int) < (y : Int)) = false := by rw [decide_eq_false_iff_not]; omega
        have t2b : decide ((x1 : Int) < (x : Int)) = false := by rw [decide_eq_false_iff_not]; omega
        obtain ⟨i, hi⟩ : ∃ i, i = j + 1 := ⟨_, rfl⟩
        have w3' : IntKind.i64.wrap ((i : Int) - 1) = (j : Int) := by rw [IntWalk.i64_in _ (by omega)]; omega
        have t0 : decide (0 < (i : Int)) = true := by rw [decide_eq_true_iff]; omega
        have t0b : decide (0 < i) = true := by rw [decide_eq_true_iff]; omega
        have l2 : (j : Int) < (n : Int) := by omega
        have l3 : (0 : Int) ≤ (j : Int) := by omega
        have HIJ := Lib.hid hi
        rw [← hi] at cu cv l1 l0 hlt hk ⊢
        rw [← hi] at HSk
        have hi60 : i ≤ 60 := by omega
        clear g1 g2 g3 g4 g5 g6 hS hx hx0 hs hs' f1 f2 hx1 hy hy1 hk0 hi
        go_wp2_with fail
        go_quiet (fail)
        go_wp2
        go_roundw
        case rel => exact ⟨i + 1, by omega, by rw [← HSk.out], by go_num, Lib.hid ⟨mm + nq, by first | rfl | rw [World.drewN_drewN]⟩⟩
        case measure => simp [intOf]; omega
    · obtain rfl : k = n := by omega
      rw [HAll.out]
      have HSm := Lib.hid (HS2.out.below (show Below w2.heap.size w2 (w2.drewN mm) from below_drewN (Below.refl _ _) mm))
      obtain ⟨c1, c2, -, -⟩ := HSm.out
      have cv0 := HCv.out 0 HN60.out
      rw [Nat.add_zero] at cv0
      have cvm : (w2.drewN mm).cell? ⟨bv, ov, none⟩ = some (.int .i64 ((L.getD 0 0 : Nat) : Int)) := cv0
      have HCm := Lib.hid cvm
      clear cv0 cvm
      go_wp2_with fail
      refine (HI.out _).mono ?_
      rintro e w4 ⟨rfl, hb⟩
      have HS4 := Lib.hid ((HSm.out.below hb).alloc (.cells #[.int .i64 (P : Int), .int .i64 (Q : Int)] 23))
      have cv4 := Lib.hid (cell_later ((Below.refl w4.heap.size w4).alloc (Nat.le_refl _) (.cells #[.int .i64 (P : Int), .int .i64 (Q : Int)] 23)) (cell_later hb HCm.out))
      obtain ⟨r1, r2, -⟩ := two_cells (w1 := w4) (t := 23) (u := .int .i64 (P : Int)) (v := .int .i64 (Q : Int)) (Below.refl _ _)
      have hS0 : (w4.alloc (.cells #[.int .i64 (P : Int), .int .i64 (Q : Int)] 23)).cell? ⟨bv, ov, none⟩ = some (.int .i64 ((L.getD 0 0 : Nat) : Int)) ∧ (w4.alloc (.cells #[.int .i64 (P : Int), .int .i64 (Q : Int)] 23)).cell? ⟨w4.heap.size, 0, none⟩ = some (.int .i64 (P : Int)) ∧ (w4.alloc (.cells #[.int .i64 (P : Int), .int .i64 (Q : Int)] 23)).cell? ⟨w4.heap.size, 1, none⟩ = some (.int .i64 (Q : Int)) ∧ Below w.heap.size w (w4.alloc (.cells #[.int .i64 (P : Int), .int .i64 (Q : Int)] 23)) := ⟨cv4.out, r1, r2, HS4.out.2.2.2⟩
      clear hb c1 c2 r1 r2
      go_upto_region 18 with fail
      generalize w4.alloc (.cells #[.int .i64 (P : Int), .int .i64 (Q : Int)] 23) = w5 at *
      generalize w4.heap.size = r at *
      obtain ⟨y, hy⟩ : ∃ y, y = L.getD 0 0 := ⟨_, rfl⟩
      rw [← hy] at hS0 HN
      have HNs := Lib.hid (fun (W : World) (h : QB bv ov r w (y : Int) (P : Int) (Q : Int) W) => show Calls Try.prog 24 #[.agg #[.int .i64 (P : Int), .int .i64 (Q : Int)]] W fun e w' => e = .returned (.int .i64 (y : Int)) ∧ QB bv ov r w (y : Int) (P : Int) (Q : Int) w' from
        (HN.out W).mono fun e w' hh => ⟨hh.1, cell_later hh.2 h.1, cell_later hh.2 h.2.1, cell_later hh.2 h.2.2.1, btd h.2.2.2 hh.2⟩)
      have hS0 : QB bv ov r w (y : Int) (P : Int) (Q : Int) w5 := hS0
      have n0 : (0 : Int) < (k : Int) := by have := HN60.out; omega
      have n0b : 0 < k := by have := HN60.out; omega
      clear hy
      go_region_held3 (fun W => W.cell? ⟨bv, ov, none⟩ = some (.int .i64 (y : Int)) ∧ W.cell? ⟨r, 0, none⟩ = some (.int .i64 (P : Int)) ∧ W.cell? ⟨r, 1, none⟩ = some (.int .i64 (Q : Int)) ∧ Below w.heap.size w W)
        (first | (show QB bv ov r w (y : Int) (P : Int) (Q : Int) _; with_reducible first | exact hS9 | exact QB.drew hS0) | (with_reducible assumption))
        (first | (go_at_call 24; refine (HNs.out _ ?_).mono ?_; (unfold QB; with_reducible first | assumption | exact ⟨by assumption, by assumption, by assumption, by assumption⟩); rintro e w9 ⟨rfl, hS9⟩))
      all_goals (go_wp2; go_ret; exact ⟨rfl, hS9.2.2.2⟩)

theorem walk (S : Int) (v : Value) (n T B : Int) (w : World) (_ : (Lit.int .i64 S).wf = true) (hv : Is23 w v) (_ : (Lit.int .i64 n).wf = true) (_ : (Lit.int .i64 T).wf = true) (_ : (Lit.int .i64 B).wf = true) :
    Calls Try.prog 9 #[.int .i64 S, v, .int .i64 n, .int .i64 T, .int .i64 B] w fun e w' => e = .returned (.bool true) ∧ Below w.heap.size w w' := by
  obtain ⟨N, D, rfl, _⟩ := hv
  by_cases h : 60 < n ∧ n ≤ 4096
  · exact skip S N D T B n w h.1 h.2
  · by_cases hV : schV S N D T B n
    · obtain ⟨n, rfl⟩ := Int.eq_ofNat_of_zero_le (show 0 ≤ n by have := hV.1; omega)
      obtain ⟨S, rfl⟩ := Int.eq_ofNat_of_zero_le hV.2.2.1
      have := hV.2.1
      exact yes S N D T B n w (by omega) hV
    · exact no S N D T B n w (by omega) hV
end discountBack
end Go.Proofs.Ytbehepeebffmoaa
