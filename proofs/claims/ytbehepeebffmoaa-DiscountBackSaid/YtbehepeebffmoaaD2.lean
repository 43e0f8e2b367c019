/-
  money.Reduce; discount.product; the document's Fits.
-/
import Derived.Test.YtbehepeebffmoaaD1
namespace Go.Proofs.Ytbehepeebffmoaa
open Go Go.RowKit
set_option linter.unusedVariables false
set_option linter.unusedSimpArgs false

/-- A pair that came in, and one that goes out, each in its block. -/
structure InOut (b : Nat) (w1 : World) (a1 a2 : Value) : Prop where
  c1 : w1.cell? ⟨b, 0, none⟩ = some a1
  c2 : w1.cell? ⟨b, 1, none⟩ = some a2
  c5 : w1.cell? ⟨b + 1, 0, none⟩ = some (.int .i64 0)
  c6 : w1.cell? ⟨b + 1, 1, none⟩ = some (.int .i64 0)
  c7 : w1.frozen? ⟨b + 1, 0, none⟩ = false
  c8 : w1.frozen? ⟨b + 1, 1, none⟩ = false
  lt : b + 1 < w1.heap.size
theorem InOut.below {b : Nat} {w1 w2 : World} {a1 a2 : Value} (h : InOut b w1 a1 a2) (hb : Below w1.heap.size w1 w2) : InOut b w2 a1 a2 := by
  obtain ⟨c1, c2, c5, c6, c7, c8, lt⟩ := h
  refine ⟨?_, ?_, ?_, ?_, ?_, ?_, Nat.lt_of_lt_of_le lt hb.size⟩
  · rw [hb.cell (by show b < _; omega)]; exact c1
  · rw [hb.cell (by show b < _; omega)]; exact c2
  · rw [hb.cell (by show b + 1 < _; omega)]; exact c5
  · rw [hb.cell (by show b + 1 < _; omega)]; exact c6
  · rw [hb.frozen (by show b + 1 < _; omega)]; exact c7
  · rw [hb.frozen (by show b + 1 < _; omega)]; exact c8
theorem inout (w : World) (t : TypeId) (a1 a2 : Value) : InOut w.heap.size ((w.alloc (.cells #[a1, a2] t)).alloc (.cells #[.int .i64 0, .int .i64 0] t)) a1 a2 := by
  have hC : (((w.alloc (.cells #[a1, a2] t)).alloc (.cells #[.int .i64 0, .int .i64 0] t))).heap[w.heap.size + 1]? = some (.cells #[.int .i64 0, .int .i64 0] t (0, 0)) := by
    have := heap_alloc_new (w.alloc (.cells #[a1, a2] t)) (.cells #[.int .i64 0, .int .i64 0] t)
    simpa using this
  have hA : (((w.alloc (.cells #[a1, a2] t)).alloc (.cells #[.int .i64 0, .int .i64 0] t))).heap[w.heap.size]? = some (.cells #[a1, a2] t (0, 0)) := by
    rw [((Below.refl (((w.alloc (.cells #[a1, a2] t)))).heap.size _).alloc (Nat.le_refl _) _).block _ (by simp)]
    exact heap_alloc_new _ _
  generalize ((w.alloc (.cells #[a1, a2] t)).alloc (.cells #[.int .i64 0, .int .i64 0] t)) = W at *
  refine ⟨?_, ?_, ?_, ?_, ?_, ?_, ?_⟩ <;> first | (simp [World.cell?, hA]; done) | (simp [World.cell?, hC]; done) | (simp [World.frozen?, hC]; done) | skip
  rcases Nat.lt_or_ge (w.heap.size + 1) W.heap.size with g | g
  · exact g
  · rw [Array.getElem?_eq_none g] at hC; cases hC
theorem below2 (w : World) (x y : Obj) : Below w.heap.size w ((w.alloc x).alloc y) := ((Below.refl _ _).alloc (Nat.le_refl _) _).alloc (by simp) _
def noR : Value := .tuple #[.agg #[.int .i64 0, .int .i64 0], .bool false]

theorem reduce_bad (N D : Int) (w : World) (h : ¬ (0 ≤ N ∧ 1 ≤ D)) :
    Calls Try.prog 26 #[.agg #[.int .i64 N, .int .i64 D]] w fun e w' => e = .returned noR ∧ Below w.heap.size w w' := by
  have HI := Lib.hid (fun w => misratio_any N D w _ rfl)
  rw [decide_eq_false h] at HI
  clear h
  go_enter Try.func26, Try.ntmps26
  go_wp2_with fail
  refine (HI.out _).mono ?_
  rintro e w1 ⟨rfl, hb⟩
  obtain ⟨c1, c2, c5, c6, c7, c8, lt⟩ := (inout w _ _ _).below hb
  have HB := Lib.hid (btd (below2 _ _ _) hb)
  clear hb lt
  obtain ⟨b, hb⟩ : ∃ b, b = w.heap.size := ⟨_, rfl⟩
  rw [← hb] at c1 c2 c5 c6 c7 c8 ⊢
  have HX := Lib.hid hb
  clear hb
  go_wp2
  refine bodyPost_ret (v := noR) (by simp [results, Try.results26, go_sem, noR, c5, c6, c7, c8]) rfl ⟨rfl, ?_⟩
  exact (HB.out.setCell (p := ⟨b + 1, 0, none⟩) (by rw [HX.out]; exact Nat.le_succ _) _).setCell (p := ⟨b + 1, 1, none⟩) (by rw [HX.out]; exact Nat.le_succ _) _

set_option maxHeartbeats 4000000 in
theorem reduce_ok (N D : Nat) (w : World) (hN : N < 9223372036854775808) (hD : D < 9223372036854775808) (hD0 : 1 ≤ D) :
    Calls Try.prog 26 #[.agg #[.int .i64 (N : Int), .int .i64 (D : Int)]] w fun e w' =>
      e = .returned (.tuple #[.agg #[.int .i64 ((N / Nat.gcd N D : Nat) : Int), .int .i64 ((D / Nat.gcd N D : Nat) : Int)], .bool true]) ∧ Below w.heap.size w w' := by
  have HI := Lib.hid (fun w => misratio_any N D w _ rfl)
  rw [decide_eq_true (show 0 ≤ (N : Int) ∧ 1 ≤ (D : Int) from ⟨by omega, by omega⟩)] at HI
  obtain ⟨G, hG⟩ : ∃ G, G = Nat.gcd N D := ⟨_, rfl⟩
  rw [← hG]
  have g0 : 0 < G := by rw [hG]; exact Nat.gcd_pos_of_pos_right _ hD0
  obtain ⟨n, hn⟩ : ∃ n, n = N / G := ⟨_, rfl⟩
  obtain ⟨d, hd⟩ : ∃ n, n = D / G := ⟨_, rfl⟩
  rw [← hn, ← hd]
  have t1 : (N : Int).tdiv (G : Int) = (n : Int) := by rw [hn]; exact (Int.ofNat_tdiv _ _).symm
  have t1b : (N : Int) / (G : Int) = (n : Int) := by rw [hn]; exact (Int.natCast_ediv _ _).symm
  have t2 : (D : Int).tdiv (G : Int) = (d : Int) := by rw [hd]; exact (Int.ofNat_tdiv _ _).symm
  have t2b : (D : Int) / (G : Int) = (d : Int) := by rw [hd]; exact (Int.natCast_ediv _ _).symm
  have n1 : n ≤ N := by rw [hn]; exact Nat.div_le_self _ _
  have d1 : d ≤ D := by rw [hd]; exact Nat.div_le_self _ _
  have v1 : IntKind.i64.wrap (n : Int) = (n : Int) := i64d rfl (by omega)
  have v2 : IntKind.i64.wrap (d : Int) = (d : Int) := i64d rfl (by omega)
  have HG := Lib.hid hG
  have HN := Lib.hid hN
  have HD := Lib.hid hD
  clear hN hD hD0 hG hn hd n1 d1
  go_enter Try.func26, Try.ntmps26
  go_wp2_with fail
  refine (HI.out _).mono ?_
  rintro e w1 ⟨rfl, hb⟩
  obtain ⟨c1, c2, c5, c6, c7, c8, lt⟩ := (inout w _ _ _).below hb
  have HB := Lib.hid (btd (below2 _ _ _) hb)
  clear hb lt
  obtain ⟨b, hb⟩ : ∃ b, b = w.heap.size := ⟨_, rfl⟩
  rw [← hb] at c1 c2 c5 c6 c7 c8 ⊢
  have HX := Lib.hid hb
  clear hb
  go_wp2_with fail
  go_quiet (fail)
  go_wp2
  go_loopw [4, 5] (fun i j wr => ∃ p q : Nat, i = .int .i64 (p : Int) ∧ j = .int .i64 (q : Int) ∧ Hid (p < 9223372036854775808) ∧ Hid (q < 9223372036854775808) ∧ Hid (Nat.gcd p q = G) ∧ Hid (∃ m, wr = w1.drewN m)) (fun _ j _ => (intOf j).toNat)
  case atStart => exact ⟨N, D, rfl, rfl, HN, HD, Lib.hid HG.out.symm, Lib.hid ⟨nq, rfl⟩⟩
  case round =>
    obtain ⟨p, q, rfl, rfl, hp, hq, hg, hw⟩ := hrel
    obtain ⟨mm, rfl⟩ := hw.out
    by_cases h0 : q = 0
    · subst h0
      obtain rfl : p = G := by have := hg.out; rwa [Nat.gcd_zero_right] at this
      go_wp2_with fail
      go_region
      go_wp2
      refine bodyPost_ret (v := .tuple #[.agg #[.int .i64 (n : Int), .int .i64 (d : Int)], .bool true]) (by simp [results, Try.results26, go_sem, c5, c6, c7, c8]) rfl ⟨rfl, ?_⟩
      exact ((below_drewN HB.out _).setCell (p := ⟨b + 1, 0, none⟩) (by rw [HX.out]; exact Nat.le_succ _) _).setCell (p := ⟨b + 1, 1, none⟩) (by rw [HX.out]; exact Nat.le_succ _) _
    · have d1 : ((q : Int) == 0) = false := by rw [beq_eq_false_iff_ne]; omega
      have d2 : ((q : Int) != 0) = true := by simp [bne, d1]
      obtain ⟨r, hr⟩ : ∃ r, r = p % q := ⟨_, rfl⟩
      have hrq : r < q := by rw [hr]; exact Nat.mod_lt _ (by omega)
      have e1 : (p : Int).tmod (q : Int) = (r : Int) := by rw [hr]; exact (Int.ofNat_tmod p q).symm
      have e1b : (p : Int) % (q : Int) = (r : Int) := by rw [hr]; exact (Int.natCast_emod p q).symm
      have e2 : IntKind.i64.wrap (r : Int) = (r : Int) := i64d rfl (by have := hq.out; omega)
      have HR := Lib.hid (show Nat.gcd q r = G by rw [hr, dgcd_step, hg.out])
      have HRQ := Lib.hid hrq
      clear hr hrq
      go_wp2_with fail
      go_quiet (fail)
      go_wp2
      go_roundw
      case rel => exact ⟨q, r, rfl, rfl, hq, Lib.hid (by have := HRQ.out; have := hq.out; omega), HR, Lib.hid ⟨mm + nq, by rw [World.drewN_drewN]⟩⟩
      case measure => have := HRQ.out; simp [intOf]; omega

def natL (W : List Nat) : List Int := W.map fun x : Nat => (x : Int)
def foldP : Nat → List Nat → Option Nat
  | a, [] => some a
  | a, x :: xs => if a * x < 9223372036854775808 then foldP (a * x) xs else none
def prodV (o : Option Nat) : Value := match o with
  | some p => .tuple #[.int .i64 (p : Int), .bool true]
  | none => .tuple #[.int .i64 0, .bool false]
theorem fold_step {a k : Nat} {xs : List Nat} (hk : k < xs.length) : foldP a (xs.drop k) = if a * xs[k] < 9223372036854775808 then foldP (a * xs[k]) (xs.drop (k + 1)) else none := by
  rw [List.drop_eq_getElem_cons hk, foldP]

set_option maxHeartbeats 4000000 in
theorem product_any (v : Value) (xs : List Nat) (w : World) (h : Ints w v (natL xs)) (hx : ∀ x ∈ xs, x < 9223372036854775808) (hl : xs.length ≤ 100) :
    Calls Try.prog 28 #[v] w fun e w' => e = .returned (prodV (foldP 1 xs)) ∧ w' = w := by
  obtain ⟨ao, cap, ev, k1, k2, _⟩ := h.shape
  obtain ⟨n, HN⟩ : ∃ n, Hid (n = xs.length) := ⟨_, rfl⟩
  have hnl : (natL xs).length = n := by rw [HN.out]; simp [natL]
  rw [hnl] at ev k1
  have hn100 : n ≤ 100 := by rw [HN.out]; exact hl
  unfold maxLen at k2
  have H1 := Lib.hid h
  have HX := Lib.hid hx
  subst ev
  obtain ⟨R, hR⟩ : ∃ R, R = foldP 1 xs := ⟨_, rfl⟩
  rw [← hR]
  have HR := Lib.hid hR
  clear h hx hl hR hnl
  go_enter Try.func28, Try.ntmps28
  go_wp2
  go_loop [4, 11] (fun a i => ∃ k p : Nat, k ≤ n ∧ i = .int .i64 (k : Int) ∧ a = .int .u64 (p : Int) ∧ Hid (R = foldP p (xs.drop k)) ∧ Hid (p < 9223372036854775808)) (fun _ i => n - (intOf i).toNat)
  case atStart => exact ⟨0, 1, Nat.zero_le _, rfl, rfl, Lib.hid HR.out, Lib.hid (by decide)⟩
  case round =>
    obtain ⟨k, p, hk, rfl, rfl, hf, hp⟩ := hrel
    by_cases hlt : k < n
    · obtain ⟨b1, o1, c1', e, _, _, _, hc1⟩ := H1.out.at (by have := HN.out; simp [natL]; omega)
      have hkx : k < xs.length := by rw [← HN.out]; exact hlt
      have c1 := hc1 k (by simp [natL]; exact hkx)
      rw [show (natL xs).length = n by rw [HN.out]; simp [natL]] at e
      cases e
      obtain ⟨x, hxe⟩ : ∃ x, x = xs[k] := ⟨_, rfl⟩
      have hxl : x < 9223372036854775808 := by rw [hxe]; exact HX.out _ (List.getElem_mem _)
      have hnx : (natL xs)[k]'(by simp [natL]; exact hkx) = (x : Int) := by rw [hxe]; simp [natL]
      rw [hnx] at c1
      have hs := fold_step (a := p) hkx
      rw [← hxe] at hs
      have l1 : (k : Int) < (n : Int) := by omega
      have e1 : IntKind.u64.wrap (x : Int) = (x : Int) := wrapN x (by omega)
      have HM := Lib.hid (fun w => mul_any p x (by have := hp.out; omega) (by omega) w)
      obtain ⟨hi, hhi⟩ : ∃ y, y = p * x / 18446744073709551616 := ⟨_, rfl⟩
      obtain ⟨lo, hlo⟩ : ∃ y, y = p * x % 18446744073709551616 := ⟨_, rfl⟩
      rw [← hhi, ← hlo] at HM
      have hall : hi * 18446744073709551616 + lo = p * x := by rw [hhi, hlo]; exact Nat.div_add_mod' _ _
      rw [← hall] at hs
      have HS := Lib.hid hs
      have HF := Lib.hid (hf.out)
      have HK := Lib.hid (show lo < 18446744073709551616 by rw [hlo]; exact Nat.mod_lt _ (by decide))
      clear hc1 hkx hxe hxl hnx hs hhi hlo hall
      go_wp2_with fail
      refine (HM.out _).mono ?_
      rintro e w2 ⟨rfl, rfl⟩
      by_cases h0 : hi = 0
      · subst h0
        by_cases h1 : 9223372036854775807 < lo
        · have f1 : decide ((9223372036854775807 : Int) < (lo : Int)) = true := by rw [decide_eq_true_iff]; omega
          have HE := Lib.hid (show R = none by rw [HF.out, HS.out, if_neg (by omega)])
          clear h1
          go_wp2
          go_ret2
          exact ⟨by rw [HE.out]; rfl, rfl⟩
        · have f1 : decide ((9223372036854775807 : Int) < (lo : Int)) = false := by rw [decide_eq_false_iff_not]; omega
          have HE := Lib.hid (show R = foldP lo (xs.drop (k + 1)) by rw [HF.out, HS.out, if_pos (by omega)]; congr 1; omega)
          have HL := Lib.hid (show lo < 9223372036854775808 by omega)
          clear h1
          go_wp2
          go_round
          case rel => exact ⟨k + 1, lo, by omega, by go_num, rfl, HE, HL⟩
          case measure => simp [intOf]; omega
      · have f1 : ((hi : Int) == 0) = false := by rw [beq_eq_false_iff_ne]; omega
        have f2 : ((hi : Int) != 0) = true := by simp [bne, f1]
        have HE := Lib.hid (show R = none by rw [HF.out, HS.out, if_neg (by omega)])
        clear h0
        go_wp2
        go_ret2
        exact ⟨by rw [HE.out]; rfl, rfl⟩
    · obtain rfl : k = n := by omega
      have HE := Lib.hid (show R = some p by rw [hf.out, List.drop_of_length_le (by rw [← HN.out]; exact Nat.le_refl _)]; rfl)
      have e1 : IntKind.i64.wrap (p : Int) = (p : Int) := i64d rfl (by have := hp.out; omega)
      go_wp2
      go_ret2
      exact ⟨by rw [HE.out]; rfl, rfl⟩
end Go.Proofs.Ytbehepeebffmoaa
