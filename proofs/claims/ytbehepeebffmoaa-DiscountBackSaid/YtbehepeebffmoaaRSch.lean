/-
  The document's Schedule.
-/
import Derived.Test.YtbehepeebffmoaaSchP
import Derived.Test.YtbehepeebffmoaaLawF
import Derived.OwnWalk
namespace Go.Proofs.Ytbehepeebffmoaa
open Go Go.RowKit
set_option linter.unusedVariables false
set_option linter.unusedSimpArgs false

theorem bx_row {w1 w2 : World} {b : Nat} {w0 : World} {x1 x2 : Value} (h : Bx b w0 x1 x2 w1) (hb : Below w1.heap.size w1 w2) : Bx b w0 x1 x2 w2 := h.below hb
theorem ones_vals (n : Nat) : (natI (ones n)).map (Value.int .i64) = List.replicate n (.int .i64 1) := by
  unfold natI ones; simp
theorem okK0 {S N D T B : Int} {out : List Nat} (h : okK S N D T B out 0 = true) : okI S N D T B := by
  unfold okK rst at h
  simp only [List.take_zero, List.sum_nil, Int.natCast_zero, Int.sub_zero] at h
  obtain ⟨p, q, o, hi⟩ : ∃ p q o, intP S N D T B = (p, q, o) := ⟨_, _, _, rfl⟩
  rw [hi] at h
  have h : o = true := h
  subst h
  obtain ⟨P, Q, _, _, hf⟩ := fine_of hi
  exact hf.ok

set_option maxHeartbeats 2000000 in
theorem rsch_out (S N D T B n : Int) (w : World) (h : n < 1 ∨ 4096 < n) :
    Calls Try.prog 22 #[.int .i64 S, .agg #[.int .i64 N, .int .i64 D], .int .i64 n, .int .i64 T, .int .i64 B] w (SchPost S N D T B n w) := by
  have HV := Lib.hid (show ¬ schV S N D T B n from fun hv => by have h1 := hv.1; have h2 := hv.2.1; omega)
  have HBe := Lib.hid ((Below.refl w.heap.size w).alloc (Nat.le_refl _) (.cells #[.int .i64 N, .int .i64 D] 23))
  have K := Lib.hid (show decide (n < 1) = false → decide (4096 < n) = true by
    intro a1; rw [decide_eq_false_iff_not] at a1; rw [decide_eq_true_iff]; omega)
  clear h
  cases a1 : decide (n < 1) with
  | true =>
    go_enter Try.func22, Try.ntmps22
    go_wp2
    go_ret3
    exact ⟨HBe.out, .inl ⟨HV.out, rfl⟩⟩
  | false =>
    have a2 := K.out a1
    go_enter Try.func22, Try.ntmps22
    go_wp2
    go_ret3
    exact ⟨HBe.out, .inl ⟨HV.out, rfl⟩⟩

set_option maxHeartbeats 2000000 in
theorem rsch_bad (S N D T B : Int) (n : Nat) (w : World) (h1 : 1 ≤ n) (h2 : n ≤ 4096) (h : ¬ okI S N D T B) :
    Calls Try.prog 22 #[.int .i64 S, .agg #[.int .i64 N, .int .i64 D], .int .i64 (n : Int), .int .i64 T, .int .i64 B] w (SchPost S N D T B (n : Int) w) := by
  have HV := Lib.hid (show ¬ schV S N D T B (n : Int) from fun hv => h (okK0 (hv.2.2.2.2 0 (by omega))))
  have HRt := Lib.hid (fun w => right_any S N D T B w false (by symm; rw [decide_eq_false_iff_not]; exact h))
  have a1 : decide ((n : Int) < 1) = false := by rw [decide_eq_false_iff_not]; omega
  have a2 : decide ((4096 : Int) < (n : Int)) = false := by rw [decide_eq_false_iff_not]; omega
  clear h h1 h2
  go_enter Try.func22, Try.ntmps22
  go_wp2_with fail
  refine (HRt.out _).mono ?_
  rintro e w1 ⟨rfl, hb⟩
  have HB := Lib.hid (btd ((Below.refl _ _).alloc (Nat.le_refl _) _) hb)
  clear hb
  go_wp2
  go_ret3
  exact ⟨HB.out, .inl ⟨HV.out, rfl⟩⟩

set_option maxRecDepth 100000 in
set_option maxHeartbeats 8000000 in
theorem rsch_ok (S : Nat) (N D T B : Int) (n : Nat) (w : World) (h1 : 1 ≤ n) (h2 : n ≤ 4096) (h : okI S N D T B) :
    Calls Try.prog 22 #[.int .i64 (S : Int), .agg #[.int .i64 N, .int .i64 D], .int .i64 (n : Int), .int .i64 T, .int .i64 B] w (SchPost S N D T B (n : Int) w) := by
  have HRt := Lib.hid (fun w => right_any S N D T B w true (by symm; rw [decide_eq_true_iff]; exact h))
  obtain ⟨i0, hi, hz0, hz1, hz2⟩ := info_parts Try.infoI64
  have a1 : decide ((n : Int) < 1) = false := by rw [decide_eq_false_iff_not]; omega
  have a2 : decide ((4096 : Int) < (n : Int)) = false := by rw [decide_eq_false_iff_not]; omega
  have H12 := Lib.hid (And.intro h1 (And.intro h2 h))
  clear h h1 h2
  go_enter Try.func22, Try.ntmps22
  go_wp2_with fail
  refine (HRt.out _).mono ?_
  rintro e w1 ⟨rfl, hb⟩
  have HS := Lib.hid (bx_new hb)
  obtain ⟨b, hb0⟩ : ∃ b, b = w.heap.size := ⟨_, rfl⟩
  rw [← hb0] at HS ⊢
  have HX := Lib.hid hb0
  clear hb hb0
  go_wp2_with fail
  have HO0 := Lib.hid (show (w1.alloc (.cells #[] 2)).ownsRow w1.heap.size 2 1 (.slice (some ⟨w1.heap.size, 0, none⟩) 0 0) 0 [] from own_lit w1 _ 0 #[] (by unfold maxLen; omega) rfl)
  have HB0 := Lib.hid ((Below.refl w1.heap.size w1).alloc (Nat.le_refl _) (.cells #[] 2))
  go_loopw [13, 14] (fun s i wr => ∃ (k : Nat) (v : Value), k ≤ n ∧ i = .int .i64 (k : Int) ∧ s = v ∧ Hid (wr.ownsRow w1.heap.size 2 1 v k (List.replicate k (.int .i64 1))) ∧ Hid (Below w1.heap.size w1 wr)) (fun _ i _ => n - (intOf i).toNat)
  case atStart => exact ⟨0, _, Nat.zero_le _, rfl, rfl, HO0, HB0⟩
  case round =>
    clear HO0 HB0
    obtain ⟨k, v, hk, rfl, rfl, ho, hbl⟩ := hrel
    have hn4 := H12.out.2.1
    by_cases hlt : k < n
    · have l1 : decide ((k : Int) < (n : Int)) = true := by rw [decide_eq_true_iff]; omega
      have l2 : (k : Int) < (n : Int) := by omega
      go_wp2_with (at_builtin; refine wp_app rfl (.tmp 40) (.tmp 41) 38 rfl w1.heap.size 2 i0 (.int .i64 0) 1 8 Try.underlying38 hi hz0 hz1 hz2 rfl (by decide) _ _ _ rfl ho.out hbl.out (Nat.le_refl _) hbl.out.size #[.int .i64 1] _ (by first | rfl | (simp; done)) rfl rfl (one_int _ _) (by unfold maxLen; omega) (by omega) ?_; intro v1 w2 hown hb1 _; have HO1 := Lib.hid hown; have HB1 := Lib.hid hb1; clear hown hb1)
      go_roundw
      case rel => exact ⟨k + 1, v1, by omega, by go_num, rfl, Lib.hid (by rw [List.replicate_succ']; exact HO1.out), HB1⟩
      case measure => simp [intOf]; omega
    · obtain rfl : k = n := by omega
      clear hlt hk
      obtain ⟨ao, cap, rfl⟩ := own_shape ho.out
      have HInt := Lib.hid (show Ints wr (.slice ao k cap) (natI (ones k)) by
        have hrow := Row.of_own ho.out
        have hl : (natI (ones k)).length = k := by simp [natI, ones_len]
        unfold Ints
        rw [hl, ones_vals]
        exact hrow)
      have hwr : wrongN (S : Int) (natI (ones k)) = 0 := (ones_wrong H12.out.1 hn4).2 ⟨by omega, H12.out.2.2.2.1⟩
      have HC := Lib.hid (refsplit_any S ao k cap (ones k) wr HInt.out (by rw [ones_len]) hwr)
      clear hwr
      go_wp2_with fail
      refine HC.out.mono ?_
      intro e w2 hpost
      unfold RefPost at hpost
      obtain ⟨u, out, rfl, hs, hp, hb⟩ := hpost
      obtain rfl : out = evenL S k := hs.unique (even_is S k)
      have hol := even_len S k
      obtain ⟨out, ho2⟩ : ∃ o, o = evenL S k := ⟨_, rfl⟩
      rw [← ho2] at hp hol hs
      obtain ⟨bq, rfl, hq1, hq2⟩ := hp
      rw [hol]
      have HS2 := Lib.hid ((HS.out.below hbl.out).below hb)
      have HBB := Lib.hid (btd hbl.out hb)
      have HO := Lib.hid ho2
      have HOL := Lib.hid hol
      have HQ := Lib.hid hq1
      obtain ⟨L, hL⟩ : ∃ L, L = nears (S : Int) N D T B out := ⟨_, rfl⟩
      have HL := Lib.hid hL
      have HLl := Lib.hid (show L.length = k by rw [hL, nears_len, HOL.out])
      clear hs hol ho2 hq1 hq2 hb hL ho hbl HInt HC
      go_wp2_with fail
      have HO0 := Lib.hid (show (w2.alloc (.cells #[] 2)).ownsRow w2.heap.size 2 1 (.slice (some ⟨w2.heap.size, 0, none⟩) 0 0) 0 ((natI (L.take 0)).map (Value.int .i64)) from own_lit w2 _ 0 #[] (by unfold maxLen; omega) rfl)
      have HB0 := Lib.hid ((Below.refl w2.heap.size w2).alloc (Nat.le_refl _) (.cells #[] 2))
      have HR0 := Lib.hid (show rst (S : Int) out 0 = (S : Int) by simp [rst])
      obtain ⟨n, rfl⟩ : ∃ n, n = k := ⟨k, rfl⟩
      go_loopw [0, 16, 17] (fun r s i wr => ∃ (k : Nat) (v : Value), k ≤ n ∧ r = .int .i64 (rst (S : Int) out k) ∧ i = .int .i64 (k : Int) ∧ s = v ∧ Hid (wr.ownsRow w2.heap.size 2 1 v k ((natI (L.take k)).map (Value.int .i64))) ∧ Hid (Below w2.heap.size w2 wr) ∧ Hid (∀ j, j < k → okK (S : Int) N D T B out j = true)) (fun _ _ i _ => n - (intOf i).toNat)
      case atStart => exact ⟨0, _, Nat.zero_le _, by rw [HR0.out], rfl, rfl, HO0, HB0, Lib.hid (fun j hj => by omega)⟩
      case round =>
        clear HO0 HB0 HR0
        obtain ⟨k, v, hk, rfl, rfl, rfl, ho, hbl, hok⟩ := hrel
        by_cases hlt : k < n
        · have hko : k < out.length := by rw [HOL.out]; exact hlt
          obtain ⟨x, hx⟩ : ∃ x, out[k]? = some x := ⟨_, List.getElem?_eq_getElem hko⟩
          have hc1 : w2.cell? ⟨bq, k, none⟩ = some (.int .i64 (x : Int)) := by
            have := HQ.out
            simp only [World.cell?, this, nums, List.getElem?_toArray, List.getElem?_map, hx]; rfl
          have hsum : out.sum = S := by rw [HO.out]; exact even_sum S n H12.out.1
          have hbd := rst_bd hsum hx
          obtain ⟨p, q, o, hi2⟩ : ∃ p q o, intP (rst (S : Int) out k) N D T B = (p, q, o) := ⟨_, _, _, rfl⟩
          have l1 : (k : Int) < (n : Int) := by omega
          have l0 : (0 : Int) ≤ (k : Int) := by omega
          have HI := Lib.hid (fun w => rinterest_any (rst (S : Int) out k) N D T B w)
          rw [hi2] at HI
          unfold vR at HI
          dsimp only at HI
          have HC1 := Lib.hid hc1
          have HSw := Lib.hid (HS2.out.below hbl.out)
          obtain ⟨c1, c2, -, -⟩ := HSw.out
          cases o with
          | false =>
            have HV := Lib.hid (show ¬ schV (S : Int) N D T B (n : Int) from fun hv => by
              have h5 := hv.2.2.2.2 k (by simpa using hlt)
              simp only [Int.toNat_natCast] at h5
              rw [← HO.out] at h5
              unfold okK at h5
              rw [hi2] at h5
              cases h5)
            clear hi2 hbd hsum hx hko hc1
            go_wp2_with fail
            refine (HI.out _).mono ?_
            rintro e w4 ⟨rfl, hb⟩
            have HB4 := Lib.hid ((HSw.out.below hb).alloc (.cells #[.int .i64 p, .int .i64 q] 23))
            clear hb c1 c2
            go_wp2
            go_ret3
            exact ⟨HB4.out.2.2.2, .inl ⟨HV.out, rfl⟩⟩
          | true =>
            obtain ⟨P, Q, rfl, rfl, hf⟩ := fine_of hi2
            obtain ⟨y, hy⟩ : ∃ y, y = nearN P Q := ⟨_, rfl⟩
            have HN := Lib.hid (fun w => rnear_any P Q hf.lt (by have := hf.le; omega) hf.pos w)
            rw [← hy] at HN
            have hokk : okK (S : Int) N D T B out k = true := by unfold okK; rw [hi2]
            have hyk : L[k]? = some y := by
              rw [HL.out, nears_get hko]
              unfold nearK
              rw [hi2, hy]
              simp
            have HNx := Lib.hid (rst_next (S := (S : Int)) hx)
            have HOk := Lib.hid (show ∀ j, j < k + 1 → okK (S : Int) N D T B out j = true from fun j hj => by
              by_cases e : j = k
              · subst e; exact hokk
              · exact hok.out j (by omega))
            have HTk := Lib.hid (show (natI (L.take (k + 1))).map (Value.int .i64) = (natI (L.take k)).map (Value.int .i64) ++ [.int .i64 (y : Int)] by
              obtain ⟨g1, g2⟩ := List.getElem?_eq_some_iff.1 hyk
              rw [List.take_succ_eq_append_getElem g1, g2]
              simp [natI])
            have hS40 := H12.out.2.2.2.1
            obtain ⟨R, hR⟩ : ∃ R, R = rst (S : Int) out k := ⟨_, rfl⟩
            rw [← hR] at hbd HI HNx ⊢
            have v1 : IntKind.i64.wrap (R - (x : Int)) = R - (x : Int) := IntWalk.i64_in _ (by omega)
            clear hi2 hbd hsum hx hko hc1 hy hokk hyk hf hR hS40
            go_wp2_with fail
            refine (HI.out _).mono ?_
            rintro e w4 ⟨rfl, hb⟩
            have HO4 := Lib.hid (own_touch ho.out (Touch.of_below (S := fun _ => False) hb) (fun _ _ h => h))
            have HB4 := Lib.hid (hbl.out.trans (hb.mono hbl.out.size))
            clear hb c1 c2
            go_wp2_with fail
            refine (HN.out _).mono ?_
            rintro e w5 ⟨rfl, hb⟩
            have HO5 := Lib.hid (own_touch (HO4.out.alloc (.cells #[.int .i64 (P : Int), .int .i64 (Q : Int)] 23)) (Touch.of_below (S := fun _ => False) hb) (fun _ _ h => h))
            have HB5 := Lib.hid ((HB4.out.alloc HB4.out.size (.cells #[.int .i64 (P : Int), .int .i64 (Q : Int)] 23)).trans (hb.mono (HB4.out.alloc HB4.out.size (.cells #[.int .i64 (P : Int), .int .i64 (Q : Int)] 23)).size))
            clear hb
            go_wp2_with (at_builtin; refine wp_app rfl (.tmp 62) (.tmp 65) 38 rfl w2.heap.size 2 i0 (.int .i64 0) 1 8 Try.underlying38 hi hz0 hz1 hz2 rfl (by decide) _ _ _ rfl HO5.out HB5.out (Nat.le_refl _) HB5.out.size #[.int .i64 (y : Int)] _ (by first | rfl | (simp; done)) rfl rfl (one_int _ _) (by unfold maxLen; omega) (by omega) ?_; intro v6 w6 hown hb6 _; have c3 := cell_later hb6 HC1.out; have HO6 := Lib.hid hown; have HB6 := Lib.hid hb6; clear hown hb6)
            go_roundw
            case rel => exact ⟨k + 1, v6, by omega, by rw [HNx.out], by go_num, rfl, Lib.hid (by rw [HTk.out]; exact HO6.out), HB6, HOk⟩
            case measure => simp [intOf]; omega
        · obtain rfl : k = n := by omega
          have HV := Lib.hid (show schV (S : Int) N D T B (k : Int) from ⟨by have := H12.out.1; omega, by omega, by omega, H12.out.2.2.2.1, fun j hj => by
            have := hok.out j (by simpa using hj)
            simp only [Int.toNat_natCast]
            rw [← HO.out]
            exact this⟩)
          have HU := Lib.hid (show Ints wr (.slice (some ⟨bq, 0, none⟩) k k) (natI (evenL (S : Int).toNat (k : Int).toNat)) by
            simp only [Int.toNat_natCast]
            rw [← HO.out]
            have hint : Ints w2 (.slice (some ⟨bq, 0, none⟩) k k) (natI out) := fr_ints (n := k) HOL.out.symm (by omega) HQ.out
            exact hint.below hbl.out)
          obtain ⟨ao2, cap2, rfl⟩ := own_shape ho.out
          have HW := Lib.hid (show Ints wr (.slice ao2 k cap2) (natI (nears (S : Int) N D T B (evenL (S : Int).toNat (k : Int).toNat))) by
            simp only [Int.toNat_natCast]
            rw [← HO.out, ← HL.out]
            have hrow := Row.of_own ho.out
            rw [List.take_of_length_le (by rw [HLl.out]; exact Nat.le_refl _)] at hrow
            have hl : (natI L).length = k := by simp [natI, HLl.out]
            unfold Ints
            rw [hl]
            exact hrow)
          go_wp2
          go_ret3
          exact ⟨(HS2.out.below hbl.out).2.2.2, .inr ⟨HV.out, _, _, rfl, HU.out, HW.out⟩⟩

theorem rsch_any (S N D T B n : Int) (w : World) (hn : n ≤ 60 ∨ 4096 < n) :
    Calls Try.prog 22 #[.int .i64 S, .agg #[.int .i64 N, .int .i64 D], .int .i64 n, .int .i64 T, .int .i64 B] w (SchPost S N D T B n w) := by
  by_cases h : n < 1 ∨ 4096 < n
  · exact rsch_out S N D T B n w h
  · obtain ⟨n, rfl⟩ := Int.eq_ofNat_of_zero_le (show 0 ≤ n by omega)
    by_cases ho : okI S N D T B
    · obtain ⟨S, rfl⟩ := Int.eq_ofNat_of_zero_le ho.1
      exact rsch_ok S N D T B n w (by omega) (by omega) ho
    · exact rsch_bad S N D T B n w (by omega) (by omega) ho
end Go.Proofs.Ytbehepeebffmoaa
