/-
  discount.Interest.
-/
import Derived.Test.YtbehepeebffmoaaIntP
namespace Go.Proofs.Ytbehepeebffmoaa
open Go Go.RowKit
set_option linter.unusedVariables false
set_option linter.unusedSimpArgs false

def numA (xs : List Nat) : Array Value := (xs.map fun x : Nat => Value.int .i64 (x : Int)).toArray
theorem numA_set (xs : List Nat) (i y : Nat) : (numA xs).setIfInBounds i (.int .i64 (y : Int)) = numA (xs.set i y) := by
  unfold numA; simp [List.map_set]
theorem heap_setA {w : World} {b i : Nat} {cs : Array Value} {e : TypeId} {u : Value} (h : w.heap[b]? = some (.cells cs e (0, 0))) : (w.setCell ⟨b, i, none⟩ u).heap[b]? = some (.cells (cs.setIfInBounds i u) e (0, 0)) := by
  simp only [World.setCell, Array.getElem?_modify, if_pos, h]
  rfl
/-- What stands above and below the line, each in its block. -/
structure Fr (pa pb : Nat) (w : World) (s : List Nat × List Nat) : Prop where
  a : w.heap[pa]? = some (.cells (numA s.1) 46 (0, 0))
  b : w.heap[pb]? = some (.cells (numA s.2) 47 (0, 0))
theorem Fr.drewN {pa pb : Nat} {w : World} {s : List Nat × List Nat} (h : Fr pa pb w s) (n : Nat) : Fr pa pb (w.drewN n) s := ⟨h.a, h.b⟩
theorem Fr.cells {pa pb : Nat} {w : World} {s : List Nat × List Nat} (h : Fr pa pb w s) {i j : Nat} (hi : i < s.1.length) (hj : j < s.2.length) :
    w.cell? ⟨pa, i, none⟩ = some (.int .i64 ((s.1.getD i 0 : Nat) : Int)) ∧ w.cell? ⟨pb, j, none⟩ = some (.int .i64 ((s.2.getD j 0 : Nat) : Int)) ∧ w.frozen? ⟨pa, i, none⟩ = false ∧ w.frozen? ⟨pb, j, none⟩ = false := by
  refine ⟨?_, ?_, ?_, ?_⟩
  · simp [World.cell?, h.a, numA, hi]
  · simp [World.cell?, h.b, numA, hj]
  · simp [World.frozen?, h.a]
  · simp [World.frozen?, h.b]
theorem Fr.set {pa pb : Nat} {w : World} {s : List Nat × List Nat} (h : Fr pa pb w s) (hne : pa ≠ pb) (i x j y : Nat) : Fr pa pb ((w.setCell ⟨pa, i, none⟩ (.int .i64 (x : Int))).setCell ⟨pb, j, none⟩ (.int .i64 (y : Int))) (s.1.set i x, s.2.set j y) := by
  constructor
  · rw [Below.heap_setCell _ _ _ _ hne, heap_setA h.a, numA_set]
  · have hb : (w.setCell ⟨pa, i, none⟩ (.int .i64 (x : Int))).heap[pb]? = some (.cells (numA s.2) 47 (0, 0)) := by rw [Below.heap_setCell _ _ _ _ (Ne.symm hne)]; exact h.b
    rw [heap_setA hb, numA_set]
theorem fr_ints {w : World} {b n : Nat} {xs : List Nat} {t : TypeId} (hn : n = xs.length) (hl : n ≤ 4096) (h : w.heap[b]? = some (.cells (numA xs) t (0, 0))) : Ints w (.slice (some ⟨b, 0, none⟩) n n) (natL xs) := by
  subst hn
  refine ⟨by simp [natL], some ⟨b, 0, none⟩, xs.length, by simp [natL], by simp [natL], by unfold maxLen; omega, (fun h => by cases h), fun a ha j u hu => ?_⟩
  cases ha
  rw [add_in]
  have : (numA xs)[j]? = some u := by unfold numA; simpa [natL, List.map_map, Function.comp_def] using hu
  simp [World.cell?, h, this]
theorem fr_new (w : World) (o : Obj) (t : TypeId) (S n T d B : Nat) : Fr (w.heap.size + 1) (w.heap.size + 1 + 1) (((w.alloc o).alloc (.cells #[.int .i64 (S : Int), .int .i64 (n : Int), .int .i64 (T : Int)] 46)).alloc (.cells #[.int .i64 (d : Int), .int .i64 (B : Int)] 47)) ([S, n, T], [d, B]) := by
  constructor
  · rw [((Below.refl (((w.alloc o).alloc (.cells #[.int .i64 (S : Int), .int .i64 (n : Int), .int .i64 (T : Int)] 46))).heap.size _).alloc (Nat.le_refl _) _).block _ (by simp)]
    have := heap_alloc_new (w.alloc o) (.cells #[.int .i64 (S : Int), .int .i64 (n : Int), .int .i64 (T : Int)] 46)
    simpa [numA] using this
  · have := heap_alloc_new ((w.alloc o).alloc (.cells #[.int .i64 (S : Int), .int .i64 (n : Int), .int .i64 (T : Int)] 46)) (.cells #[.int .i64 (d : Int), .int .i64 (B : Int)] 47)
    simpa [numA] using this
theorem below3d (w : World) (x y z : Obj) : Below w.heap.size w (((w.alloc x).alloc y).alloc z) :=
  ((((Below.refl _ _).alloc (Nat.le_refl _) _).alloc (by simp) _).alloc (by simp; omega) _)
theorem stN_step {s : List Nat × List Nat} {k l : Nat} (hl : l < 2) : stN s (2 * k + l + 1) = stp (stN s (2 * k + l)) k l := by
  show stp (stN s (2 * k + l)) ((2 * k + l) / 2) ((2 * k + l) % 2) = _
  rw [show (2 * k + l) / 2 = k by omega, show (2 * k + l) % 2 = l by omega]

def intV (S N D T B : Nat) : Value :=
  if S * N * T / Nat.gcd (S * N * T) (D * B) < 9223372036854775808 then
    .tuple #[.agg #[.int .i64 ((S * N * T / Nat.gcd (S * N * T) (D * B) : Nat) : Int), .int .i64 ((D * B / Nat.gcd (S * N * T) (D * B) : Nat) : Int)], .bool true]
  else noR

set_option maxHeartbeats 8000000 in
theorem interest_ok (S N D T B : Nat) (w : World) (hS : S ≤ 1099511627776) (hN : N ≤ 1048576) (hD0 : 1 ≤ D) (hD : D ≤ 1048576) (hT : T ≤ 1048576) (hB : B = 360 ∨ B = 365) :
    Calls Try.prog 11 #[.int .i64 (S : Int), .agg #[.int .i64 (N : Int), .int .i64 (D : Int)], .int .i64 (T : Int), .int .i64 (B : Int)] w fun e w' =>
      e = .returned (intV S N D T B) ∧ Below w.heap.size w w' := by
  have HBs := Lib.hid (fun w => isbase_any (B : Int) w _ rfl)
  rw [decide_eq_true (show (B : Int) = 360 ∨ (B : Int) = 365 by omega)] at HBs
  have HRd := Lib.hid (fun w => reduce_ok N D w (by omega) (by omega) hD0)
  obtain ⟨g, n, d, g0, eg, en, ed, e1, e2, _⟩ := dgcd_cop (a := N) hD0
  rw [← eg, e1, e2] at HRd
  have q1 : decide ((S : Int) < 0) = false := by rw [decide_eq_false_iff_not]; omega
  have q2 : decide (1099511627776 < (S : Int)) = false := by rw [decide_eq_false_iff_not]; omega
  have q3 : decide ((T : Int) < 0) = false := by rw [decide_eq_false_iff_not]; omega
  have q4 : decide (1048576 < (T : Int)) = false := by rw [decide_eq_false_iff_not]; omega
  have q5 : decide (1048576 < (N : Int)) = false := by rw [decide_eq_false_iff_not]; omega
  have q6 : decide (1048576 < (D : Int)) = false := by rw [decide_eq_false_iff_not]; omega
  obtain ⟨v, hv⟩ : ∃ v, v = intV S N D T B := ⟨_, rfl⟩
  rw [← hv]
  have HV := Lib.hid hv
  have HE := Lib.hid (And.intro eg (And.intro en (And.intro ed (And.intro e1 (And.intro e2 g0)))))
  have HH := Lib.hid (And.intro hS (And.intro hN (And.intro hD0 (And.intro hD (And.intro hT hB)))))
  clear hv eg en ed e1 e2 g0 hS hN hD0 hD hT hB
  go_enter Try.func11, Try.ntmps11
  go_wp2_with fail
  refine (HBs.out _).mono ?_
  rintro e w1 ⟨rfl, rfl⟩
  have I1 := inout w 23 (.int .i64 (N : Int)) (.int .i64 (D : Int))
  have HB := Lib.hid (below2 w (.cells #[.int .i64 (N : Int), .int .i64 (D : Int)] 23) (.cells #[.int .i64 0, .int .i64 0] 23))
  generalize (w.alloc (.cells #[.int .i64 (N : Int), .int .i64 (D : Int)] 23)).alloc (.cells #[.int .i64 0, .int .i64 0] 23) = w1 at *
  obtain ⟨b, hb⟩ : ∃ b, b = w.heap.size := ⟨_, rfl⟩
  rw [← hb] at I1 ⊢
  have HX := Lib.hid hb
  have HI1 := Lib.hid I1
  obtain ⟨c1, c2, c5, c6, c7, c8, lt⟩ := I1
  clear hb lt
  go_wp2_with fail
  refine (HRd.out _).mono ?_
  rintro e w2 ⟨rfl, hb⟩
  have HI2 := Lib.hid (HI1.out.below hb)
  have HB2 := Lib.hid (btd HB.out hb)
  clear hb c1 c2 c5 c6 c7 c8
  go_wp2_with fail
  have F0 := fr_new w2 (.cells #[.int .i64 (n : Int), .int .i64 (d : Int)] 23) 23 S n T d B
  have B0 := below3d w2 (.cells #[.int .i64 (n : Int), .int .i64 (d : Int)] 23) (.cells #[.int .i64 (S : Int), .int .i64 (n : Int), .int .i64 (T : Int)] 46) (.cells #[.int .i64 (d : Int), .int .i64 (B : Int)] 47)
  generalize (((w2.alloc (.cells #[.int .i64 (n : Int), .int .i64 (d : Int)] 23)).alloc (.cells #[.int .i64 (S : Int), .int .i64 (n : Int), .int .i64 (T : Int)] 46)).alloc (.cells #[.int .i64 (d : Int), .int .i64 (B : Int)] 47)) = w3 at *
  obtain ⟨pa, hpa⟩ : ∃ b, b = w2.heap.size + 1 := ⟨_, rfl⟩
  obtain ⟨pb, hpb⟩ : ∃ b, b = w2.heap.size + 1 + 1 := ⟨_, rfl⟩
  rw [← hpb, ← hpa] at F0
  rw [← hpb, ← hpa]
  have HPP := Lib.hid (And.intro hpa hpb)
  have n1 : ¬ pa = pb := by omega
  have n2 : ¬ pb = pa := by omega
  have HF0 := Lib.hid F0
  have HB0 := Lib.hid B0
  obtain ⟨s, hs⟩ : ∃ s, s = (([S, n, T], [d, B]) : List Nat × List Nat) := ⟨_, rfl⟩
  rw [← hs] at HF0
  have HS := Lib.hid hs
  have HLen := Lib.hid (show s.1.length = 3 ∧ s.2.length = 2 by rw [hs]; exact ⟨rfl, rfl⟩)
  have HPos := Lib.hid (show ∀ k, ∀ x ∈ (stN s k).2, 0 < x from stN_pos s (by
    rw [hs]; intro x hx
    have h1 := HE.out.2.2.1
    have h2 := HH.out.2.2.1
    have h3 := HH.out.2.2.2.2.2
    simp at hx
    rcases hx with rfl | rfl
    · exact Nat.pos_of_mul_pos_left (by rw [← h1]; exact h2)
    · omega) (by rw [hs]; rfl))
  have HBnd := Lib.hid (show ∀ k, (∀ x ∈ (stN s k).1, x ≤ 1099511627776) ∧ (∀ x ∈ (stN s k).2, x ≤ 1099511627776) from stN_bnd s (by
    rw [hs]; intro x hx
    obtain ⟨h1, h2, h3, h4, h5, h6⟩ := HH.out
    obtain ⟨_, _, _, k1, k2, _⟩ := HE.out
    have : n ≤ N := by rw [← k1]; exact Nat.div_le_self _ _
    simp at hx
    omega) (by
    rw [hs]; intro x hx
    obtain ⟨h1, h2, h3, h4, h5, h6⟩ := HH.out
    obtain ⟨_, _, _, k1, k2, _⟩ := HE.out
    have : d ≤ D := by rw [← k2]; exact Nat.div_le_self _ _
    simp at hx
    omega))
  clear hs hpa hpb F0 B0
  go_loopw [67] (fun i wr => ∃ k : Nat, k ≤ 3 ∧ i = .int .i64 (k : Int) ∧ Hid (Fr pa pb wr (stN s (2 * k))) ∧ Hid (Below w2.heap.size w2 wr)) (fun i _ => 3 - (intOf i).toNat)
  case atStart => exact ⟨0, by omega, rfl, HF0, HB0⟩
  case round =>
    obtain ⟨k, hk, rfl, hf, hbl⟩ := hrel
    by_cases hk3 : k < 3
    · have l1 : decide (k < 3) = true := by rw [decide_eq_true_iff]; exact hk3
      have l1b : decide ((k : Int) < 3) = true := by rw [decide_eq_true_iff]; omega
      go_wp2
      go_loopw [70] (fun j wq => ∃ l : Nat, l ≤ 2 ∧ j = .int .i64 (l : Int) ∧ Hid (Fr pa pb wq (stN s (2 * k + l))) ∧ Hid (Below w2.heap.size w2 wq)) (fun j _ => 2 - (intOf j).toNat)
      case atStart => exact ⟨0, by omega, rfl, hf, hbl⟩
      case round =>
        clear hf hbl
        obtain ⟨l, hl, rfl, hf, hbl⟩ := hrel
        by_cases hl2 : l < 2
        · have l2 : decide ((l : Int) < 2) = true := by rw [decide_eq_true_iff]; omega
          have hlen := stN_len s (2 * k + l)
          have hA : k < (stN s (2 * k + l)).1.length := by rw [hlen.1, HLen.out.1]; exact hk3
          have hB : l < (stN s (2 * k + l)).2.length := by rw [hlen.2, HLen.out.2]; exact hl2
          obtain ⟨c1, c2, c3, c4⟩ := hf.out.cells hA hB
          obtain ⟨x, hx⟩ : ∃ x, x = (stN s (2 * k + l)).1.getD k 0 := ⟨_, rfl⟩
          obtain ⟨y, hy⟩ : ∃ x, x = (stN s (2 * k + l)).2.getD l 0 := ⟨_, rfl⟩
          have hxb : x ≤ 1099511627776 := by
            rw [hx, List.getD_eq_getElem?_getD, List.getElem?_eq_getElem hA]; exact (HBnd.out _).1 _ (List.getElem_mem _)
          have hyb : y ≤ 1099511627776 := by
            rw [hy, List.getD_eq_getElem?_getD, List.getElem?_eq_getElem hB]; exact (HBnd.out _).2 _ (List.getElem_mem _)
          have hy0 : 0 < y := by
            rw [hy, List.getD_eq_getElem?_getD, List.getElem?_eq_getElem hB]; exact HPos.out _ _ (List.getElem_mem _)
          rw [← hx] at c1
          rw [← hy] at c2
          have HDv := Lib.hid (fun w => ddiv_any x y (by omega) (by omega) w)
          obtain ⟨G, hG⟩ : ∃ G, G = Nat.gcd x y := ⟨_, rfl⟩
          rw [← hG] at HDv
          have g0 : 0 < G := by rw [hG]; exact Nat.gcd_pos_of_pos_right _ hy0
          obtain ⟨x2, hx2⟩ : ∃ z, z = x / G := ⟨_, rfl⟩
          obtain ⟨y2, hy2⟩ : ∃ z, z = y / G := ⟨_, rfl⟩
          have t1 : (x : Int).tdiv (G : Int) = (x2 : Int) := by rw [hx2]; exact (Int.ofNat_tdiv _ _).symm
          have t1b : (x : Int) / (G : Int) = (x2 : Int) := by rw [hx2]; exact (Int.natCast_ediv _ _).symm
          have t2 : (y : Int).tdiv (G : Int) = (y2 : Int) := by rw [hy2]; exact (Int.ofNat_tdiv _ _).symm
          have t2b : (y : Int) / (G : Int) = (y2 : Int) := by rw [hy2]; exact (Int.natCast_ediv _ _).symm
          have u1 : x2 ≤ x := by rw [hx2]; exact Nat.div_le_self _ _
          have u2 : y2 ≤ y := by rw [hy2]; exact Nat.div_le_self _ _
          have v1 : IntKind.i64.wrap (x2 : Int) = (x2 : Int) := i64d rfl (by omega)
          have v2 : IntKind.i64.wrap (y2 : Int) = (y2 : Int) := i64d rfl (by omega)
          have HStep := Lib.hid (show stN s (2 * k + (l + 1)) = ((stN s (2 * k + l)).1.set k x2, (stN s (2 * k + l)).2.set l y2) by
            rw [← Nat.add_assoc, stN_step hl2, stp, ← hx, ← hy, ← hG, ← hx2, ← hy2])
          clear hx hy hxb hyb hy0 hG hx2 hy2 u1 u2 hlen hA hB
          go_wp2_with fail
          go_quiet ((go_at_call 27; first | exact Calls.quiet_of (HDv.out _) | exact (HDv.out _).mono fun e w' h => ⟨h.1, by obtain ⟨m, e⟩ := h.2; exact ⟨_, by rw [e, World.drewN_drewN]⟩⟩))
          go_wp2
          go_roundw
          case rel =>
            refine ⟨l + 1, by omega, by go_num, Lib.hid (by rw [HStep.out]; exact (hf.out.drewN _).set n1 k x2 l y2), Lib.hid ?_⟩
            exact ((below_drewN hbl.out _).setCell (p := ⟨pa, k, none⟩) (by rw [HPP.out.1]; exact Nat.le_succ _) _).setCell (p := ⟨pb, l, none⟩) (by rw [HPP.out.2]; exact Nat.le_trans (Nat.le_succ _) (Nat.le_succ _)) _
          case measure => simp [intOf]; omega
        · obtain rfl : l = 2 := by omega
          go_wp2
          go_roundw
          case rel => exact ⟨k + 1, by omega, by go_num, Lib.hid hf.out, hbl⟩
          case measure => simp [intOf]; omega
    · obtain rfl : k = 3 := by omega
      clear HF0 HB0 HLen HPos HBnd
      obtain ⟨x0, x1, x2, y0, y1, hst, k1, k2, k3, k4, k5, hp, hq⟩ := st6 S n T d B (by
        have h1 := HE.out.2.2.1
        have h2 := HH.out.2.2.1
        exact Nat.pos_of_mul_pos_left (by rw [← h1]; exact h2)) (by have := HH.out.2.2.2.2.2; omega)
      rw [← HS.out] at hst
      have hfo := hf.out
      rw [show 2 * 3 = 6 from rfl, hst] at hfo
      have hnN : n ≤ N := by have := HE.out.2.2.2.1; rw [← this]; exact Nat.div_le_self _ _
      have hdD : d ≤ D := by have := HE.out.2.2.2.2.1; rw [← this]; exact Nat.div_le_self _ _
      obtain ⟨hS, hN, hD0, hD, hT, hB⟩ := HH.out
      have J1 := Lib.hid (fun w (h : Ints w (.slice (some ⟨pa, 0, none⟩) 3 3) (natL [x0, x1, x2])) => product_any _ [x0, x1, x2] w h (by intro x hx; simp at hx; omega) (by simp))
      have J2 := Lib.hid (fun w (h : Ints w (.slice (some ⟨pb, 0, none⟩) 2 2) (natL [y0, y1])) => product_any _ [y0, y1] w h (by intro x hx; simp at hx; omega) (by simp))
      rw [fold3 (by omega) (by omega)] at J1
      rw [fold2 (by omega) (by omega)] at J2
      have HA1 := Lib.hid (fr_ints (n := 3) rfl (by decide) hfo.a)
      have HA2 := Lib.hid (fr_ints (n := 2) rfl (by decide) hfo.b)
      have HO := HI2.out.below hbl.out
      obtain ⟨c1, c2, c5, c6, c7, c8, _⟩ := HO
      obtain ⟨P, hP⟩ : ∃ P, P = x0 * x1 * x2 := ⟨_, rfl⟩
      obtain ⟨Q, hQ⟩ : ∃ P, P = y0 * y1 := ⟨_, rfl⟩
      have HB3 := Lib.hid (btd HB2.out hbl.out)
      have sc := scale_low (P := S * n * T) (Q := d * B) HE.out.2.2.2.2.2
      have e1 : g * (S * n * T) = S * N * T := by have h9 := HE.out.2.1; rw [h9]; ac_rfl
      have e2 : g * (d * B) = D * B := by have h9 := HE.out.2.2.1; rw [h9]; ac_rfl
      rw [e1, e2] at sc
      unfold intV at HV
      rw [sc.1, sc.2, ← hp, ← hq] at HV
      rw [← hP, ← hQ] at HV
      rw [← hP] at J1
      rw [← hQ] at J2
      clear hfo hst k1 k2 k3 k4 k5 hp hq hnN hdD hS hN hD0 hD hT hB sc e1 e2 hP hQ hk hk3
      by_cases hv : P < 9223372036854775808
      · rw [if_pos hv] at J1 HV
        simp only [prodV] at J1 J2
        clear hv
        go_wp2_with fail
        refine (J1.out _ HA1.out).mono ?_
        rintro e w4 ⟨rfl, rfl⟩
        go_wp2_with fail
        refine (J2.out _ HA2.out).mono ?_
        rintro e w4 ⟨rfl, rfl⟩
        go_wp2
        refine bodyPost_ret (v := .tuple #[.agg #[.int .i64 (P : Int), .int .i64 (Q : Int)], .bool true]) (by simp [results, Try.results11, go_sem, c5, c6, c7, c8]) rfl ⟨by rw [HV.out], ?_⟩
        exact (HB3.out.setCell (p := ⟨b + 1, 0, none⟩) (by rw [HX.out]; exact Nat.le_succ _) _).setCell (p := ⟨b + 1, 1, none⟩) (by rw [HX.out]; exact Nat.le_succ _) _
      · rw [if_neg hv] at J1 HV
        simp only [prodV] at J1 J2
        clear hv
        go_wp2_with fail
        refine (J1.out _ HA1.out).mono ?_
        rintro e w4 ⟨rfl, rfl⟩
        go_wp2_with fail
        refine (J2.out _ HA2.out).mono ?_
        rintro e w4 ⟨rfl, rfl⟩
        go_wp2
        refine bodyPost_ret (v := noR) (by simp [results, Try.results11, go_sem, noR, c5, c6, c7, c8]) rfl ⟨by rw [HV.out], ?_⟩
        exact (HB3.out.setCell (p := ⟨b + 1, 0, none⟩) (by rw [HX.out]; exact Nat.le_succ _) _).setCell (p := ⟨b + 1, 1, none⟩) (by rw [HX.out]; exact Nat.le_succ _) _
end Go.Proofs.Ytbehepeebffmoaa
