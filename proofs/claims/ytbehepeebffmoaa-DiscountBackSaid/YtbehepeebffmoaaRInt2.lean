/-
  The document's Interest.
-/
import Derived.Test.YtbehepeebffmoaaRInt
import Derived.Deep.DeepCutAuto
import Derived.Deep.CutBlock
import Derived.StillTailTactics
import Derived.Deep.Light
namespace Go.Proofs.Ytbehepeebffmoaa
open Go Go.RowKit
set_option linter.unusedVariables false
set_option linter.unusedSimpArgs false

/-- The document's two rows: above and below the line. -/
structure Fs (pa pb : Nat) (w : World) (s : List Nat × List Nat) : Prop where
  a : w.heap[pa]? = some (.cells (numA s.1) 2 (0, 0))
  b : w.heap[pb]? = some (.cells (numA s.2) 2 (0, 0))
theorem Fs.drewN {pa pb : Nat} {w : World} {s : List Nat × List Nat} (h : Fs pa pb w s) (n : Nat) : Fs pa pb (w.drewN n) s := ⟨h.a, h.b⟩
theorem Fs.cells {pa pb : Nat} {w : World} {s : List Nat × List Nat} (h : Fs pa pb w s) {i j : Nat} (hi : i < s.1.length) (hj : j < s.2.length) :
    w.cell? ⟨pa, i, none⟩ = some (.int .i64 ((s.1.getD i 0 : Nat) : Int)) ∧ w.cell? ⟨pb, j, none⟩ = some (.int .i64 ((s.2.getD j 0 : Nat) : Int)) ∧ w.frozen? ⟨pa, i, none⟩ = false ∧ w.frozen? ⟨pb, j, none⟩ = false := by
  refine ⟨?_, ?_, ?_, ?_⟩
  · simp [World.cell?, h.a, numA, hi]
  · simp [World.cell?, h.b, numA, hj]
  · simp [World.frozen?, h.a]
  · simp [World.frozen?, h.b]
theorem Fs.set {pa pb : Nat} {w : World} {s : List Nat × List Nat} (h : Fs pa pb w s) (hne : pa ≠ pb) (i x j y : Nat) : Fs pa pb ((w.setCell ⟨pa, i, none⟩ (.int .i64 (x : Int))).setCell ⟨pb, j, none⟩ (.int .i64 (y : Int))) (s.1.set i x, s.2.set j y) := by
  constructor
  · rw [Below.heap_setCell _ _ _ _ hne, heap_setA h.a, numA_set]
  · have hb : (w.setCell ⟨pa, i, none⟩ (.int .i64 (x : Int))).heap[pb]? = some (.cells (numA s.2) 2 (0, 0)) := by rw [Below.heap_setCell _ _ _ _ (Ne.symm hne)]; exact h.b
    rw [heap_setA hb, numA_set]
theorem two_rows (w : World) (x y : Array Value) (t : TypeId) : (((w.alloc (.cells x t)).alloc (.cells y t)).drew).heap[w.heap.size]? = some (.cells x t (0, 0)) ∧ (((w.alloc (.cells x t)).alloc (.cells y t)).drew).heap[w.heap.size + 1]? = some (.cells y t (0, 0)) := by
  constructor
  · show ((w.alloc (.cells x t)).alloc (.cells y t)).heap[w.heap.size]? = _
    rw [((Below.refl (w.alloc (.cells x t)).heap.size _).alloc (Nat.le_refl _) _).block _ (by simp)]
    exact heap_alloc_new _ _
  · have := heap_alloc_new (w.alloc (.cells x t)) (.cells y t)
    show ((w.alloc (.cells x t)).alloc (.cells y t)).heap[w.heap.size + 1]? = _
    simpa using this

theorem set_same {l : List Nat} {i : Nat} (hi : i < l.length) : l.set i (l.getD i 0) = l := by
  apply List.ext_getElem (by simp)
  intro j h1 h2
  rw [List.getElem_set]
  split
  · rename_i e; subst e; simp [hi]
  · rfl

theorem Fs.keep {pa pb pc : Nat} {w : World} {s : List Nat × List Nat} (h : Fs pa pb w s) (h1 : ¬ pa = pc) (h2 : ¬ pb = pc) (i : Nat) (u : Value) : Fs pa pb (w.setCell ⟨pc, i, none⟩ u) s :=
  ⟨by rw [Below.heap_setCell _ _ _ _ h1]; exact h.a, by rw [Below.heap_setCell _ _ _ _ h2]; exact h.b⟩
theorem low_zero {P Q : Nat} (hQ : 0 < Q) (h : P / Nat.gcd P Q = 0) : Q / Nat.gcd P Q = 1 := by
  have h0 : P = 0 := by
    rcases Nat.eq_zero_or_pos P with h1 | h1
    · exact h1
    · have := Nat.div_pos (Nat.gcd_le_left Q h1) (Nat.gcd_pos_of_pos_left Q h1)
      omega
  subst h0
  rw [Nat.gcd_zero_left]
  exact Nat.div_self hQ
def prod (l : List Nat) : Nat := l.foldl (· * ·) 1

set_option maxRecDepth 100000 in
set_option maxHeartbeats 8000000 in
theorem rinterest_ok (S N D T B : Nat) (w : World) (hS : S ≤ 1099511627776) (hN : N ≤ 1048576) (hD0 : 1 ≤ D) (hD : D ≤ 1048576) (hT : T ≤ 1048576) (hB : B = 360 ∨ B = 365) :
    Calls Try.prog 12 #[.int .i64 (S : Int), .agg #[.int .i64 (N : Int), .int .i64 (D : Int)], .int .i64 (T : Int), .int .i64 (B : Int)] w fun e w' =>
      e = .returned (intV S N D T B) ∧ Below w.heap.size w w' := by
  have HRt := Lib.hid (fun w => right_any (S : Int) (N : Int) (D : Int) (T : Int) (B : Int) w _ rfl)
  rw [decide_eq_true (show okI (S : Int) (N : Int) (D : Int) (T : Int) (B : Int) by unfold okI; omega)] at HRt
  obtain ⟨v, hv⟩ : ∃ v, v = intV S N D T B := ⟨_, rfl⟩
  rw [← hv]
  have HV := Lib.hid hv
  have HH := Lib.hid (And.intro hS (And.intro hN (And.intro hD0 (And.intro hD (And.intro hT hB)))))
  clear hv hS hN hD0 hD hT hB
  go_enter Try.func12, Try.ntmps12
  go_wp2_with fail
  refine (HRt.out _).mono ?_
  rintro e w1 ⟨rfl, hb⟩
  have I1 := (inout w 23 (.int .i64 (N : Int)) (.int .i64 (D : Int))).below hb
  have HB := Lib.hid (btd (below2 w _ _) hb)
  clear hb
  obtain ⟨b, hb⟩ : ∃ b, b = w.heap.size := ⟨_, rfl⟩
  rw [← hb] at I1 ⊢
  have HX := Lib.hid hb
  have HI1 := Lib.hid I1
  obtain ⟨c1, c2, c5, c6, c7, c8, lt⟩ := I1
  have z1 := HI1.out.below ((Below.refl _ _).alloc (Nat.le_refl _) (.cells #[.int .i64 (D : Int), .int .i64 (B : Int)] 2))
  have z2 := HI1.out.below ((Below.refl _ _).alloc (Nat.le_refl _) (.cells #[.int .i64 (S : Int), .int .i64 (N : Int), .int .i64 (T : Int)] 2))
  obtain ⟨d1, d2, -, -, -, -, -⟩ := z1
  obtain ⟨f1, f2, -, -, -, -, -⟩ := z2
  clear hb lt
  go_upto_region 4 with fail
  go_cut [10, 11] from 12 (fun s10 s11 wx => ∃ pa pb : Nat, s10 = .slice (some ⟨pa, 0, none⟩) 3 3 ∧ s11 = .slice (some ⟨pb, 0, none⟩) 2 2 ∧ pa ≠ pb ∧ w1.heap.size ≤ pa ∧ w1.heap.size ≤ pb ∧ Hid (Fs pa pb wx ([S, N, T], [D, B])) ∧ Hid (Below w1.heap.size w1 wx))
  case first =>
    go_region
    · dsimp only [Exit.then]
      apply_assumption
      go_meet
      case rel =>
        obtain ⟨r1, r2⟩ := two_rows w1 (numA [S, N, T]) (numA [D, B]) 2
        exact ⟨w1.heap.size, w1.heap.size + 1, rfl, rfl, by omega, by omega, by omega, Lib.hid ⟨r1, r2⟩, Lib.hid (below2 w1 _ _).drew⟩
    · dsimp only [Exit.then]
      apply_assumption
      go_meet
      case rel =>
        obtain ⟨r1, r2⟩ := two_rows w1 (numA [D, B]) (numA [S, N, T]) 2
        exact ⟨w1.heap.size + 1, w1.heap.size, rfl, rfl, by omega, by omega, by omega, Lib.hid ⟨r2, r1⟩, Lib.hid (below2 w1 _ _).drew⟩
  case rest =>
    obtain ⟨pa, pb, rfl, rfl, n1, q1, q2, hf0, hb0⟩ := hcut
    have n2 : ¬ pb = pa := fun h => n1 h.symm
    have HPP := Lib.hid (And.intro q1 q2)
    obtain ⟨s, hs⟩ : ∃ s, s = (([S, N, T], [D, B]) : List Nat × List Nat) := ⟨_, rfl⟩
    rw [← hs] at hf0
    have HS := Lib.hid hs
    have HLen := Lib.hid (show s.1.length = 3 ∧ s.2.length = 2 by rw [hs]; exact ⟨rfl, rfl⟩)
    have HPos := Lib.hid (show ∀ k, ∀ x ∈ (stN s k).2, 0 < x from stN_pos s (by
      rw [hs]; intro x hx
      obtain ⟨h1, h2, h3, h4, h5, h6⟩ := HH.out
      simp at hx
      omega) (by rw [hs]; rfl))
    have HBnd := Lib.hid (show ∀ k, (∀ x ∈ (stN s k).1, x ≤ 1099511627776) ∧ (∀ x ∈ (stN s k).2, x ≤ 1099511627776) from stN_bnd s (by
      rw [hs]; intro x hx
      obtain ⟨h1, h2, h3, h4, h5, h6⟩ := HH.out
      simp at hx
      omega) (by
      rw [hs]; intro x hx
      obtain ⟨h1, h2, h3, h4, h5, h6⟩ := HH.out
      simp at hx
      omega))
    clear hs q1 q2 c1 c2 c5 c6 c7 c8 d1 d2 f1 f2
    go_wp2_with fail
    go_loopw [12] (fun i wr => ∃ k : Nat, k ≤ 3 ∧ i = .int .i64 (k : Int) ∧ Hid (Fs pa pb wr (stN s (2 * k))) ∧ Hid (Below w1.heap.size w1 wr)) (fun i _ => 3 - (intOf i).toNat)
    case atStart => exact ⟨0, by omega, rfl, hf0, hb0⟩
    case round =>
      clear hf0 hb0
      obtain ⟨k, hk, rfl, hf, hbl⟩ := hrel
      by_cases hk3 : k < 3
      · have l1b : decide ((k : Int) < 3) = true := by rw [decide_eq_true_iff]; omega
        go_wp2
        go_loopw [13] (fun j wq => ∃ l : Nat, l ≤ 2 ∧ j = .int .i64 (l : Int) ∧ Hid (Fs pa pb wq (stN s (2 * k + l))) ∧ Hid (Below w1.heap.size w1 wq)) (fun j _ => 2 - (intOf j).toNat)
        case atStart => exact ⟨0, by omega, rfl, hf, hbl⟩
        case round =>
          clear hf hbl
          obtain ⟨l, hl, rfl, hf, hbl⟩ := hrel
          by_cases hl2 : l < 2
          · have l2 : decide ((l : Int) < 2) = true := by rw [decide_eq_true_iff]; omega
            have hlen := stN_len s (2 * k + l)
            have hA : k < (stN s (2 * k + l)).1.length := by rw [hlen.1, HLen.out.1]; exact hk3
            have hB : l < (stN s (2 * k + l)).2.length := by rw [hlen.2, HLen.out.2]; exact hl2
            obtain ⟨c1, c2, c3, c4⟩ := hf.out.cells hA hB
            obtain ⟨x, hx⟩ : ∃ x, x = (stN s (2 * k + l)).1.getD k 0 := ⟨_, rfl⟩
            obtain ⟨y, hy⟩ : ∃ x, x = (stN s (2 * k + l)).2.getD l 0 := ⟨_, rfl⟩
            have hxb : x ≤ 1099511627776 := by
              rw [hx, List.getD_eq_getElem?_getD, List.getElem?_eq_getElem hA]; exact (HBnd.out _).1 _ (List.getElem_mem _)
            have hyb : y ≤ 1099511627776 := by
              rw [hy, List.getD_eq_getElem?_getD, List.getElem?_eq_getElem hB]; exact (HBnd.out _).2 _ (List.getElem_mem _)
            have hy0 : 0 < y := by
              rw [hy, List.getD_eq_getElem?_getD, List.getElem?_eq_getElem hB]; exact HPos.out _ _ (List.getElem_mem _)
            rw [← hx] at c1
            rw [← hy] at c2
            have HDv := Lib.hid (fun w => drdiv_any x y (by omega) (by omega) w)
            obtain ⟨G, hG⟩ : ∃ G, G = Nat.gcd x y := ⟨_, rfl⟩
            rw [← hG] at HDv
            have g0 : 0 < G := by rw [hG]; exact Nat.gcd_pos_of_pos_right _ hy0
            by_cases hG1 : 1 < G
            · obtain ⟨x2, hx2⟩ : ∃ z, z = x / G := ⟨_, rfl⟩
              obtain ⟨y2, hy2⟩ : ∃ z, z = y / G := ⟨_, rfl⟩
              have d1 : decide ((1 : Int) < (G : Int)) = true := by rw [decide_eq_true_iff]; omega
              have t1 : (x : Int).tdiv (G : Int) = (x2 : Int) := by rw [hx2]; exact (Int.ofNat_tdiv _ _).symm
              have t1b : (x : Int) / (G : Int) = (x2 : Int) := by rw [hx2]; exact (Int.natCast_ediv _ _).symm
              have t2 : (y : Int).tdiv (G : Int) = (y2 : Int) := by rw [hy2]; exact (Int.ofNat_tdiv _ _).symm
              have t2b : (y : Int) / (G : Int) = (y2 : Int) := by rw [hy2]; exact (Int.natCast_ediv _ _).symm
              have u1 : x2 ≤ x := by rw [hx2]; exact Nat.div_le_self _ _
              have u2 : y2 ≤ y := by rw [hy2]; exact Nat.div_le_self _ _
              have v1 : IntKind.i64.wrap (x2 : Int) = (x2 : Int) := i64d rfl (by omega)
              have v2 : IntKind.i64.wrap (y2 : Int) = (y2 : Int) := i64d rfl (by omega)
              have HStep := Lib.hid (show stN s (2 * k + (l + 1)) = ((stN s (2 * k + l)).1.set k x2, (stN s (2 * k + l)).2.set l y2) by
                rw [← Nat.add_assoc, stN_step hl2, stp, ← hx, ← hy, ← hG, ← hx2, ← hy2])
              clear hx hy hxb hyb hy0 hG hx2 hy2 u1 u2 hlen hA hB
              go_wp2_with fail
              go_quiet ((go_at_call 30; exact Calls.quiet_of_same (HDv.out _)))
              go_wp2
              go_roundw
              case rel =>
                refine ⟨l + 1, by omega, by go_num, Lib.hid (by rw [HStep.out]; exact (hf.out.drewN _).set n1 k x2 l y2), Lib.hid ?_⟩
                exact ((below_drewN hbl.out _).setCell (p := ⟨pa, k, none⟩) HPP.out.1 _).setCell (p := ⟨pb, l, none⟩) HPP.out.2 _
              case measure => simp [intOf]; omega
            · have d1 : decide ((1 : Int) < (G : Int)) = false := by rw [decide_eq_false_iff_not]; omega
              have HStep := Lib.hid (show stN s (2 * k + (l + 1)) = stN s (2 * k + l) by
                rw [← Nat.add_assoc, stN_step hl2, stp, ← hx, ← hy, ← hG, show G = 1 by omega, Nat.div_one, Nat.div_one, hx, hy, set_same hA, set_same hB])
              clear hx hy hxb hyb hy0 hG hlen hA hB
              go_wp2_with fail
              go_quiet ((go_at_call 30; exact Calls.quiet_of_same (HDv.out _)))
              go_wp2
              go_roundw
              case rel => exact ⟨l + 1, by omega, by go_num, Lib.hid (by rw [HStep.out]; exact hf.out.drewN _), Lib.hid (below_drewN hbl.out _)⟩
              case measure => simp [intOf]; omega
          · obtain rfl : l = 2 := by omega
            go_wp2
            go_roundw
            case rel => exact ⟨k + 1, by omega, by go_num, Lib.hid hf.out, hbl⟩
            case measure => simp [intOf]; omega
      · obtain rfl : k = 3 := by omega
        clear HLen HPos HBnd
        obtain ⟨x0, x1, x2, y0, y1, hst, k1, k2, k3, k4, k5, hp, hq⟩ := st6 S N T D B (by have := HH.out.2.2.1; omega) (by have := HH.out.2.2.2.2.2; omega)
        rw [← HS.out] at hst
        have hfo := hf.out
        rw [show 2 * 3 = 6 from rfl, hst] at hfo
        obtain ⟨hS, hN, hD0, hD, hT, hB⟩ := HH.out
        have HFo := Lib.hid hfo
        have HBl := Lib.hid hbl.out
        have HBB := Lib.hid (And.intro (show x0 ≤ 1099511627776 by omega) (And.intro (show x1 ≤ 1048576 by omega) (And.intro (show x2 ≤ 1048576 by omega) (And.intro (show y0 ≤ 1048576 by omega) (show y1 ≤ 365 by omega)))))
        unfold intV at HV
        rw [← hp, ← hq] at HV
        have HZ := Lib.hid (show x0 * x1 * x2 = 0 → y0 * y1 = 1 by
          rw [hp, hq]; exact low_zero (Nat.mul_pos (by omega) (by omega)))
        clear hfo hst k1 k2 k3 k4 k5 hp hq hS hN hD0 hD hT hB hk hk3 hf hbl
        go_wp2_with fail
        have P0 := heap_alloc_new wr (.cells #[.int .i64 1, .int .i64 1] 23)
        have J := (Below.refl wr.heap.size wr).alloc (Nat.le_refl _) (.cells #[.int .i64 1, .int .i64 1] 23)
        have hlt : ∀ {p : Nat} {c : Array Value} {t : TypeId}, wr.heap[p]? = some (.cells c t (0, 0)) → p < wr.heap.size := fun {p c t} h => by
          rcases Nat.lt_or_ge p wr.heap.size with g | g
          · exact g
          · rw [Array.getElem?_eq_none g] at h; cases h
        have hpa := hlt HFo.out.a
        have hpb := hlt HFo.out.b
        have F0 : Fs pa pb (wr.alloc (.cells #[.int .i64 1, .int .i64 1] 23)) ([x0, x1, x2], [y0, y1]) := ⟨by rw [J.block _ hpa]; exact HFo.out.a, by rw [J.block _ hpb]; exact HFo.out.b⟩
        have B0 := btd HBl.out J
        generalize wr.alloc (.cells #[.int .i64 1, .int .i64 1] 23) = wo at *
        obtain ⟨pc, hpc⟩ : ∃ pc, pc = wr.heap.size := ⟨_, rfl⟩
        rw [← hpc] at P0 ⊢
        have m1 : ¬ pa = pc := by omega
        have m2 : ¬ pb = pc := by omega
        have HPC := Lib.hid (show w1.heap.size ≤ pc by rw [hpc]; exact HBl.out.size)
        have HP0 := Lib.hid P0
        have HF0 := Lib.hid F0
        have HB0 := Lib.hid B0
        clear hlt hpa hpb J P0 F0 B0 hpc
        go_loopw [16] (fun i wq => ∃ k : Nat, k ≤ 3 ∧ i = .int .i64 (k : Int) ∧ Hid (wq.heap[pc]? = some (.cells #[.int .i64 (prod ([x0, x1, x2].take k) : Int), .int .i64 1] 23 (0, 0))) ∧ Hid (Fs pa pb wq ([x0, x1, x2], [y0, y1])) ∧ Hid (Below w1.heap.size w1 wq) ∧ Hid (prod ([x0, x1, x2].take k) < 9223372036854775808)) (fun i _ => 3 - (intOf i).toNat)
        case atStart => exact ⟨0, by omega, rfl, HP0, HF0, HB0, Lib.hid (by simp [prod])⟩
        case round =>
          clear HP0 HF0 HB0
          obtain ⟨k, hk, rfl, hc, hf, hbl, hlt⟩ := hrel
          by_cases hk3 : k < 3
          · have l1b : decide ((k : Int) < 3) = true := by rw [decide_eq_true_iff]; omega
            obtain ⟨c30, -, -, -⟩ := hf.out.cells (i := k) (j := 0) (by show k < 3; exact hk3) (by show 0 < 2; decide)
            have k1 : (k : Int) < 3 := by omega
            have k0 : (0 : Int) ≤ (k : Int) := by omega
            obtain ⟨x, hx⟩ : ∃ x, x = [x0, x1, x2].getD k 0 := ⟨_, rfl⟩
            obtain ⟨p, hp⟩ : ∃ p, p = prod ([x0, x1, x2].take k) := ⟨_, rfl⟩
            have hpx : prod ([x0, x1, x2].take (k + 1)) = p * x := by
              rw [hp, hx]
              have : k = 0 ∨ k = 1 ∨ k = 2 := by omega
              rcases this with rfl | rfl | rfl <;> simp [prod]
            have hc2 := hc.out
            have hlt2 := hlt.out
            rw [← hp] at hc2 hlt2
            have c1 : wr.cell? ⟨pc, 0, none⟩ = some (.int .i64 (p : Int)) := by simp [World.cell?, hc2]
            have c2 : wr.frozen? ⟨pc, 0, none⟩ = false := by simp [World.frozen?, hc2]
            have c3 : wr.cell? ⟨pa, k, none⟩ = some (.int .i64 (x : Int)) := by rw [hx]; exact c30
            clear c30
            have hxb : x < 9223372036854775808 := by
              have := HBB.out
              have h3 : k = 0 ∨ k = 1 ∨ k = 2 := by omega
              rcases h3 with rfl | rfl | rfl <;> simp at hx <;> omega
            have HFt := Lib.hid (fun w => fits_any p x hxb hlt2 w _ rfl)
            have HC := Lib.hid hc2
            by_cases hfit : p * x < 9223372036854775808
            · rw [decide_eq_true hfit] at HFt
              have v1 : IntKind.i64.wrap ((p : Int) * (x : Int)) = ((p * x : Nat) : Int) := i64d (by simp) (by omega)
              have HPX := Lib.hid (And.intro hpx hfit)
              clear hx hp hpx hc2 hlt2 hxb hfit
              go_wp2_with fail
              go_quiet ((go_at_call 31; exact Calls.quiet_of_same (HFt.out _)))
              go_wp2_with fail
              go_region
              go_wp2
              go_roundw
              case rel =>
                refine ⟨k + 1, by omega, by go_num, Lib.hid ?_, Lib.hid ?_, Lib.hid ?_, Lib.hid ?_⟩
                · rw [HPX.out.1, show ((p * x : Nat) : Int) = (p : Int) * (x : Int) from Int.natCast_mul p x]
                  exact heap_setA (w := wr) (i := 0) (u := .int .i64 ((p : Int) * (x : Int))) HC.out
                · exact (hf.out.drewN _).keep m1 m2 0 _
                · exact (below_drewN hbl.out _).setCell (p := ⟨pc, 0, none⟩) HPC.out _
                · rw [HPX.out.1]; exact HPX.out.2
              case measure => simp [intOf]; omega
            · rw [decide_eq_false hfit] at HFt
              obtain ⟨hk2, hpe, hxe⟩ : k = 2 ∧ p = x0 * x1 ∧ x = x2 := by
                obtain ⟨b0, b1, b2, b3, b4⟩ := HBB.out
                have h3 : k = 0 ∨ k = 1 ∨ k = 2 := by omega
                rcases h3 with rfl | rfl | rfl
                · exfalso
                  simp [prod] at hp hx; rw [hp, hx] at hfit; omega
                · exfalso
                  simp [prod] at hp hx
                  have : p * x ≤ 1099511627776 * 1048576 := Nat.mul_le_mul (by omega) (by omega)
                  omega
                · simp [prod] at hp hx; exact ⟨rfl, hp, hx⟩
              subst hk2
              have hnz : x0 ≠ 0 ∧ x1 ≠ 0 ∧ x2 ≠ 0 := by
                rw [hpe, hxe] at hfit
                refine ⟨?_, ?_, ?_⟩ <;> (intro h; rw [h] at hfit; simp at hfit)
              have z0 : ((x0 : Int) == 0) = false := by rw [beq_eq_false_iff_ne]; omega
              have z1 : ((x1 : Int) == 0) = false := by rw [beq_eq_false_iff_ne]; omega
              have z2 : ((x2 : Int) == 0) = false := by rw [beq_eq_false_iff_ne]; omega
              have e0 := (hf.out.cells (i := 0) (j := 0) (by show 0 < 3; decide) (by show 0 < 2; decide)).1
              have e1 := (hf.out.cells (i := 1) (j := 0) (by show 1 < 3; decide) (by show 0 < 2; decide)).1
              have e2 := (hf.out.cells (i := 2) (j := 0) (by show 2 < 3; decide) (by show 0 < 2; decide)).1
              have E0 : wr.cell? ⟨pa, 0, none⟩ = some (.int .i64 (x0 : Int)) := e0
              have E1 : wr.cell? ⟨pa, 1, none⟩ = some (.int .i64 (x1 : Int)) := e1
              have E2 : wr.cell? ⟨pa, 2, none⟩ = some (.int .i64 (x2 : Int)) := e2
              subst hxe
              clear e0 e1 e2 E2
              have HVn := Lib.hid (show v = noR by rw [HV.out, if_neg (by rw [← hpe]; exact hfit)])
              obtain ⟨c11, c12, c15, c16, c17, c18, -⟩ := HI1.out.below hbl.out
              clear hx hp hpx hc2 hlt2 hxb hfit hpe hnz HC c2
              go_wp2_with fail
              go_quiet ((go_at_call 31; exact Calls.quiet_of_same (HFt.out _)))
              go_wp2
              refine bodyPost_ret (v := noR) (by simp [results, Try.results12, go_sem, noR, c15, c16, c17, c18]) rfl ⟨by rw [HVn.out], ?_⟩
              exact noR_ret _ _ _ HX.out (btd HB.out (below_drewN hbl.out _))
          · obtain rfl : k = 3 := by omega
            have hPc := hc.out
            have hPl := hlt.out
            obtain ⟨P, hP⟩ : ∃ P, P = x0 * x1 * x2 := ⟨_, rfl⟩
            have hpr : prod ([x0, x1, x2].take 3) = P := by rw [hP]; simp [prod]
            rw [hpr] at hPc hPl
            have HVy := Lib.hid (show v = .tuple #[.agg #[.int .i64 (P : Int), .int .i64 ((y0 * y1 : Nat) : Int)], .bool true] by rw [HV.out, ← hP, if_pos hPl])
            have HZP := Lib.hid (show P = 0 → y0 * y1 = 1 by rw [hP]; exact HZ.out)
            have HPc := Lib.hid hPc
            have HF := Lib.hid hf.out
            have HBl2 := Lib.hid hbl.out
            clear hP hpr hPc hPl hc hf hbl hlt HV HZ hk hk3
            go_wp2_with fail
            go_loopw [17] (fun i wq => ∃ k : Nat, k ≤ 2 ∧ i = .int .i64 (k : Int) ∧ Hid (wq.heap[pc]? = some (.cells #[.int .i64 (P : Int), .int .i64 (prod ([y0, y1].take k) : Int)] 23 (0, 0))) ∧ Hid (Fs pa pb wq ([x0, x1, x2], [y0, y1])) ∧ Hid (Below w1.heap.size w1 wq)) (fun i _ => 2 - (intOf i).toNat)
            case atStart => exact ⟨0, by omega, rfl, HPc, HF, HBl2⟩
            case round =>
              clear HPc HF HBl2
              obtain ⟨k, hk, rfl, hc, hf, hbl⟩ := hrel
              by_cases hk2 : k < 2
              · have l1b : decide ((k : Int) < 2) = true := by rw [decide_eq_true_iff]; omega
                obtain ⟨-, c30, -, -⟩ := hf.out.cells (i := 0) (j := k) (by show 0 < 3; decide) (by show k < 2; exact hk2)
                have k1 : (k : Int) < 2 := by omega
                have k0 : (0 : Int) ≤ (k : Int) := by omega
                obtain ⟨x, hx⟩ : ∃ x, x = [y0, y1].getD k 0 := ⟨_, rfl⟩
                obtain ⟨p, hp⟩ : ∃ p, p = prod ([y0, y1].take k) := ⟨_, rfl⟩
                have hpx : prod ([y0, y1].take (k + 1)) = p * x := by
                  rw [hp, hx]
                  have : k = 0 ∨ k = 1 := by omega
                  rcases this with rfl | rfl <;> simp [prod]
                have hc2 := hc.out
                rw [← hp] at hc2
                have c1 : wr.cell? ⟨pc, 1, none⟩ = some (.int .i64 (p : Int)) := by simp [World.cell?, hc2]
                have c2 : wr.frozen? ⟨pc, 1, none⟩ = false := by simp [World.frozen?, hc2]
                have c3 : wr.cell? ⟨pb, k, none⟩ = some (.int .i64 (x : Int)) := by rw [hx]; exact c30
                have hb2 : p * x ≤ 382730240 := by
                  obtain ⟨b0, b1, b2, b3, b4⟩ := HBB.out
                  have h3 : k = 0 ∨ k = 1 := by omega
                  rcases h3 with rfl | rfl
                  · simp [prod] at hp hx; rw [hp, hx]; omega
                  · simp [prod] at hp hx
                    have : p * x ≤ 1048576 * 365 := Nat.mul_le_mul (by omega) (by omega)
                    omega
                have HC := Lib.hid hc2
                have v1 : IntKind.i64.wrap ((p : Int) * (x : Int)) = ((p * x : Nat) : Int) := i64d (by simp) (by omega)
                have HPX := Lib.hid hpx
                clear c30 hx hp hpx hc2 hb2
                go_wp2_with fail
                go_region
                go_wp2
                go_roundw
                case rel =>
                  refine ⟨k + 1, by omega, by go_num, Lib.hid ?_, Lib.hid ?_, Lib.hid ?_⟩
                  · rw [HPX.out, show ((p * x : Nat) : Int) = (p : Int) * (x : Int) from Int.natCast_mul p x]
                    exact heap_setA (w := wr) (i := 1) (u := .int .i64 ((p : Int) * (x : Int))) HC.out
                  · exact (hf.out.drewN 1).keep m1 m2 1 _
                  · exact (below_drewN hbl.out 1).setCell (p := ⟨pc, 1, none⟩) HPC.out _
                case measure => simp [intOf]; omega
              · obtain rfl : k = 2 := by omega
                obtain ⟨Q, hQ⟩ : ∃ Q, Q = y0 * y1 := ⟨_, rfl⟩
                have hc2 := hc.out
                have hpr : prod ([y0, y1].take 2) = Q := by rw [hQ]; simp [prod]
                rw [hpr] at hc2
                rw [← hQ] at HVy HZP
                have c1 : wr.cell? ⟨pc, 0, none⟩ = some (.int .i64 (P : Int)) := by simp [World.cell?, hc2]
                have c2 : wr.cell? ⟨pc, 1, none⟩ = some (.int .i64 (Q : Int)) := by simp [World.cell?, hc2]
                have c3 : wr.frozen? ⟨pc, 1, none⟩ = false := by simp [World.frozen?, hc2]
                have HBf := Lib.hid (btd HB.out hbl.out)
                obtain ⟨c11, c12, c15, c16, c17, c18, -⟩ := HI1.out.below hbl.out
                clear hQ hc2 hpr hc hf hbl hk hk2
                by_cases hP0 : P = 0
                · have hQ1 : Q = 1 := HZP.out hP0
                  subst hP0 hQ1
                  have n3 : ¬ b + 1 = pc := by
                    have h1 := HPC.out
                    have h2 := HI1.out.lt
                    omega
                  have n4 : ¬ pc = b + 1 := fun h => n3 h.symm
                  go_wp2_with fail
                  refine bodyPost_ret (v := .tuple #[.agg #[.int .i64 0, .int .i64 1], .bool true]) (by simp [results, Try.results12, go_sem, c15, c16, c17, c18, n3, n4]) rfl ⟨by rw [HVy.out]; rfl, ?_⟩
                  exact ((HBf.out.setCell (p := ⟨pc, 1, none⟩) (Nat.le_trans HB.out.size HPC.out) _).setCell (p := ⟨b + 1, 0, none⟩) (by rw [HX.out]; exact Nat.le_succ _) _).setCell (p := ⟨b + 1, 1, none⟩) (by rw [HX.out]; exact Nat.le_succ _) _
                · have z0 : ((P : Int) == 0) = false := by rw [beq_eq_false_iff_ne]; omega
                  clear hP0
                  go_wp2
                  refine bodyPost_ret (v := .tuple #[.agg #[.int .i64 (P : Int), .int .i64 (Q : Int)], .bool true]) (by simp [results, Try.results12, go_sem, c15, c16, c17, c18]) rfl ⟨by rw [HVy.out], ?_⟩
                  exact (HBf.out.setCell (p := ⟨b + 1, 0, none⟩) (by rw [HX.out]; exact Nat.le_succ _) _).setCell (p := ⟨b + 1, 1, none⟩) (by rw [HX.out]; exact Nat.le_succ _) _
end Go.Proofs.Ytbehepeebffmoaa
