/-
  Go's stable sort: swapRange, rotate, insertionSort.
-/
import Derived.Test.YtllaahdbngjigaaDoorSortW
namespace Go.Proofs.YtllaahdbngjigaaDoor
open Go Go.RowKit
set_option linter.unusedVariables false
set_option linter.unusedSimpArgs false

def FV (bc : Nat) : Value := .func (.func 62) #[] #[.pointer (some ⟨bc, 0, none⟩)]

theorem get_some {xs : List Nat} {i : Nat} (h : i < xs.length) : ∃ x, xs[i]? = some x := ⟨xs[i], List.getElem?_eq_getElem h⟩
theorem i64_eq {z : Int} {n : Nat} (h : z = (n : Int)) (hb : n ≤ 9223372036854775807) : IntKind.i64.wrap z = (n : Int) := by subst h; exact IntWalk.i64_in _ (by omega)

set_option maxHeartbeats 1000000 in
theorem swap_any {bo bc br n : Nat} {rs xs : List Nat} {w : World} (h : Srt bo bc br n rs w xs) (a b c : Nat) (hab : a + c ≤ b) (hb : b + c ≤ n) :
    Calls Tryd.prog 140 #[.slice (some ⟨bo, 0, none⟩) n n, .int .i64 (a : Int), .int .i64 (b : Int), .int .i64 (c : Int), FV bc] w fun e w' =>
      e = .returned (.tuple #[]) ∧ Srt bo bc br n rs w' (swk xs a b c) ∧ Mvd bo w w' := by
  have H := Lib.hid h
  have hn := h.hn
  clear h
  unfold FV
  go_enter Tryd.func140, Tryd.ntmps140
  go_wp2
  go_loopw [10] (fun i wr => ∃ k : Nat, k ≤ c ∧ i = .int .i64 k ∧ Srt bo bc br n rs wr (swk xs a b k) ∧ Mvd bo w wr) (fun i _ => c - (intOf i).toNat)
  case atStart => exact ⟨0, Nat.zero_le _, rfl, H.out, Mvd.refl _ _⟩
  case round =>
    obtain ⟨k, hk, rfl, hs, hm⟩ := hrel
    by_cases hlt : k < c
    · obtain ⟨p, hp⟩ : ∃ p, p = a + k := ⟨_, rfl⟩
      obtain ⟨q, hq⟩ : ∃ q, q = b + k := ⟨_, rfl⟩
      have hl := hs.len
      obtain ⟨x, hx⟩ := get_some (xs := swk xs a b k) (i := p) (by omega)
      obtain ⟨y, hy⟩ := get_some (xs := swk xs a b k) (i := q) (by omega)
      have c1 := hs.cell hx
      have c2 := hs.cell hy
      have f1 := hs.free p
      have f2 := hs.free q
      have lx := hs.lt x (List.mem_of_getElem? hx)
      have ly := hs.lt y (List.mem_of_getElem? hy)
      have HE := Lib.hid (show swk xs a b (k + 1) = ((swk xs a b k).set p y).set q x by subst hp hq; exact swk_step hx hy)
      have m1 : IntKind.i64.wrap ((a : Int) + (k : Int)) = (p : Int) := i64_eq (by omega) (by omega)
      have m2 : IntKind.i64.wrap ((b : Int) + (k : Int)) = (q : Int) := i64_eq (by omega) (by omega)
      have l1 : (p : Int) < (n : Int) := by omega
      have l2 : (q : Int) < (n : Int) := by omega
      have n1 : ¬ p = q := by omega
      have n2 : ¬ q = p := by omega
      have HS := Lib.hid (And.intro hs (And.intro hm (And.intro lx ly)))
      have HN := Lib.hid (And.intro n1 hx)
      clear hp hq hl hx hy hs hm lx ly hab
      go_wp2_with fail
      go_region
      all_goals
        obtain ⟨hs, hm, lx, ly⟩ := HS.out
        have HR := Lib.hid (show Srt bo bc br n rs ((wr.setCell ⟨bo, p, none⟩ (.int .i64 (y : Int))).setCell ⟨bo, q, none⟩ (.int .i64 (x : Int))).drew (swk xs a b (k + 1)) ∧ Mvd bo w ((wr.setCell ⟨bo, p, none⟩ (.int .i64 (y : Int))).setCell ⟨bo, q, none⟩ (.int .i64 (x : Int))).drew from by
          rw [HE.out]; exact ⟨((hs.set p ly).set q lx).drew, ((hm.set _ _).set _ _).drew⟩)
        have HR' := Lib.hid (show Srt bo bc br n rs ((wr.setCell ⟨bo, q, none⟩ (.int .i64 (x : Int))).setCell ⟨bo, p, none⟩ (.int .i64 (y : Int))).drew (swk xs a b (k + 1)) ∧ Mvd bo w ((wr.setCell ⟨bo, q, none⟩ (.int .i64 (x : Int))).setCell ⟨bo, p, none⟩ (.int .i64 (y : Int))).drew from by
          rw [HE.out, List.set_comm _ _ n1]; exact ⟨((hs.set q lx).set p ly).drew, ((hm.set _ _).set _ _).drew⟩)
        clear hs hm lx ly m1 m2
        go_wp2
        go_roundw
        case rel => first | exact ⟨k + 1, by omega, by go_num, HR.out⟩ | exact ⟨k + 1, by omega, by go_num, HR'.out⟩
        case measure => simp [intOf]; omega
    · obtain rfl : k = c := by omega
      go_wp2
      go_end0
      exact ⟨rfl, hs, hm⟩

theorem swap_runs {bo bc br n : Nat} {rs : List Nat} {w : World} (A U M V Z : List Nat) (h : Srt bo bc br n rs w (A ++ U ++ M ++ V ++ Z)) (hl : U.length = V.length) (a b c : Nat) (ha : a = A.length) (hb : b = A.length + U.length + M.length) (hc : c = U.length) :
    Calls Tryd.prog 140 #[.slice (some ⟨bo, 0, none⟩) n n, .int .i64 (a : Int), .int .i64 (b : Int), .int .i64 (c : Int), FV bc] w fun e w' =>
      e = .returned (.tuple #[]) ∧ Srt bo bc br n rs w' (A ++ V ++ M ++ U ++ Z) ∧ Mvd bo w w' := by
  have hn := h.len
  simp only [List.length_append] at hn
  have e := swk_full A U M V Z hl
  subst ha hb hc
  have := swap_any h A.length (A.length + U.length + M.length) U.length (by omega) (by omega)
  rwa [e] at this

set_option maxHeartbeats 2000000 in
theorem rot_any {bo bc br n : Nat} {rs : List Nat} {w : World} (A U V Z : List Nat) (h : Srt bo bc br n rs w (A ++ U ++ V ++ Z)) (a m b : Nat) (ha : a = A.length) (hm : m = a + U.length) (hb : b = m + V.length) (hu : 0 < U.length) (hv : 0 < V.length) :
    Calls Tryd.prog 127 #[.slice (some ⟨bo, 0, none⟩) n n, .int .i64 (a : Int), .int .i64 (m : Int), .int .i64 (b : Int), FV bc] w fun e w' =>
      e = .returned (.tuple #[]) ∧ Srt bo bc br n rs w' (A ++ V ++ U ++ Z) ∧ Mvd bo w w' := by
  have hl := h.len
  simp only [List.length_append] at hl
  have hn := h.hn
  obtain ⟨i, hi⟩ : ∃ i, i = U.length := ⟨_, rfl⟩
  obtain ⟨j, hj⟩ : ∃ j, j = V.length := ⟨_, rfl⟩
  have m1 : IntKind.i64.wrap ((m : Int) - (a : Int)) = (i : Int) := i64_eq (by omega) (by omega)
  have m2 : IntKind.i64.wrap ((b : Int) - (m : Int)) = (j : Int) := i64_eq (by omega) (by omega)
  have HI := Lib.hid (And.intro hi hj)
  have H := Lib.hid h
  have HM := Lib.hid hm
  have HA := Lib.hid ha
  have hbn : b ≤ n := by omega
  have hmn : m ≤ 4096 := by omega
  clear hi hj h ha hb hm hl
  go_enter Tryd.func127, Tryd.ntmps127
  unfold FV
  go_wp2
  clear m1 m2
  go_loopw [10, 11] (fun vi vj wr => ∃ A' U' V' Z' : List Nat, vi = .int .i64 (U'.length : Nat) ∧ vj = .int .i64 (V'.length : Nat) ∧ 0 < U'.length ∧ 0 < V'.length ∧ A'.length + U'.length = m ∧ A' ++ V' ++ U' ++ Z' = A ++ V ++ U ++ Z ∧ Srt bo bc br n rs wr (A' ++ U' ++ V' ++ Z') ∧ Mvd bo w wr) (fun vi vj _ => (intOf vi).toNat + (intOf vj).toNat)
  case atStart => exact ⟨A, U, V, Z, by rw [HI.out.1], by rw [HI.out.2], hu, hv, by rw [HM.out, HA.out], rfl, H.out, Mvd.refl _ _⟩
  case round =>
    obtain ⟨A', U', V', Z', rfl, rfl, hu', hv', hm', he, hs, hmv⟩ := hrel
    have HE := Lib.hid he
    have HS := Lib.hid hs
    have HMV := Lib.hid hmv
    have hl' := hs.len
    simp only [List.length_append] at hl'
    obtain ⟨p, hp⟩ : ∃ p, p = A'.length := ⟨_, rfl⟩
    obtain ⟨x, hx⟩ : ∃ x, x = U'.length := ⟨_, rfl⟩
    obtain ⟨y, hy⟩ : ∃ y, y = V'.length := ⟨_, rfl⟩
    rw [← hx, ← hy]
    have m1 : IntKind.i64.wrap ((m : Int) - (x : Int)) = (p : Int) := i64_eq (by omega) (by omega)
    have hx0 : 0 < x := by omega
    have hy0 : 0 < y := by omega
    by_cases hxy : x = y
    · have g1 : ((x : Int) == (y : Int)) = true := by rw [beq_iff_eq]; omega
      have HC := Lib.hid (swap_runs A' U' [] V' Z' (w := wr) (by simpa using HS.out) (by omega) p m x hp (by simp; omega) hx)
      unfold FV at HC
      subst hxy
      clear he hs hmv hl' hx hy hp hm'
      go_wp2_with fail
      refine HC.out.mono ?_
      rintro e w2 ⟨rfl, hs2, hm2⟩
      have Q := Lib.hid (And.intro hs2 hm2)
      clear hs2 hm2
      go_wp2
      go_end0
      exact ⟨rfl, by have := Q.out.1; rw [← HE.out]; simpa using this, HMV.out.trans Q.out.2⟩
    · have g1 : ((x : Int) == (y : Int)) = false := by simp; omega
      have g2 : ((x : Int) != (y : Int)) = true := by simp; omega
      by_cases hgt : y < x
      · have d1 : decide (y < x) = true := by simpa using hgt
        have HC := Lib.hid (swap_runs A' (U'.take y) (U'.drop y) V' Z' (w := wr) (by rw [List.append_assoc A', List.take_append_drop]; exact HS.out) (by rw [List.length_take]; omega) p m y hp (by rw [List.length_take, List.length_drop]; omega) (by rw [List.length_take]; omega))
        have HL := Lib.hid (And.intro hx (And.intro hy (And.intro hp hm')))
        unfold FV at HC
        have m2 : IntKind.i64.wrap ((x : Int) - (y : Int)) = ((x - y : Nat) : Int) := i64_eq (by omega) (by omega)
        clear he hs hmv hl' hx hy hp hm' hu' hv'
        go_wp2_with fail
        refine HC.out.mono ?_
        rintro e w2 ⟨rfl, hs2, hm2⟩
        have Q := Lib.hid (And.intro hs2 hm2)
        clear hs2 hm2
        go_wp2
        go_roundw
        case rel =>
          obtain ⟨hx, hy, hp, hm'⟩ := HL.out
          refine ⟨A' ++ V', U'.drop y, U'.take y, Z', ?_, ?_, ?_, ?_, ?_, ?_, ?_, HMV.out.trans Q.out.2⟩
          · rw [List.length_drop, ← hx]
          · rw [List.length_take, ← hx, Nat.min_eq_left (by omega)]
          · rw [List.length_drop]; omega
          · rw [List.length_take]; omega
          · rw [List.length_append, List.length_drop]; omega
          · rw [← HE.out]
            have := List.take_append_drop y U'
            simp only [List.append_assoc]
            rw [← List.append_assoc (U'.take y), this]
          · simpa using Q.out.1
        case measure => simp [intOf]; omega
      · have d1 : decide (y < x) = false := by simpa using hgt
        have HC := Lib.hid (swap_runs A' U' (V'.take (y - x)) (V'.drop (y - x)) Z' (w := wr) (by rw [List.append_assoc (A' ++ U'), List.take_append_drop]; exact HS.out) (by rw [List.length_drop]; omega) p (m + y - x) x hp (by rw [List.length_take]; omega) hx)
        have HL := Lib.hid (And.intro hx (And.intro hy (And.intro hp hm')))
        unfold FV at HC
        have m2 : IntKind.i64.wrap ((y : Int) - (x : Int)) = ((y - x : Nat) : Int) := i64_eq (by omega) (by omega)
        have m3 : IntKind.i64.wrap ((m : Int) + (y : Int)) = (m : Int) + (y : Int) := IntWalk.i64_in _ (by omega)
        have m4 : IntKind.i64.wrap ((m : Int) + (y : Int) - (x : Int)) = ((m + y - x : Nat) : Int) := i64_eq (by omega) (by omega)
        clear he hs hmv hl' hx hy hp hm' hu' hv'
        go_wp2_with fail
        refine HC.out.mono ?_
        rintro e w2 ⟨rfl, hs2, hm2⟩
        have Q := Lib.hid (And.intro hs2 hm2)
        clear hs2 hm2
        go_wp2
        go_roundw
        case rel =>
          obtain ⟨hx, hy, hp, hm'⟩ := HL.out
          refine ⟨A', V'.drop (y - x), V'.take (y - x), U' ++ Z', ?_, ?_, ?_, ?_, ?_, ?_, ?_, HMV.out.trans Q.out.2⟩
          · rw [List.length_drop, ← hy, show y - (y - x) = x by omega]
          · rw [List.length_take, ← hy, Nat.min_eq_left (by omega)]
          · rw [List.length_drop]; omega
          · rw [List.length_take]; omega
          · rw [List.length_drop]; omega
          · rw [← HE.out, List.append_assoc A', List.take_append_drop]; simp
          · have := Q.out.1; simp only [List.append_assoc] at this ⊢; exact this
        case measure => simp [intOf]; omega
end Go.Proofs.YtllaahdbngjigaaDoor
