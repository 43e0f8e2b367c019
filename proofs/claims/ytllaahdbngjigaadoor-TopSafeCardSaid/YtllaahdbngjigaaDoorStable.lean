/-
  Go's stable sort: stableCmpFunc, SortStableFunc.
-/
import Derived.Test.YtllaahdbngjigaaDoorSymC
import Derived.Test.YtllaahdbngjigaaDoorSortQ
namespace Go.Proofs.YtllaahdbngjigaaDoor
open Go Go.RowKit
set_option linter.unusedVariables false
set_option linter.unusedSimpArgs false

theorem up_range {U V : List Nat} {a s t : Nat} (hU : U.Perm (List.range' a s)) (hV : V.Perm (List.range' (a + s) t)) : Up U V := fun x hx y hy => by
  have h1 := List.mem_range'_1.1 (hU.mem_iff.1 hx)
  have h2 := List.mem_range'_1.1 (hV.mem_iff.1 hy)
  omega

set_option maxHeartbeats 4000000 in
theorem stable_any {bo bc br n : Nat} {rs : List Nat} {w : World} (h : Srt bo bc br n rs w (List.range n)) :
    Calls Tryd.prog 89 #[.slice (some ⟨bo, 0, none⟩) n n, .int .i64 (n : Int), FV bc] w fun e w' =>
      e = .returned (.tuple #[]) ∧ ∃ ys, ys.Perm (List.range n) ∧ Srtd (keyOf rs) ys ∧ Srt bo bc br n rs w' ys ∧ Mvd bo w w' := by
  have hn := h.hn
  have H := Lib.hid h
  clear h
  go_enter Tryd.func89, Tryd.ntmps89
  unfold FV
  go_wp2
  go_loopw [7, 8] (fun i j wr => ∃ (c a b : Nat) (xs : List Nat), i = .int .i64 (a : Int) ∧ j = .int .i64 (b : Int) ∧ a = c * 20 ∧ b = a + 20 ∧ a ≤ n ∧ (∀ j, j < c → Gd (keyOf rs) n 20 j xs) ∧ xs.drop a = List.range' a (n - a) ∧ Srt bo bc br n rs wr xs ∧ Mvd bo w wr) (fun i _ _ => n - (intOf i).toNat)
  case atStart => exact ⟨0, 0, 20, List.range n, rfl, rfl, by omega, by omega, by omega, fun j hj => by omega, by simp [List.range_eq_range'], H.out, Mvd.refl _ _⟩
  case round =>
    obtain ⟨c, a, b, xs, rfl, rfl, ha, hb, han, hG, hR, hs, hmv⟩ := hrel
    have hl := hs.len
    have hx := split3 xs a b (by omega)
    have lA : (xs.take a).length = a := by rw [List.length_take]; omega
    by_cases hlt : b ≤ n
    · have hU : (xs.drop a).take (b - a) = List.range' a 20 := by rw [hR, show b - a = 20 by omega, show n - a = 20 + (n - a - 20) by omega, ← range_two, List.take_left' (by simp)]
      rw [hU] at hx
      have HC := Lib.hid (ins_any (w := wr) (xs.take a) (List.range' a 20) (xs.drop b) (by rw [hx]; exact hs) a b lA.symm (by simp; omega) (List.pairwise_lt_range'))
      have HST := Lib.hid (fun (W : List Nat) (hP : W.Perm (List.range' a 20)) (hS : Srtd (keyOf rs) W) => ph1_step (k := keyOf rs) (c := c) (W := W) hl ha (by omega) hG hR hP hS)
      have HB := Lib.hid hb
      have HA := Lib.hid ha
      have HM := Lib.hid hmv
      have hba : a < b := by omega
      have hbs : b ≤ a + 20 := by omega
      unfold FV at HC
      clear hU hx hs hmv hG hR hl lA hb ha
      go_wp2_with fail
      refine HC.out.mono ?_
      rintro e w2 ⟨rfl, W, p1, s1, hs2, hm2⟩
      have Q := Lib.hid (And.intro p1 (And.intro s1 (And.intro hs2 hm2)))
      clear p1 s1 hs2 hm2
      go_wp2
      go_roundw
      case rel =>
        obtain ⟨r1, r2, r3⟩ := HST.out W Q.out.1 Q.out.2.1
        have hb := HB.out
        subst hb
        exact ⟨c + 1, a + 20, a + 20 + 20, xs.take a ++ W ++ xs.drop (a + 20), rfl, by go_num, by have := HA.out; omega, rfl, hlt, r1, r2, Q.out.2.2.1, HM.out.trans Q.out.2.2.2⟩
      case measure => simp [intOf]; omega
    · have hU : (xs.drop a).take (n - a) = List.range' a (n - a) := by rw [hR, List.take_of_length_le (by simp)]
      have hx2 := split3 xs a n han
      rw [hU, List.drop_eq_nil_of_le (show xs.length ≤ n by omega)] at hx2
      have HC := Lib.hid (ins_any (w := wr) (xs.take a) (List.range' a (n - a)) [] (by rw [hx2]; exact hs) a n lA.symm (by simp; omega) (List.pairwise_lt_range'))
      have HST := Lib.hid (fun (W : List Nat) (hP : W.Perm (List.range' a (n - a))) (hS : Srtd (keyOf rs) W) => ph1_last (k := keyOf rs) (c := c) (W := W) hl ha han (by omega) hG hP hS)
      have HM := Lib.hid hmv
      unfold FV at HC
      obtain ⟨w0, hw0⟩ : ∃ w0 : World, w0 = wr := ⟨_, rfl⟩
      subst hw0
      clear hU hx hx2 hs hmv hG hR hl lA hb ha H
      go_wp2_with fail
      refine HC.out.mono ?_
      rintro e w2 ⟨rfl, W, p1, s1, hs2, hm2⟩
      have Q := Lib.hid (And.intro (HST.out W p1 s1) (And.intro hs2 (HM.out.trans hm2)))
      clear p1 s1 hs2 hm2 HC HST HM
      go_wp2_with fail
      go_loopw [6, 7, 8, 9] (fun i _ _ _ wr => ∃ (s : Nat) (xs : List Nat), i = .int .i64 (s : Int) ∧ 20 ≤ s ∧ s ≤ 8192 ∧ (∀ j, Gd (keyOf rs) n s j xs) ∧ Srt bo bc br n rs wr xs ∧ Mvd bo w wr) (fun i _ _ _ _ => n - (intOf i).toNat)
      case atStart => exact ⟨20, _, rfl, by omega, by omega, Q.out.1.1, Q.out.2.1, Q.out.2.2⟩
      case round =>
        clear Q
        obtain ⟨s, ys, rfl, hs20, hs8, hG, hs, hmv⟩ := hrel
        have hl := hs.len
        by_cases hsn : s < n
        · have m1 : IntKind.i64.wrap (2 * (s : Int)) = ((2 * s : Nat) : Int) := i64_eq (by omega) (by omega)
          have HG := Lib.hid hG
          have HS := Lib.hid hs
          have HM := Lib.hid hmv
          obtain ⟨w1, hw1⟩ : ∃ w1 : World, w1 = wr := ⟨_, rfl⟩
          subst hw1
          clear hG hs hmv hl
          go_wp2_with fail
          clear m1
          go_loopw [7, 8] (fun i j wr => ∃ (c a b : Nat) (xs : List Nat), i = .int .i64 (a : Int) ∧ j = .int .i64 (b : Int) ∧ Hid (a = c * (2 * s)) ∧ Hid (b = a + 2 * s) ∧ a ≤ n ∧ (∀ j, j < c → Gd (keyOf rs) n (2 * s) j xs) ∧ (∀ j, 2 * c ≤ j → Gd (keyOf rs) n s j xs) ∧ Srt bo bc br n rs wr xs ∧ Mvd bo w wr) (fun i _ _ => n - (intOf i).toNat)
          case atStart => exact ⟨0, 0, 2 * s, ys, rfl, by go_num, Lib.hid (by simp), Lib.hid (by simp), by omega, fun j hj => by omega, fun j _ => HG.out j, HS.out, HM.out⟩
          case round =>
            clear HG HS HM
            obtain ⟨c, a, b, xs, rfl, rfl, ha, hb, han, hD, hG, hs, hmv⟩ := hrel
            have hl := hs.len
            have lA : (xs.take a).length = a := by rw [List.length_take]; omega
            obtain ⟨mm, hmm⟩ : ∃ mm, mm = a + s := ⟨_, rfl⟩
            have hb' := hb.out
            have m1 : IntKind.i64.wrap (2 * (s : Int)) = ((2 * s : Nat) : Int) := i64_eq (by omega) (by omega)
            have m2 : IntKind.i64.wrap ((a : Int) + (s : Int)) = (mm : Int) := i64_eq (by omega) (by omega)
            have HMV := Lib.hid hmv
            by_cases hlt : b ≤ n
            · obtain ⟨U, V, lU, lV, hx, sU, sV, pU, pV⟩ := ph2_runs (k := keyOf rs) hl ha.out (by omega) hlt (by omega) (by omega) (.inl hb') hG
              have HC := Lib.hid (sym_all (bo := bo) (bc := bc) (br := br) (n := n) (rs := rs) (U.length + V.length + 1) (xs.take a) U V (xs.drop b) wr a mm b (by omega) (by rw [← hx]; exact hs) lA.symm (by omega) (by omega) (by omega) (by omega) sU sV (up_range pU pV))
              have HST := Lib.hid (fun (W : List Nat) (hP : W.Perm (U ++ V)) (hS : Srtd (keyOf rs) W) => ph2_step (k := keyOf rs) (c := c) (W := W) hl ha.out (by omega) hD hG pU (by rw [show b - (a + s) = s by omega] at pV; exact pV) hP hS)
              have m3 : IntKind.i64.wrap ((b : Int) + ((2 * s : Nat) : Int)) = ((b + 2 * s : Nat) : Int) := i64_eq (by omega) (by omega)
              have hab : a < b := by omega
              unfold FV at HC
              clear lU lV hx sU sV pU pV hD hG hs hmv hl lA hmm hb'
              go_wp2_with fail
              refine HC.out.mono ?_
              rintro e w2 ⟨rfl, W, p1, s1, hs2, hm2⟩
              have Q := Lib.hid (And.intro (HST.out W p1 s1) (And.intro hs2 (HMV.out.trans hm2)))
              clear p1 s1 hs2 hm2 HC HST HMV
              go_wp2
              go_roundw
              case rel =>
                obtain ⟨⟨r1, r2, r3⟩, r4, r5⟩ := Q.out
                have e := hb.out
                rw [← e] at r1 r2
                refine ⟨c + 1, b, b + 2 * s, _, rfl, by go_num, Lib.hid (by rw [Nat.succ_mul, ← ha.out]; exact e), Lib.hid rfl, hlt, r1, r2, r4, r5⟩
              case measure => simp [intOf]; omega
            · by_cases hmn : mm < n
              · obtain ⟨U, V, lU, lV, hx, sU, sV, pU, pV⟩ := ph2_runs (k := keyOf rs) (b := n) hl ha.out (by omega) (Nat.le_refl _) (by omega) (by omega) (.inr rfl) hG
                have HC := Lib.hid (sym_all (bo := bo) (bc := bc) (br := br) (n := n) (rs := rs) (U.length + V.length + 1) (xs.take a) U V (xs.drop n) wr a mm n (by omega) (by rw [← hx]; exact hs) lA.symm (by omega) (by omega) (by omega) (by omega) sU sV (up_range pU pV))
                have HST := Lib.hid (fun (W : List Nat) (hP : W.Perm (U ++ V)) (hS : Srtd (keyOf rs) W) => ph2_last (k := keyOf rs) (c := c) (W := W) hl ha.out (by omega) (by omega) hD pU pV hP hS)
                have m4 : IntKind.i64.wrap ((s : Int) * 2) = ((2 * s : Nat) : Int) := i64_eq (by omega) (by omega)
                have hsn2 : s ≤ 4096 := by omega
                unfold FV at HC
                clear lU lV hx sU sV pU pV hD hG hs hmv hl lA hmm hb' m1
                go_wp2_with fail
                refine HC.out.mono ?_
                rintro e w2 ⟨rfl, W, p1, s1, hs2, hm2⟩
                have Q := Lib.hid (And.intro (HST.out W p1 s1) (And.intro hs2 (HMV.out.trans hm2)))
                clear p1 s1 hs2 hm2 HC HST HMV
                go_wp2
                go_roundw
                case rel => exact ⟨2 * s, _, by go_num, by omega, by omega, Q.out.1.1, Q.out.2.1, Q.out.2.2⟩
                case measure => simp [intOf]; omega
              · have HST := Lib.hid (ph2_rest (k := keyOf rs) hl ha.out han (by omega) hD hG)
                have HS := Lib.hid hs
                have m4 : IntKind.i64.wrap ((s : Int) * 2) = ((2 * s : Nat) : Int) := i64_eq (by omega) (by omega)
                have hsn2 : s ≤ 4096 := by omega
                clear hD hG hs hmv hl lA hmm hb' m1
                go_wp2
                go_roundw
                case rel => exact ⟨2 * s, _, by go_num, by omega, by omega, HST.out, HS.out, HMV.out⟩
                case measure => simp [intOf]; omega
        · have HR := Lib.hid (ph_end hl (by omega) (hG 0))
          have HS := Lib.hid (And.intro hs hmv)
          clear hl hG hs hmv
          go_wp2
          go_end0
          exact ⟨rfl, ys, HR.out.2, HR.out.1, HS.out.1, HS.out.2⟩

theorem sort_any {bo bc br n : Nat} {rs : List Nat} {w : World} (h : Srt bo bc br n rs w (List.range n)) :
    Calls Tryd.prog 61 #[.slice (some ⟨bo, 0, none⟩) n n, FV bc] w fun e w' =>
      e = .returned (.tuple #[]) ∧ ∃ ys, ys.Perm (List.range n) ∧ Srtd (keyOf rs) ys ∧ Srt bo bc br n rs w' ys ∧ Mvd bo w w' := by
  have HC := Lib.hid (stable_any h)
  clear h
  unfold FV at HC ⊢
  go_enter Tryd.func61, Tryd.ntmps61
  go_wp2_with fail
  refine HC.out.mono ?_
  rintro e w2 ⟨rfl, ys, p1, s1, hs2, hm2⟩
  have Q := Lib.hid (And.intro p1 (And.intro s1 (And.intro hs2 hm2)))
  clear p1 s1 hs2 hm2
  go_wp2
  go_end0
  exact ⟨rfl, ys, Q.out⟩
end Go.Proofs.YtllaahdbngjigaaDoor
