/-
  Go's stable sort: insertionSort.
-/
import Derived.Test.YtllaahdbngjigaaDoorSortX
namespace Go.Proofs.YtllaahdbngjigaaDoor
open Go Go.RowKit
set_option linter.unusedVariables false
set_option linter.unusedSimpArgs false

theorem cv_lt {rs : List Nat} {x y : Nat} (h : keyOf rs y < keyOf rs x) : decide (cv rs x y < 0) = true := by unfold cv; rw [if_pos h]; rfl
theorem cv_ge {rs : List Nat} {x y : Nat} (h : ¬ keyOf rs y < keyOf rs x) : decide (cv rs x y < 0) = false := by
  unfold cv; rw [if_neg h]; split <;> rfl

set_option maxHeartbeats 2000000 in
theorem ins_some {bo bc br n : Nat} {rs : List Nat} {w : World} (A Z : List Nat) (u : Nat) (U : List Nat) (h : Srt bo bc br n rs w (A ++ (u :: U) ++ Z)) (a b : Nat) (ha : a = A.length) (hb : b = a + (u :: U).length) (hup : (u :: U).Pairwise (· < ·)) :
    Calls Tryd.prog 107 #[.slice (some ⟨bo, 0, none⟩) n n, .int .i64 (a : Int), .int .i64 (b : Int), FV bc] w fun e w' =>
      e = .returned (.tuple #[]) ∧ ∃ W, W.Perm (u :: U) ∧ Srtd (keyOf rs) W ∧ Srt bo bc br n rs w' (A ++ W ++ Z) ∧ Mvd bo w w' := by
  have hl := h.len
  simp only [List.length_append] at hl
  have hn := h.hn
  have H := Lib.hid h
  have HA := Lib.hid ha
  have HB := Lib.hid hb
  have HUP := Lib.hid hup
  have hbn : b ≤ n := by omega
  have hab : a < b := by rw [hb]; simp
  clear h ha hb hup hl
  have m1 : IntKind.i64.wrap ((a : Int) + 1) = ((a + 1 : Nat) : Int) := i64_eq (by omega) (by omega)
  go_enter Tryd.func107, Tryd.ntmps107
  unfold FV
  go_wp2
  clear m1
  go_loopw [8] (fun i wr => ∃ (q : Nat) (U1 T S : List Nat), i = .int .i64 (q : Nat) ∧ q = a + S.length ∧ u :: U = U1 ++ T ∧ S.Perm U1 ∧ Srtd (keyOf rs) S ∧ 0 < S.length ∧ Srt bo bc br n rs wr (A ++ S ++ T ++ Z) ∧ Mvd bo w wr) (fun i _ => b - (intOf i).toNat)
  case atStart => exact ⟨a + 1, [u], U, [u], by go_num, rfl, rfl, List.Perm.refl _, List.pairwise_singleton _ _, by simp, by simpa using H.out, Mvd.refl _ _⟩
  case round =>
    obtain ⟨q, U1, T, S, rfl, hq, hU, hP, hS, hS0, hs, hmv⟩ := hrel
    have hb := HB.out
    have hA := HA.out
    have hlen : (u :: U).length = S.length + T.length := by rw [hU, List.length_append, hP.length_eq]
    cases T with
    | nil =>
      have d1 : decide (q < b) = false := by simp only [List.length_cons, List.length_nil] at hlen hb; rw [decide_eq_false_iff_not]; omega
      have Q := Lib.hid (And.intro hU (And.intro hP (And.intro hS (And.intro hs hmv))))
      clear hU hP hS hs hmv hb hA hlen hq hab
      go_wp2
      go_end0
      obtain ⟨hU, hP, hS, hs, hmv⟩ := Q.out
      exact ⟨rfl, S, by rw [hU]; simpa using hP, hS, by simpa using hs, hmv⟩
    | cons x T =>
      simp only [List.length_cons] at hlen hb
      have d1 : decide (q < b) = true := by rw [decide_eq_true_iff]; omega
      have hqb : q < b := by omega
      have hlt : ∀ y ∈ S, y < x := fun y hy => by
        have h1 := HUP.out
        rw [hU] at h1
        exact (List.pairwise_append.1 h1).2.2 y (hP.mem_iff.1 hy) x (by simp)
      have Q := Lib.hid (And.intro hU (And.intro hP (And.intro hS (And.intro hq (And.intro hA hlt)))))
      have HS := Lib.hid (And.intro hs hmv)
      obtain ⟨wo, hwo⟩ : ∃ wo : World, wo = wr := ⟨_, rfl⟩
      subst hwo
      clear hU hP hS hs hmv hb hA hlen hlt hS0 hq
      -- the outer round's end
      have OUT := Lib.hid (fun (S1 S2 : List Nat) (w3 : World) (e : S = S1 ++ S2) (h1 : ∀ z ∈ S1, Lx (keyOf rs) z x) (h2 : ∀ z ∈ S2, Lx (keyOf rs) x z) (h3 : Srt bo bc br n rs w3 (A ++ (S1 ++ x :: S2) ++ T ++ Z)) (h4 : Mvd bo w w3) =>
        show ∃ (q' : Nat) (U1 T S : List Nat), Value.int .i64 ((q + 1 : Nat) : Int) = .int .i64 (q' : Nat) ∧ q' = a + S.length ∧ u :: U = U1 ++ T ∧ S.Perm U1 ∧ Srtd (keyOf rs) S ∧ 0 < S.length ∧ Srt bo bc br n rs w3 (A ++ S ++ T ++ Z) ∧ Mvd bo w w3 from by
          obtain ⟨hU, hP, hS, hq, hA, hlt⟩ := Q.out
          subst e
          refine ⟨q + 1, U1 ++ [x], T, S1 ++ x :: S2, rfl, by simp at hq ⊢; omega, by rw [hU]; simp, ?_, srtd_put hS h1 h2, by simp only [List.length_append, List.length_cons]; omega, h3, h4⟩
          refine List.Perm.trans ?_ (hP.append_right [x])
          rw [List.append_assoc]
          exact List.Perm.append_left _ (List.perm_append_comm (l₁ := [x])))
      go_wp2_with fail
      go_loopw [9] (fun j wr => ∃ (p : Nat) (S1 S2 : List Nat), j = .int .i64 (p : Nat) ∧ p = a + S1.length ∧ S = S1 ++ S2 ∧ (∀ z ∈ S2, Lx (keyOf rs) x z) ∧ Srt bo bc br n rs wr (A ++ (S1 ++ x :: S2) ++ T ++ Z) ∧ Mvd bo w wr) (fun j _ => (intOf j).toNat)
      case atStart => exact ⟨q, S, [], rfl, Q.out.2.2.2.1, by simp, by simp, by simpa using HS.out.1, HS.out.2⟩
      case round =>
        obtain ⟨p, S1, S2, rfl, hp, hS, h2, hs, hmv⟩ := hrel
        have hl := hs.len
        simp only [List.length_append, List.length_cons] at hl
        have hA := HA.out
        rcases List.eq_nil_or_concat S1 with rfl | ⟨S1', y, e1⟩
        · -- at the beginning
          simp only [List.length_nil, Nat.add_zero] at hp
          subst hp
          have HR := Lib.hid (fun k => OUT.out [] S2 (wr.drewN k) hS (by simp) h2 (hs.drewN k) (hmv.drewN k))
          have d2 : decide (p < p) = false := by simp
          clear hs hmv hl hA hS h2 Q HS OUT H HA HB HUP
          go_wp2_with fail
          go_quiet (fail)
          go_wp2
          go_roundw
          case rel => obtain ⟨q', U1, T, S, e, r⟩ := HR.out _; exact ⟨q', U1, T, S, (by go_num : Value.int .i64 ((q : Int) + 1) = .int .i64 ((q + 1 : Nat) : Int)).trans e, r⟩
          case measure => simp [intOf]; omega
        · rw [List.concat_eq_append] at e1
          obtain ⟨p', hp'⟩ : ∃ p', p' = a + S1'.length := ⟨_, rfl⟩
          have hpp : p = p' + 1 := by rw [hp, e1]; simp; omega
          have hy : y ∈ S := by rw [hS, e1]; simp
          have hyx := Q.out.2.2.2.2.2 y hy
          have e2 : A ++ (S1 ++ x :: S2) ++ T ++ Z = (A ++ S1') ++ y :: x :: (S2 ++ T ++ Z) := by rw [e1]; simp
          have c1 : wr.cell? ⟨bo, p, none⟩ = some (.int .i64 (x : Int)) := hs.cell (by rw [e2, hpp, show A ++ S1' ++ y :: x :: (S2 ++ T ++ Z) = (A ++ S1' ++ [y]) ++ x :: (S2 ++ T ++ Z) by simp]; exact get_mid _ _ _ _ (by simp; omega))
          have c2 : wr.cell? ⟨bo, p', none⟩ = some (.int .i64 (y : Int)) := hs.cell (by rw [e2]; exact get_mid _ _ _ _ (by simp; omega))
          have f1 := hs.free p
          have f2 := hs.free p'
          have lx : x < n := hs.lt x (by simp)
          have ly : y < n := hs.lt y (by rw [e2]; simp)
          have HC := Lib.hid (fun k => cmp_any (hs.drewN k) x y lx ly)
          have hl2 := hs.len
          rw [e2] at hl2
          simp only [List.length_append, List.length_cons] at hl2
          have m1 : IntKind.i64.wrap ((p : Int) - 1) = (p' : Int) := i64_eq (by omega) (by omega)
          have z0 : (0 : Int) ≤ (p : Int) := by omega
          have l1 : (p : Int) < (n : Int) := by omega
          have l2 : (p' : Int) < (n : Int) := by omega
          have d2 : decide (a < p) = true := by rw [decide_eq_true_iff]; omega
          have n1 : ¬ p = p' := by omega
          have n2 : ¬ p' = p := by omega
          have lpp : p' < p := by omega
          by_cases hk : keyOf rs y < keyOf rs x
          · have d3 := cv_lt hk
            have HX := Lib.hid (fun (w3 : World) (h3 : Srt bo bc br n rs w3 ((A ++ S1') ++ x :: y :: (S2 ++ T ++ Z))) (h4 : Mvd bo w w3) =>
              show ∃ (p : Nat) (S1 S2 : List Nat), Value.int .i64 (p' : Int) = .int .i64 (p : Nat) ∧ p = a + S1.length ∧ S = S1 ++ S2 ∧ (∀ z ∈ S2, Lx (keyOf rs) x z) ∧ Srt bo bc br n rs w3 (A ++ (S1 ++ x :: S2) ++ T ++ Z) ∧ Mvd bo w w3 from
                ⟨p', S1', y :: S2, rfl, hp', by rw [hS, e1]; simp, fun z hz => (List.mem_cons.1 hz).elim (fun e => e ▸ .inl hk) (h2 z), by simpa using h3, h4⟩)
            have HS2 := Lib.hid (show Srt bo bc br n rs wr ((A ++ S1') ++ y :: x :: (S2 ++ T ++ Z)) by rw [← e2]; exact hs)
            have HM2 := Lib.hid hmv
            have HP := Lib.hid (show p' = (A ++ S1').length ∧ p = p' + 1 by simp; omega)
            clear hs hmv hl hA hS h2 Q HS OUT H HA HB HUP hp hp' hpp hy hyx e2 e1 hl2 hk
            generalize cv rs x y = v at *
            go_wp2_with fail
            go_quiet ((go_at_call 62; exact Calls.quiet_of (HC.out _)))
            go_wp2_with fail
            go_region
            all_goals
              have HR1 := Lib.hid (fun k => HX.out (((wr.drewN k).setCell ⟨bo, p, none⟩ (.int .i64 (y : Int))).setCell ⟨bo, p', none⟩ (.int .i64 (x : Int))) (by
                have := ((HS2.out.drewN k).set p ly).set p' lx
                rw [HP.out.2, swap_mid _ _ _ _ _ HP.out.1] at this
                rw [HP.out.2]; exact this) (((HM2.out.drewN k).set _ _).set _ _))
              have HR2 := Lib.hid (fun k => HX.out (((wr.drewN k).setCell ⟨bo, p', none⟩ (.int .i64 (x : Int))).setCell ⟨bo, p, none⟩ (.int .i64 (y : Int))) (by
                have := ((HS2.out.drewN k).set p' lx).set p ly
                rw [HP.out.2, swap_mid' _ _ _ _ _ HP.out.1] at this
                rw [HP.out.2]; exact this) (((HM2.out.drewN k).set _ _).set _ _))
              go_wp2
              refine ⟨?_, ?_⟩
              · first | exact HR1.out _ | exact HR2.out _
              · simp [intOf]; omega
          · have d3 := cv_ge hk
            have HR := Lib.hid (fun k => OUT.out S1 S2 (wr.drewN k) hS (by rw [e1]; exact last_all (k := keyOf rs) (by have := Q.out.2.2.1; rw [hS, e1] at this; exact (List.pairwise_append.1 this).1) (Lx.of_not hyx (by omega))) h2 (hs.drewN k) (hmv.drewN k))
            clear hs hmv hl hA hS h2 Q HS OUT H HA HB HUP hp hp' hpp hy hyx e2 e1 hl2 hk
            generalize cv rs x y = v at *
            go_wp2_with fail
            go_quiet ((go_at_call 62; exact Calls.quiet_of (HC.out _)))
            go_wp2
            go_roundw
            case rel => obtain ⟨q', U1, T, S, e, r⟩ := HR.out _; exact ⟨q', U1, T, S, (by go_num : Value.int .i64 ((q : Int) + 1) = .int .i64 ((q + 1 : Nat) : Int)).trans e, r⟩
            case measure => simp [intOf]; omega

theorem ins_any {bo bc br n : Nat} {rs : List Nat} {w : World} (A U Z : List Nat) (h : Srt bo bc br n rs w (A ++ U ++ Z)) (a b : Nat) (ha : a = A.length) (hb : b = a + U.length) (hup : U.Pairwise (· < ·)) :
    Calls Tryd.prog 107 #[.slice (some ⟨bo, 0, none⟩) n n, .int .i64 (a : Int), .int .i64 (b : Int), FV bc] w fun e w' =>
      e = .returned (.tuple #[]) ∧ ∃ W, W.Perm U ∧ Srtd (keyOf rs) W ∧ Srt bo bc br n rs w' (A ++ W ++ Z) ∧ Mvd bo w w' := by
  cases U with
  | cons u U => exact ins_some A Z u U h a b ha hb hup
  | nil =>
    have hl := h.len
    simp only [List.length_append, List.length_nil] at hl hb
    have hn := h.hn
    have m1 : IntKind.i64.wrap ((a : Int) + 1) = ((a + 1 : Nat) : Int) := i64_eq (by omega) (by omega)
    have H := Lib.hid h
    have d1 : decide ((a + 1 : Nat) < b) = false := by rw [decide_eq_false_iff_not]; omega
    obtain rfl : b = a := by omega
    clear h ha hb hup hl
    go_enter Tryd.func107, Tryd.ntmps107
    unfold FV
    go_wp2
    go_loopw [8] (fun i wr => i = .int .i64 ((b + 1 : Nat) : Int) ∧ wr = w) (fun _ _ => 0)
    case atStart => exact ⟨by go_num, rfl⟩
    case round =>
      obtain ⟨rfl, rfl⟩ := hrel
      go_wp2
      go_end0
      exact ⟨rfl, [], List.Perm.refl _, List.Pairwise.nil, H.out, Mvd.refl _ _⟩
end Go.Proofs.YtllaahdbngjigaaDoor
