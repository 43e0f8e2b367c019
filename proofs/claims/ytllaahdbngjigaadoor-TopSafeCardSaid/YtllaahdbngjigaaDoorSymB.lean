/-
  Go's stable sort: symMerge, of a last run of one.
-/
import Derived.Test.YtllaahdbngjigaaDoorSymA
namespace Go.Proofs.YtllaahdbngjigaaDoor
open Go Go.RowKit
set_option linter.unusedVariables false
set_option linter.unusedSimpArgs false

set_option maxRecDepth 100000 in
set_option maxHeartbeats 4000000 in
theorem sym_last {bo bc br n : Nat} {rs : List Nat} {w : World} (A U Z : List Nat) (v : Nat) (h : Srt bo bc br n rs w (A ++ (U ++ [v]) ++ Z)) (a m b : Nat) (ha : a = A.length) (hm : m = a + U.length) (hb : b = m + 1) (hu : 2 ≤ U.length)
    (hU : Srtd (keyOf rs) U) (hup : ∀ u ∈ U, u < v) :
    Calls Tryd.prog 108 #[.slice (some ⟨bo, 0, none⟩) n n, .int .i64 (a : Int), .int .i64 (m : Int), .int .i64 (b : Int), FV bc] w fun e w' =>
      e = .returned (.tuple #[]) ∧ ∃ W, W.Perm (U ++ [v]) ∧ Srtd (keyOf rs) W ∧ Srt bo bc br n rs w' (A ++ W ++ Z) ∧ Mvd bo w w' := by
  have hl := h.len
  simp only [List.length_append, List.length_cons] at hl
  have hn := h.hn
  have H := Lib.hid h
  have HA := Lib.hid (And.intro ha (And.intro hm hb))
  have HU := Lib.hid hU
  have HUP := Lib.hid hup
  have hbn : b ≤ n := by omega
  have hmb : m < b := by omega
  have ham : a + 2 ≤ m := by omega
  have m0 : IntKind.i64.wrap ((m : Int) - (a : Int)) = ((m - a : Nat) : Int) := i64_eq (by omega) (by omega)
  have g0 : (((m - a : Nat) : Int) == 1) = false := by rw [beq_eq_false_iff_ne]; omega
  have m1 : IntKind.i64.wrap ((b : Int) - (m : Int)) = 1 := i64_eq (n := 1) (by omega) (by omega)
  clear h ha hb hm hup hl hU hu
  go_enter Tryd.func108, Tryd.ntmps108
  unfold FV
  go_wp2
  clear m1 m0 g0
  go_loopw [14, 15] (fun i j wr => ∃ p q : Nat, i = .int .i64 (p : Int) ∧ j = .int .i64 (q : Int) ∧ a ≤ p ∧ p ≤ q ∧ q ≤ m ∧ (∀ z ∈ U.take (p - a), Lx (keyOf rs) z v) ∧ (∀ z ∈ U.drop (q - a), Lx (keyOf rs) v z) ∧ Srt bo bc br n rs wr (A ++ (U ++ [v]) ++ Z) ∧ Mvd bo w wr) (fun i j _ => (intOf j).toNat - (intOf i).toNat)
  case atStart => exact ⟨a, m, rfl, rfl, Nat.le_refl _, by omega, Nat.le_refl _, by simp, by rw [show m - a = U.length by have := HA.out; omega]; simp, H.out, Mvd.refl _ _⟩
  case round =>
    obtain ⟨p, q, rfl, rfl, hp, hpq, hq, h1, h2, hs, hmv⟩ := hrel
    have H1 := Lib.hid h1
    have H2 := Lib.hid h2
    have HM := Lib.hid hmv
    clear h1 h2 hmv
    by_cases hlt : p < q
    · obtain ⟨g, hg⟩ : ∃ g, g = (p + q) / 2 := ⟨_, rfl⟩
      have m2 : IntKind.i64.wrap ((p : Int) + (q : Int)) = (p : Int) + (q : Int) := IntWalk.i64_in _ (by omega)
      have hgp : p ≤ g := by omega
      have hgq : g < q := by omega
      have m3 : ((p : Int) + (q : Int)) / 2 = (g : Int) := by omega
      obtain ⟨hA, hM, hB⟩ := HA.out
      obtain ⟨u, hv⟩ := get_some (xs := U) (i := g - a) (by omega)
      have hvm : u ∈ U := List.mem_of_getElem? hv
      have huv := HUP.out u hvm
      have c1 : wr.cell? ⟨bo, g, none⟩ = some (.int .i64 (u : Int)) := hs.cell (by
        rw [List.getElem?_append_left (by simp; omega), List.getElem?_append_right (by omega), List.getElem?_append_left (by omega), ← hA]; exact hv)
      have c2 : wr.cell? ⟨bo, m, none⟩ = some (.int .i64 (v : Int)) := hs.cell (by rw [show A ++ (U ++ [v]) ++ Z = (A ++ U) ++ v :: Z by simp]; exact get_mid _ _ _ _ (by simp; omega))
      have lu : u < n := hs.lt u (by simp [hvm])
      have lv : v < n := hs.lt v (by simp)
      have HC := Lib.hid (fun k => cmp_any (hs.drewN k) v u lv lu)
      have HS := Lib.hid hs
      have l1 : (g : Int) < (n : Int) := by omega
      have l2 : (m : Int) < (n : Int) := by omega
      by_cases hk : keyOf rs u < keyOf rs v
      · have d3 := cv_lt hk
        have HV := Lib.hid (bs_down HU.out hv (.inl hk))
        clear hA hM hB hv hvm huv hs hg H2 hk
        generalize cv rs v u = x at *
        go_wp2_with fail
        go_quiet ((go_at_call 62; exact Calls.quiet_of (HC.out _)))
        clear m2 m3
        go_wp2
        go_roundw
        case rel => exact ⟨p, g, rfl, rfl, hp, hgp, by omega, H1.out, HV.out, HS.out.drewN _, HM.out.drewN _⟩
        case measure => simp [intOf]; omega
      · have d3 := cv_ge hk
        have HV := Lib.hid (show ∀ z ∈ U.take (g + 1 - a), Lx (keyOf rs) z v by rw [show g + 1 - a = (g - a) + 1 by omega]; exact bs_up HU.out hv (Lx.of_not huv hk))
        clear hA hM hB hv hvm huv hs hg H1 hk
        generalize cv rs v u = x at *
        go_wp2_with fail
        go_quiet ((go_at_call 62; exact Calls.quiet_of (HC.out _)))
        clear m2 m3
        go_wp2
        go_roundw
        case rel => exact ⟨g + 1, q, by go_num, rfl, by omega, by omega, hq, HV.out, H2.out, HS.out.drewN _, HM.out.drewN _⟩
        case measure => simp [intOf]; omega
    · obtain rfl : q = p := by omega
      have HS := Lib.hid hs
      obtain ⟨wo, hwo⟩ : ∃ wo : World, wo = wr := ⟨_, rfl⟩
      subst hwo
      clear hs
      go_wp2_with fail
      go_loopw [17] (fun i wr => ∃ t : Nat, i = .int .i64 ((a + t : Nat) : Int) ∧ q ≤ a + t ∧ a + t ≤ m ∧ Srt bo bc br n rs wr (A ++ (U.take t ++ v :: U.drop t) ++ Z) ∧ Mvd bo w wr) (fun i _ => (intOf i).toNat)
      case atStart =>
        obtain ⟨hA, hM, hB⟩ := HA.out
        exact ⟨m - a, by rw [show a + (m - a) = m by omega], by omega, by omega, by rw [show m - a = U.length by omega]; simpa using HS.out, HM.out⟩
      case round =>
        obtain ⟨t, rfl, ht, htm, hs, hmv⟩ := hrel
        obtain ⟨hA, hM, hB⟩ := HA.out
        obtain ⟨k, hk⟩ : ∃ k, k = a + t := ⟨_, rfl⟩
        rw [← hk]
        by_cases hlt2 : q < k
        · have d1 : decide (q < k) = true := by rw [decide_eq_true_iff]; omega
          obtain ⟨s, hs0⟩ : ∃ s, t = s + 1 := ⟨t - 1, by omega⟩
          obtain ⟨u, hv⟩ := get_some (xs := U) (i := s) (by omega)
          have e0 : U.drop s = u :: U.drop t := by obtain ⟨h1, h2⟩ := List.getElem?_eq_some_iff.1 hv; rw [List.drop_eq_getElem_cons h1, h2, hs0]
          have e1 : U.take t = U.take s ++ [u] := by obtain ⟨h1, h2⟩ := List.getElem?_eq_some_iff.1 hv; rw [hs0, List.take_succ_eq_append_getElem h1, h2]
          have e2 : A ++ (U.take t ++ v :: U.drop t) ++ Z = (A ++ U.take s) ++ u :: v :: (U.drop t ++ Z) := by rw [e1]; simp
          have e3 : A ++ (U.take s ++ v :: U.drop s) ++ Z = (A ++ U.take s) ++ v :: u :: (U.drop t ++ Z) := by rw [e0]; simp
          obtain ⟨j, hj⟩ : ∃ j, k = j + 1 := ⟨k - 1, by omega⟩
          have hkl : j = (A ++ U.take s).length := by simp; omega
          have c1 : wr.cell? ⟨bo, j, none⟩ = some (.int .i64 (u : Int)) := hs.cell (by rw [e2]; exact get_mid _ _ _ _ hkl)
          have c2 : wr.cell? ⟨bo, k, none⟩ = some (.int .i64 (v : Int)) := hs.cell (by rw [e2, show A ++ U.take s ++ u :: v :: (U.drop t ++ Z) = (A ++ U.take s ++ [u]) ++ v :: (U.drop t ++ Z) by simp]; exact get_mid _ _ _ _ (by simp at hkl ⊢; omega))
          have f1 := hs.free k
          have f2 := hs.free j
          have lv : v < n := hs.lt v (by simp)
          have lu : u < n := hs.lt u (by rw [e2]; simp)
          have m5 : IntKind.i64.wrap ((k : Int) - 1) = (j : Int) := i64_eq (by omega) (by omega)
          have l1 : (k : Int) < (n : Int) := by omega
          have l2 : (j : Int) < (n : Int) := by omega
          have n1 : ¬ k = j := by omega
          have n2 : ¬ j = k := by omega
          have HX := Lib.hid (fun (w3 : World) (h3 : Srt bo bc br n rs w3 ((A ++ U.take s) ++ v :: u :: (U.drop t ++ Z))) (h4 : Mvd bo w w3) =>
            show ∃ t : Nat, Value.int .i64 (j : Int) = .int .i64 ((a + t : Nat) : Int) ∧ q ≤ a + t ∧ a + t ≤ m ∧ Srt bo bc br n rs w3 (A ++ (U.take t ++ v :: U.drop t) ++ Z) ∧ Mvd bo w w3 from
              ⟨s, by rw [show j = a + s by omega], by omega, by omega, by rw [e3]; exact h3, h4⟩)
          have HS2 := Lib.hid (show Srt bo bc br n rs wr ((A ++ U.take s) ++ u :: v :: (U.drop t ++ Z)) by rw [← e2]; exact hs)
          have HM2 := Lib.hid hmv
          have HP := Lib.hid (And.intro hkl hj)
          clear hs hmv hA hM hB e0 e1 e2 e3 hv hkl hj hk HS hs0
          go_wp2_with fail
          go_region
          all_goals
            have HR1 := Lib.hid (HX.out ((wr.setCell ⟨bo, k, none⟩ (.int .i64 (u : Int))).setCell ⟨bo, j, none⟩ (.int .i64 (v : Int))).drew (by
              have := (HS2.out.set k lu).set j lv
              rw [HP.out.2, swap_mid _ _ _ _ _ HP.out.1] at this
              rw [HP.out.2]; exact this.drew) ((HM2.out.set _ _).set _ _).drew)
            have HR2 := Lib.hid (HX.out ((wr.setCell ⟨bo, j, none⟩ (.int .i64 (v : Int))).setCell ⟨bo, k, none⟩ (.int .i64 (u : Int))).drew (by
              have := (HS2.out.set j lv).set k lu
              rw [HP.out.2, swap_mid' _ _ _ _ _ HP.out.1] at this
              rw [HP.out.2]; exact this.drew) ((HM2.out.set _ _).set _ _).drew)
            go_wp2
            refine ⟨?_, ?_⟩
            · first | exact HR1.out | exact HR2.out
            · have hkj := HP.out.2
              simp [intOf]; omega
        · have d1 : decide (q < k) = false := by rw [decide_eq_false_iff_not]; omega
          have ht2 : t = q - a := by omega
          have HR := Lib.hid (show ∃ W, W.Perm (U ++ [v]) ∧ Srtd (keyOf rs) W ∧ Srt bo bc br n rs wr (A ++ W ++ Z) ∧ Mvd bo w wr from
            ⟨U.take t ++ v :: U.drop t, by
              refine List.perm_middle.trans ?_
              rw [List.take_append_drop]; exact List.perm_append_comm (l₁ := [v]), srtd_put (by rw [List.take_append_drop]; exact HU.out) (by rw [ht2]; exact H1.out) (by rw [ht2]; exact H2.out), hs, hmv⟩)
          clear hs hmv hA hM hB hk ht2 HS
          go_wp2
          exact bodyPost_ret (v := .tuple #[]) (by simp [results, Tryd.results108, go_sem]) rfl ⟨rfl, HR.out⟩
end Go.Proofs.YtllaahdbngjigaaDoor
