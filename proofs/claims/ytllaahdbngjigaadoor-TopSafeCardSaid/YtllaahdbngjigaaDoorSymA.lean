/-
  Go's stable sort: symMerge, of a first run of one.
-/
import Derived.Test.YtllaahdbngjigaaDoorSortI
namespace Go.Proofs.YtllaahdbngjigaaDoor
open Go Go.RowKit
set_option linter.unusedVariables false
set_option linter.unusedSimpArgs false

set_option maxRecDepth 100000 in
set_option maxHeartbeats 4000000 in
theorem sym_one {bo bc br n : Nat} {rs : List Nat} {w : World} (A V Z : List Nat) (u : Nat) (h : Srt bo bc br n rs w (A ++ (u :: V) ++ Z)) (a m b : Nat) (ha : a = A.length) (hm : m = a + 1) (hb : b = m + V.length)
    (hV : Srtd (keyOf rs) V) (hup : ∀ v ∈ V, u < v) :
    Calls Tryd.prog 108 #[.slice (some ⟨bo, 0, none⟩) n n, .int .i64 (a : Int), .int .i64 (m : Int), .int .i64 (b : Int), FV bc] w fun e w' =>
      e = .returned (.tuple #[]) ∧ ∃ W, W.Perm (u :: V) ∧ Srtd (keyOf rs) W ∧ Srt bo bc br n rs w' (A ++ W ++ Z) ∧ Mvd bo w w' := by
  have hl := h.len
  simp only [List.length_append, List.length_cons] at hl
  have hn := h.hn
  have H := Lib.hid h
  have HA := Lib.hid (And.intro ha (And.intro hm hb))
  have HV := Lib.hid hV
  have HUP := Lib.hid hup
  have hbn : b ≤ n := by omega
  have hmb : m ≤ b := by omega
  have ham : a < m := by omega
  have m1 : IntKind.i64.wrap ((m : Int) - (a : Int)) = 1 := i64_eq (n := 1) (by omega) (by omega)
  clear h ha hb hm hup hl hV
  go_enter Tryd.func108, Tryd.ntmps108
  unfold FV
  go_wp2
  clear m1
  go_loopw [10, 11] (fun i j wr => ∃ p q : Nat, i = .int .i64 (p : Int) ∧ j = .int .i64 (q : Int) ∧ m ≤ p ∧ p ≤ q ∧ q ≤ b ∧ (∀ z ∈ V.take (p - m), Lx (keyOf rs) z u) ∧ (∀ z ∈ V.drop (q - m), Lx (keyOf rs) u z) ∧ Srt bo bc br n rs wr (A ++ (u :: V) ++ Z) ∧ Mvd bo w wr) (fun i j _ => (intOf j).toNat - (intOf i).toNat)
  case atStart => exact ⟨m, b, rfl, rfl, Nat.le_refl _, hmb, Nat.le_refl _, by simp, by rw [show b - m = V.length by have := HA.out; omega]; simp, H.out, Mvd.refl _ _⟩
  case round =>
    obtain ⟨p, q, rfl, rfl, hp, hpq, hq, h1, h2, hs, hmv⟩ := hrel
    have H1 := Lib.hid h1
    have H2 := Lib.hid h2
    have HM := Lib.hid hmv
    clear h1 h2 hmv
    by_cases hlt : p < q
    · obtain ⟨g, hg⟩ : ∃ g, g = (p + q) / 2 := ⟨_, rfl⟩
      have m2 : IntKind.i64.wrap ((p : Int) + (q : Int)) = (p : Int) + (q : Int) := IntWalk.i64_in _ (by omega)
      have hgp : p ≤ g := by omega
      have hgq : g < q := by omega
      have m3 : ((p : Int) + (q : Int)) / 2 = (g : Int) := by omega
      obtain ⟨hA, hM, hB⟩ := HA.out
      obtain ⟨v, hv⟩ := get_some (xs := V) (i := g - m) (by omega)
      have hvm : v ∈ V := List.mem_of_getElem? hv
      have huv := HUP.out v hvm
      have c1 : wr.cell? ⟨bo, g, none⟩ = some (.int .i64 (v : Int)) := hs.cell (by
        rw [List.getElem?_append_left (by simp; omega), List.getElem?_append_right (by omega), show g - A.length = (g - m) + 1 by omega, List.getElem?_cons_succ]; exact hv)
      have c2 : wr.cell? ⟨bo, a, none⟩ = some (.int .i64 (u : Int)) := hs.cell (by rw [List.append_assoc]; exact get_mid _ _ _ _ hA)
      have lv : v < n := hs.lt v (by simp [hvm])
      have lu : u < n := hs.lt u (by simp)
      have HC := Lib.hid (fun k => cmp_any (hs.drewN k) v u lv lu)
      have HS := Lib.hid hs
      have l1 : (g : Int) < (n : Int) := by omega
      have l2 : (a : Int) < (n : Int) := by omega
      by_cases hk : keyOf rs u < keyOf rs v
      · have d3 := cv_lt hk
        have HU := Lib.hid (show ∀ z ∈ V.take (g + 1 - m), Lx (keyOf rs) z u by rw [show g + 1 - m = (g - m) + 1 by omega]; exact bs_up HV.out hv (.inl hk))
        clear hA hM hB hv hvm huv hs hg H1 hk
        generalize cv rs v u = x at *
        go_wp2_with fail
        go_quiet ((go_at_call 62; exact Calls.quiet_of (HC.out _)))
        clear m2 m3
        go_wp2
        go_roundw
        case rel => exact ⟨g + 1, q, by go_num, rfl, by omega, by omega, hq, HU.out, H2.out, HS.out.drewN _, HM.out.drewN _⟩
        case measure => simp [intOf]; omega
      · have d3 := cv_ge hk
        have HU := Lib.hid (bs_down HV.out hv (Lx.of_not huv hk))
        clear hA hM hB hv hvm huv hs hg H2 hk
        generalize cv rs v u = x at *
        go_wp2_with fail
        go_quiet ((go_at_call 62; exact Calls.quiet_of (HC.out _)))
        clear m2 m3
        go_wp2
        go_roundw
        case rel => exact ⟨p, g, rfl, rfl, hp, hgp, by omega, H1.out, HU.out, HS.out.drewN _, HM.out.drewN _⟩
        case measure => simp [intOf]; omega
    · obtain rfl : q = p := by omega
      have m4 : IntKind.i64.wrap ((q : Int) - 1) = ((q - 1 : Nat) : Int) := i64_eq (by omega) (by omega)
      have HS := Lib.hid hs
      obtain ⟨wo, hwo⟩ : ∃ wo : World, wo = wr := ⟨_, rfl⟩
      subst hwo
      clear hs
      go_wp2_with fail
      go_loopw [13] (fun i wr => ∃ t : Nat, i = .int .i64 ((a + t : Nat) : Int) ∧ a + t + 1 ≤ q ∧ Srt bo bc br n rs wr (A ++ (V.take t ++ u :: V.drop t) ++ Z) ∧ Mvd bo w wr) (fun i _ => q - (intOf i).toNat)
      case atStart => exact ⟨0, rfl, by omega, by simpa using HS.out, HM.out⟩
      case round =>
        obtain ⟨t, rfl, ht, hs, hmv⟩ := hrel
        obtain ⟨hA, hM, hB⟩ := HA.out
        obtain ⟨k, hk⟩ : ∃ k, k = a + t := ⟨_, rfl⟩
        rw [← hk]
        have m4 : IntKind.i64.wrap ((q : Int) - 1) = ((q - 1 : Nat) : Int) := i64_eq (by omega) (by omega)
        by_cases hlt2 : k < q - 1
        · have d1 : decide (k < q - 1) = true := by rw [decide_eq_true_iff]; omega
          obtain ⟨v, hv⟩ := get_some (xs := V) (i := t) (by omega)
          have e0 : V.drop t = v :: V.drop (t + 1) := by obtain ⟨h1, h2⟩ := List.getElem?_eq_some_iff.1 hv; rw [List.drop_eq_getElem_cons h1, h2]
          have e1 : V.take (t + 1) = V.take t ++ [v] := by obtain ⟨h1, h2⟩ := List.getElem?_eq_some_iff.1 hv; rw [List.take_succ_eq_append_getElem h1, h2]
          have e2 : A ++ (V.take t ++ u :: V.drop t) ++ Z = (A ++ V.take t) ++ u :: v :: (V.drop (t + 1) ++ Z) := by rw [e0]; simp
          have e3 : A ++ (V.take (t + 1) ++ u :: V.drop (t + 1)) ++ Z = (A ++ V.take t) ++ v :: u :: (V.drop (t + 1) ++ Z) := by rw [e1]; simp
          have hkl : k = (A ++ V.take t).length := by simp; omega
          obtain ⟨j, hj⟩ : ∃ j, j = k + 1 := ⟨_, rfl⟩
          have c1 : wr.cell? ⟨bo, k, none⟩ = some (.int .i64 (u : Int)) := hs.cell (by rw [e2]; exact get_mid _ _ _ _ hkl)
          have c2 : wr.cell? ⟨bo, j, none⟩ = some (.int .i64 (v : Int)) := hs.cell (by rw [e2, show A ++ V.take t ++ u :: v :: (V.drop (t + 1) ++ Z) = (A ++ V.take t ++ [u]) ++ v :: (V.drop (t + 1) ++ Z) by simp]; exact get_mid _ _ _ _ (by simp at hkl ⊢; omega))
          have f1 := hs.free k
          have f2 := hs.free j
          have lu : u < n := hs.lt u (by simp)
          have lv : v < n := hs.lt v (by rw [e2]; simp)
          have m5 : IntKind.i64.wrap ((k : Int) + 1) = (j : Int) := i64_eq (by omega) (by omega)
          have l1 : (k : Int) < (n : Int) := by omega
          have l2 : (j : Int) < (n : Int) := by omega
          have n1 : ¬ k = j := by omega
          have n2 : ¬ j = k := by omega
          have HX := Lib.hid (fun (w3 : World) (h3 : Srt bo bc br n rs w3 ((A ++ V.take t) ++ v :: u :: (V.drop (t + 1) ++ Z))) (h4 : Mvd bo w w3) =>
            show ∃ t : Nat, Value.int .i64 (j : Int) = .int .i64 ((a + t : Nat) : Int) ∧ a + t + 1 ≤ q ∧ Srt bo bc br n rs w3 (A ++ (V.take t ++ u :: V.drop t) ++ Z) ∧ Mvd bo w w3 from
              ⟨t + 1, by rw [hj, hk]; rfl, by omega, by rw [e3]; exact h3, h4⟩)
          have HS2 := Lib.hid (show Srt bo bc br n rs wr ((A ++ V.take t) ++ u :: v :: (V.drop (t + 1) ++ Z)) by rw [← e2]; exact hs)
          have HM2 := Lib.hid hmv
          have HP := Lib.hid (And.intro hkl hj)
          clear hs hmv hA hM hB e0 e1 e2 e3 hv hkl hj hk HS
          go_wp2_with fail
          go_region
          all_goals
            have HR1 := Lib.hid (HX.out ((wr.setCell ⟨bo, k, none⟩ (.int .i64 (v : Int))).setCell ⟨bo, j, none⟩ (.int .i64 (u : Int))).drew (by
              have := (HS2.out.set k lv).set j lu
              rw [HP.out.2, swap_mid' _ _ _ _ _ HP.out.1] at this
              rw [HP.out.2]; exact this.drew) ((HM2.out.set _ _).set _ _).drew)
            have HR2 := Lib.hid (HX.out ((wr.setCell ⟨bo, j, none⟩ (.int .i64 (u : Int))).setCell ⟨bo, k, none⟩ (.int .i64 (v : Int))).drew (by
              have := (HS2.out.set j lu).set k lv
              rw [HP.out.2, swap_mid _ _ _ _ _ HP.out.1] at this
              rw [HP.out.2]; exact this.drew) ((HM2.out.set _ _).set _ _).drew)
            go_wp2
            refine ⟨?_, ?_⟩
            · first | exact HR1.out | exact HR2.out
            · have hkj := HP.out.2
              simp [intOf]; omega
        · have d1 : decide (k < q - 1) = false := by rw [decide_eq_false_iff_not]; omega
          have ht2 : t = q - m := by omega
          have HR := Lib.hid (show ∃ W, W.Perm (u :: V) ∧ Srtd (keyOf rs) W ∧ Srt bo bc br n rs wr (A ++ W ++ Z) ∧ Mvd bo w wr from
            ⟨V.take t ++ u :: V.drop t, by
              refine List.perm_middle.trans ?_
              rw [List.take_append_drop], srtd_put (by rw [List.take_append_drop]; exact HV.out) (by rw [ht2]; exact H1.out) (by rw [ht2]; exact H2.out), hs, hmv⟩)
          clear hs hmv hA hM hB hk ht2 HS
          go_wp2
          exact bodyPost_ret (v := .tuple #[]) (by simp [results, Tryd.results108, go_sem]) rfl ⟨rfl, HR.out⟩
end Go.Proofs.YtllaahdbngjigaaDoor
