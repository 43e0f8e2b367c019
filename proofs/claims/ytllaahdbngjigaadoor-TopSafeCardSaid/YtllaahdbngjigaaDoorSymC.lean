/-
  Go's stable sort: symMerge.
-/
import Derived.Test.YtllaahdbngjigaaDoorSymB
import Derived.Deep.DeepCutAuto
namespace Go.Proofs.YtllaahdbngjigaaDoor
open Go Go.RowKit
set_option linter.unusedVariables false
set_option linter.unusedSimpArgs false

/-- What symMerge does. -/
def SymDoes (bo bc br n : Nat) (rs : List Nat) (N : Nat) : Prop :=
  ∀ (A U V Z : List Nat) (w : World) (a m b : Nat), U.length + V.length < N → Srt bo bc br n rs w (A ++ (U ++ V) ++ Z) → a = A.length → m = a + U.length → b = m + V.length → 0 < U.length → 0 < V.length →
    Srtd (keyOf rs) U → Srtd (keyOf rs) V → Up U V →
    Calls Tryd.prog 108 #[.slice (some ⟨bo, 0, none⟩) n n, .int .i64 (a : Int), .int .i64 (m : Int), .int .i64 (b : Int), FV bc] w fun e w' =>
      e = .returned (.tuple #[]) ∧ ∃ W, W.Perm (U ++ V) ∧ Srtd (keyOf rs) W ∧ Srt bo bc br n rs w' (A ++ W ++ Z) ∧ Mvd bo w w'

set_option maxRecDepth 100000 in
set_option maxHeartbeats 8000000 in
theorem sym_more {bo bc br n : Nat} {rs : List Nat} {N : Nat} (IH : SymDoes bo bc br n rs N) (A U V Z : List Nat) (w : World) (a m b : Nat) (hN : U.length + V.length = N) (h : Srt bo bc br n rs w (A ++ (U ++ V) ++ Z)) (ha : a = A.length) (hm : m = a + U.length) (hb : b = m + V.length)
    (hu : 2 ≤ U.length) (hv : 2 ≤ V.length) (hU : Srtd (keyOf rs) U) (hV : Srtd (keyOf rs) V) (hup : Up U V) :
    Calls Tryd.prog 108 #[.slice (some ⟨bo, 0, none⟩) n n, .int .i64 (a : Int), .int .i64 (m : Int), .int .i64 (b : Int), FV bc] w fun e w' =>
      e = .returned (.tuple #[]) ∧ ∃ W, W.Perm (U ++ V) ∧ Srtd (keyOf rs) W ∧ Srt bo bc br n rs w' (A ++ W ++ Z) ∧ Mvd bo w w' := by
  have hl := h.len
  simp only [List.length_append, List.length_cons] at hl
  have hn := h.hn
  have H := Lib.hid h
  have HA := Lib.hid (And.intro ha (And.intro hm (And.intro hb hN)))
  have HU := Lib.hid hU
  have HV := Lib.hid hV
  have HUP := Lib.hid hup
  have HIH := Lib.hid IH
  have hbn : b ≤ n := by omega
  have hmb : m + 2 ≤ b := by omega
  have ham : a + 2 ≤ m := by omega
  have m0 : IntKind.i64.wrap ((m : Int) - (a : Int)) = ((m - a : Nat) : Int) := i64_eq (by omega) (by omega)
  have g0 : (((m - a : Nat) : Int) == 1) = false := by rw [beq_eq_false_iff_ne]; omega
  have m1 : IntKind.i64.wrap ((b : Int) - (m : Int)) = ((b - m : Nat) : Int) := i64_eq (by omega) (by omega)
  have g1 : (((b - m : Nat) : Int) == 1) = false := by rw [beq_eq_false_iff_ne]; omega
  obtain ⟨mid, hmid⟩ : ∃ mid, mid = (a + b) / 2 := ⟨_, rfl⟩
  obtain ⟨nn, hnn⟩ : ∃ nn, nn = mid + m := ⟨_, rfl⟩
  have m2 : IntKind.i64.wrap ((a : Int) + (b : Int)) = (a : Int) + (b : Int) := IntWalk.i64_in _ (by omega)
  have m3 : ((a : Int) + (b : Int)) / 2 = (mid : Int) := by omega
  have m4 : IntKind.i64.wrap ((mid : Int) + (m : Int)) = (nn : Int) := i64_eq (by omega) (by omega)
  have m5 : IntKind.i64.wrap ((nn : Int) - 1) = ((nn - 1 : Nat) : Int) := i64_eq (by omega) (by omega)
  have hmida : a < mid := by omega
  have hmidb : mid < b := by omega
  have HMID := Lib.hid (And.intro hmid hnn)
  have hnn0 : 1 ≤ nn := by omega
  have hnn1 : nn ≤ 8192 := by omega
  obtain ⟨lo, hlo⟩ : ∃ lo, lo = (if mid < m then nn - b else a) := ⟨_, rfl⟩
  obtain ⟨hi, hhi⟩ : ∃ hi, hi = (if mid < m then mid else m) := ⟨_, rfl⟩
  have HLO := Lib.hid (show a ≤ lo ∧ lo ≤ hi ∧ hi ≤ mid ∧ hi ≤ m ∧ mid + m ≤ b + lo ∧ (∀ x ∈ U.take (lo - a), ∀ y ∈ V.drop (mid - lo), Lx (keyOf rs) x y) ∧ (∀ y ∈ V.take (mid - hi), ∀ x ∈ U.drop (hi - a), Lx (keyOf rs) y x) from by
    by_cases hc : mid < m
    · rw [if_pos hc] at hlo hhi
      refine ⟨by omega, by omega, by omega, by omega, by omega, ?_, ?_⟩
      · rw [show mid - lo = V.length by omega]; simp
      · rw [show mid - hi = 0 by omega]; simp
    · rw [if_neg hc] at hlo hhi
      refine ⟨by omega, by omega, by omega, by omega, by omega, ?_, ?_⟩
      · rw [show lo - a = 0 by omega]; simp
      · rw [show hi - a = U.length by omega]; simp)
  have HLH := Lib.hid (And.intro hlo hhi)
  clear h ha hb hm hup hl hU hV hu hv hmid hnn hlo hhi hN IH
  go_enter Tryd.func108, Tryd.ntmps108
  unfold FV
  go_upto_if 140 with fail
  go_cut [20, 21] from 141 (fun x y wx => x = .int .i64 (lo : Int) ∧ y = .int .i64 (hi : Int) ∧ wx = w)
  case first =>
    obtain ⟨hlo, hhi⟩ := HLH.out
    obtain ⟨hmid, hnn⟩ := HMID.out
    by_cases hc : mid < m
    · have d1 : decide (mid < m) = true := by rw [decide_eq_true_iff]; exact hc
      rw [if_pos hc] at hlo hhi
      obtain ⟨_, hm, hb, _⟩ := HA.out
      have m6 : IntKind.i64.wrap ((nn : Int) - (b : Int)) = (lo : Int) := i64_eq (by omega) (by omega)
      have HE := Lib.hid (And.intro hlo hhi)
      clear hlo hhi hmid hnn hm hb
      go_wp2_with fail
      go_meet
      case rel => exact ⟨rfl, by rw [HE.out.2], rfl⟩
    · have d1 : decide (mid < m) = false := by rw [decide_eq_false_iff_not]; exact hc
      rw [if_neg hc] at hlo hhi
      have HE := Lib.hid (And.intro hlo hhi)
      clear hlo hhi hmid hnn
      go_wp2_with fail
      go_meet
      case rel => exact ⟨by rw [HE.out.1], by rw [HE.out.2], rfl⟩
  case rest =>
    obtain ⟨rfl, rfl, rfl⟩ := hcut
    clear m0 g0 m1 g1 m2 m3 m4
    obtain ⟨hla, hlh, hhm, hhm', hmb', hr1, hr2⟩ := HLO.out
    have HR := Lib.hid (And.intro hr1 hr2)
    have hw := H.out
    have HW := Lib.hid hw
    clear hr1 hr2 hw
    go_wp2_with fail
    clear m5
    go_loopw [20, 21] (fun i j wr => ∃ s r : Nat, i = .int .i64 (s : Int) ∧ j = .int .i64 (r : Int) ∧ lo ≤ s ∧ s ≤ r ∧ r ≤ hi ∧ (∀ x ∈ U.take (s - a), ∀ y ∈ V.drop (mid - s), Lx (keyOf rs) x y) ∧ (∀ y ∈ V.take (mid - r), ∀ x ∈ U.drop (r - a), Lx (keyOf rs) y x) ∧ Srt bo bc br n rs wr (A ++ (U ++ V) ++ Z) ∧ Mvd bo wc wr) (fun i j _ => (intOf j).toNat - (intOf i).toNat)
    case atStart => exact ⟨lo, hi, rfl, rfl, Nat.le_refl _, hlh, Nat.le_refl _, HR.out.1, HR.out.2, HW.out, Mvd.refl _ _⟩
    case round =>
    obtain ⟨s, r, rfl, rfl, hs0, hsr, hrh, h1, h2, hs, hmv⟩ := hrel
    have H1 := Lib.hid h1
    have H2 := Lib.hid h2
    have HM := Lib.hid hmv
    clear h1 h2 hmv HR HW H
    by_cases hlt : s < r
    · obtain ⟨g, hg⟩ : ∃ g, g = (s + r) / 2 := ⟨_, rfl⟩
      obtain ⟨hmid, hnn⟩ := HMID.out
      obtain ⟨hA, hM, hB, _⟩ := HA.out
      have m2 : IntKind.i64.wrap ((s : Int) + (r : Int)) = (s : Int) + (r : Int) := IntWalk.i64_in _ (by omega)
      have hgp : s ≤ g := by omega
      have hgq : g < r := by omega
      have m3 : ((s : Int) + (r : Int)) / 2 = (g : Int) := by omega
      obtain ⟨q, hq⟩ : ∃ q, q = nn - 1 - g := ⟨_, rfl⟩
      have m4 : IntKind.i64.wrap (((nn - 1 : Nat) : Int) - (g : Int)) = (q : Int) := i64_eq (by omega) (by omega)
      obtain ⟨u, hu⟩ := get_some (xs := U) (i := g - a) (by omega)
      obtain ⟨v, hv⟩ := get_some (xs := V) (i := mid - (g + 1)) (by omega)
      have hum : u ∈ U := List.mem_of_getElem? hu
      have hvm : v ∈ V := List.mem_of_getElem? hv
      have huv := HUP.out u hum v hvm
      have c1 : wr.cell? ⟨bo, g, none⟩ = some (.int .i64 (u : Int)) := hs.cell (by
        rw [List.getElem?_append_left (by simp; omega), List.getElem?_append_right (by omega), List.getElem?_append_left (by omega), ← hA]; exact hu)
      have c2 : wr.cell? ⟨bo, q, none⟩ = some (.int .i64 (v : Int)) := hs.cell (by
        rw [List.getElem?_append_left (by simp; omega), List.getElem?_append_right (by omega), List.getElem?_append_right (by omega), show q - A.length - U.length = mid - (g + 1) by omega]; exact hv)
      have lu : u < n := hs.lt u (by simp [hum])
      have lv : v < n := hs.lt v (by simp [hvm])
      have HC := Lib.hid (fun k => cmp_any (hs.drewN k) v u lv lu)
      have HS := Lib.hid hs
      have l1 : (g : Int) < (n : Int) := by omega
      have l2 : (q : Int) < (n : Int) := by omega
      by_cases hk : keyOf rs u < keyOf rs v
      · have d3 := cv_lt hk
        have HX := Lib.hid (show ∀ y ∈ V.take (mid - g), ∀ x ∈ U.drop (g - a), Lx (keyOf rs) y x by rw [show mid - g = mid - (g + 1) + 1 by omega]; exact mg_vu HU.out HV.out hu hv (.inl hk))
        clear hA hM hB hu hv hum hvm huv hs hg H2 hk hq hmid hnn
        generalize cv rs v u = x at *
        go_wp2_with fail
        go_quiet ((go_at_call 62; exact Calls.quiet_of (HC.out _)))
        clear m2 m3 m4
        go_wp2
        go_roundw
        case rel => exact ⟨s, g, rfl, rfl, hs0, hgp, by omega, H1.out, HX.out, HS.out.drewN _, HM.out.drewN _⟩
        case measure => simp [intOf]; omega
      · have d3 := cv_ge hk
        have HX := Lib.hid (show ∀ x ∈ U.take (g + 1 - a), ∀ y ∈ V.drop (mid - (g + 1)), Lx (keyOf rs) x y by rw [show g + 1 - a = g - a + 1 by omega]; exact mg_uv HU.out HV.out hu hv (Lx.of_not huv hk))
        clear hA hM hB hu hv hum hvm huv hs hg H1 hk hq hmid hnn
        generalize cv rs v u = x at *
        go_wp2_with fail
        go_quiet ((go_at_call 62; exact Calls.quiet_of (HC.out _)))
        clear m2 m3 m4
        go_wp2
        go_roundw
        case rel => exact ⟨g + 1, r, by go_num, rfl, by omega, by omega, hrh, HX.out, H2.out, HS.out.drewN _, HM.out.drewN _⟩
        case measure => simp [intOf]; omega
    · obtain rfl : r = s := by omega
      obtain ⟨hmid, hnn⟩ := HMID.out
      obtain ⟨hA, hM, hB, hN⟩ := HA.out
      obtain ⟨en, hen⟩ : ∃ en, en = nn - r := ⟨_, rfl⟩
      have m4 : IntKind.i64.wrap ((nn : Int) - (r : Int)) = (en : Int) := i64_eq (by omega) (by omega)
      -- the four runs
      have eU : U.take (r - a) ++ U.drop (r - a) = U := List.take_append_drop _ _
      have eV : V.take (mid - r) ++ V.drop (mid - r) = V := List.take_append_drop _ _
      have lU1 : (U.take (r - a)).length = r - a := by rw [List.length_take]; omega
      have lU2 : (U.drop (r - a)).length = m - r := by rw [List.length_drop]; omega
      have lV1 : (V.take (mid - r)).length = mid - r := by rw [List.length_take]; omega
      have lV2 : (V.drop (mid - r)).length = b - en := by rw [List.length_drop]; omega
      have HFIN := Lib.hid (fun (W1 W2 : List Nat) p1 p2 s1 s2 => mg_all (i := r - a) (j := mid - r) HU.out HV.out H1.out H2.out (W1 := W1) (W2 := W2) p1 p2 s1 s2)
      have sU1 : Srtd (keyOf rs) (U.take (r - a)) := HU.out.sublist (List.take_sublist _ _)
      have sU2 : Srtd (keyOf rs) (U.drop (r - a)) := HU.out.sublist (List.drop_sublist _ _)
      have sV1 : Srtd (keyOf rs) (V.take (mid - r)) := HV.out.sublist (List.take_sublist _ _)
      have sV2 : Srtd (keyOf rs) (V.drop (mid - r)) := HV.out.sublist (List.drop_sublist _ _)
      have up1 : Up (U.take (r - a)) (V.take (mid - r)) := fun x hx y hy => HUP.out x (List.mem_of_mem_take hx) y (List.mem_of_mem_take hy)
      have up2 : Up (U.drop (r - a)) (V.drop (mid - r)) := fun x hx y hy => HUP.out x (List.mem_of_mem_drop hx) y (List.mem_of_mem_drop hy)
      have hs' : Srt bo bc br n rs wr (A ++ ((U.take (r - a) ++ U.drop (r - a)) ++ (V.take (mid - r) ++ V.drop (mid - r))) ++ Z) := by rw [eU, eV]; exact hs
      clear eU eV H1 H2 hs
      generalize U.take (r - a) = U1 at *
      generalize U.drop (r - a) = U2 at *
      generalize V.take (mid - r) = V1 at *
      generalize V.drop (mid - r) = V2 at *
      have HF := Lib.hid (And.intro sU1 (And.intro sU2 (And.intro sV1 (And.intro sV2 (And.intro up1 up2)))))
      have HLL := Lib.hid (And.intro lU1 (And.intro lU2 (And.intro lV1 lV2)))
      have HEQ := Lib.hid (And.intro hmid (And.intro hnn (And.intro hA (And.intro hM (And.intro hB (And.intro hN hen))))))
      have HS := Lib.hid hs'
      have b1 : en ≤ b := by omega
      have b2 : m ≤ en := by omega
      have b3 : mid ≤ en := by omega
      clear sU1 sU2 sV1 sV2 up1 up2 lU1 lU2 lV1 lV2 hs' hmid hnn hA hM hB hN hen
      obtain ⟨w0, hw0⟩ : ∃ w0 : World, w0 = wc := ⟨_, rfl⟩
      subst hw0
      obtain ⟨w1, hw1⟩ : ∃ w1 : World, w1 = wr := ⟨_, rfl⟩
      subst hw1
      go_upto_region 39 with fail
      go_cut [185] from 178 (fun x wx => ∃ y : Bool, x = .bool y ∧ (y = true ↔ (r < m ∧ m < en)) ∧ wx = w1)
      case first =>
        by_cases c1 : r < m
        · have d1 : decide (r < m) = true := by rw [decide_eq_true_iff]; exact c1
          by_cases c2 : m < en
          · have d2 : decide (m < en) = true := by rw [decide_eq_true_iff]; exact c2
            go_wp2_with fail
            go_meet
            case rel => exact ⟨true, rfl, ⟨fun _ => ⟨c1, c2⟩, fun _ => rfl⟩, rfl⟩
          · have d2 : decide (m < en) = false := by rw [decide_eq_false_iff_not]; exact c2
            go_wp2_with fail
            go_meet
            case rel => exact ⟨false, rfl, ⟨fun e => (by cases e), fun e => absurd e.2 c2⟩, rfl⟩
        · have d1 : decide (r < m) = false := by rw [decide_eq_false_iff_not]; exact c1
          go_wp2_with fail
          go_meet
          case rel => exact ⟨false, rfl, ⟨fun e => (by cases e), fun e => absurd e.1 c1⟩, rfl⟩
      case rest =>
        obtain ⟨y, rfl, hy, rfl⟩ := hcut
        obtain ⟨w1, hw1⟩ : ∃ w1 : World, w1 = wc := ⟨_, rfl⟩
        subst hw1
        have HY := Lib.hid hy
        clear hy
        go_upto_if 185 with fail
        go_cut [185] from 186 (fun _ wx => Srt bo bc br n rs wx (A ++ ((U1 ++ V1) ++ (U2 ++ V2)) ++ Z) ∧ Mvd bo w0 wx)
        case first =>
          obtain ⟨lU1, lU2, lV1, lV2⟩ := HLL.out
          obtain ⟨hmid, hnn, hA, hM, hB, hN, hen⟩ := HEQ.out
          cases y with
          | true =>
            obtain ⟨c1, c2⟩ := HY.out.1 rfl
            have HC := Lib.hid (rot_any (A ++ U1) U2 V1 (V2 ++ Z) (w := w1) (by have := HS.out; simpa using this) r m en (by rw [List.length_append]; omega) (by omega) (by omega) (by omega) (by omega))
            unfold FV at HC
            clear lU1 lU2 lV1 lV2 hmid hnn hA hM hB hN hen c1 c2
            go_wp2_with fail
            refine HC.out.mono ?_
            rintro e w2 ⟨rfl, hs2, hm2⟩
            have Q := Lib.hid (And.intro hs2 hm2)
            clear hs2 hm2
            go_wp2_with fail
            go_meet
            case rel => exact ⟨by have := Q.out.1; simpa using this, HM.out.trans Q.out.2⟩
          | false =>
            have HC := Lib.hid (show Srt bo bc br n rs w1 (A ++ ((U1 ++ V1) ++ (U2 ++ V2)) ++ Z) from by
              have hc : ¬ (r < m ∧ m < en) := fun e => by have := HY.out.2 e; cases this
              by_cases c1 : r < m
              · have : V1 = [] := List.eq_nil_of_length_eq_zero (by omega)
                subst this; have := HS.out; simpa using this
              · have : U2 = [] := List.eq_nil_of_length_eq_zero (by omega)
                subst this; have := HS.out; simpa using this)
            clear lU1 lU2 lV1 lV2 hmid hnn hA hM hB hN hen
            go_wp2_with fail
            go_meet
            case rel => exact ⟨HC.out, HM.out⟩
        case rest =>
          obtain ⟨hs1, hm1⟩ := hcut
          have HS1 := Lib.hid hs1
          have HM1 := Lib.hid hm1
          clear hs1 hm1 HS HM HY
          obtain ⟨w2, hw2⟩ : ∃ w2 : World, w2 = wc := ⟨_, rfl⟩
          subst hw2
          go_upto_region 41 with fail
          go_cut [199] from 192 (fun x wx => ∃ y : Bool, x = .bool y ∧ (y = true ↔ (a < r ∧ r < mid)) ∧ wx = w2)
          case first =>
            by_cases c1 : a < r
            · have d1 : decide (a < r) = true := by rw [decide_eq_true_iff]; exact c1
              by_cases c2 : r < mid
              · have d2 : decide (r < mid) = true := by rw [decide_eq_true_iff]; exact c2
                go_wp2_with fail
                go_meet
                case rel => exact ⟨true, rfl, ⟨fun _ => ⟨c1, c2⟩, fun _ => rfl⟩, rfl⟩
              · have d2 : decide (r < mid) = false := by rw [decide_eq_false_iff_not]; exact c2
                go_wp2_with fail
                go_meet
                case rel => exact ⟨false, rfl, ⟨fun e => (by cases e), fun e => absurd e.2 c2⟩, rfl⟩
            · have d1 : decide (a < r) = false := by rw [decide_eq_false_iff_not]; exact c1
              go_wp2_with fail
              go_meet
              case rel => exact ⟨false, rfl, ⟨fun e => (by cases e), fun e => absurd e.1 c1⟩, rfl⟩
          case rest =>
            obtain ⟨y, rfl, hy, rfl⟩ := hcut
            obtain ⟨w2, hw2⟩ : ∃ w2 : World, w2 = wc := ⟨_, rfl⟩
            subst hw2
            have HY := Lib.hid hy
            clear hy
            go_upto_if 199 with fail
            go_cut [199] from 200 (fun _ wx => ∃ W1 : List Nat, W1.Perm (U1 ++ V1) ∧ Srtd (keyOf rs) W1 ∧ Srt bo bc br n rs wx (A ++ (W1 ++ (U2 ++ V2)) ++ Z) ∧ Mvd bo w0 wx)
            case first =>
              obtain ⟨lU1, lU2, lV1, lV2⟩ := HLL.out
              obtain ⟨hmid, hnn, hA, hM, hB, hN, hen⟩ := HEQ.out
              obtain ⟨sU1, sU2, sV1, sV2, up1, up2⟩ := HF.out
              cases y with
              | true =>
                obtain ⟨c1, c2⟩ := HY.out.1 rfl
                have HC := Lib.hid (HIH.out A U1 V1 ((U2 ++ V2) ++ Z) w2 a r mid (by omega) (by have := HS1.out; simpa using this) hA (by omega) (by omega) (by omega) (by omega) sU1 sV1 up1)
                unfold FV at HC
                clear lU1 lU2 lV1 lV2 hmid hnn hA hM hB hN hen c1 c2 sU1 sU2 sV1 sV2 up1 up2
                go_wp2_with fail
                refine HC.out.mono ?_
                rintro e w3 ⟨rfl, W1, p1, s1, hs2, hm2⟩
                have Q := Lib.hid (And.intro p1 (And.intro s1 (And.intro hs2 hm2)))
                clear p1 s1 hs2 hm2
                go_wp2_with fail
                go_meet
                case rel => exact ⟨W1, Q.out.1, Q.out.2.1, by have := Q.out.2.2.1; simpa using this, HM1.out.trans Q.out.2.2.2⟩
              | false =>
                have HC := Lib.hid (show Srtd (keyOf rs) (U1 ++ V1) from by
                  have hc : ¬ (a < r ∧ r < mid) := fun e => by have := HY.out.2 e; cases this
                  by_cases c1 : a < r
                  · have : V1 = [] := List.eq_nil_of_length_eq_zero (by omega)
                    subst this; simpa using sU1
                  · have : U1 = [] := List.eq_nil_of_length_eq_zero (by omega)
                    subst this; simpa using sV1)
                clear lU1 lU2 lV1 lV2 hmid hnn hA hM hB hN hen sU1 sU2 sV1 sV2 up1 up2
                go_wp2_with fail
                go_meet
                case rel => exact ⟨U1 ++ V1, List.Perm.refl _, HC.out, HS1.out, HM1.out⟩
            case rest =>
              obtain ⟨W1, p1, s1, hs1, hm1⟩ := hcut
              have HS2 := Lib.hid hs1
              have HM2 := Lib.hid hm1
              have HP1 := Lib.hid (And.intro p1 s1)
              clear hs1 hm1 HS1 HM1 HY p1 s1
              obtain ⟨w3, hw3⟩ : ∃ w3 : World, w3 = wc := ⟨_, rfl⟩
              subst hw3
              go_upto_region 43 with fail
              go_cut [213] from 206 (fun x wx => ∃ y : Bool, x = .bool y ∧ (y = true ↔ (mid < en ∧ en < b)) ∧ wx = w3)
              case first =>
                by_cases c1 : mid < en
                · have d1 : decide (mid < en) = true := by rw [decide_eq_true_iff]; exact c1
                  by_cases c2 : en < b
                  · have d2 : decide (en < b) = true := by rw [decide_eq_true_iff]; exact c2
                    go_wp2_with fail
                    go_meet
                    case rel => exact ⟨true, rfl, ⟨fun _ => ⟨c1, c2⟩, fun _ => rfl⟩, rfl⟩
                  · have d2 : decide (en < b) = false := by rw [decide_eq_false_iff_not]; exact c2
                    go_wp2_with fail
                    go_meet
                    case rel => exact ⟨false, rfl, ⟨fun e => (by cases e), fun e => absurd e.2 c2⟩, rfl⟩
                · have d1 : decide (mid < en) = false := by rw [decide_eq_false_iff_not]; exact c1
                  go_wp2_with fail
                  go_meet
                  case rel => exact ⟨false, rfl, ⟨fun e => (by cases e), fun e => absurd e.1 c1⟩, rfl⟩
              case rest =>
                obtain ⟨y, rfl, hy, rfl⟩ := hcut
                obtain ⟨w3, hw3⟩ : ∃ w3 : World, w3 = wc := ⟨_, rfl⟩
                subst hw3
                have HY := Lib.hid hy
                clear hy
                obtain ⟨lU1, lU2, lV1, lV2⟩ := HLL.out
                obtain ⟨hmid, hnn, hA, hM, hB, hN, hen⟩ := HEQ.out
                obtain ⟨sU1, sU2, sV1, sV2, up1, up2⟩ := HF.out
                have lW1 : W1.length = mid - a := by rw [HP1.out.1.length_eq, List.length_append]; omega
                cases y with
                | true =>
                  obtain ⟨c1, c2⟩ := HY.out.1 rfl
                  have HC := Lib.hid (HIH.out (A ++ W1) U2 V2 Z w3 mid en b (by omega) (by have := HS2.out; simpa using this) (by rw [List.length_append]; omega) (by omega) (by omega) (by omega) (by omega) sU2 sV2 up2)
                  unfold FV at HC
                  clear lU1 lU2 lV1 lV2 hmid hnn hA hM hB hN hen c1 c2 sU1 sU2 sV1 sV2 up1 up2 lW1
                  go_wp2_with fail
                  refine HC.out.mono ?_
                  rintro e w4 ⟨rfl, W2, p2, s2, hs2, hm2⟩
                  have Q := Lib.hid (And.intro p2 (And.intro s2 (And.intro hs2 hm2)))
                  clear p2 s2 hs2 hm2
                  go_wp2
                  go_end0
                  obtain ⟨q1, q2⟩ := HFIN.out W1 W2 HP1.out.1 Q.out.1 HP1.out.2 Q.out.2.1
                  exact ⟨rfl, W1 ++ W2, q1, q2, by have := Q.out.2.2.1; simpa using this, HM2.out.trans Q.out.2.2.2⟩
                | false =>
                  have HC := Lib.hid (show Srtd (keyOf rs) (U2 ++ V2) from by
                    have hc : ¬ (mid < en ∧ en < b) := fun e => by have := HY.out.2 e; cases this
                    by_cases c1 : mid < en
                    · have : V2 = [] := List.eq_nil_of_length_eq_zero (by omega)
                      subst this; simpa using sU2
                    · have : U2 = [] := List.eq_nil_of_length_eq_zero (by omega)
                      subst this; simpa using sV2)
                  clear lU1 lU2 lV1 lV2 hmid hnn hA hM hB hN hen sU1 sU2 sV1 sV2 up1 up2 lW1
                  go_wp2
                  go_end0
                  obtain ⟨q1, q2⟩ := HFIN.out W1 (U2 ++ V2) HP1.out.1 (List.Perm.refl _) HP1.out.2 HC.out
                  exact ⟨rfl, W1 ++ (U2 ++ V2), q1, q2, HS2.out, HM2.out⟩

theorem sym_all {bo bc br n : Nat} {rs : List Nat} : ∀ N, SymDoes bo bc br n rs N
  | 0 => fun _ _ _ _ _ _ _ _ h => absurd h (Nat.not_lt_zero _)
  | N + 1 => by
    intro A U V Z w a m b hN h ha hm hb hu hv hU hV hup
    by_cases h1 : U.length = 1
    · obtain ⟨u, rfl⟩ := List.length_eq_one_iff.1 h1
      exact sym_one A V Z u (by simpa using h) a m b ha (by simpa using hm) hb hV (fun v hv' => hup u (by simp) v hv')
    · by_cases h2 : V.length = 1
      · obtain ⟨v, rfl⟩ := List.length_eq_one_iff.1 h2
        exact sym_last A U Z v h a m b ha hm (by simpa using hb) (by omega) hU (fun u hu' => hup u hu' v (by simp))
      · by_cases h3 : U.length + V.length = N
        · exact sym_more (sym_all N) A U V Z w a m b h3 h ha hm hb (by omega) (by omega) hU hV hup
        · exact sym_all N A U V Z w a m b (by omega) h ha hm hb hu hv hU hV hup
end Go.Proofs.YtllaahdbngjigaaDoor
