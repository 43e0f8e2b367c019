/-
  TermNames: the walk.
-/
import Derived.Test.YtfhcnkedhobhgaaDoorTermNames
import Derived.Test.YtfhcnkedhobhgaaDoorTermPays2
namespace Go.Proofs.YtfhcnkedhobhgaaDoor.termNames
open Go Go.RowKit
set_option linter.unusedVariables false
set_option linter.unusedSimpArgs false

def namZ (t : Int) : ByteArray := if 0 ≤ t ∧ t < 8 then nmS t.toNat else ⟨#[]⟩

set_option maxHeartbeats 400000 in
theorem name_any (t : Int) (w : World) (hw : Terms w) :
    Calls Tryd.prog 25 #[.int .i64 t] w fun e w' => e = .returned (.string (namZ t)) ∧ w = w' := by
  by_cases h : 0 ≤ t ∧ t < 8
  · obtain ⟨n, rfl⟩ := Int.eq_ofNat_of_zero_le h.1
    have hn : n < 8 := by omega
    have h1 := Terms.name' hw n hn
    have e : namZ n = nmS n := by unfold namZ; rw [if_pos h]; rfl
    rw [e]
    generalize nmS n = x at *
    have hd : decide ((n : Int) < 8) = true := by simpa using h.2
    have hd' : decide ((0 : Int) ≤ n) = true := by simp
    clear hw e
    go_enter Tryd.func25, Tryd.ntmps25
    go_wp2
    go_ret
    exact ⟨rfl, rfl⟩
  · have e : namZ t = ⟨#[]⟩ := by unfold namZ; rw [if_neg h]
    rw [e]
    by_cases h0 : 0 ≤ t
    · have hd : decide (t < 8) = false := by simp; omega
      go_enter Tryd.func25, Tryd.ntmps25
      go_wp2
      go_ret
      exact ⟨rfl, rfl⟩
    · have hd : decide (0 ≤ t) = false := by simp; omega
      go_enter Tryd.func25, Tryd.ntmps25
      go_wp2
      go_ret
      exact ⟨rfl, rfl⟩

theorem back {n : Nat} (h : n < 8) : fnd nmS (nmS n) 8 0 = n := by
  match n, h with
  | 0, _ | 1, _ | 2, _ | 3, _ | 4, _ | 5, _ | 6, _ | 7, _ => decide +kernel

theorem parse_k (s : ByteArray) (w : World) (hw : Terms w) : Calls Tryd.prog 20 #[.string s] w fun e w' => e = .returned (fres (fnd nmS s 8 0)) ∧ w = w' :=
  parse_core nmS s w (Terms.name' hw)
theorem stage_k (s : ByteArray) (w : World) (hw : Stgs w) : Calls Tryd.prog 21 #[.string s] w fun e w' => e = .returned (fres (fnd sgS s 8 0)) ∧ w = w' :=
  stage_core sgS s w hw
theorem Stgs.below {w w' : World} (h : Stgs w) (hb : Below w.heap.size w w') : Stgs w' := fun i hi => cell_later hb (h i hi)

set_option maxHeartbeats 2000000 in
theorem core (t : Int) (s : ByteArray) (w : World) (hs : s.size ≤ 1000) (hw : Terms w) (hg : Stgs w) (n a k b : Int) (ok is : Bool)
    (hp : fres (fnd nmS s 8 0) = .tuple #[.int .i64 n, .bool ok]) (hst : fres (fnd sgS s 8 0) = .tuple #[.int .i64 k, .bool is]) (ha : fnd nmS s 8 0 = a) (hb : fnd sgS s 8 0 = b)
    (h1 : (ok = true ∧ 0 ≤ a ∧ n = a) ∨ (ok = false ∧ a = -1 ∧ n = 0)) (h2 : (is = true ∧ 0 ≤ b ∧ k = b) ∨ (is = false ∧ b = -1 ∧ k = 0)) :
    Calls Tryd.prog 7 #[.int .i64 t, .string s] w fun e w' => e = .returned (.bool true) ∧ Below w.heap.size w w' := by
  have HA := Lib.hid awake_k
  have HP := Lib.hid (fun w h => by have := parse_k s w h; rwa [hp] at this)
  have HS := Lib.hid (fun w h => by have := stage_k s w h; rwa [hst] at this)
  have HF := Lib.hid (fun w b h => by have := find_core nmS s w b h; rwa [ha] at this)
  have HG := Lib.hid (fun w b h => by have := find_core sgS s w b h; rwa [hb] at this)
  have HI := Lib.hid (is_k t)
  have HN := Lib.hid (name_any t)
  clear hp hst ha hb
  have hsz : decide ((1000 : Int) < (s.size : Int)) = false := by simp; omega
  cases hti : isB t with
  | false =>
    have HI' := Lib.hid (fun w h => by have := HI.out w h; rwa [hti] at this)
    have HN' := Lib.hid (fun w h => by have := HN.out w h; rwa [show namZ t = ⟨#[]⟩ by simp [isB] at hti; unfold namZ; rw [if_neg (by omega)]] at this)
    clear hti HI HN
    rcases h1 with ⟨rfl, ha, rfl⟩ | ⟨rfl, rfl, rfl⟩ <;> rcases h2 with ⟨rfl, hb, rfl⟩ | ⟨rfl, rfl, rfl⟩ <;>
    · go_enter Tryd.func7, Tryd.ntmps7
      go_wp2_with fail
      refine (HA.out _ hw).mono ?_
      rintro e w1 ⟨rfl, hw1, hb1⟩
      go_wp2_with fail
      refine (HP.out _ hw1).mono ?_
      rintro e w2 ⟨rfl, rfl⟩
      go_wp2_with fail
      refine (HS.out _ (hg.below hb1)).mono ?_
      rintro e w3 ⟨rfl, rfl⟩
      go_wp2_with fail
      refine (names_any _).mono ?_
      rintro e w4 ⟨bb, rfl, hc4, hb4⟩
      have HC4 := Lib.hid hc4
      clear hc4
      go_wp2_with fail
      refine (HF.out _ _ HC4.out).mono ?_
      rintro e w5 ⟨rfl, rfl⟩
      go_wp2_with fail
      refine (stages_any _).mono ?_
      rintro e w6 ⟨bc, rfl, hc6, hb6⟩
      have HC6 := Lib.hid hc6
      clear hc6
      go_wp2_with fail
      refine (HG.out _ _ HC6.out).mono ?_
      rintro e w7 ⟨rfl, rfl⟩
      have hbb := bt (bt hb1 hb4) hb6
      have hwb := hw.below hbb
      clear HC4 HC6 hb1 hb4 hb6 hw1 HF HG HP HS HA
      go_wp2_with fail
      refine (HI'.out _ hwb).mono ?_
      rintro e w8 ⟨rfl, hw8, hb8⟩
      go_wp2_with fail
      refine (HN'.out _ hw8).mono ?_
      rintro e w9 ⟨rfl, rfl⟩
      go_wp2
      go_ret
      exact ⟨rfl, bt hbb hb8⟩
  | true =>
    have ht : 0 ≤ t ∧ t < 8 := by simp [isB] at hti; omega
    obtain ⟨m, rfl⟩ := Int.eq_ofNat_of_zero_le ht.1
    have hm : m < 8 := by omega
    have HI' := Lib.hid (fun w h => by have := HI.out w h; rwa [hti] at this)
    have HN' := Lib.hid (fun w h => by have := HN.out w h; rwa [show namZ m = nmS m by unfold namZ; rw [if_pos ht]; rfl] at this)
    have HB := Lib.hid (fun w h => by have := parse_k (nmS m) w h; rwa [back hm, show fres (m : Int) = .tuple #[.int .i64 m, .bool true] by simp [fres]] at this)
    clear hti HI HN
    rcases h1 with ⟨rfl, ha, rfl⟩ | ⟨rfl, rfl, rfl⟩ <;> rcases h2 with ⟨rfl, hb, rfl⟩ | ⟨rfl, rfl, rfl⟩ <;>
    · go_enter Tryd.func7, Tryd.ntmps7
      go_wp2_with fail
      refine (HA.out _ hw).mono ?_
      rintro e w1 ⟨rfl, hw1, hb1⟩
      go_wp2_with fail
      refine (HP.out _ hw1).mono ?_
      rintro e w2 ⟨rfl, rfl⟩
      go_wp2_with fail
      refine (HS.out _ (hg.below hb1)).mono ?_
      rintro e w3 ⟨rfl, rfl⟩
      go_wp2_with fail
      refine (names_any _).mono ?_
      rintro e w4 ⟨bb, rfl, hc4, hb4⟩
      have HC4 := Lib.hid hc4
      clear hc4
      go_wp2_with fail
      refine (HF.out _ _ HC4.out).mono ?_
      rintro e w5 ⟨rfl, rfl⟩
      go_wp2_with fail
      refine (stages_any _).mono ?_
      rintro e w6 ⟨bc, rfl, hc6, hb6⟩
      have HC6 := Lib.hid hc6
      clear hc6
      go_wp2_with fail
      refine (HG.out _ _ HC6.out).mono ?_
      rintro e w7 ⟨rfl, rfl⟩
      have hbb := bt (bt hb1 hb4) hb6
      have hwb := hw.below hbb
      clear HC4 HC6 hb1 hb4 hb6 hw1 HF HG HP HS HA
      go_wp2_with fail
      refine (HI'.out _ hwb).mono ?_
      rintro e w8 ⟨rfl, hw8, hb8⟩
      have hb9 := bt hbb hb8
      clear hbb hb8
      go_wp2_with fail
      refine (HN'.out _ hw8).mono ?_
      rintro e w9 ⟨rfl, rfl⟩
      go_wp2_with fail
      refine (HB.out _ hw8).mono ?_
      rintro e w9 ⟨rfl, rfl⟩
      go_wp2_with fail
      refine (HN'.out _ hw8).mono ?_
      rintro e w9 ⟨rfl, rfl⟩
      go_wp2_with fail
      refine (names_any _).mono ?_
      rintro e wa ⟨bd, rfl, hca, hba⟩
      have hcm := hca m hm
      clear hca HB HN' HI'
      generalize nmS m = x at *
      have hxx : (x.toList == x.toList) = true := by simp
      go_wp2
      go_ret
      exact ⟨rfl, bt hb9 hba⟩

theorem shape (f : Int) (h : -1 ≤ f) : ∃ n ok, fres f = .tuple #[.int .i64 n, .bool ok] ∧ ((ok = true ∧ 0 ≤ f ∧ n = f) ∨ (ok = false ∧ f = -1 ∧ n = 0)) := by
  by_cases h0 : 0 ≤ f
  · exact ⟨f, true, by simp [fres, h0]; omega, .inl ⟨rfl, h0, rfl⟩⟩
  · obtain rfl : f = -1 := by omega
    exact ⟨0, false, rfl, .inr ⟨rfl, rfl, rfl⟩⟩

/-- What the listed variables give. -/
def Both (w : World) : Prop := Terms w ∧ Stgs w

theorem walk (a0 : Int) (a1 : ByteArray) (w : World) (w0 : (Lit.int .i64 a0).wf = true) (w1 : a1.size ≤ maxLen) (hw : Both w) :
    Calls Tryd.prog 7 #[.int .i64 a0, .string a1] w fun e w' => e = .returned (.bool true) ∧ Below w.heap.size w w' := by
  by_cases hs : a1.size ≤ 1000
  · obtain ⟨n, ok, h1, h2⟩ := shape (fnd nmS a1 8 0) (fnd_ge _ _ _ _)
    obtain ⟨k, is, h3, h4⟩ := shape (fnd sgS a1 8 0) (fnd_ge _ _ _ _)
    exact core a0 a1 w hs hw.1 hw.2 n _ k _ ok is h1 h3 rfl rfl h2 h4
  · have HA := Lib.hid (awake_k w hw.1)
    have hsz : decide ((1000 : Int) < (a1.size : Int)) = true := by simp; omega
    clear hw
    go_enter Tryd.func7, Tryd.ntmps7
    go_wp2_with fail
    refine HA.out.mono ?_
    rintro e w1 ⟨rfl, hw1, hb1⟩
    go_wp2
    go_ret
    exact ⟨rfl, hb1⟩

theorem terms_met {W : World} (h : laidMetH Tryd.prog Rows.termNamesRow.laid W) : Both W :=
  ⟨terms_metH (List.mem_cons_of_mem _ List.mem_cons_self) (by kernel_rfl) (by kernel_rfl) h, stgs_of_laid List.mem_cons_self (by kernel_rfl) (MakeChecks.laidMetH_plain _ _ _ (by kernel_rfl) ▸ h)⟩
end Go.Proofs.YtfhcnkedhobhgaaDoor.termNames
