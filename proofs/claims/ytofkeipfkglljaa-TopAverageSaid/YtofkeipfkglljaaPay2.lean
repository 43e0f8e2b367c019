/-
  The closure of average.Pays that pays one.
-/
import Derived.Test.YtofkeipfkglljaaPay
import Derived.OwnWalk
import Derived.Deep.RegionLaw
namespace Go.Proofs.Ytofkeipfkglljaa
open Go Go.RowKit
set_option linter.unusedVariables false
set_option linter.unusedSimpArgs false

theorem Try.infoDebt : (Try.prog.info? 55).map (fun i => (i.zero, i.size, i.bytes)) = some (some (.agg #[.string ⟨#[]⟩, .string ⟨#[]⟩, .string ⟨#[]⟩, .int .i64 0]), 4, 56) := by kernel_rfl
theorem debt_one (d : De) : ∀ u ∈ d.cells, u.oneCell' = true := by
  intro u hu; simp [De.cells] at hu
  rcases hu with rfl | rfl | rfl | rfl <;> rfl

def PayPost (w0 : World) (l : List In1) (lv : Value) (bG bg : Nat) (t : ByteArray) (s : PS) (e : Ending) (w' : World) : Prop :=
  ∃ f' v', e = .returned (.tuple #[]) ∧ PEnv w0 l lv bG bg w' (scanTo l t s l.length).G v' (scanTo l t s l.length).D f'

set_option maxRecDepth 100000 in
set_option maxHeartbeats 8000000 in
theorem pay_any (w0 : World) (l : List In1) (ao : Option Addr) (n cap : Nat) (bG bg : Nat) (t : ByteArray) (w : World) (G : List Int) (v : Value) (D : List De) (f : Nat) (due : Int) (h : PEnv w0 l (.slice ao n cap) bG bg w G v D f) (hn : n = l.length) (h40 : n ≤ 4096) (hM : ∀ j, -4398046511104 ≤ G.getD j 0 ∧ G.getD j 0 ≤ 4398046511104) (hd : due ≤ 4398046511104) (hD : D.length ≤ 16781312) :
    Calls Try.prog 25 #[.string t, .int .i64 due, .pointer (some ⟨bg + 3, 0, none⟩), .pointer (some ⟨bg + 1, 0, none⟩), .pointer (some ⟨w0.heap.size, 0, none⟩), .pointer (some ⟨bg + 2, 0, none⟩), .pointer (some ⟨bg, 0, none⟩)] w (PayPost w0 l (.slice ao n cap) bG bg t ⟨G, due, D⟩) := by
  have H := Lib.hid h
  have HN := Lib.hid hn
  have HSB := Lib.hid (fun c => scan_bd (l := l) (t := t) (s := ⟨G, due, D⟩) hM c)
  have HSD := Lib.hid (fun c => scan_debts l t ⟨G, due, D⟩ c)
  have HDD := Lib.hid hD
  have HDU := Lib.hid hd
  obtain ⟨i0, hi, hz0, hz1, hz2⟩ := info_parts Try.infoDebt
  have H0 := Lib.hid (show scanTo l t ⟨G, due, D⟩ 0 = ⟨G, due, D⟩ from rfl)
  clear h hn hM hd hD
  go_enter Try.func25, Try.ntmps25
  go_wp2_with fail
  go_loopw [1] (fun i wr => ∃ (c f' : Nat) (v' : Value), c ≤ n ∧ i = .int .i64 (scanTo l t ⟨G, due, D⟩ c).n ∧ Hid (PEnv w0 l (.slice ao n cap) bG bg wr (scanTo l t ⟨G, due, D⟩ c).G v' (scanTo l t ⟨G, due, D⟩ c).D f') ∧ Hid (∀ j, j < c → (scanTo l t ⟨G, due, D⟩ c).n ≤ 0 ∨ 0 ≤ (scanTo l t ⟨G, due, D⟩ c).G.getD j 0)) (fun i _ => (intOf i).toNat)
  case atStart => exact ⟨0, f, v, Nat.zero_le _, by rw [H0.out], by rw [H0.out]; exact H, Lib.hid (fun j hj => by omega)⟩
  case round =>
    obtain ⟨c, f', v', hc, rfl, hE, hP⟩ := hrel
    obtain ⟨s, hs⟩ : ∃ s, s = scanTo l t ⟨G, due, D⟩ c := ⟨_, rfl⟩
    rw [← hs] at hE hP ⊢
    have HS := Lib.hid hs
    have hsb := HSB.out c
    have hsd := HSD.out c
    rw [← hs] at hsb hsd
    clear hs
    obtain ⟨sG, sn, sD⟩ := s
    dsimp only at hE hP hsb hsd ⊢
    by_cases g1 : 0 < sn
    · have d1 : decide (0 < sn) = true := by rw [decide_eq_true_iff]; exact g1
      have HO := Lib.hid (fun (w : World) hE => owes_any w0 l (.slice ao n cap) bG bg w sG v' sD f' hE (by rw [← HN.out]; exact h40) hsb.1)
      have c1 := hE.out.hw
      unfold owesV at c1
      have hsn : sn ≤ 4398046511104 := Int.le_trans hsb.2 HDU.out
      have HB1 := Lib.hid hsb.1
      have hsd : sD.length ≤ 16785408 := by have := HDD.out; omega
      clear hsb
      go_wp2_with fail
      refine (HO.out _ hE.out).mono ?_
      rintro e w1 ⟨c', hfc, hcase, hE1⟩
      rcases hcase with ⟨hcl, rfl⟩ | ⟨hcl, hneg, rfl⟩
      · have HE1 := Lib.hid hE1
        have HFin := Lib.hid (show scanTo l t ⟨G, due, D⟩ l.length = ⟨sG, sn, sD⟩ by
          rw [HS.out]
          refine scan_skip (by rw [← HN.out]; exact hc) (fun j h1 h2 => ?_)
          rw [← HS.out]
          exact .inr (hE1.nn j (by omega)))
        have d2 : min sn 0 = 0 := by omega
        clear hE1 hfc hcl HO c1
        go_wp2
        refine bodyPost_ret (v := .tuple #[]) (by simp [results, Try.results25]) rfl ?_
        unfold PayPost
        rw [HFin.out]
        exact ⟨c', v', rfl, HE1.out⟩
      · have hcc : c ≤ c' := by
          rcases Nat.lt_or_ge c' c with h | h
          · have := hP.out c' h; omega
          · exact h
        have HC := Lib.hid (show scanTo l t ⟨G, due, D⟩ c' = ⟨sG, sn, sD⟩ by
          rw [HS.out]
          refine scan_skip hcc (fun j h1 h2 => ?_)
          rw [← HS.out]
          exact .inr (hE1.nn j (by omega)))
        obtain ⟨y, hy⟩ : ∃ y, y = sG.getD c' 0 := ⟨_, rfl⟩
        have HY := Lib.hid hy
        have HGb := Lib.hid (show -4398046511104 ≤ y by rw [hy]; exact (HB1.out c').1)
        rw [← hy] at hneg ⊢
        obtain ⟨p, hp⟩ : ∃ p, p = min sn (-y) := ⟨_, rfl⟩
        have hp1 : 1 ≤ p ∧ p ≤ sn ∧ p ≤ -y ∧ (p = sn ∨ p = -y) := by omega
        have HC1 := Lib.hid (show scanTo l t ⟨G, due, D⟩ (c' + 1) = ⟨sG.set c' (y + p), sn - p, sD ++ [⟨(l.getD c' default).t, t, emp, p⟩]⟩ by
          show stp l t c' (scanTo l t ⟨G, due, D⟩ c') = _
          rw [HC.out, stp_yes (by exact g1) (by show sG.getD c' 0 < 0; rw [← hy]; exact hneg)]
          dsimp only
          rw [← hy, ← hp])
        have HNew := Lib.hid (show ∀ j, j < c' + 1 → sn - p ≤ 0 ∨ 0 ≤ (sG.set c' (y + p)).getD j 0 from fun j hj => by
          rw [set_getD]
          by_cases e : c' = j
          · subst e
            rw [if_pos ⟨rfl, by rw [hE1.gl]; exact hcl⟩]
            omega
          · rw [if_neg (by omega)]
            exact .inr (hE1.nn j (by omega)))
        have HE1 := Lib.hid hE1
        have d2 : (p == 0) = false := by rw [beq_eq_false_iff_ne]; omega
        have hgy := HGb.out
        have v1 : IntKind.i64.wrap (y + p) = y + p := IntWalk.i64_in _ (by omega)
        have v2 : IntKind.i64.wrap (sn - p) = sn - p := IntWalk.i64_in _ (by omega)
        have hpm : min sn (-y) = p := hp.symm
        have HPS := Lib.hid hp1
        have HL1 := Lib.hid (show (sn - p).toNat < sn.toNat by omega)
        clear hP hy hp hp1 hE1 hneg HO c1 hcc hfc hgy
        have k1 := HE1.out.ho
        have k2 := HE1.out.hl
        have k3 := HE1.out.hf
        have k4 := HE1.out.hg
        have f1 := HE1.out.fo
        rw [← HN.out] at hcl k4
        obtain ⟨bl, off, rfl, hbl, hcell⟩ := HE1.out.hi.get HN.out (by omega)
        obtain ⟨k5, -⟩ := hcell c' hcl
        have k5 : w1.cell? ⟨bl, off + c' * 2, none⟩ = some (.string (l.getD c' default).t) := by rw [HE1.out.hb.cell (by show bl < _; omega)]; exact k5
        have l1 : (c' : Int) < (n : Int) := by omega
        have l0 : (0 : Int) ≤ (c' : Int) := by omega
        obtain ⟨nm, hnm⟩ : ∃ nm, nm = (l.getD c' default).t := ⟨_, rfl⟩
        rw [← hnm] at k5 HC1
        have L1 : sD.length + 1 ≤ maxLen := by unfold maxLen; omega
        have L2 : (sD.length + 1) * 56 ≤ 140737488355328 := by omega
        have Z4 : 0 < 4 := by decide
        have HOw := Lib.hid ((HE1.out.row.alloc (.cells #[.string nm, .string t, .string emp, .int .i64 p] 55)).drew)
        have HBo := Lib.hid ((((Below.refl (bg + 4) w1).alloc (by have := HE1.out.l3; omega) (.cells #[.string nm, .string t, .string emp, .int .i64 p] 55)).drew))
        have HBs : bg + 4 ≤ ((w1.alloc (.cells #[.string nm, .string t, .string emp, .int .i64 p] 55)).drew).heap.size := by have := HE1.out.l3; simp; omega
        have HL3 := Lib.hid (HE1.out.l3)
        unfold emp at HOw HBo HBs
        clear hcell hnm hbl
        go_upto_region 3 with fail
        go_cut [] from 18 to 28 (fun wx => ∃ v4, Hid (PEnv w0 l (.slice (some ⟨bl, off, none⟩) n cap) bG bg wx sG v4 (sD ++ [⟨nm, t, ⟨#[]⟩, p⟩]) c'))
        case first =>
          have HA := Lib.hid ((Below.refl w1.heap.size w1).alloc (Nat.le_refl _) (.cells #[.string nm, .string t, .string ⟨#[]⟩, .int .i64 p] 55))
          have m1 := cell_later HA.out k1
          have m2 := cell_later HA.out k2
          have m3 := cell_later HA.out k3
          have m5 := cell_later HA.out k5
          have m6 := (HE1.out.later HA.out).fo
          go_region_law (refine step_app rfl (.tmp 18) (.tmp 27) 51 rfl (bg + 4) 55 i0 _ 4 56 Try.underlying51 hi hz0 hz1 hz2 rfl Z4 _ _ _ rfl HOw.out HBo.out (Nat.le_refl _) HBs #[.string nm, .string t, .string ⟨#[]⟩, .int .i64 p] w1.heap.size rfl (new_cells _ _ _) rfl (debt_one ⟨nm, t, ⟨#[]⟩, p⟩) L1 L2 ?_; intro v4 w4 hown4 hb4 _; obtain ⟨ao4, cap4, rfl⟩ := own_shape hown4; have q0 : w4.cell? ⟨bg + 1, 0, none⟩ = some v' := (heap_cell (hb4.block (bg + 1) (by omega))).trans k1; have q1 : w4.frozen? ⟨bg + 1, 0, none⟩ = false := (World.frozen?_of_block (hb4.block (bg + 1) (by omega))).trans f1; have Q := Lib.hid (And.intro hown4 hb4); clear hown4 hb4)
          all_goals
            dsimp only [Exit.then]
            apply_assumption
            go_meet
            obtain ⟨hown4, hb4⟩ := Q.out
            exact ⟨_, Lib.hid (HE1.out.app ⟨nm, t, ⟨#[]⟩, p⟩ hb4 hown4)⟩
        case rest =>
          obtain ⟨v4, hE4⟩ := hcut
          clear k1 k2 k3 k4 f1 k5
          have k3 := hE4.out.hf
          have k4 := hE4.out.hg
          rw [← HN.out] at k4
          have k6 := hE4.out.gcell (c := c') (by rw [← HN.out]; exact hcl)
          rw [← HY.out] at k6
          have k7 := hE4.out.hG.free c'
          have HE5 := Lib.hid (hE4.out.setG c' (y + p) (Nat.le_refl _))
          go_wp2
          go_roundw
          case rel => exact ⟨c' + 1, c', v4, by omega, by rw [HC1.out], by rw [HC1.out]; exact HE5, by rw [HC1.out]; exact HNew⟩
          case measure => exact HL1.out
    · have d1 : decide (0 < sn) = false := by rw [decide_eq_false_iff_not]; exact g1
      have HFin := Lib.hid (show scanTo l t ⟨G, due, D⟩ l.length = ⟨sG, sn, sD⟩ by
        rw [HS.out]
        refine scan_skip (by rw [← HN.out]; exact hc) (fun j h1 h2 => ?_)
        rw [← HS.out]
        exact .inl (by show sn ≤ 0; omega))
      go_wp2
      go_end0
      unfold PayPost
      rw [HFin.out]
      exact ⟨f', v', rfl, hE.out⟩
end Go.Proofs.Ytofkeipfkglljaa
