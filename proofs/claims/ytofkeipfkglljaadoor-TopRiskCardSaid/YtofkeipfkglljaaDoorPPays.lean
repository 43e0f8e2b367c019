/-
  policy.Insured, policy.Pays.
-/
import Derived.Test.YtofkeipfkglljaaDoorShareC
import Derived.Test.YtofkeipfkglljaaDoorScaledP
namespace Go.Proofs.YtofkeipfkglljaaDoor
open Go Go.RowKit
set_option linter.unusedVariables false
set_option linter.unusedSimpArgs false

theorem box_at {w w1 : World} {t : TypeId} {cs : Array Value} {j : Nat} {v : Value} (h : Below (w.alloc (.cells cs t)).heap.size (w.alloc (.cells cs t)) w1) (hv : cs[j]? = some v) : w1.cell? ⟨w.heap.size, j, none⟩ = some v := by
  rw [h.cell (by simp)]; unfold World.cell?; rw [heap_alloc_new]; exact hv

theorem insured_bad (o : Po) (value : Int) (w : World) (h : Ints w o.cv o.zs) (hb : ¬ (o.may = true ∧ 1 ≤ value ∧ value ≤ 1099511627776)) :
    Calls Tryd.prog 20 #[o.val, .int .i64 value] w fun e w' => e = .returned (.tuple #[.int .i64 0, .bool false]) ∧ Below w.heap.size w w' := by
  have HB0 := Lib.hid ((Below.refl w.heap.size w).alloc (Nat.le_refl _) (.cells (Po.cells o).toArray 26))
  have HM := Lib.hid (may_o o _ (h.below HB0.out))
  generalize o.may = m at *
  obtain ⟨i, f, t, sum, own, ao, n, cap, first, last, share, e, hn, _⟩ := Po.apart h
  generalize o.zs = zs at *
  subst e
  unfold Po.val at HM ⊢
  unfold Po.cells at HM HB0 ⊢
  clear hn h
  cases m with
  | false =>
    clear hb
    go_enter Tryd.func20, Tryd.ntmps20
    go_wp2_with fail
    refine HM.out.mono ?_
    rintro e w1 ⟨rfl, hb⟩
    have HB := Lib.hid (bt HB0.out hb)
    clear hb
    go_wp2
    go_ret2
    exact ⟨rfl, HB.out⟩
  | true =>
    by_cases g : value < 1
    · have d1 : decide (value < 1) = true := by rw [decide_eq_true_iff]; exact g
      clear hb
      go_enter Tryd.func20, Tryd.ntmps20
      go_wp2_with fail
      refine HM.out.mono ?_
      rintro e w1 ⟨rfl, hb⟩
      have HB := Lib.hid (bt HB0.out hb)
      clear hb
      go_wp2
      go_ret2
      exact ⟨rfl, HB.out⟩
    · have d1 : decide (value < 1) = false := by rw [decide_eq_false_iff_not]; exact g
      have d2 : decide (1099511627776 < value) = true := by
        rw [decide_eq_true_iff]
        rcases Int.lt_or_le 1099511627776 value with h | h
        · exact h
        · exact absurd ⟨rfl, by omega, h⟩ hb
      clear hb
      go_enter Tryd.func20, Tryd.ntmps20
      go_wp2_with fail
      refine HM.out.mono ?_
      rintro e w1 ⟨rfl, hb⟩
      have HB := Lib.hid (bt HB0.out hb)
      clear hb
      go_wp2
      go_ret2
      exact ⟨rfl, HB.out⟩

theorem insured_ok (o : Po) (value : Int) (w : World) (h : Ints w o.cv o.zs) (hm : o.may = true) (h1 : 1 ≤ value) (h2 : value ≤ 1099511627776) :
    Calls Tryd.prog 20 #[o.val, .int .i64 value] w fun e w' => e = .returned (.tuple #[.int .i64 (min value o.sum), .bool true]) ∧ Below w.heap.size w w' := by
  have HB0 := Lib.hid ((Below.refl w.heap.size w).alloc (Nat.le_refl _) (.cells (Po.cells o).toArray 26))
  have HM := Lib.hid (may_o o _ (h.below HB0.out))
  rw [hm] at HM
  obtain ⟨i, f, t, sum, own, ao, n, cap, first, last, share, e, hn, _⟩ := Po.apart h
  generalize o.zs = zs at *
  subst e
  unfold Po.val at HM ⊢
  unfold Po.cells at HM HB0 ⊢
  dsimp only
  have d1 : decide (value < 1) = false := by rw [decide_eq_false_iff_not]; omega
  have d2 : decide (1099511627776 < value) = false := by rw [decide_eq_false_iff_not]; omega
  clear hn h hm h1 h2
  go_enter Tryd.func20, Tryd.ntmps20
  go_wp2_with fail
  refine HM.out.mono ?_
  rintro e w1 ⟨rfl, hb⟩
  have c3 := box_at (j := 3) hb rfl
  have HB := Lib.hid (bt HB0.out hb)
  clear hb
  go_wp2
  go_ret2
  exact ⟨by first | rfl | (congr; omega), HB.out⟩

/-- What a policy pays. -/
def Po.paysN (o : Po) (loss value : Nat) : Nat := Go.Proofs.YtofkeipfkglljaaDoor.paysN loss value o.sum.toNat o.own.toNat o.share.toNat
theorem pays_bd {o : Po} (h : o.may = true) {loss value : Nat} (hv : 0 < value) : o.paysN loss value ≤ loss ∧ (o.paysN loss value : Int) ≤ o.sum := by
  have h1 := may_nums h
  obtain ⟨h2, h3⟩ := pays_le (loss := loss) (sum := o.sum.toNat) (own := o.own.toNat) hv (share := o.share.toNat) (by omega)
  unfold Po.paysN
  omega

set_option maxHeartbeats 4000000 in
theorem pays_ok (o : Po) (loss value : Nat) (w : World) (h : Ints w o.cv o.zs) (hm : o.may = true) (h1 : 1 ≤ value) (h2 : value ≤ 1099511627776) (h3 : loss ≤ 1099511627776) :
    Calls Tryd.prog 10 #[o.val, .int .i64 (loss : Int), .int .i64 (value : Int)] w fun e w' => e = .returned (.tuple #[.int .i64 (o.paysN loss value : Int), .bool true]) ∧ Below w.heap.size w w' := by
  have hb := may_nums hm
  have HB0 := Lib.hid ((Below.refl w.heap.size w).alloc (Nat.le_refl _) (.cells (Po.cells o).toArray 26))
  have HI := Lib.hid (insured_ok o value _ (h.below HB0.out) hm (by omega) (by omega))
  have e0 : min (value : Int) o.sum = ((min value o.sum.toNat : Nat) : Int) := by omega
  rw [e0] at HI
  obtain ⟨ins, hins⟩ : ∃ x, x = min value o.sum.toNat := ⟨_, rfl⟩
  rw [← hins] at HI
  obtain ⟨ml, hml⟩ : ∃ x, x = min loss value := ⟨_, rfl⟩
  have h4 : ml * ins / value ≤ ml := Nat.div_le_of_le_mul (by rw [Nat.mul_comm value]; exact Nat.mul_le_mul_left _ (by omega))
  have HO1 := Lib.hid (fun w => of_ok ml ins value w (by omega) (by omega) (by omega) (by omega))
  have HV1 := Lib.hid (show ofV ml ins value = .tuple #[.int .i64 ((ml * ins / value : Nat) : Int), .bool true] by unfold ofV; exact if_pos (by omega))
  rw [HV1.out] at HO1
  obtain ⟨part, hpart⟩ : ∃ x, x = ml * ins / value := ⟨_, rfl⟩
  rw [← hpart] at HO1 h4
  obtain ⟨mx, hmx⟩ : ∃ x, x = part - o.own.toNat := ⟨_, rfl⟩
  have h5 : mx * o.share.toNat / 1000 ≤ mx := Nat.div_le_of_le_mul (by rw [Nat.mul_comm 1000]; exact Nat.mul_le_mul_left _ (by omega))
  have HO2 := Lib.hid (fun w => of_ok mx o.share.toNat 1000 w (by omega) (by omega) (by omega) (by omega))
  have HV2 := Lib.hid (show ofV mx o.share.toNat 1000 = .tuple #[.int .i64 ((o.paysN loss value : Nat) : Int), .bool true] by
    have e : o.paysN loss value = mx * o.share.toNat / 1000 := by rw [hmx, hpart, hml, hins]; rfl
    rw [e]; unfold ofV; exact if_pos (by omega))
  rw [HV2.out] at HO2
  have e2 : ((o.share.toNat : Nat) : Int) = o.share := by omega
  rw [e2] at HO2
  have e1 : min (loss : Int) (value : Int) = (ml : Int) := by omega
  have e4 : IntKind.i64.wrap ((part : Int) - o.own) = (part : Int) - o.own := IntWalk.i64_in _ (by omega)
  have e5 : max ((part : Int) - o.own) 0 = (mx : Int) := by omega
  have d1 : decide ((loss : Int) < 0) = false := by rw [decide_eq_false_iff_not]; omega
  have d2 : decide (1099511627776 < (loss : Int)) = false := by rw [decide_eq_false_iff_not]; omega
  generalize o.paysN loss value = N at *
  obtain ⟨i, f, t, sum, own, ao, n, cap, first, last, share, e, hn, _⟩ := Po.apart h
  generalize o.zs = zs at *
  subst e
  dsimp only at HO2 e4 e5
  unfold Po.val at HI ⊢
  unfold Po.cells at HI HB0 ⊢
  dsimp only at HI HB0
  clear hn h hm h1 h2 h3 h4 h5 HV1 HV2 e0 e2 hb hins hml hpart hmx
  go_enter Tryd.func10, Tryd.ntmps10
  go_wp2_with fail
  refine HI.out.mono ?_
  rintro e w1 ⟨rfl, hb⟩
  have c4 := box_at (j := 4) hb rfl
  have c8 := box_at (j := 8) hb rfl
  have HB := Lib.hid (bt HB0.out hb)
  clear hb
  obtain ⟨bx, hbx⟩ : ∃ b, b = w.heap.size := ⟨_, rfl⟩
  rw [← hbx] at c4 c8 ⊢
  have HX := Lib.hid hbx
  clear hbx
  go_wp2_with fail
  refine (HO1.out _).mono ?_
  rintro e w2 ⟨rfl, hb⟩
  have c4 := cell_later hb c4
  have c8 := cell_later hb c8
  have HB := Lib.hid (bt HB.out hb)
  clear hb
  go_wp2_with fail
  refine (HO2.out _).mono ?_
  rintro e w3 ⟨rfl, hb⟩
  have HB := Lib.hid (bt HB.out hb)
  clear hb
  go_wp2
  go_ret2
  exact ⟨rfl, HB.out⟩

theorem pays_bad (o : Po) (loss value : Int) (w : World) (h : Ints w o.cv o.zs) (hb : ¬ (o.may = true ∧ 1 ≤ value ∧ value ≤ 1099511627776 ∧ 0 ≤ loss ∧ loss ≤ 1099511627776)) :
    Calls Tryd.prog 10 #[o.val, .int .i64 loss, .int .i64 value] w fun e w' => e = .returned (.tuple #[.int .i64 0, .bool false]) ∧ Below w.heap.size w w' := by
  have HB0 := Lib.hid ((Below.refl w.heap.size w).alloc (Nat.le_refl _) (.cells (Po.cells o).toArray 26))
  by_cases g : o.may = true ∧ 1 ≤ value ∧ value ≤ 1099511627776
  · have HI := Lib.hid (insured_ok o value _ (h.below HB0.out) g.1 g.2.1 g.2.2)
    generalize min value o.sum = ins at *
    obtain ⟨i, f, t, sum, own, ao, n, cap, first, last, share, e, hn, _⟩ := Po.apart h
    generalize o.zs = zs at *
    subst e
    unfold Po.val at HI ⊢
    unfold Po.cells at HI HB0 ⊢
    by_cases g1 : loss < 0
    · have d1 : decide (loss < 0) = true := by rw [decide_eq_true_iff]; exact g1
      clear hn h hb g
      go_enter Tryd.func10, Tryd.ntmps10
      go_wp2_with fail
      refine HI.out.mono ?_
      rintro e w1 ⟨rfl, hb⟩
      have HB := Lib.hid (bt HB0.out hb)
      clear hb
      go_wp2
      go_ret2
      exact ⟨rfl, HB.out⟩
    · have d1 : decide (loss < 0) = false := by rw [decide_eq_false_iff_not]; exact g1
      have d2 : decide (1099511627776 < loss) = true := by
        rw [decide_eq_true_iff]
        rcases Int.lt_or_le 1099511627776 loss with h | h
        · exact h
        · exact absurd ⟨g.1, g.2.1, g.2.2, by omega, h⟩ hb
      clear hn h hb g
      go_enter Tryd.func10, Tryd.ntmps10
      go_wp2_with fail
      refine HI.out.mono ?_
      rintro e w1 ⟨rfl, hb⟩
      have HB := Lib.hid (bt HB0.out hb)
      clear hb
      go_wp2
      go_ret2
      exact ⟨rfl, HB.out⟩
  · have HI := Lib.hid (insured_bad o value _ (h.below HB0.out) g)
    obtain ⟨i, f, t, sum, own, ao, n, cap, first, last, share, e, hn, _⟩ := Po.apart h
    generalize o.zs = zs at *
    subst e
    unfold Po.val at HI ⊢
    unfold Po.cells at HI HB0 ⊢
    clear hn h hb g
    go_enter Tryd.func10, Tryd.ntmps10
    go_wp2_with fail
    refine HI.out.mono ?_
    rintro e w1 ⟨rfl, hb⟩
    have HB := Lib.hid (bt HB0.out hb)
    clear hb
    go_wp2
    go_ret2
    exact ⟨rfl, HB.out⟩
end Go.Proofs.YtofkeipfkglljaaDoor
