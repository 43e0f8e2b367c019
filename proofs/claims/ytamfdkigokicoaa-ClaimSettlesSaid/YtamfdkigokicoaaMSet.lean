/-
  Settle, Subrogate; ClaimSettles. (Put together of XSettle, XSettleB.)
-/
import Derived.Test.YtamfdkigokicoaaMDraw
import Derived.Test.YtamfdkigokicoaaCWhole
namespace Go.Proofs.Ytamfdkigokicoaa
open Go Go.RowKit Go.Deep
set_option linter.unusedVariables false
set_option linter.unusedSimpArgs false

/-- What a cover that runs out still pays; the error. -/
def canB (loss value : Int) : Bool := decide (1 ≤ value) && (sumB value && sumB loss)
def settleN (o : Po) (l : List Dw) (loss value : Int) : Int × Int :=
  if (openN o l).2 ≠ 0 then (0, (openN o l).2) else if canB loss value = true then (min (o.paysN loss.toNat value.toNat : Int) (openN o l).1, 0) else (0, 1)
theorem openN_may {o : Po} {l : List Dw} (h : (openN o l).2 = 0) : o.may = true := by
  unfold openN at h
  split at h
  · simp at h
  · rename_i g
    revert g
    cases o.may <;> simp
theorem can_iff {loss value : Int} : canB loss value = true ↔ 1 ≤ value ∧ value ≤ 1099511627776 ∧ 0 ≤ loss ∧ loss ≤ 1099511627776 := by
  simp only [canB, sumB, Bool.and_eq_true, decide_eq_true_eq]
  omega

set_option maxHeartbeats 4000000 in
theorem settle_any (o : Po) (loss value : Int) (ao : Option Addr) (n cap : Nat) (l : List Dw) (w : World) (h : Ints w o.cv o.zs) (hd : Draws w (.slice ao n cap) l) (hn : n = l.length) (hcap : n ≤ 100) :
    Calls Try.prog 24 #[.int .i64 loss, .int .i64 value, o.val, .slice ao n cap] w fun e w' => e = .returned (.tuple #[.int .i64 (settleN o l loss value).1, .int .i64 (settleN o l loss value).2]) ∧ Below w.heap.size w w' := by
  have hba := (Below.refl w.heap.size w).alloc (Nat.le_refl _) (.cells (Po.cells o).toArray 32)
  have HO := Lib.hid (popen_any o ao n cap l _ (h.below hba) (hd.below hba) hn hcap)
  have HB := Lib.hid hba
  have HI := Lib.hid (h.below hba)
  have HSet := Lib.hid (show settleN o l loss value = if (openN o l).2 ≠ 0 then (0, (openN o l).2) else if canB loss value = true then (min (o.paysN loss.toNat value.toNat : Int) (openN o l).1, 0) else (0, 1) from rfl)
  have HMy := Lib.hid (fun h => openN_may (o := o) (l := l) h)
  obtain ⟨S, hS⟩ : ∃ S, S = settleN o l loss value := ⟨_, rfl⟩
  rw [← hS] at HSet ⊢
  generalize openN o l = E at *
  obtain ⟨E1, E2⟩ := E
  dsimp only at HO HSet HMy
  have HPo := Lib.hid (fun (W : World) (hm : o.may = true) (hi : Ints W o.cv o.zs) (hc : 1 ≤ value ∧ value ≤ 1099511627776 ∧ 0 ≤ loss ∧ loss ≤ 1099511627776) => show Calls Try.prog 43 #[o.val, .int .i64 loss, .int .i64 value] W fun e w' => e = .returned (.tuple #[.int .i64 (o.paysN loss.toNat value.toNat : Int), .bool true]) ∧ Below W.heap.size W w' from by
    have := pays_ok o loss.toNat value.toNat W hi hm (by omega) (by omega) (by omega)
    rw [show ((loss.toNat : Nat) : Int) = loss by omega, show ((value.toNat : Nat) : Int) = value by omega] at this
    exact this)
  have HPb := Lib.hid (fun W hi hb => pays_bad o loss value W hi hb)
  obtain ⟨N, hN⟩ : ∃ N : Int, N = (o.paysN loss.toNat value.toNat : Int) := ⟨_, rfl⟩
  rw [← hN] at HSet HPo
  clear hba hd hn hcap hN
  obtain ⟨i, f, t, sum, own, ap, np, capp, first, last, share, e, hnp, hq1, hq2⟩ := Po.apart h
  clear h hnp hq1 hq2 hS
  generalize o.zs = zs at *
  obtain ⟨m, hm⟩ : ∃ m, m = o.may := ⟨_, rfl⟩
  rw [← hm] at HPo HPb HMy
  clear hm
  subst e
  unfold Po.val at HO HPo HPb ⊢
  unfold Po.cells at HO HB HI HPo HPb ⊢
  dsimp only at HO HB HI HPo HPb ⊢
  by_cases g : E2 = 0
  · subst g
    obtain rfl : m = true := HMy.out rfl
    by_cases gc : canB loss value = true
    · have hS : S = (min N E1, 0) := by rw [HSet.out, if_neg (by simp), if_pos gc]
      have hc := can_iff.1 gc
      subst hS
      have HP1 := Lib.hid (fun W hi => HPo.out W rfl hi hc)
      clear hc gc HPb HPo HSet
      go_enter Try.func24, Try.ntmps24
      go_wp2_with fail
      refine HO.out.mono ?_
      rintro e w1 ⟨rfl, hb1⟩
      have HB1 := Lib.hid (bt HB.out hb1)
      have HP2 := Lib.hid (HP1.out w1 (Ints.below HI.out hb1))
      have p0 := box_at (j := 0) (v := .string i) hb1 rfl
      have p1 := box_at (j := 1) (v := .string f) hb1 rfl
      have p2 := box_at (j := 2) (v := .string t) hb1 rfl
      have p3 := box_at (j := 3) (v := .int .i64 sum) hb1 rfl
      have p4 := box_at (j := 4) (v := .int .i64 own) hb1 rfl
      have p5 := box_at (j := 5) (v := .slice ap np capp) hb1 rfl
      have p6 := box_at (j := 6) (v := .int .i64 first) hb1 rfl
      have p7 := box_at (j := 7) (v := .int .i64 last) hb1 rfl
      have p8 := box_at (j := 8) (v := .int .i64 share) hb1 rfl
      clear hb1
      go_wp2_with fail
      refine HP2.out.mono ?_
      rintro e w2 ⟨rfl, hb2⟩
      have HB2 := Lib.hid (bt HB1.out hb2)
      clear hb2
      go_wp2
      go_ret2
      exact ⟨rfl, HB2.out⟩
    · have hS : S = (0, 1) := by rw [HSet.out, if_neg (by simp), if_neg gc]
      have hc : ¬ (true = true ∧ 1 ≤ value ∧ value ≤ 1099511627776 ∧ 0 ≤ loss ∧ loss ≤ 1099511627776) := fun h => gc (can_iff.2 h.2)
      subst hS
      have HP1 := Lib.hid (fun W hi => HPb.out W hi hc)
      clear hc gc HPb HPo HSet
      go_enter Try.func24, Try.ntmps24
      go_wp2_with fail
      refine HO.out.mono ?_
      rintro e w1 ⟨rfl, hb1⟩
      have HB1 := Lib.hid (bt HB.out hb1)
      have HP2 := Lib.hid (HP1.out w1 (Ints.below HI.out hb1))
      have p0 := box_at (j := 0) (v := .string i) hb1 rfl
      have p1 := box_at (j := 1) (v := .string f) hb1 rfl
      have p2 := box_at (j := 2) (v := .string t) hb1 rfl
      have p3 := box_at (j := 3) (v := .int .i64 sum) hb1 rfl
      have p4 := box_at (j := 4) (v := .int .i64 own) hb1 rfl
      have p5 := box_at (j := 5) (v := .slice ap np capp) hb1 rfl
      have p6 := box_at (j := 6) (v := .int .i64 first) hb1 rfl
      have p7 := box_at (j := 7) (v := .int .i64 last) hb1 rfl
      have p8 := box_at (j := 8) (v := .int .i64 share) hb1 rfl
      clear hb1
      go_wp2_with fail
      refine HP2.out.mono ?_
      rintro e w2 ⟨rfl, hb2⟩
      have HB2 := Lib.hid (bt HB1.out hb2)
      clear hb2
      go_wp2
      go_ret2
      exact ⟨rfl, HB2.out⟩
  · have hS : S = (0, E2) := by rw [HSet.out, if_pos g]
    subst hS
    have e0 : (E2 != 0) = true := by simp [bne, g]
    have e1 : (E2 == 0) = false := by simp [g]
    clear g HPb HPo HSet HMy
    go_enter Try.func24, Try.ntmps24
    go_wp2_with fail
    refine HO.out.mono ?_
    rintro e w1 ⟨rfl, hb1⟩
    have HB1 := Lib.hid (bt HB.out hb1)
    clear hb1
    go_wp2
    go_ret2
    exact ⟨rfl, HB1.out⟩

theorem ramount_any (z : Int) (w : World) :
    Calls Try.prog 73 #[.int .i64 z] w fun e w' => e = .returned (.bool (sumB z)) ∧ w' = w := by
  unfold sumB
  cases h1 : decide (0 ≤ z) with
  | true =>
    go_enter Try.func73, Try.ntmps73
    go_wp2
    go_ret
    exact ⟨by rw [Bool.true_and]; rfl, rfl⟩
  | false =>
    go_enter Try.func73, Try.ntmps73
    go_wp2
    go_ret
    exact ⟨by rw [Bool.false_and]; rfl, rfl⟩

set_option maxHeartbeats 2000000 in
theorem rcan_any (o : Po) (loss value : Int) (w : World) (h : Ints w o.cv o.zs) (s1 : o.i.size ≤ maxLen) (s2 : o.f.size ≤ maxLen) (s3 : o.t.size ≤ maxLen) (s4 : o.zs.length ≤ 1000) :
    Calls Try.prog 49 #[o.val, .int .i64 loss, .int .i64 value] w fun e w' => e = .returned (.bool (o.may && canB loss value)) ∧ Below w.heap.size w w' := by
  have hba := (Below.refl w.heap.size w).alloc (Nat.le_refl _) (.cells (Po.cells o).toArray 32)
  have HM := Lib.hid (rmay_o o _ (h.below hba) s1 s2 s3 s4)
  have HB := Lib.hid hba
  have HA := Lib.hid (fun z w => ramount_any z w)
  unfold canB
  generalize o.may = m at *
  obtain ⟨i, f, t, sum, own, ap, np, capp, first, last, share, e, hnp, hq1, hq2⟩ := Po.apart h
  clear h hnp hq1 hq2 s1 s2 s3 s4 hba
  generalize o.zs = zs at *
  subst e
  unfold Po.val at HM ⊢
  unfold Po.cells at HM HB ⊢
  dsimp only at HM HB ⊢
  cases m with
  | false =>
    go_enter Try.func49, Try.ntmps49
    go_wp2_with fail
    refine HM.out.mono ?_
    rintro e w1 ⟨rfl, hb1⟩
    have HB1 := Lib.hid (bt HB.out hb1)
    clear hb1
    go_wp2
    go_ret
    exact ⟨rfl, HB1.out⟩
  | true =>
    cases g1 : decide (1 ≤ value) with
    | false =>
      go_enter Try.func49, Try.ntmps49
      go_wp2_with fail
      refine HM.out.mono ?_
      rintro e w1 ⟨rfl, hb1⟩
      have HB1 := Lib.hid (bt HB.out hb1)
      clear hb1
      go_wp2
      go_ret
      exact ⟨rfl, HB1.out⟩
    | true =>
      have HA1 := Lib.hid (fun w => HA.out value w)
      have HA2 := Lib.hid (fun w => HA.out loss w)
      cases g2 : sumB value with
      | false =>
        rw [g2] at HA1
        go_enter Try.func49, Try.ntmps49
        go_wp2_with fail
        refine HM.out.mono ?_
        rintro e w1 ⟨rfl, hb1⟩
        have HB1 := Lib.hid (bt HB.out hb1)
        clear hb1
        go_wp2_with fail
        refine (HA1.out _).mono ?_
        rintro e w2 ⟨rfl, rfl⟩
        go_wp2
        go_ret
        exact ⟨rfl, HB1.out⟩
      | true =>
        rw [g2] at HA1
        generalize sumB loss = x at *
        go_enter Try.func49, Try.ntmps49
        go_wp2_with fail
        refine HM.out.mono ?_
        rintro e w1 ⟨rfl, hb1⟩
        have HB1 := Lib.hid (bt HB.out hb1)
        clear hb1
        go_wp2_with fail
        refine (HA1.out _).mono ?_
        rintro e w2 ⟨rfl, rfl⟩
        go_wp2_with fail
        refine (HA2.out _).mono ?_
        rintro e w2 ⟨rfl, rfl⟩
        go_wp2
        go_ret
        exact ⟨by first | rfl | simp, HB1.out⟩


set_option maxHeartbeats 8000000 in
theorem rsettle_any (o : Po) (loss value : Int) (ao : Option Addr) (n cap : Nat) (l : List Dw) (w : World) (h : Ints w o.cv o.zs) (s1 : o.i.size ≤ maxLen) (s2 : o.f.size ≤ maxLen) (s3 : o.t.size ≤ maxLen) (s4 : o.zs.length ≤ 1000) (hd : Draws w (.slice ao n cap) l) (hn : n = l.length) (hcap : n ≤ 100) :
    Calls Try.prog 25 #[.int .i64 loss, .int .i64 value, o.val, .slice ao n cap] w fun e w' => e = .returned (.tuple #[.int .i64 (settleN o l loss value).1, .int .i64 (settleN o l loss value).2]) ∧ Below w.heap.size w w' := by
  have hba := (Below.refl w.heap.size w).alloc (Nat.le_refl _) (.cells (Po.cells o).toArray 32)
  have HO := Lib.hid (ropen_any o ao n cap l _ (h.below hba) s1 s2 s3 s4 (hd.below hba) hn hcap)
  have HB := Lib.hid hba
  have HI := Lib.hid (h.below hba)
  have HSet := Lib.hid (show settleN o l loss value = if (openN o l).2 ≠ 0 then (0, (openN o l).2) else if canB loss value = true then (min (o.paysN loss.toNat value.toNat : Int) (openN o l).1, 0) else (0, 1) from rfl)
  have HMy := Lib.hid (fun h => openN_may (o := o) (l := l) h)
  obtain ⟨S, hS⟩ : ∃ S, S = settleN o l loss value := ⟨_, rfl⟩
  rw [← hS] at HSet ⊢
  generalize openN o l = E at *
  obtain ⟨E1, E2⟩ := E
  dsimp only at HO HSet HMy
  have HPo := Lib.hid (fun (W : World) (hm : o.may = true) (hi : Ints W o.cv o.zs) (hc : 1 ≤ value ∧ value ≤ 1099511627776 ∧ 0 ≤ loss ∧ loss ≤ 1099511627776) => show Calls Try.prog 40 #[o.val, .int .i64 loss, .int .i64 value] W fun e w' => e = .returned (.int .i64 (o.paysN loss.toNat value.toNat : Int)) ∧ Below W.heap.size W w' from by
    have := rpays_any o loss.toNat value.toNat W hi hm (by omega) (by omega) (by omega)
    rw [show ((loss.toNat : Nat) : Int) = loss by omega, show ((value.toNat : Nat) : Int) = value by omega] at this
    exact this)
  have HCn := Lib.hid (fun W hi => rcan_any o loss value W hi s1 s2 s3 s4)
  obtain ⟨N, hN⟩ : ∃ N : Int, N = (o.paysN loss.toNat value.toNat : Int) := ⟨_, rfl⟩
  rw [← hN] at HSet HPo
  clear hba hd hn hcap hN s1 s2 s3 s4
  obtain ⟨i, f, t, sum, own, ap, np, capp, first, last, share, e, hnp, hq1, hq2⟩ := Po.apart h
  clear h hnp hq1 hq2 hS
  generalize o.zs = zs at *
  obtain ⟨m, hm⟩ : ∃ m, m = o.may := ⟨_, rfl⟩
  rw [← hm] at HPo HCn HMy
  clear hm
  subst e
  unfold Po.val at HO HPo HCn ⊢
  unfold Po.cells at HO HB HI HPo HCn ⊢
  dsimp only at HO HB HI HPo HCn ⊢
  by_cases g : E2 = 0
  · subst g
    obtain rfl : m = true := HMy.out rfl
    cases gc : canB loss value with
    | true =>
      have hS : S = (min N E1, 0) := by rw [HSet.out, if_neg (by simp), if_pos gc]
      have hc := can_iff.1 gc
      subst hS
      rw [gc] at HCn
      have HP1 := Lib.hid (fun W hi => HPo.out W rfl hi hc)
      clear hc gc HPo HSet
      go_enter Try.func25, Try.ntmps25
      go_wp2_with fail
      refine HO.out.mono ?_
      rintro e w1 ⟨rfl, hb1⟩
      have HB1 := Lib.hid (bt HB.out hb1)
      have HI1 := Lib.hid (Ints.below HI.out hb1)
      have p0 := box_at (j := 0) (v := .string i) hb1 rfl
      have p1 := box_at (j := 1) (v := .string f) hb1 rfl
      have p2 := box_at (j := 2) (v := .string t) hb1 rfl
      have p3 := box_at (j := 3) (v := .int .i64 sum) hb1 rfl
      have p4 := box_at (j := 4) (v := .int .i64 own) hb1 rfl
      have p5 := box_at (j := 5) (v := .slice ap np capp) hb1 rfl
      have p6 := box_at (j := 6) (v := .int .i64 first) hb1 rfl
      have p7 := box_at (j := 7) (v := .int .i64 last) hb1 rfl
      have p8 := box_at (j := 8) (v := .int .i64 share) hb1 rfl
      have HPp := Lib.hid hb1
      have HC1 := Lib.hid (HCn.out w1 HI1.out)
      clear hb1
      go_wp2_with fail
      refine HC1.out.mono ?_
      rintro e w2 ⟨rfl, hb2⟩
      have HB2 := Lib.hid (bt HB1.out hb2)
      have HP2 := Lib.hid (HP1.out w2 (Ints.below HI1.out hb2))
      have hb12 := HPp.out.trans (hb2.mono HPp.out.size)
      clear p0 p1 p2 p3 p4 p5 p6 p7 p8
      have p0 := box_at (j := 0) (v := .string i) hb12 rfl
      have p1 := box_at (j := 1) (v := .string f) hb12 rfl
      have p2 := box_at (j := 2) (v := .string t) hb12 rfl
      have p3 := box_at (j := 3) (v := .int .i64 sum) hb12 rfl
      have p4 := box_at (j := 4) (v := .int .i64 own) hb12 rfl
      have p5 := box_at (j := 5) (v := .slice ap np capp) hb12 rfl
      have p6 := box_at (j := 6) (v := .int .i64 first) hb12 rfl
      have p7 := box_at (j := 7) (v := .int .i64 last) hb12 rfl
      have p8 := box_at (j := 8) (v := .int .i64 share) hb12 rfl
      clear hb2 hb12
      go_wp2_with fail
      refine HP2.out.mono ?_
      rintro e w3 ⟨rfl, hb3⟩
      have HB3 := Lib.hid (bt HB2.out hb3)
      clear hb3
      by_cases g : E1 < N
      · have d1 : decide (E1 < N) = true := by rw [decide_eq_true_iff]; exact g
        have HV := Lib.hid (show min N E1 = E1 by omega)
        go_wp2
        go_ret2
        exact ⟨by show _ = Ending.returned (.tuple #[.int .i64 (min N E1), .int .i64 0]); rw [HV.out]; rfl, HB3.out⟩
      · have d1 : decide (E1 < N) = false := by rw [decide_eq_false_iff_not]; exact g
        have HV := Lib.hid (show min N E1 = N by omega)
        go_wp2
        go_ret2
        exact ⟨by show _ = Ending.returned (.tuple #[.int .i64 (min N E1), .int .i64 0]); rw [HV.out]; rfl, HB3.out⟩
    | false =>
      have hS : S = (0, 1) := by rw [HSet.out, if_neg (by simp), if_neg (by rw [gc]; simp)]
      subst hS
      rw [gc] at HCn
      clear gc HPo HSet
      go_enter Try.func25, Try.ntmps25
      go_wp2_with fail
      refine HO.out.mono ?_
      rintro e w1 ⟨rfl, hb1⟩
      have HB1 := Lib.hid (bt HB.out hb1)
      have HI1 := Lib.hid (Ints.below HI.out hb1)
      have p0 := box_at (j := 0) (v := .string i) hb1 rfl
      have p1 := box_at (j := 1) (v := .string f) hb1 rfl
      have p2 := box_at (j := 2) (v := .string t) hb1 rfl
      have p3 := box_at (j := 3) (v := .int .i64 sum) hb1 rfl
      have p4 := box_at (j := 4) (v := .int .i64 own) hb1 rfl
      have p5 := box_at (j := 5) (v := .slice ap np capp) hb1 rfl
      have p6 := box_at (j := 6) (v := .int .i64 first) hb1 rfl
      have p7 := box_at (j := 7) (v := .int .i64 last) hb1 rfl
      have p8 := box_at (j := 8) (v := .int .i64 share) hb1 rfl
      have HC1 := Lib.hid (HCn.out w1 HI1.out)
      clear hb1
      go_wp2_with fail
      refine HC1.out.mono ?_
      rintro e w2 ⟨rfl, hb2⟩
      have HB2 := Lib.hid (bt HB1.out hb2)
      clear hb2
      go_wp2
      go_ret2
      exact ⟨rfl, HB2.out⟩
  · have hS : S = (0, E2) := by rw [HSet.out, if_pos g]
    subst hS
    have e0 : (E2 != 0) = true := by simp [bne, g]
    have e1 : (E2 == 0) = false := by simp [g]
    clear g HPo HSet HMy HCn
    go_enter Try.func25, Try.ntmps25
    go_wp2_with fail
    refine HO.out.mono ?_
    rintro e w1 ⟨rfl, hb1⟩
    have HB1 := Lib.hid (bt HB.out hb1)
    clear hb1
    go_wp2
    go_ret2
    exact ⟨rfl, HB1.out⟩

/-- What the insurer, and the insured, get. -/
def subrN (p r : Int) : Int × Int × Int := if (sumB p && sumB r) = true then (min p r, r - min p r, 0) else (0, 0, 1)
theorem subr_any (p r : Int) (w : World) :
    Calls Try.prog 26 #[.int .i64 p, .int .i64 r] w fun e w' => e = .returned (.tuple #[.int .i64 (subrN p r).1, .int .i64 (subrN p r).2.1, .int .i64 (subrN p r).2.2]) ∧ w' = w := by
  have HP := Lib.hid (fun w => issum_any p w)
  have HR := Lib.hid (fun w => issum_any r w)
  obtain ⟨S, hS⟩ : ∃ S, S = subrN p r := ⟨_, rfl⟩
  rw [← hS]
  unfold subrN at hS
  cases g1 : sumB p with
  | false =>
    rw [g1, Bool.false_and, if_neg (by simp)] at hS
    rw [g1] at HP
    subst hS
    clear g1
    go_enter Try.func26, Try.ntmps26
    go_wp2_with fail
    refine (HP.out _).mono ?_
    rintro e w1 ⟨rfl, rfl⟩
    go_wp2
    exact bodyPost_ret (v := .tuple #[.int .i64 0, .int .i64 0, .int .i64 1]) (by simp [results, Try.results26, go_sem]) rfl ⟨rfl, rfl⟩
  | true =>
    cases g2 : sumB r with
    | false =>
      rw [g1, g2, Bool.and_false, if_neg (by simp)] at hS
      rw [g1] at HP
      rw [g2] at HR
      subst hS
      clear g1 g2
      go_enter Try.func26, Try.ntmps26
      go_wp2_with fail
      refine (HP.out _).mono ?_
      rintro e w1 ⟨rfl, rfl⟩
      go_wp2_with fail
      refine (HR.out _).mono ?_
      rintro e w1 ⟨rfl, rfl⟩
      go_wp2
      exact bodyPost_ret (v := .tuple #[.int .i64 0, .int .i64 0, .int .i64 1]) (by simp [results, Try.results26, go_sem]) rfl ⟨rfl, rfl⟩
    | true =>
      rw [g1, g2, Bool.and_true, if_pos rfl] at hS
      rw [g1] at HP
      rw [g2] at HR
      simp only [sumB, Bool.and_eq_true, decide_eq_true_eq] at g1 g2
      have v1 : IntKind.i64.wrap (r - min p r) = r - min p r := IntWalk.i64_in _ (by omega)
      subst hS
      clear g1 g2
      go_enter Try.func26, Try.ntmps26
      go_wp2_with fail
      refine (HP.out _).mono ?_
      rintro e w1 ⟨rfl, rfl⟩
      go_wp2_with fail
      refine (HR.out _).mono ?_
      rintro e w1 ⟨rfl, rfl⟩
      go_wp2
      exact bodyPost_ret (v := .tuple #[.int .i64 (min p r), .int .i64 (r - min p r), .int .i64 0]) (by simp [results, Try.results26, go_sem]) rfl ⟨rfl, rfl⟩

def Is32 (w : World) (v : Value) : Prop := ∃ o : Po, v = o.val ∧ Ints w o.cv o.zs ∧ o.i.size ≤ maxLen ∧ o.f.size ≤ maxLen ∧ o.t.size ≤ maxLen
set_option maxRecDepth 20000 in
theorem open32 {H : Type} {enc : TypeId × Value → H} {W : World} {base : Nat} {v : Value} {d : DataW H} {p : List MemPlace} (hval : Value.okWide Try.prog W .any base 32 v)
    (h : DataW.Trod enc Try.prog W 0 (fun _ => true) true 32 v d p) : Is32 W v := by
  obtain ⟨⟨cs⟩, rfl, hsz⟩ := WideShapes.okWide_struct Try.underlying32 hval
  rw [cellsPol] at hsz
  obtain ⟨fuel, hf⟩ := h
  have hsz : cs.length = 9 := hsz
  match cs, hsz with
  | [c0, c1, c2, c3, c4, c5, c6, c7, c8], _ =>
    have ht : DataW.trod enc Try.prog W 0 (fun _ => true) true fuel 32 [c0, c1, c2, c3, c4, c5, c6, c7, c8] = some (d, p) := by simpa [Value.cells] using hf
    obtain ⟨_, m, hps⟩ := fields_at Try.underlying32 (by kernel_rfl) (by kernel_rfl) ht
    obtain ⟨v0, y0, e0, p0⟩ := hps 0 _ rfl
    obtain ⟨v1, y1, e1, p1⟩ := hps 1 _ rfl
    obtain ⟨v2, y2, e2, p2⟩ := hps 2 _ rfl
    obtain ⟨v3, y3, e3, p3⟩ := hps 3 _ rfl
    obtain ⟨v4, y4, e4, p4⟩ := hps 4 _ rfl
    obtain ⟨v5, y5, e5, p5⟩ := hps 5 _ rfl
    obtain ⟨v6, y6, e6, p6⟩ := hps 6 _ rfl
    obtain ⟨v7, y7, e7, p7⟩ := hps 7 _ rfl
    obtain ⟨v8, y8, e8, p8⟩ := hps 8 _ rfl
    simp at e0 e1 e2 e3 e4 e5 e6 e7 e8
    subst e0 e1 e2 e3 e4 e5 e6 e7 e8
    obtain ⟨z0, r0, _, hw0⟩ := DataW.trod_string Try.underlying9 p0
    obtain ⟨z1, r1, _, hw1⟩ := DataW.trod_string Try.underlying9 p1
    obtain ⟨z2, r2, _, hw2⟩ := DataW.trod_string Try.underlying9 p2
    obtain ⟨z3, r3, _, hw3⟩ := DataW.trod_int Try.underlying2 p3
    obtain ⟨z4, r4, _, hw4⟩ := DataW.trod_int Try.underlying2 p4
    obtain ⟨zs, hzs⟩ := ints_trod p5
    obtain ⟨z6, r6, _, hw6⟩ := DataW.trod_int Try.underlying3 p6
    obtain ⟨z7, r7, _, hw7⟩ := DataW.trod_int Try.underlying3 p7
    obtain ⟨z8, r8, _, hw8⟩ := DataW.trod_int Try.underlying3 p8
    cases r0; cases r1; cases r2; cases r3; cases r4; cases r6; cases r7; cases r8
    exact ⟨⟨z0, z1, z2, z3, z4, _, zs, z6, z7, z8⟩, rfl, hzs.1, hw0, hw1, hw2⟩

namespace claimSettles
set_option maxRecDepth 100000 in
set_option maxHeartbeats 16000000 in
theorem core (a0 a1 pd rc : Int) (po : Po) (ao : Option Addr) (n cap : Nat) (l : List Dw) (w : World) (hi : Ints w po.cv po.zs) (s1 : po.i.size ≤ maxLen) (s2 : po.f.size ≤ maxLen) (s3 : po.t.size ≤ maxLen) (hd : Draws w (.slice ao n cap) l) (hn : n = l.length) (hcap : n ≤ maxLen) :
    Calls Try.prog 8 #[.int .i64 a0, .int .i64 a1, po.val, .slice ao n cap, .int .i64 pd, .int .i64 rc] w fun e w' => e = .returned (.bool true) ∧ Below w.heap.size w w' := by
  obtain ⟨pi, pf, pt, psum, pown, pa, pm, pcap, pfirst, plast, pshare, ep, hpn, hpc1, hpc2⟩ := Po.apart hi
  have hwp := (Below.refl w.heap.size w).alloc (Nat.le_refl _) (.cells (Po.cells po).toArray 32)
  have HPv := Lib.hid (show po.val = .agg #[.string pi, .string pf, .string pt, .int .i64 psum, .int .i64 pown, .slice pa pm pcap, .int .i64 pfirst, .int .i64 plast, .int .i64 pshare] by rw [ep]; rfl)
  have HPc := Lib.hid (show (Po.cells po).toArray = #[.string pi, .string pf, .string pt, .int .i64 psum, .int .i64 pown, .slice pa pm pcap, .int .i64 pfirst, .int .i64 plast, .int .i64 pshare] by rw [ep]; rfl)
  rw [HPv.out]
  rw [HPc.out] at hwp
  have HI := Lib.hid (hi.below hwp)
  have HD := Lib.hid (hd.below hwp)
  have HBp := Lib.hid hwp
  have HXp := Lib.hid (heap_alloc_new w (.cells #[.string pi, .string pf, .string pt, .int .i64 psum, .int .i64 pown, .slice pa pm pcap, .int .i64 pfirst, .int .i64 plast, .int .i64 pshare] 32))
  have HFw := Lib.hid (show ∀ W, Below (w.alloc (.cells #[.string pi, .string pf, .string pt, .int .i64 psum, .int .i64 pown, .slice pa pm pcap, .int .i64 pfirst, .int .i64 plast, .int .i64 pshare] 32)).heap.size (w.alloc (.cells #[.string pi, .string pf, .string pt, .int .i64 psum, .int .i64 pown, .slice pa pm pcap, .int .i64 pfirst, .int .i64 plast, .int .i64 pshare] 32)) W → Pos (W.alloc (.cells #[.string pi, .string pf, .string pt, .int .i64 psum, .int .i64 pown, .slice pa pm pcap, .int .i64 pfirst, .int .i64 plast, .int .i64 pshare] 32)) (.slice (some ⟨W.heap.size, 0, none⟩) 1 1) [po] from fun W hW => by
    refine ⟨?_, fun o ho => ?_⟩
    · have := row_lit W 32 9 1 #[.string pi, .string pf, .string pt, .int .i64 psum, .int .i64 pown, .slice pa pm pcap, .int .i64 pfirst, .int .i64 plast, .int .i64 pshare] rfl (by unfold maxLen; omega)
      have e : [po].flatMap Po.cells = (#[.string pi, .string pf, .string pt, .int .i64 psum, .int .i64 pown, .slice pa pm pcap, .int .i64 pfirst, .int .i64 plast, .int .i64 pshare] : Array Value).toList := by rw [ep]; rfl
      rw [e]; exact this
    · simp at ho; subst ho
      exact (HI.out.below hW).below ((Below.refl W.heap.size W).alloc (Nat.le_refl _) _))
  have HFew := Lib.hid (fun (w : World) hp => few44_any (some ⟨w.heap.size, 0, none⟩) 1 1 [po] (w.alloc (.cells #[.string pi, .string pf, .string pt, .int .i64 psum, .int .i64 pown, .slice pa pm pcap, .int .i64 pfirst, .int .i64 plast, .int .i64 pshare] 32)) hp rfl (by unfold maxLen; omega))
  have hz : fewP [po] = true → po.zs.length ≤ 70 := fun h => ((fewP_iff [po]).1 h).2 0 (by simp)
  have HSt := Lib.hid (fun W (hi : Ints W po.cv po.zs) (hd : Draws W (.slice ao n cap) l) (h20 : n ≤ 20) => settle_any po a0 a1 ao n cap l W hi hd hn (by omega))
  have HSr := Lib.hid (fun W (hi : Ints W po.cv po.zs) (hd : Draws W (.slice ao n cap) l) (h20 : n ≤ 20) (hz : po.zs.length ≤ 70) => rsettle_any po a0 a1 ao n cap l W hi s1 s2 s3 (by omega) hd hn (by omega))
  rw [HPv.out] at HSt HSr
  have HSb := Lib.hid (fun w => subr_any pd rc w)
  have HVs := Lib.hid (show subrN pd rc = if (sumB pd && sumB rc) = true then (min pd rc, rc - min pd rc, 0) else (0, 0, 1) from rfl)
  generalize settleN po l a0 a1 = S at *
  obtain ⟨S1, S2⟩ := S
  obtain ⟨f, hf⟩ : ∃ f, f = fewP [po] := ⟨_, rfl⟩
  rw [← hf] at HFew hz
  generalize po.zs = zs at *
  generalize po.cv = cv at *
  have hcap2 : n ≤ 9223372036854775807 := by unfold maxLen at hcap; omega
  clear hi s1 s2 s3 hd hn hcap hwp ep hpn hpc1 hpc2 HPc HPv hf
  cases f with
  | false =>
    clear HSt HSr HSb HVs hz
    go_enter Try.func8, Try.ntmps8
    go_wp2_with fail
    generalize w.alloc (.cells #[.string pi, .string pf, .string pt, .int .i64 psum, .int .i64 pown, .slice pa pm pcap, .int .i64 pfirst, .int .i64 plast, .int .i64 pshare] 32) = wp at *
    refine (awake44_any _).mono ?_
    rintro e w1 ⟨rfl, hb1⟩
    have HB1 := Lib.hid hb1
    have hp1 := (hb1.block w.heap.size (lt_of_block HXp.out)).trans HXp.out
    have HF1 := Lib.hid (HFew.out w1 (HFw.out w1 hb1))
    have HPp := Lib.hid (show ∀ j x, (#[.string pi, .string pf, .string pt, .int .i64 psum, .int .i64 pown, .slice pa pm pcap, .int .i64 pfirst, .int .i64 plast, .int .i64 pshare] : Array Value)[j]? = some x → w1.cell? ⟨w.heap.size, j, none⟩ = some x from fun j x hx => by simp [World.cell?, hp1, hx])
    have p0 := HPp.out 0 _ rfl
    have p1 := HPp.out 1 _ rfl
    have p2 := HPp.out 2 _ rfl
    have p3 := HPp.out 3 _ rfl
    have p4 := HPp.out 4 _ rfl
    have p5 := HPp.out 5 _ rfl
    have p6 := HPp.out 6 _ rfl
    have p7 := HPp.out 7 _ rfl
    have p8 := HPp.out 8 _ rfl
    have HBw := Lib.hid (bt HBp.out (hb1.alloc hb1.size (.cells #[.string pi, .string pf, .string pt, .int .i64 psum, .int .i64 pown, .slice pa pm pcap, .int .i64 pfirst, .int .i64 plast, .int .i64 pshare] 32)))
    clear hb1 hp1
    go_wp2_with fail
    refine HF1.out.mono ?_
    rintro e w2 ⟨rfl, rfl⟩
    go_wp2_with fail
    refine (awake44_any _).mono ?_
    rintro e w3 ⟨rfl, hb3⟩
    have HB3 := Lib.hid (bt HBw.out hb3)
    clear hb3
    go_wp2
    go_ret
    exact ⟨rfl, HB3.out⟩
  | true =>
    have hz := hz (by first | rfl | trivial)
    by_cases g20 : 20 < n
    · have d0 : decide ((20 : Int) < (n : Int)) = true := by rw [decide_eq_true_iff]; omega
      clear HSt HSr HSb HVs hz g20
      go_enter Try.func8, Try.ntmps8
      go_wp2_with fail
      generalize w.alloc (.cells #[.string pi, .string pf, .string pt, .int .i64 psum, .int .i64 pown, .slice pa pm pcap, .int .i64 pfirst, .int .i64 plast, .int .i64 pshare] 32) = wp at *
      refine (awake44_any _).mono ?_
      rintro e w1 ⟨rfl, hb1⟩
      have HB1 := Lib.hid hb1
      have hp1 := (hb1.block w.heap.size (lt_of_block HXp.out)).trans HXp.out
      have HF1 := Lib.hid (HFew.out w1 (HFw.out w1 hb1))
      have HPp := Lib.hid (show ∀ W, Below w1.heap.size w1 W → ∀ j x, (#[.string pi, .string pf, .string pt, .int .i64 psum, .int .i64 pown, .slice pa pm pcap, .int .i64 pfirst, .int .i64 plast, .int .i64 pshare] : Array Value)[j]? = some x → W.cell? ⟨w.heap.size, j, none⟩ = some x from fun W hW j x hx => by
        have h9 := (hW.block w.heap.size (lt_of_block hp1)).trans hp1
        simp [World.cell?, h9, hx])
      have HI1 := Lib.hid (HI.out.below hb1)
      have HD1 := Lib.hid (HD.out.below hb1)
      have HA1 := Lib.hid ((Below.refl w1.heap.size w1).alloc (Nat.le_refl _) (.cells #[.string pi, .string pf, .string pt, .int .i64 psum, .int .i64 pown, .slice pa pm pcap, .int .i64 pfirst, .int .i64 plast, .int .i64 pshare] 32))
      have HBw := Lib.hid (bt (bt HBp.out hb1) HA1.out)
      have p0 := HPp.out w1 (Below.refl _ _) 0 _ rfl
      have p1 := HPp.out w1 (Below.refl _ _) 1 _ rfl
      have p2 := HPp.out w1 (Below.refl _ _) 2 _ rfl
      have p3 := HPp.out w1 (Below.refl _ _) 3 _ rfl
      have p4 := HPp.out w1 (Below.refl _ _) 4 _ rfl
      have p5 := HPp.out w1 (Below.refl _ _) 5 _ rfl
      have p6 := HPp.out w1 (Below.refl _ _) 6 _ rfl
      have p7 := HPp.out w1 (Below.refl _ _) 7 _ rfl
      have p8 := HPp.out w1 (Below.refl _ _) 8 _ rfl
      clear hb1 hp1
      go_wp2_with fail
      refine HF1.out.mono ?_
      rintro e w2 ⟨rfl, rfl⟩
      clear p0 p1 p2 p3 p4 p5 p6 p7 p8
      go_wp2_with fail
      refine (awake44_any _).mono ?_
      rintro e w3 ⟨rfl, hb3⟩
      have HB3 := Lib.hid (bt HBw.out hb3)
      clear hb3
      go_wp2
      go_ret
      exact ⟨rfl, HB3.out⟩
    · have d0 : decide ((20 : Int) < (n : Int)) = false := by rw [decide_eq_false_iff_not]; omega
      have HSt := Lib.hid (fun W hi hd => HSt.out W hi hd (by omega))
      have HSr := Lib.hid (fun W hi hd => HSr.out W hi hd (by omega) hz)
      clear g20 hz
      go_enter Try.func8, Try.ntmps8
      go_wp2_with fail
      generalize w.alloc (.cells #[.string pi, .string pf, .string pt, .int .i64 psum, .int .i64 pown, .slice pa pm pcap, .int .i64 pfirst, .int .i64 plast, .int .i64 pshare] 32) = wp at *
      refine (awake44_any _).mono ?_
      rintro e w1 ⟨rfl, hb1⟩
      have HB1 := Lib.hid hb1
      have hp1 := (hb1.block w.heap.size (lt_of_block HXp.out)).trans HXp.out
      have HF1 := Lib.hid (HFew.out w1 (HFw.out w1 hb1))
      have HPp := Lib.hid (show ∀ W, Below w1.heap.size w1 W → ∀ j x, (#[.string pi, .string pf, .string pt, .int .i64 psum, .int .i64 pown, .slice pa pm pcap, .int .i64 pfirst, .int .i64 plast, .int .i64 pshare] : Array Value)[j]? = some x → W.cell? ⟨w.heap.size, j, none⟩ = some x from fun W hW j x hx => by
        have h9 := (hW.block w.heap.size (lt_of_block hp1)).trans hp1
        simp [World.cell?, h9, hx])
      have HI1 := Lib.hid (HI.out.below hb1)
      have HD1 := Lib.hid (HD.out.below hb1)
      have HA1 := Lib.hid ((Below.refl w1.heap.size w1).alloc (Nat.le_refl _) (.cells #[.string pi, .string pf, .string pt, .int .i64 psum, .int .i64 pown, .slice pa pm pcap, .int .i64 pfirst, .int .i64 plast, .int .i64 pshare] 32))
      have HBw := Lib.hid (bt (bt HBp.out hb1) HA1.out)
      have p0 := HPp.out w1 (Below.refl _ _) 0 _ rfl
      have p1 := HPp.out w1 (Below.refl _ _) 1 _ rfl
      have p2 := HPp.out w1 (Below.refl _ _) 2 _ rfl
      have p3 := HPp.out w1 (Below.refl _ _) 3 _ rfl
      have p4 := HPp.out w1 (Below.refl _ _) 4 _ rfl
      have p5 := HPp.out w1 (Below.refl _ _) 5 _ rfl
      have p6 := HPp.out w1 (Below.refl _ _) 6 _ rfl
      have p7 := HPp.out w1 (Below.refl _ _) 7 _ rfl
      have p8 := HPp.out w1 (Below.refl _ _) 8 _ rfl
      clear hb1 hp1
      go_wp2_with fail
      refine HF1.out.mono ?_
      rintro e w2 ⟨rfl, rfl⟩
      clear p0 p1 p2 p3 p4 p5 p6 p7 p8
      have HS1 := Lib.hid (HSt.out _ (HI1.out.below HA1.out) (HD1.out.below HA1.out))
      have p0 := HPp.out _ HA1.out 0 _ rfl
      have p1 := HPp.out _ HA1.out 1 _ rfl
      have p2 := HPp.out _ HA1.out 2 _ rfl
      have p3 := HPp.out _ HA1.out 3 _ rfl
      have p4 := HPp.out _ HA1.out 4 _ rfl
      have p5 := HPp.out _ HA1.out 5 _ rfl
      have p6 := HPp.out _ HA1.out 6 _ rfl
      have p7 := HPp.out _ HA1.out 7 _ rfl
      have p8 := HPp.out _ HA1.out 8 _ rfl
      go_wp2_with fail
      refine HS1.out.mono ?_
      rintro e w4 ⟨rfl, hb4⟩
      have hb14 := bt HA1.out hb4
      have HB4 := Lib.hid (bt HBw.out hb4)
      have HS2 := Lib.hid (HSr.out _ (HI1.out.below hb14) (HD1.out.below hb14))
      clear p0 p1 p2 p3 p4 p5 p6 p7 p8
      have p0 := HPp.out w4 hb14 0 _ rfl
      have p1 := HPp.out w4 hb14 1 _ rfl
      have p2 := HPp.out w4 hb14 2 _ rfl
      have p3 := HPp.out w4 hb14 3 _ rfl
      have p4 := HPp.out w4 hb14 4 _ rfl
      have p5 := HPp.out w4 hb14 5 _ rfl
      have p6 := HPp.out w4 hb14 6 _ rfl
      have p7 := HPp.out w4 hb14 7 _ rfl
      have p8 := HPp.out w4 hb14 8 _ rfl
      clear hb4 hb14
      go_wp2_with fail
      refine HS2.out.mono ?_
      rintro e w5 ⟨rfl, hb5⟩
      have HB5 := Lib.hid (bt HB4.out hb5)
      clear hb5 p0 p1 p2 p3 p4 p5 p6 p7 p8
      have f1 : (S1 == S1) = true := by simp
      have f2 : (S1 != S1) = false := by simp
      have f3 : (S2 == S2) = true := by simp
      have f4 : (S2 != S2) = false := by simp
      generalize subrN pd rc = V at *
      obtain ⟨V1, V2, V3⟩ := V
      go_wp2_with fail
      refine (HSb.out _).mono ?_
      rintro e w6 ⟨rfl, rfl⟩
      cases gs : (sumB pd && sumB rc) with
      | false =>
        have hv := HVs.out
        rw [gs, if_neg (by simp)] at hv
        cases hv
        have HG := Lib.hid gs
        clear gs
        by_cases g0 : pd < 0
        · have d1 : decide (pd < 0) = true := by rw [decide_eq_true_iff]; exact g0
          clear HG g0
          go_wp2
          go_ret
          exact ⟨rfl, HB5.out⟩
        have d1 : decide (pd < 0) = false := by rw [decide_eq_false_iff_not]; exact g0
        by_cases g1 : 1099511627776 < pd
        · have d2 : decide (1099511627776 < pd) = true := by rw [decide_eq_true_iff]; exact g1
          clear HG g1
          go_wp2
          go_ret
          exact ⟨rfl, HB5.out⟩
        have d2 : decide (1099511627776 < pd) = false := by rw [decide_eq_false_iff_not]; exact g1
        by_cases g2 : rc < 0
        · have d3 : decide (rc < 0) = true := by rw [decide_eq_true_iff]; exact g2
          clear HG g2
          go_wp2
          go_ret
          exact ⟨rfl, HB5.out⟩
        have d3 : decide (rc < 0) = false := by rw [decide_eq_false_iff_not]; exact g2
        by_cases g3 : 1099511627776 < rc
        · have d4 : decide (1099511627776 < rc) = true := by rw [decide_eq_true_iff]; exact g3
          clear HG g3
          go_wp2
          go_ret
          exact ⟨rfl, HB5.out⟩
        have d4 : decide (1099511627776 < rc) = false := by rw [decide_eq_false_iff_not]; exact g3
        exfalso
        have := HG.out
        unfold sumB at this
        rw [show decide (0 ≤ pd) = true by rw [decide_eq_true_iff]; omega, show decide (pd ≤ 1099511627776) = true by rw [decide_eq_true_iff]; omega, show decide (0 ≤ rc) = true by rw [decide_eq_true_iff]; omega, show decide (rc ≤ 1099511627776) = true by rw [decide_eq_true_iff]; omega] at this
        cases this
      | true =>
        have hv := HVs.out
        rw [gs, if_pos rfl] at hv
        cases hv
        simp only [sumB, Bool.and_eq_true, decide_eq_true_eq] at gs
        have d1 : decide (pd < 0) = false := by rw [decide_eq_false_iff_not]; omega
        have d2 : decide (1099511627776 < pd) = false := by rw [decide_eq_false_iff_not]; omega
        have d3 : decide (rc < 0) = false := by rw [decide_eq_false_iff_not]; omega
        have d4 : decide (1099511627776 < rc) = false := by rw [decide_eq_false_iff_not]; omega
        have v1 : IntKind.i64.wrap (min pd rc + (rc - min pd rc)) = rc := by rw [show min pd rc + (rc - min pd rc) = rc by omega]; exact IntWalk.i64_in _ (by omega)
        have v2 : min pd rc + (rc - min pd rc) = rc := by omega
        have v3 : IntKind.i64.wrap rc = rc := IntWalk.i64_in _ (by omega)
        have f5 : (min pd rc == min pd rc) = true := by simp
        have f6 : (rc == rc) = true := by simp
        clear gs
        go_wp2
        go_ret
        exact ⟨rfl, HB5.out⟩

theorem walk (a0 a1 : Int) (v2 v3 : Value) (a4 a5 : Int) (w : World) (w0 : (Lit.int .i64 a0).wf = true) (w1 : (Lit.int .i64 a1).wf = true) (w2 : Is32 w v2) (w3 : Is64 w v3) (w4 : (Lit.int .i64 a4).wf = true) (w5 : (Lit.int .i64 a5).wf = true) :
    Calls Try.prog 8 #[.int .i64 a0, .int .i64 a1, v2, v3, .int .i64 a4, .int .i64 a5] w fun e w' => e = .returned (.bool true) ∧ Below w.heap.size w w' := by
  obtain ⟨po, rfl, hi, s1, s2, s3⟩ := w2
  obtain ⟨l, hd, -⟩ := w3
  obtain ⟨ao, cap, rfl, h1, h2, _⟩ := hd.shape
  exact core a0 a1 a4 a5 po ao l.length cap l w hi s1 s2 s3 hd rfl (by omega)
end claimSettles
end Go.Proofs.Ytamfdkigokicoaa
