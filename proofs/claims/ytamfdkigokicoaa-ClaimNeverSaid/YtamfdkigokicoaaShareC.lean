/-
  claim.line, the document's Line, claim.Share.
-/
import Derived.Test.YtamfdkigokicoaaPMay
import Derived.Test.YtamfdkigokicoaaBlk
import Derived.Test.YtamfdkigokicoaaOf
import Derived.Test.YtamfdkigokicoaaTimes
import Derived.Laws.EntriesVeiled
namespace Go.Proofs.Ytamfdkigokicoaa
open Go Go.RowKit
set_option linter.unusedVariables false
set_option linter.unusedSimpArgs false

/-- A policy's fields, where its causes lie, told apart. -/
theorem Po.apart {w : World} {o : Po} (h : Ints w o.cv o.zs) : ∃ i f t sum own ao n cap first last share, o = ⟨i, f, t, sum, own, .slice ao n cap, o.zs, first, last, share⟩ ∧ n = o.zs.length ∧ n ≤ cap ∧ cap ≤ maxLen := by
  obtain ⟨ao, cap, e, h1, h2, _⟩ := h.shape
  obtain ⟨i, f, t, sum, own, cv, zs, first, last, share⟩ := o
  dsimp only at e h1 h2
  subst e
  exact ⟨i, f, t, sum, own, ao, zs.length, cap, first, last, share, rfl, rfl, h1, h2⟩

theorem may_o (o : Po) (w : World) (h : Ints w o.cv o.zs) :
    Calls Try.prog 30 #[o.val] w fun e w' => e = .returned (.bool o.may) ∧ Below w.heap.size w w' := by
  obtain ⟨i, f, t, sum, own, ao, n, cap, first, last, share, e, hn, _⟩ := Po.apart h
  generalize o.zs = zs at *
  subst e
  exact pmay_any i f t sum own ao n cap zs first last share w h hn

def Po.lineN (o : Po) : Nat := o.sum.toNat * o.share.toNat / 1000
theorem line_bd {o : Po} (h : o.may = true) : o.lineN ≤ 1099511627776 ∧ (o.lineN : Int) ≤ o.sum := by
  have h1 := may_nums h
  have h2 : o.sum.toNat * o.share.toNat ≤ o.sum.toNat * 1000 := Nat.mul_le_mul_left _ (by omega)
  unfold Po.lineN
  omega

set_option maxHeartbeats 2000000 in
theorem line_any (o : Po) (w : World) (h : Ints w o.cv o.zs) (hm : o.may = true) :
    Calls Try.prog 33 #[o.val] w fun e w' => e = .returned (.int .i64 (o.lineN : Int)) ∧ Below w.heap.size w w' := by
  have hb := may_nums hm
  have hl := line_bd hm
  have HO := Lib.hid (fun w => of_ok o.sum.toNat o.share.toNat 1000 w (by omega) (by omega) (by omega) (by omega))
  have HV := Lib.hid (show ofV o.sum.toNat o.share.toNat 1000 = .tuple #[.int .i64 (o.lineN : Int), .bool true] by unfold ofV; exact if_pos hl.1)
  rw [HV.out] at HO
  have e1 : ((o.sum.toNat : Nat) : Int) = o.sum := by omega
  have e2 : ((o.share.toNat : Nat) : Int) = o.share := by omega
  rw [e1, e2] at HO
  generalize o.lineN = N at *
  obtain ⟨i, f, t, sum, own, ao, n, cap, first, last, share, e, hn, _⟩ := Po.apart h
  have HB0 := Lib.hid ((Below.refl w.heap.size w).alloc (Nat.le_refl _) (.cells (Po.cells o).toArray 32))
  generalize o.zs = zs at *
  subst e
  dsimp only at HO
  unfold Po.val
  unfold Po.cells at HB0 ⊢
  clear hn hb hl HV e1 e2 hm h
  go_enter Try.func33, Try.ntmps33
  go_wp2_with fail
  refine (HO.out _).mono ?_
  rintro e w1 ⟨rfl, hb⟩
  have HB := Lib.hid (bt HB0.out hb)
  clear hb
  go_wp2
  go_ret
  exact ⟨rfl, HB.out⟩

set_option maxHeartbeats 2000000 in
theorem rline_any (o : Po) (w : World) (h : Ints w o.cv o.zs) (hm : o.may = true) :
    Calls Try.prog 12 #[o.val] w fun e w' => e = .returned (.int .i64 (o.lineN : Int)) ∧ Below w.heap.size w w' := by
  have hb := may_nums hm
  have hl := line_bd hm
  have HO := Lib.hid (fun w => times_any o.sum.toNat o.share.toNat 1000 (by omega) (by omega) (by omega) (by omega) (by have : o.lineN = o.sum.toNat * o.share.toNat / 1000 := rfl; omega) w)
  have HV := Lib.hid (show o.sum.toNat * o.share.toNat / 1000 = o.lineN from rfl)
  rw [HV.out] at HO
  have e1 : ((o.sum.toNat : Nat) : Int) = o.sum := by omega
  have e2 : ((o.share.toNat : Nat) : Int) = o.share := by omega
  rw [e1, e2] at HO
  generalize o.lineN = N at *
  generalize o.sum.toNat * o.share.toNat % 1000 = M at *
  obtain ⟨i, f, t, sum, own, ao, n, cap, first, last, share, e, hn, _⟩ := Po.apart h
  have HB0 := Lib.hid ((Below.refl w.heap.size w).alloc (Nat.le_refl _) (.cells (Po.cells o).toArray 32))
  generalize o.zs = zs at *
  subst e
  dsimp only at HO
  unfold Po.val
  unfold Po.cells at HB0 ⊢
  clear hn hb hl HV e1 e2 hm h
  go_enter Try.func12, Try.ntmps12
  go_wp2_with fail
  refine (HO.out _).mono ?_
  rintro e w1 ⟨rfl, rfl⟩
  go_wp2
  go_ret
  exact ⟨rfl, HB0.out⟩

theorem none_any (o : Po) (w : World) (h : Ints w o.cv o.zs) :
    Calls Try.prog 29 #[o.val] w fun e w' => e = .returned (.bool (!o.may)) ∧ Below w.heap.size w w' := by
  have HB0 := Lib.hid ((Below.refl w.heap.size w).alloc (Nat.le_refl _) (.cells (Po.cells o).toArray 32))
  have HM := Lib.hid (may_o o _ (h.below HB0.out))
  generalize o.may = m at *
  obtain ⟨i, f, t, sum, own, ao, n, cap, first, last, share, e, hn, _⟩ := Po.apart h
  generalize o.zs = zs at *
  subst e
  unfold Po.val at HM ⊢
  unfold Po.cells at HM HB0 ⊢
  clear hn h
  go_enter Try.func29, Try.ntmps29
  go_wp2_with fail
  refine HM.out.mono ?_
  rintro e w1 ⟨rfl, hb⟩
  have HB := Lib.hid (bt HB0.out hb)
  clear hb
  go_wp2
  go_ret
  exact ⟨rfl, HB.out⟩

/-- Policy k, of these: where it lies. -/
theorem Pos.one {w w0 : World} {bl off n : Nat} {l : List Po} {k : Nat} (hk : k < n) (hp : ∀ k, k < n → ∀ j, j < 9 → w0.cell? ⟨bl, off + (k * 9 + j), none⟩ = (Po.cells (l.getD k default))[j]?) (hbl : bl < w0.heap.size) (hb : Below w0.heap.size w0 w) (hi : Ints w0 (l.getD k default).cv (l.getD k default).zs) :
    ∃ i f t sum own ao m cap zs first last share, l.getD k default = ⟨i, f, t, sum, own, .slice ao m cap, zs, first, last, share⟩ ∧ m = zs.length ∧ m ≤ cap ∧ cap ≤ maxLen ∧ Ints w (.slice ao m cap) zs ∧
      w.cell? ⟨bl, off + k * 9, none⟩ = some (.string i) ∧ w.cell? ⟨bl, off + k * 9 + 1, none⟩ = some (.string f) ∧ w.cell? ⟨bl, off + k * 9 + 2, none⟩ = some (.string t) ∧
      w.cell? ⟨bl, off + k * 9 + 3, none⟩ = some (.int .i64 sum) ∧ w.cell? ⟨bl, off + k * 9 + 4, none⟩ = some (.int .i64 own) ∧ w.cell? ⟨bl, off + k * 9 + 5, none⟩ = some (.slice ao m cap) ∧
      w.cell? ⟨bl, off + k * 9 + 6, none⟩ = some (.int .i64 first) ∧ w.cell? ⟨bl, off + k * 9 + 7, none⟩ = some (.int .i64 last) ∧ w.cell? ⟨bl, off + k * 9 + 8, none⟩ = some (.int .i64 share) := by
  have hp := hp k hk
  generalize l.getD k default = o at *
  obtain ⟨i, f, t, sum, own, ao, m, cap, first, last, share, e, hn, hc1, hc2⟩ := Po.apart hi
  have hp2 : ∀ j, j < 9 → w.cell? ⟨bl, off + k * 9 + j, none⟩ = (Po.cells o)[j]? := fun j hj => by
    rw [hb.cell (by show bl < _; omega), Nat.add_assoc]; exact hp j hj
  have hi2 := hi.below hb
  generalize o.zs = zs at *
  subst e
  refine ⟨i, f, t, sum, own, ao, m, cap, zs, first, last, share, rfl, hn, hc1, hc2, hi2, ?_, ?_, ?_, ?_, ?_, ?_, ?_, ?_, ?_⟩
  · exact hp2 0 (by omega)
  · exact hp2 1 (by omega)
  · exact hp2 2 (by omega)
  · exact hp2 3 (by omega)
  · exact hp2 4 (by omega)
  · exact hp2 5 (by omega)
  · exact hp2 6 (by omega)
  · exact hp2 7 (by omega)
  · exact hp2 8 (by omega)
theorem Pos.mem {w : World} {v : Value} {l : List Po} (h : Pos w v l) {k : Nat} (hk : k < l.length) : Ints w (l.getD k default).cv (l.getD k default).zs := by
  rw [List.getD_eq_getElem?_getD, List.getElem?_eq_getElem hk]
  exact h.2 _ (List.getElem_mem hk)

def allMay (l : List Po) : Bool := (List.range l.length).all fun k => (l.getD k default).may
theorem allMay_iff (l : List Po) : allMay l = true ↔ ∀ k, k < l.length → (l.getD k default).may = true := by simp [allMay]

set_option maxHeartbeats 2000000 in
theorem idx_pol (ao : Option Addr) (n cap : Nat) (l : List Po) (w : World) (h : Pos w (.slice ao n cap) l) (hn : n = l.length) (hcap : n ≤ maxLen) :
    Calls Try.prog 53 #[.slice ao n cap, .func (.func 29) #[] #[]] w fun e w' => (∃ r : Int, e = .returned (.int .i64 r) ∧ decide (0 ≤ r) = !allMay l) ∧ Below w.heap.size w w' := by
  have H := Lib.hid h
  have HN := Lib.hid hn
  have HP := Lib.hid (fun o w h => none_any o w h)
  have hcap : n ≤ 9223372036854775807 := by unfold maxLen at hcap; omega
  have HB0 := Lib.hid (Below.refl w.heap.size w)
  clear h hn
  go_enter Try.func53, Try.ntmps53
  go_wp2
  go_loopw [8] (fun i wr => ∃ k : Nat, k ≤ n ∧ i = .int .i64 (k : Int) ∧ Hid (∀ j, j < k → (l.getD j default).may = true) ∧ Hid (Below w.heap.size w wr)) (fun i _ => n - (intOf i).toNat)
  case atStart => exact ⟨0, Nat.zero_le _, rfl, Lib.hid (fun j hj => by omega), HB0⟩
  case round =>
    obtain ⟨k, hk, rfl, ha, hb⟩ := hrel
    by_cases hlt : k < n
    · have l1 : (k : Int) < (n : Int) := by omega
      have l0 : (0 : Int) ≤ (k : Int) := by omega
      obtain ⟨bl, off, rfl, hbl, hc⟩ := H.out.get HN.out (by omega)
      obtain ⟨i, f, t, sum, own, a, m, cap', zs, first, last, share, e, hm, hc1, hc2, hi, k0, k1, k2, k3, k4, k5, k6, k7, k8⟩ := Pos.one hlt hc hbl hb.out (H.out.mem (by rw [← HN.out]; exact hlt))
      have HT := Lib.hid (show (Po.mk i f t sum own (.slice a m cap') zs first last share).may = true → ∀ j, j < k + 1 → (l.getD j default).may = true from fun h j hj => by
        by_cases e' : j = k
        · subst e'; rw [e]; exact h
        · exact ha.out j (by omega))
      have HF := Lib.hid (show (Po.mk i f t sum own (.slice a m cap') zs first last share).may = false → allMay l = false from fun h => by
        rw [Bool.eq_false_iff]
        intro hm
        have := (allMay_iff l).1 hm k (by rw [← HN.out]; exact hlt)
        rw [e, h] at this; cases this)
      have HC := Lib.hid (HP.out (Po.mk i f t sum own (.slice a m cap') zs first last share) wr hi)
      unfold Po.val Po.cells at HC
      dsimp only at HC
      have hmm : m ≤ maxLen := by omega
      clear hc e hi hm hc1 hc2
      cases g : (Po.mk i f t sum own (.slice a m cap') zs first last share).may with
      | true =>
        have HR := Lib.hid (HT.out g)
        rw [g] at HC
        clear g HT HF
        go_wp2_with (go_at_call 29; refine HC.out.mono ?_; rintro e w' ⟨rfl, hb2⟩; have HB2 := Lib.hid (bt hb.out hb2); clear hb2)
        go_roundw
        case rel => exact ⟨k + 1, by omega, by go_num, HR, HB2⟩
        case measure => simp [intOf]; omega
      | false =>
        have HR := Lib.hid (HF.out g)
        rw [g] at HC
        clear g HT HF
        go_wp2_with (go_at_call 29; refine HC.out.mono ?_; rintro e w' ⟨rfl, hb2⟩; have HB2 := Lib.hid (bt hb.out hb2); clear hb2)
        go_ret
        exact ⟨⟨_, rfl, by rw [HR.out]; simp⟩, HB2.out⟩
    · have HR := Lib.hid (show allMay l = true by rw [allMay_iff]; exact fun j hj => ha.out j (by have := HN.out; omega))
      go_wp2
      go_ret
      exact ⟨⟨_, rfl, by rw [HR.out]; rfl⟩, hb.out⟩

theorem has_pol (ao : Option Addr) (n cap : Nat) (l : List Po) (w : World) (h : Pos w (.slice ao n cap) l) (hn : n = l.length) (hcap : n ≤ maxLen) :
    Calls Try.prog 31 #[.slice ao n cap, .func (.func 29) #[] #[]] w fun e w' => e = .returned (.bool (!allMay l)) ∧ Below w.heap.size w w' := by
  have HC := Lib.hid (idx_pol ao n cap l w h hn hcap)
  generalize allMay l = x at *
  clear h hn
  go_enter Try.func31, Try.ntmps31
  go_wp2_with fail
  refine HC.out.mono ?_
  rintro e w1 ⟨⟨r, rfl, hr⟩, hb⟩
  have HB := Lib.hid hb
  clear hb
  go_wp2
  go_ret
  exact ⟨rfl, HB.out⟩
end Go.Proofs.Ytamfdkigokicoaa
