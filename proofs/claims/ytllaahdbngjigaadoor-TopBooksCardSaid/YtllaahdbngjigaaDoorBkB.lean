/-
  book: follow's function, at a write that is right and at one that is not.
-/
import Derived.Test.YtllaahdbngjigaaDoorBkA
import Derived.BigQuiet
namespace Go.Proofs.YtllaahdbngjigaaDoor
open Go Go.RowKit
set_option linter.unusedVariables false
set_option linter.unusedSimpArgs false
def itB (k : Nat) : ByteArray := ⟨(Lib.decDigits k).toArray⟩
/-- The first two fields of a write. -/
def RightAt (l : List Fd) (k : Nat) (lk : ByteArray) : Prop := ∃ r, l = ⟨⟨#[110]⟩, itB k⟩ :: ⟨⟨#[108, 97, 115, 116]⟩, lk⟩ :: r
theorem textB_size (l : List Fd) (h : ∀ f ∈ l, f.ok) (hl : l.length ≤ 64) : (textB l).size ≤ 1000000 := by
  have h1 := textL_len l h
  have h2 : (textB l).size = (textL l).length := by unfold textB; rfl
  omega
theorem Flds.touch {S : Nat → Prop} {w w' : World} {v : Value} {l : List Fd} (h : Flds w v l) (ht : Touch S w w') (hn : ∀ k, v.ownBlock = some k → ¬ S k) : Flds w' v l := by
  obtain ⟨h1, ao, cap, e, h3, h4, h5, h6⟩ := h
  refine ⟨h1, ao, cap, e, h3, h4, h5, fun a ha j u hu => cell_touch (h6 a ha j u hu) ht ?_⟩
  have e2 : (a.add j).block = a.block := by cases j <;> simp [Addr.add]
  rw [e2]
  exact hn _ (by rw [e, ha]; rfl)
theorem fd_drop (l : List Fd) (m : Nat) : (l.drop m).flatMap Fd.cells = (l.flatMap Fd.cells).drop (m * 2) := by
  induction m generalizing l with
  | zero => simp
  | succ m ih =>
    cases l with
    | nil => simp
    | cons a l =>
      rw [List.drop_succ_cons, ih, List.flatMap_cons, List.drop_append, show (m + 1) * 2 = m * 2 + 2 by omega]
      simp [Fd.cells]
theorem Flds.drop {w : World} {b off n cap : Nat} {l : List Fd} (h : Flds w (.slice (some ⟨b, off, none⟩) n cap) l) (hn : n = l.length) (m : Nat) (hm : m ≤ n) (hc : m < cap) :
    Flds w (.slice (some ⟨b, off + m * 2, none⟩) (n - m) (cap - m)) (l.drop m) := by
  obtain ⟨h1, ao, cap', e, h3, h4, h5, h6⟩ := h
  cases e
  refine ⟨by rw [flat_len Fd.cells_len], _, cap - m, by rw [List.length_drop, hn], by rw [List.length_drop]; omega, by omega, (fun e => by cases e), fun a ha j u hu => ?_⟩
  cases ha
  rw [fd_drop, List.getElem?_drop] at hu
  have := h6 _ rfl _ _ hu
  have e : (⟨b, off + m * 2, none⟩ : Addr).add j = (⟨b, off, none⟩ : Addr).add (m * 2 + j) := by
    cases j with
    | zero => cases m <;> simp [Addr.add]
    | succ j => simp [Addr.add, Nat.add_assoc]
  rw [e]; exact this
set_option maxRecDepth 20000 in
set_option maxHeartbeats 4000000 in
theorem fol_right (ba bl bo k : Nat) (lk o : ByteArray) (r : List Fd) (w : World) (hF : Fol w ba bl bo k lk o) (n1 : ba ≠ bl) (n2 : bl ≠ bo) (n3 : ba ≠ bo) (hk : k < 90) (ho : o.size ≤ 100) (hr : 0 < r.length) (hl : r.length ≤ 60)
    (hok : ∀ f ∈ (⟨⟨#[110]⟩, itB k⟩ :: ⟨⟨#[108, 97, 115, 116]⟩, lk⟩ :: r : List Fd), f.ok) :
    Calls Tryd.prog 100 #[.string (textB (⟨⟨#[110]⟩, itB k⟩ :: ⟨⟨#[108, 97, 115, 116]⟩, lk⟩ :: r)), .pointer (some ⟨ba, 0, none⟩), .pointer (some ⟨bl, 0, none⟩), .pointer (some ⟨bo, 0, none⟩)] w
      fun e w' => ∃ ao cap, e = .returned (.tuple #[.slice ao r.length cap, .string (lkB o (textL (⟨⟨#[110]⟩, itB k⟩ :: ⟨⟨#[108, 97, 115, 116]⟩, lk⟩ :: r))), .bool true]) ∧ Flds w' (.slice ao r.length cap) r ∧
        Fol w' ba bl bo (k + 1) (lkB o (textL (⟨⟨#[110]⟩, itB k⟩ :: ⟨⟨#[108, 97, 115, 116]⟩, lk⟩ :: r))) o ∧ Touch (fun x => x = ba ∨ x = bl) w w' := by
  obtain ⟨l, hl0⟩ : ∃ l : List Fd, l = ⟨⟨#[110]⟩, itB k⟩ :: ⟨⟨#[108, 97, 115, 116]⟩, lk⟩ :: r := ⟨_, rfl⟩
  have hlen : l.length = r.length + 2 := by rw [hl0]; rfl
  have HP := Lib.hid (parse_ok l w (by omega) (by rw [hl0]; exact hok))
  have HLk := Lib.hid (fun w => linked_ok o (textB l) ho (textB_size l (by rw [hl0]; exact hok) (by omega)) w)
  rw [show (textB l).data.toList = textL l from rfl] at HLk
  have HIt := Lib.hid (show ∀ w, Calls Tryd.prog 50 #[.int .i64 k] w fun e w' => e = .returned (.string (itB k)) ∧ w' = w from fun w => itoa_small k (by omega) w)
  rw [← hl0]
  obtain ⟨n, hn⟩ : ∃ n, n = r.length := ⟨_, rfl⟩
  obtain ⟨m, hm⟩ : ∃ m, m = l.length := ⟨_, rfl⟩
  rw [← hn] at hr hl hlen ⊢
  rw [← hm] at hlen
  have hm3 : 2 < m := by omega
  have hm62 : m ≤ 62 := by omega
  have HN := Lib.hid hn
  have HM := Lib.hid hm
  have HL0 := Lib.hid hl0
  have HLn := Lib.hid hlen
  have HF := Lib.hid hF
  have HNe := Lib.hid (And.intro n1 (And.intro n2 n3))
  clear hF n1 n2 n3 hok hn hl0 hlen hm
  go_enter Tryd.func100, Tryd.ntmps100
  go_wp2_with fail
  refine HP.out.mono ?_
  rintro e w1 ⟨v1, rfl, hf1, hv1, hb1⟩
  obtain ⟨ao, cap, rfl, hcap, hcm, _⟩ := hf1.shape
  have HF1 := Lib.hid hf1
  have HV1 := Lib.hid hv1
  rw [← HM.out] at hf1 hcap ⊢
  obtain ⟨b, off, rfl, hbl, hc⟩ := hf1.get HM.out (by omega)
  have c0 := hc 0 (by rw [← HM.out]; omega)
  have c1 := hc 1 (by rw [← HM.out]; omega)
  simp only [HL0.out, List.getElem_cons_zero, List.getElem_cons_succ, Nat.zero_mul, Nat.add_zero, Nat.one_mul] at c0 c1
  obtain ⟨x0, x1⟩ := c0
  obtain ⟨x2, x3⟩ := c1
  have x3' : w1.cell? ⟨b, off + 3, none⟩ = some (.string lk) := x3
  have HB1 := Lib.hid hb1
  have HFo := Lib.hid (HF.out.later (S := fun _ => False) (Touch.of_below hb1) id id id)
  have y0 : w1.cell? ⟨ba, 0, none⟩ = some (.int .i64 (k : Int)) := Lib.cell_of_heap HFo.out.ha 0
  have y1 : w1.cell? ⟨bl, 0, none⟩ = some (.string lk) := Lib.cell_of_heap HFo.out.hl 0
  have E1 := fd_same ⟨#[110]⟩ (itB k)
  have E2 := fd_same ⟨#[108, 97, 115, 116]⟩ lk
  have l0 : (0 : Int) < (m : Int) := by omega
  have l1 : (1 : Int) < (m : Int) := by omega
  clear hc hf1 hb1 hv1
  go_wp2_with fail
  go_quiet ((go_at_call 50; exact (HIt.out _).mono fun e w' h => ⟨h.1, ⟨_, h.2⟩⟩))
  have HF2 := Lib.hid (show Fol (w1.drewN nq) ba bl bo k lk o from ⟨HFo.out.ha, HFo.out.hl, HFo.out.ho⟩)
  have HB2 := Lib.hid (below_drewN HB1.out nq)
  have HL2 := Lib.hid (show Flds (w1.drewN nq) (.slice (some ⟨b, off, none⟩) m cap) l from by
    have := HF1.out.below (below_drewN (Below.refl _ _) nq)
    rw [← HM.out] at this; exact this)
  clear x0 x1 x2 x3 x3' y0 y1 E1 E2 HFo HB1 HF1 hbl
  generalize w1.drewN nq = w2 at *
  obtain ⟨w3, hw3⟩ : ∃ w3, w3 = w2.setCell ⟨ba, 0, none⟩ (.int .i64 ((k : Int) + 1)) := ⟨_, rfl⟩
  have HT3 := Lib.hid (show Touch (fun x => x = ba) w2 w3 by rw [hw3]; exact (Touch.refl (fun x => x = ba) w2).setCell (p := ⟨ba, 0, none⟩) (.inl rfl) _)
  have HA3 := Lib.hid (show w3.heap[ba]? = some (.cells #[.int .i64 ((k + 1 : Nat) : Int)] 3 (0, 0)) by rw [hw3]; exact (hset HF2.out.ha).trans rfl)
  have HL3 := Lib.hid ((HT3.out.block bl (lt_of_block HF2.out.hl) (fun e => HNe.out.1 e.symm)).trans HF2.out.hl)
  have HO3 := Lib.hid ((HT3.out.block bo (lt_of_block HF2.out.ho) (fun e => HNe.out.2.2 e.symm)).trans HF2.out.ho)
  have y0 : w2.cell? ⟨ba, 0, none⟩ = some (.int .i64 (k : Int)) := Lib.cell_of_heap HF2.out.ha 0
  have z0 : w2.frozen? ⟨ba, 0, none⟩ = false := Lib.frozen_of_heap HF2.out.ha 0
  have y2 : w3.cell? ⟨bo, 0, none⟩ = some (.string o) := Lib.cell_of_heap HO3.out 0
  rw [hw3] at y2
  have HW3 := Lib.hid hw3
  clear hw3
  go_wp2_with fail
  rw [← HW3.out]
  refine (HLk.out w3).mono ?_
  rintro e w4 ⟨rfl, hb4⟩
  have HT4 := Lib.hid (Touch.of_below (S := fun _ => False) hb4)
  have HA4 := Lib.hid ((hb4.block ba (lt_of_block HA3.out)).trans HA3.out)
  have HL4 := Lib.hid ((hb4.block bl (lt_of_block HL3.out)).trans HL3.out)
  have HO4 := Lib.hid ((hb4.block bo (lt_of_block HO3.out)).trans HO3.out)
  clear hb4 y0 z0 y2
  have y0 : w4.cell? ⟨bl, 0, none⟩ = some (.string lk) := Lib.cell_of_heap HL4.out 0
  have z0 : w4.frozen? ⟨bl, 0, none⟩ = false := Lib.frozen_of_heap HL4.out 0
  go_wp2_with fail
  clear y0 z0
  have h5 := hset (i := 0) (u := .string (lkB o (textL l))) HL4.out
  have y5 : (w4.setCell ⟨bl, 0, none⟩ (.string (lkB o (textL l)))).cell? ⟨bl, 0, none⟩ = some (.string (lkB o (textL l))) := Lib.cell_of_heap h5 0
  have HL5 := Lib.hid h5
  have HT5 := Lib.hid ((Touch.refl (fun x => x = bl) w4).setCell (p := ⟨bl, 0, none⟩) (.inl rfl) (.string (lkB o (textL l))))
  clear h5
  generalize w4.setCell ⟨bl, 0, none⟩ (.string (lkB o (textL l))) = w5 at *
  have l2 : (2 : Int) ≤ (m : Int) := by omega
  have l3 : (m : Int) ≤ (cap : Int) := by omega
  have l4 : ¬ (2 = cap) := by omega
  have l5 : ¬ (cap = 2) := by omega
  go_quiet (fail)
  clear y5
  go_wp2
  have HT := Lib.hid (show Touch (fun x => x = ba ∨ x = bl) w2 (w5.drewN nq) from (((HT3.out.mono (S' := fun x => x = ba ∨ x = bl) (fun x h => .inl h)).trans HT4.out (fun x h => h.elim)).trans HT5.out (fun x h => .inl (.inr h))).drewN nq)
  have HFin := Lib.hid (show Fol (w5.drewN nq) ba bl bo (k + 1) (lkB o (textL l)) o from ⟨(HT5.out.block ba (lt_of_block HA4.out) HNe.out.1).trans HA4.out, HL5.out, (HT5.out.block bo (lt_of_block HO4.out) (fun e => HNe.out.2.1 e.symm)).trans HO4.out⟩)
  have em : m - 2 = n := by have := HLn.out; omega
  have HLf := Lib.hid (show Flds (w5.drewN nq) (.slice (some ⟨b, off + 4, none⟩) (m - 2) (cap - 2)) r from by
    have hbw : w.heap.size ≤ b := HV1.out b rfl
    have h1 := (HL2.out.touch HT.out (fun k hk => by
      have h2 : some b = some k := hk
      injection h2 with h2
      have h3 := lt_of_block HF.out.ha
      have h4 := lt_of_block HF.out.hl
      exact fun h => h.elim (fun e => by omega) (fun e => by omega))).drop HM.out 2 (by omega) (by omega)
    rw [HL0.out] at h1
    exact h1)
  rw [em] at HLf ⊢
  refine bodyPost_ret (v := .tuple #[.slice (some ⟨b, off + 4, none⟩) n (cap - 2), .string (lkB o (textL l)), .bool true]) (by simp [results, Tryd.results100, go_sem]) rfl ⟨_, _, rfl, HLf.out, HFin.out, (Touch.of_below HB2.out).trans HT.out (fun x h => .inl h)⟩
set_option maxRecDepth 20000 in
set_option maxHeartbeats 4000000 in
theorem fol_wrong (ba bl bo k : Nat) (lk lk2 o : ByteArray) (r : List Fd) (w : World) (hF : Fol w ba bl bo k lk o) (hne : ¬ lk2.toList = lk.toList) (hk : k < 90) (hr : 0 < r.length) (hl : r.length ≤ 60)
    (hok : ∀ f ∈ (⟨⟨#[110]⟩, itB k⟩ :: ⟨⟨#[108, 97, 115, 116]⟩, lk2⟩ :: r : List Fd), f.ok) :
    Calls Tryd.prog 100 #[.string (textB (⟨⟨#[110]⟩, itB k⟩ :: ⟨⟨#[108, 97, 115, 116]⟩, lk2⟩ :: r)), .pointer (some ⟨ba, 0, none⟩), .pointer (some ⟨bl, 0, none⟩), .pointer (some ⟨bo, 0, none⟩)] w
      fun e w' => e = .returned (.tuple #[.slice none 0 0, .string ⟨#[]⟩, .bool false]) ∧ Below w.heap.size w w' := by
  obtain ⟨l, hl0⟩ : ∃ l : List Fd, l = ⟨⟨#[110]⟩, itB k⟩ :: ⟨⟨#[108, 97, 115, 116]⟩, lk2⟩ :: r := ⟨_, rfl⟩
  have hlen : l.length = r.length + 2 := by rw [hl0]; rfl
  have HP := Lib.hid (parse_ok l w (by omega) (by rw [hl0]; exact hok))
  have HIt := Lib.hid (show ∀ w, Calls Tryd.prog 50 #[.int .i64 k] w fun e w' => e = .returned (.string (itB k)) ∧ w' = w from fun w => itoa_small k (by omega) w)
  rw [← hl0]
  obtain ⟨n, hn⟩ : ∃ n, n = r.length := ⟨_, rfl⟩
  obtain ⟨m, hm⟩ : ∃ m, m = l.length := ⟨_, rfl⟩
  rw [← hn] at hr hl hlen
  rw [← hm] at hlen
  have hm3 : 2 < m := by omega
  have hm62 : m ≤ 62 := by omega
  have HN := Lib.hid hn
  have HM := Lib.hid hm
  have HL0 := Lib.hid hl0
  have HLn := Lib.hid hlen
  have HF := Lib.hid hF
  clear hF hok hn hl0 hlen hm
  go_enter Tryd.func100, Tryd.ntmps100
  go_wp2_with fail
  refine HP.out.mono ?_
  rintro e w1 ⟨v1, rfl, hf1, hv1, hb1⟩
  obtain ⟨ao, cap, rfl, hcap, hcm, _⟩ := hf1.shape
  have HF1 := Lib.hid hf1
  have HV1 := Lib.hid hv1
  rw [← HM.out] at hf1 hcap
  rw [← HM.out]
  obtain ⟨b, off, rfl, hbl, hc⟩ := hf1.get HM.out (by omega)
  have c0 := hc 0 (by rw [← HM.out]; omega)
  have c1 := hc 1 (by rw [← HM.out]; omega)
  simp only [HL0.out, List.getElem_cons_zero, List.getElem_cons_succ, Nat.zero_mul, Nat.add_zero, Nat.one_mul] at c0 c1
  obtain ⟨x0, x1⟩ := c0
  obtain ⟨x2, x3⟩ := c1
  have x3' : w1.cell? ⟨b, off + 3, none⟩ = some (.string lk2) := x3
  have HB1 := Lib.hid hb1
  have HFo := Lib.hid (HF.out.later (S := fun _ => False) (Touch.of_below hb1) id id id)
  have y0 : w1.cell? ⟨ba, 0, none⟩ = some (.int .i64 (k : Int)) := Lib.cell_of_heap HFo.out.ha 0
  have y1 : w1.cell? ⟨bl, 0, none⟩ = some (.string lk) := Lib.cell_of_heap HFo.out.hl 0
  have E1 := fd_same ⟨#[110]⟩ (itB k)
  have E2 := fd_other ⟨#[108, 97, 115, 116]⟩ lk2 lk hne
  clear hne
  have l0 : (0 : Int) < (m : Int) := by omega
  have l1 : (1 : Int) < (m : Int) := by omega
  clear hc hf1 hb1 hv1
  go_wp2_with fail
  go_quiet ((go_at_call 50; exact (HIt.out _).mono fun e w' h => ⟨h.1, ⟨_, h.2⟩⟩))
  have HB2 := Lib.hid (below_drewN HB1.out nq)
  clear x0 x1 x2 x3 x3' y0 y1 E1 E2
  go_wp2
  refine bodyPost_ret (v := .tuple #[.slice none 0 0, .string ⟨#[]⟩, .bool false]) (by simp [results, Tryd.results100, go_sem]) rfl ⟨rfl, HB2.out⟩
end Go.Proofs.YtllaahdbngjigaaDoor
