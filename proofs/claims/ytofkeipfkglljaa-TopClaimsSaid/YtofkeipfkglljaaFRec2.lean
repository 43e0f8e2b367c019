/-
  File.Recover, walked.
-/
import Derived.Test.YtofkeipfkglljaaFRec
namespace Go.Proofs.Ytofkeipfkglljaa
open Go Go.RowKit
set_option linter.unusedVariables false
set_option linter.unusedSimpArgs false

theorem ok_each {f : Fi} (h : FileOk f) {k : Nat} (hk : k < f.L.length) : 0 ≤ f.L[k].b ∧ f.L[k].b ≤ f.L[k].p ∧ f.L[k].p ≤ 1099511627776 := by
  have h1 := h.each f.L[k] (List.getElem_mem hk)
  have h2 := isum_take (ok_p h) k
  have h3 := isum_take (ok_p h) (k + 1)
  rw [isum_step (by simp [pL]; omega), pL_get hk] at h3
  have h4 : paidF f = (pL f.L).sum := rfl
  have h5 := ok_bd h
  rw [List.getD_eq_getElem?_getD, List.getElem?_eq_getElem hk] at h3
  dsimp only [Option.getD] at h3
  omega
theorem rec_all {f : Fi} {s : Int} : (recF f s).1 = { (Fk f s f.L.length) with own := f.own + giveN (leftF f) (rk f s f.L.length) } ∧ (recF f s).2 = (giveS ⟨#[]⟩ (leftF f) (rk f s f.L.length)).D := by
  obtain ⟨h1, h2⟩ := Fk_all f s
  rw [h1, h2]
  exact ⟨rfl, rfl⟩

/-- What came back to the insured is written. -/
theorem GEnv.ends {w0 w : World} {b bs bg : Nat} {v : Value} {f f' : Fi} {vg : Value} {r : RS} {y : Int} (h : GEnv w0 b v bs bg w f vg r) (hf : f' = { f with own := y }) (ok : FileOk f') :
    IsFi (w.setCell ⟨b, 3, none⟩ (.int .i64 y)) b v f' ∧ Ens (w.setCell ⟨b, 3, none⟩ (.int .i64 y)) vg r.D ∧ Keep b v w0 v (w.setCell ⟨b, 3, none⟩ (.int .i64 y)) ∧ (w.setCell ⟨b, 3, none⟩ (.int .i64 y)).cell? ⟨bg, 0, none⟩ = some vg := by
  obtain ⟨fi, cs, cg, fs, fg, row, l0, l1, l2, l3, l4, lw, touch, s0, s1⟩ := h
  subst hf
  refine ⟨IsFi.put (f := f) fi.blk fi.row fi.ne rfl ok fi.len fi.v0, ?_, ⟨touch.setCell (p := ⟨b, 3, none⟩) (.inl (.inl rfl)) _, fun k e => .inl e⟩, ?_⟩
  · unfold Ens
    exact Row.of_own (ownsRow_setCell_other row (fun e => by have := l3 b e; omega) _)
  · exact (heap_cell (Below.heap_setCell _ _ _ _ (by show bg ≠ b; omega))).trans cg

theorem GEnv.pm {w0 w : World} {b bs bg g cap n k : Nat} {f : Fi} {vg : Value} {r : RS} (h : GEnv w0 b (.slice (some ⟨g, 0, none⟩) n cap) bs bg w f vg r) (hn : n = f.L.length) (hk : k < n) :
    w.cell? ⟨g, k * 3, none⟩ = some (.string (f.L.getD k default).t) ∧ w.cell? ⟨g, k * 3 + 1, none⟩ = some (.int .i64 (f.L.getD k default).p) ∧ w.cell? ⟨g, k * 3 + 2, none⟩ = some (.int .i64 (f.L.getD k default).b) ∧ ∀ j, w.frozen? ⟨g, j, none⟩ = false := by
  obtain ⟨b1, off, e, hb, hc⟩ := Pms.get h.fi.pms hn (by omega)
  cases e
  obtain ⟨c0, c1, c2⟩ := hc k hk
  rw [Nat.zero_add] at c0 c1 c2
  have hro := h.fi.row
  rw [← hn] at hro
  obtain ⟨g', cap', e, _, hfr⟩ := own_at hro (by omega)
  cases e
  exact ⟨c0, c1, c2, hfr⟩
theorem frozen_later {w w' : World} {a : Addr} {v : Value} (hb : Below w.heap.size w w') (hc : w.cell? a = some v) (hf : w.frozen? a = false) : w'.frozen? a = false := by
  rw [hb.frozen (World.block_lt_of_cell? _ _ hc)]; exact hf
theorem box_new {w : World} {u : Value} {t : TypeId} : (w.alloc (.cells #[u] t)).cell? ⟨w.heap.size, 0, none⟩ = some u ∧ (w.alloc (.cells #[u] t)).frozen? ⟨w.heap.size, 0, none⟩ = false := by
  constructor
  · unfold World.cell?; rw [heap_alloc_new]; rfl
  · unfold World.frozen?; rw [heap_alloc_new]; rfl

set_option maxRecDepth 100000 in
set_option maxHeartbeats 8000000 in
theorem recover_bad (w : World) (b : Nat) (v : Value) (f : Fi) (s : Int) (h : IsFi w b v f) (hb : s < 1 ∨ 1099511627776 < s) :
    Calls Try.prog 9 #[.pointer (some ⟨b, 0, none⟩), .int .i64 s] w fun e w' => e = .returned (.tuple #[.slice none 0 0, .int .i64 3]) ∧ Below w.heap.size w w' := by
  have HB0 := Lib.hid ((Below.refl w.heap.size w).alloc (Nat.le_refl _) (.cells #[.int .i64 s] 2))
  by_cases g : s < 1
  · have d1 : decide (s < 1) = true := by rw [decide_eq_true_iff]; exact g
    clear hb h
    go_enter Try.func9, Try.ntmps9
    go_wp2
    go_ret2
    exact ⟨rfl, HB0.out⟩
  · have d1 : decide (s < 1) = false := by rw [decide_eq_false_iff_not]; exact g
    have d2 : decide (1099511627776 < s) = true := by rw [decide_eq_true_iff]; omega
    clear hb h
    go_enter Try.func9, Try.ntmps9
    go_wp2
    go_ret2
    exact ⟨rfl, HB0.out⟩

set_option maxRecDepth 100000 in
set_option maxHeartbeats 8000000 in
theorem recover_fund (w : World) (b : Nat) (v : Value) (f : Fi) (s : Int) (h : IsFi w b v f) (h1 : 1 ≤ s) (h2 : s ≤ 1099511627776) (h3 : outF f < s) :
    Calls Try.prog 9 #[.pointer (some ⟨b, 0, none⟩), .int .i64 s] w fun e w' => e = .returned (.tuple #[.slice none 0 0, .int .i64 10]) ∧ Below w.heap.size w w' := by
  have HB0 := Lib.hid ((Below.refl w.heap.size w).alloc (Nat.le_refl _) (.cells #[.int .i64 s] 2))
  have d1 : decide (s < 1) = false := by rw [decide_eq_false_iff_not]; omega
  have d2 : decide (1099511627776 < s) = false := by rw [decide_eq_false_iff_not]; omega
  have d3 : decide (outF f < s) = true := by rw [decide_eq_true_iff]; exact h3
  have k1 := (box_new (w := w) (u := .int .i64 s) (t := 2)).1
  have HO := Lib.hid (out_any _ b v f ((h.below HB0.out).drew))
  generalize outF f = O at *
  clear h h1 h2 h3
  go_enter Try.func9, Try.ntmps9
  go_wp2_with fail
  go_region_with (go_at_call 18; refine HO.out.mono ?_; rintro e w5 ⟨rfl, hb5⟩; have k2 := cell_later hb5 k1; have HB5 := Lib.hid (bt HB0.out.drew hb5); clear hb5)
  all_goals
    go_wp2
    go_ret2
    exact ⟨rfl, HB5.out⟩

set_option maxRecDepth 100000 in
set_option maxHeartbeats 16000000 in
theorem recover_ok (w : World) (b : Nat) (v : Value) (f : Fi) (s : Int) (h : IsFi w b v f) (h1 : 1 ≤ s) (h2 : s ≤ 1099511627776) (h3 : s ≤ outF f) :
    Calls Try.prog 9 #[.pointer (some ⟨b, 0, none⟩), .int .i64 s] w fun e w' => ∃ vg, e = .returned (.tuple #[vg, .int .i64 0]) ∧ IsFi w' b v (recF f s).1 ∧ Ens w' vg (recF f s).2 ∧ Keep b v w v w' := by
  have HB0 := Lib.hid ((Below.refl w.heap.size w).alloc (Nat.le_refl _) (.cells #[.int .i64 s] 2))
  have d1 : decide (s < 1) = false := by rw [decide_eq_false_iff_not]; omega
  have d2 : decide (1099511627776 < s) = false := by rw [decide_eq_false_iff_not]; omega
  have d3 : decide (outF f < s) = false := by rw [decide_eq_false_iff_not]; omega
  obtain ⟨k1, k1f⟩ := box_new (w := w) (u := .int .i64 s) (t := 2)
  have HO := Lib.hid (out_any _ b v f ((h.below HB0.out).drew))
  have HL := Lib.hid (fun w h => left_any w b v f h)
  have HF := Lib.hid h
  have HOk := Lib.hid (fun k => fk_ok (f := f) h.ok (s := s) (by omega) k)
  have HEach := Lib.hid (fun k hk => ok_each (k := k) h.ok hk)
  have HRF := Lib.hid (rec_all (f := f) (s := s))
  have HROk := Lib.hid (recF_ok h.ok (s := s) (by omega) h3)
  have HLb := Lib.hid (ok_bd h.ok)
  have HS := Lib.hid (And.intro h1 h2)
  have HGv := Lib.hid (fun bs bg w' f' v' vg r t most hE hm hD => give_any w b v' bs bg w' f' vg r t most hE hm hD)
  generalize outF f = O at *
  generalize hLF : leftF f = LF at *
  obtain ⟨av, cv, e, q1, q2⟩ := h.shape
  obtain ⟨n, hn⟩ : ∃ n, n = f.L.length := ⟨_, rfl⟩
  rw [← hn] at e
  have HN := Lib.hid hn
  have hn100 : n ≤ 100 := by rw [hn]; exact h.len
  subst e
  clear h h1 h2 h3 hLF hn q1 q2
  go_enter Try.func9, Try.ntmps9
  go_upto_region 3 with fail
  go_cut [20] from 17 to 20 (fun x wx => x = .bool false ∧ Hid (∃ wy, wy = wx ∧ wy.cell? ⟨w.heap.size, 0, none⟩ = some (.int .i64 s) ∧ wy.frozen? ⟨w.heap.size, 0, none⟩ = false ∧ Below w.heap.size w wy))
  case first =>
    go_region_with (go_at_call 18; refine HO.out.mono ?_; rintro e w3 ⟨rfl, hb3⟩; have k2 := cell_later hb3 k1; have k2f := frozen_later hb3 k1 k1f; have HB3 := Lib.hid (bt HB0.out.drew hb3); clear hb3)
    all_goals
      dsimp only [Exit.then]
      apply_assumption
      go_meet
      exact ⟨rfl, Lib.hid ⟨_, rfl, k2, k2f, HB3.out⟩⟩
  case rest =>
    obtain ⟨rfl, hx⟩ := hcut
    obtain ⟨wx, hwx, x1, x2, x3⟩ := hx.out
    subst hwx
    have HX := Lib.hid x3
    have hba := (Below.refl wx.heap.size wx).alloc (Nat.le_refl _) (.cells #[.slice none 0 0] 38)
    have y1 := cell_later hba x1
    have y2 := frozen_later hba x1 x2
    have HY := Lib.hid (And.intro y1 (And.intro y2 (bt x3 hba)))
    have HL4 := Lib.hid (HL.out _ (HF.out.below (bt x3 hba)))
    have HNew := Lib.hid (heap_alloc_new wx (.cells #[.slice none 0 0] 38))
    have hlt : w.heap.size < wx.heap.size := World.block_lt_of_cell? _ _ x1
    have HLt := Lib.hid hlt
    clear hx x1 x2 x3 hba y1 y2 k1 k1f HO HL HB0
    go_wp2_with fail
    refine HL4.out.mono ?_
    rintro e w5 ⟨rfl, hb5⟩
    have HE0 := Lib.hid (IsFi.genv (w5 := w5) (bg := wx.heap.size) (t := 38) (s := s) HF.out (bt HY.out.2.2 hb5) (cell_later hb5 HY.out.1) (frozen_later hb5 HY.out.1 HY.out.2.1) ((hb5.block wx.heap.size (by simp)).trans HNew.out) HLt.out (by have := HS.out; omega) (by have := HS.out; omega))
    have k2 : w5.cell? ⟨b, 2, none⟩ = some (.slice av n cv) := HE0.out.fi.cell 2
    clear hb5 HL4 HY HNew hlt HX
    go_wp2
    go_loopw [29] (fun i wr => ∃ (k : Nat) (vg : Value), k ≤ n ∧ i = .int .i64 (k : Int) ∧ Hid (GEnv w b (.slice av n cv) w.heap.size wx.heap.size wr (Fk f s k) vg (rk f s k))) (fun i _ => n - (intOf i).toNat)
    case atStart => exact ⟨0, _, Nat.zero_le _, rfl, HE0⟩
    case round =>
      clear HE0 k2
      obtain ⟨k, vg, hk, rfl, hE⟩ := hrel
      have HkL := Lib.hid (show n = (Fk f s k).L.length by show n = (Lk f s k).length; rw [Lk_len f s (by rw [← HN.out]; exact hk)]; exact HN.out)
      by_cases hlt : k < n
      · have l1 : (k : Int) < (n : Int) := by omega
        have l0 : (0 : Int) ≤ (k : Int) := by omega
        have hkl : k < f.L.length := by rw [← HN.out]; exact hlt
        have hro := hE.out.fi.row
        rw [← HkL.out] at hro
        obtain ⟨g, cap, e, hg, hfr⟩ := own_at hro (by omega)
        cases e
        have HOk1 := Lib.hid (HOk.out (k + 1)).1
        have hea := HEach.out k hkl
        have HRs := Lib.hid (rk_step f s hkl)
        have HLs := Lib.hid (Lk_step f s hkl)
        have HGt := Lib.hid (Lk_get f s hkl)
        have HDl := Lib.hid (rk_len (f := f) (s := s) k)
        have HGb := Lib.hid (HOk.out k)
        generalize f.L[k] = o at *
        obtain ⟨ot, op, ob⟩ := o
        dsimp only at hea HRs HLs
        have HGv1 := Lib.hid (fun w' hE => HGv.out w.heap.size wx.heap.size w' (Fk f s k) (.slice (some ⟨g, 0, none⟩) n cv) vg (rk f s k) ot (op - ob) hE (by omega) (by have := HDl.out; omega))
        have HCl := Lib.hid (fun (w' : World) (v' : Value) (r' : RS) (h : GEnv w b (.slice (some ⟨g, 0, none⟩) n cv) w.heap.size wx.heap.size w' (Fk f s k) v' r') => h.pm HkL.out hlt)
        have hgt : (Fk f s k).L.getD k default = ⟨ot, op, ob⟩ := HGt.out
        rw [hgt] at HCl
        dsimp only at HCl
        obtain ⟨N, hN⟩ : ∃ N, N = giveN (op - ob) (rk f s k) := ⟨_, rfl⟩
        have hNb : 0 ≤ N ∧ N ≤ op - ob := by rw [hN]; unfold giveN; have := HGb.out.2.1; omega
        rw [← hN] at HGv1 HLs
        have v1 : IntKind.i64.wrap (ob + N) = ob + N := IntWalk.i64_in _ (by omega)
        have v2 : IntKind.i64.wrap (op - ob) = op - ob := IntWalk.i64_in _ (by omega)
        have k2 : wr.cell? ⟨b, 2, none⟩ = some (.slice (some ⟨g, 0, none⟩) n cv) := hE.out.fi.cell 2
        obtain ⟨c0, c1, c2, c3⟩ := HCl.out wr vg (rk f s k) hE.out
        have HSt := Lib.hid (fun (w' : World) (v' : Value) (r' : RS) (h : GEnv w b (.slice (some ⟨g, 0, none⟩) n cv) w.heap.size wx.heap.size w' (Fk f s k) v' r') => h.setB (f' := Fk f s (k + 1)) (b' := ob + N) HkL.out hlt (by rw [hgt]; show Fk f s (k + 1) = { (Fk f s k) with L := (Lk f s k).set k ⟨ot, op, ob + N⟩ }; rw [← HLs.out]; rfl) HOk1.out)
        clear hea hN hNb hro hfr hg hkl hgt HOk1 HLs HGt HDl HGb
        go_wp2_with fail
        go_region_with (go_at_call 19; refine (HGv1.out _ hE.out.drew).mono ?_; rintro e w6 ⟨v6, rfl, hE6⟩; obtain ⟨c0, c1, c2, c3⟩ := HCl.out w6 v6 _ hE6; have c4 := c3 (k * 3 + 2); have HE6 := Lib.hid hE6; clear hE6)
        all_goals
          go_wp2
          go_roundw
          case rel => exact ⟨k + 1, v6, by omega, by go_num, Lib.hid (by rw [HRs.out]; exact HSt.out _ _ _ HE6.out)⟩
          case measure => simp [intOf]; omega
      · obtain rfl : k = n := by omega
        have hkn : k = f.L.length := HN.out
        have HA := Lib.hid (HOk.out k)
        have hLb := HLb.out
        have HDl := Lib.hid (rk_len (f := f) (s := s) k)
        have HR := HRF.out
        rw [← hkn] at HR
        have HR1 := Lib.hid HR.1
        have HR2 := Lib.hid HR.2
        have HRk := Lib.hid HROk.out.1
        have HSS := HS.out
        have HGv1 := Lib.hid (fun w' hE => HGv.out w.heap.size wx.heap.size w' (Fk f s k) (.slice av k cv) vg (rk f s k) ⟨#[]⟩ LF hE (by omega) (by have := HDl.out; omega))
        obtain ⟨N, hN⟩ : ∃ N, N = giveN LF (rk f s k) := ⟨_, rfl⟩
        have hNb : 0 ≤ N ∧ N ≤ 1099511627776 := by rw [hN]; unfold giveN; have := HA.out.2.1; have := HA.out.2.2; omega
        rw [← hN] at HGv1 HR1
        have v1 : IntKind.i64.wrap (f.own + N) = f.own + N := IntWalk.i64_in _ (by omega)
        have HEn := Lib.hid (fun (w' : World) (v' : Value) (r' : RS) (h : GEnv w b (.slice av k cv) w.heap.size wx.heap.size w' (Fk f s k) v' r') => h.ends (f' := (recF f s).1) (y := f.own + N) HR1.out HRk.out)
        have HCl := Lib.hid (fun (w' : World) (v' : Value) (r' : RS) (h : GEnv w b (.slice av k cv) w.heap.size wx.heap.size w' (Fk f s k) v' r') => show w'.cell? ⟨b, 3, none⟩ = some (.int .i64 f.own) ∧ w'.frozen? ⟨b, 3, none⟩ = false from ⟨h.fi.cell 3, h.fi.free 3⟩)
        obtain ⟨c0, c1⟩ := HCl.out wr vg _ hE.out
        clear hN hNb hLb HR HSS hkn
        go_wp2_with fail
        go_region_with (go_at_call 19; refine (HGv1.out _ hE.out.drew).mono ?_; rintro e w7 ⟨v7, rfl, hE7⟩; obtain ⟨c0, c1⟩ := HCl.out w7 v7 _ hE7; obtain ⟨-, -, -, c2⟩ := HEn.out w7 v7 _ hE7; have HE7 := Lib.hid hE7; clear hE7)
        all_goals
          go_wp2
          go_ret2
          obtain ⟨z1, z2, z3, -⟩ := HEn.out _ _ _ HE7.out
          exact ⟨_, rfl, z1, by rw [HR2.out]; exact z2, z3⟩
end Go.Proofs.Ytofkeipfkglljaa
