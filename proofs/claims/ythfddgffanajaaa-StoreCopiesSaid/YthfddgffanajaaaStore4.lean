/-
  The store's methods: Crash, Copy.
-/
import Derived.Test.YthfddgffanajaaaStore3
namespace Go.Proofs.Ythfddgffanajaaa
open Go Go.RowKit
set_option linter.unusedVariables false
set_option linter.unusedSimpArgs false

def St.crash (keep : Int) (s : St) : St :=
  let n := s.last + (min (max keep 0) ((s.ws.length : Int) - s.last)).toNat
  ⟨s.ws.take n, n, false, 0, false⟩

theorem five_sets {w1 : World} {b : Nat} {v u : Value} {s : St} {ws : List ByteArray} (hb : w1.heap[b]? = some (.cells (s.cells v) 55 (0, 0))) (hr : w1.ownsRow 0 9 1 u ws.length (ws.map Value.string)) (hne : u.ownBlock ≠ some b) (hl : ws.length ≤ 4096) :
    IsSt (((((w1.setCell ⟨b, 0, none⟩ u).setCell ⟨b, 1, none⟩ (.int .i64 ws.length)).setCell ⟨b, 2, none⟩ (.bool false)).setCell ⟨b, 3, none⟩ (.int .i64 0)).setCell ⟨b, 4, none⟩ (.bool false)) b u ⟨ws, ws.length, false, 0, false⟩ :=
  ⟨by rw [heap_set (heap_set (heap_set (heap_set (heap_set hb))))]; rfl,
   ownsRow_setCell_other (ownsRow_setCell_other (ownsRow_setCell_other (ownsRow_setCell_other (ownsRow_setCell_other hr hne _) hne _) hne _) hne _) hne _, hne, show (0 : Int) ≤ 0 by decide, show (0 : Int) ≤ _ by decide, hl, Nat.le_refl _⟩

theorem row_take {w : World} {ao : Option Addr} {n m cap : Nat} {cs : List Value} (h : Row w (.slice ao n cap) 1 n cs) (hm : m ≤ n) : Row w (.slice ao m cap) 1 m (cs.take m) := by
  obtain ⟨h1, ao', cap', e, h3, h4, h5, h6⟩ := h
  cases e
  refine ⟨by rw [List.length_take]; omega, ao, cap, rfl, by omega, h4, h5, fun a ha j u hu => h6 a ha j u ?_⟩
  rw [List.getElem?_take] at hu
  split at hu
  · exact hu
  · cases hu

set_option maxHeartbeats 2000000 in
theorem crash_any (w : World) (b : Nat) (v : Value) (s : St) (keep : Int) (h : IsSt w b v s) :
    Calls Try.prog 15 #[.pointer (some ⟨b, 0, none⟩), .int .i64 keep] w fun e w' => ∃ v', e = .returned (.tuple #[]) ∧ IsSt w' b v' (s.crash keep) ∧ Keep b v w v' w' := by
  obtain ⟨ao, cap, e⟩ := own_shape h.row
  have H := Lib.hid h
  have k0 : w.cell? ⟨b, 0, none⟩ = some v := h.cell 0
  have k1 : w.cell? ⟨b, 1, none⟩ = some (.int .i64 s.last) := h.cell 1
  have kf0 : w.frozen? ⟨b, 0, none⟩ = false := h.free 0
  have kf1 : w.frozen? ⟨b, 1, none⟩ = false := h.free 1
  have kf2 : w.frozen? ⟨b, 2, none⟩ = false := h.free 2
  have kf3 : w.frozen? ⟨b, 3, none⟩ = false := h.free 3
  have kf4 : w.frozen? ⟨b, 4, none⟩ = false := h.free 4
  obtain ⟨n, HN⟩ : ∃ n, Hid (n = s.ws.length) := ⟨_, rfl⟩
  rw [← HN.out] at e
  have hl1 : s.last ≤ n := by rw [HN.out]; exact h.last
  have hl2 : n ≤ 4096 := by rw [HN.out]; exact h.len
  clear h
  subst e
  have m1 : IntKind.i64.wrap ((n : Int) - s.last) = (n : Int) - s.last := IntWalk.i64_in _ (by omega)
  go_enter Try.func15, Try.ntmps15
  go_wp2
  go_quiet (fail)
  obtain ⟨k, HK⟩ : ∃ k : Nat, Hid (k = (min (max keep 0) ((s.ws.length : Int) - s.last)).toNat) := ⟨_, rfl⟩
  have hk := HK.out
  rw [← HN.out] at hk
  have E1 : (if (n : Int) - s.last < (if keep < 0 then 0 else keep) then (n : Int) - s.last else if keep < 0 then 0 else keep) = (k : Int) := by
    rw [hk]; split <;> split <;> omega
  have hk1 : s.last + k ≤ n := by omega
  have HE := Lib.hid (show s.crash keep = ⟨s.ws.take (s.last + k), s.last + k, false, 0, false⟩ by unfold St.crash; rw [HK.out])
  rw [E1]
  clear E1 hk m1 HK
  generalize (if keep < 0 then (0 : Int) else keep) = kk
  obtain ⟨zs, HZ⟩ : ∃ zs, Hid (zs = s.ws.take (s.last + k)) := ⟨_, rfl⟩
  have hzl : zs.length = s.last + k := by rw [HZ.out, List.length_take, ← HN.out]; omega
  obtain ⟨_, _, cap', e', hcap, hcap2, _⟩ := Row.of_own H.out.row
  have hcn : n ≤ cap := by rw [← HN.out] at e' hcap; cases e'; exact hcap
  have HR := Lib.hid (show Row w (.slice ao zs.length cap) 1 zs.length (zs.map Value.string) from by
    have h1 : Row w (.slice ao n cap) 1 n (s.ws.map Value.string) := by have := Row.of_own H.out.row; rwa [← HN.out] at this
    have := row_take h1 hk1
    rw [hzl, HZ.out, List.map_take]; exact this)
  have HZL := Lib.hid hzl
  have HB16 := Lib.hid (show zs.length * 16 ≤ 140737488355328 by omega)
  have m1 : IntKind.i64.wrap ((s.last : Int) + (k : Int)) = (s.last : Int) + (k : Int) := IntWalk.i64_in _ (by omega)
  have m2 : (0 : Int) ≤ (s.last : Int) + (k : Int) := by omega
  have m3 : (s.last : Int) + (k : Int) ≤ (cap : Int) := by omega
  have m4 : ((s.last : Int) + (k : Int)).toNat = zs.length := by rw [hzl]; omega
  clear hzl e' hcap hcap2
  go_wp2
  go_region_with (go_at_call 28; refine (clone_any zs _ _ (Row.drewN HR.out _) HB16.out).mono ?_; rintro e w2 ⟨u, rfl, ho, hb2⟩; obtain ⟨ao2, cap2, rfl⟩ := own_shape ho; have q2 : w2.heap[b]? = w.heap[b]? := hb2.block b H.out.lt; have q0 : w2.cell? ⟨b, 0, none⟩ = some (.slice ao n cap) := (heap_cell q2).trans k0; have q1 : w2.frozen? ⟨b, 0, none⟩ = false := (World.frozen?_of_block q2).trans kf0; have Q := Lib.hid (And.intro q2 (And.intro ho hb2)); clear q2 ho hb2)
  all_goals
    obtain ⟨q2, ho, hb2⟩ := Q.out
    have hne : (Value.slice ao2 zs.length cap2).ownBlock ≠ some b := by
      intro e
      have h1 := own_block ho e
      have h2 := H.out.lt
      simp at h1; omega
    have HF := Lib.hid (five_sets (q2.trans H.out.blk) (show w2.ownsRow 0 9 1 _ zs.length (zs.map Value.string) from ⟨ho.1, ho.2.imp id (fun ⟨g, c, cur, a1, _, a3⟩ => ⟨g, c, cur, a1, Nat.zero_le _, a3⟩)⟩) hne (by rw [HZL.out]; omega))
    have KF := Lib.hid (show Keep b (.slice ao n cap) w (.slice ao2 zs.length cap2) (((((w2.setCell ⟨b, 0, none⟩ (.slice ao2 zs.length cap2)).setCell ⟨b, 1, none⟩ (.int .i64 zs.length)).setCell ⟨b, 2, none⟩ (.bool false)).setCell ⟨b, 3, none⟩ (.int .i64 0)).setCell ⟨b, 4, none⟩ (.bool false)) from
      (((((⟨(Touch.of_below (a := w) ⟨hb2.os, hb2.tape, hb2.output, hb2.size, hb2.block⟩), fun k hk => .inr (own_block ho hk)⟩ : Keep b (.slice ao n cap) w (.slice ao2 zs.length cap2) w2).set _).set _).set _).set _).set _)
    have HLZ := Lib.hid (show (⟨zs, zs.length, false, 0, false⟩ : St) = s.crash keep by rw [HE.out, ← HZ.out, HZL.out])
    have r1 : w2.cell? ⟨b, 1, none⟩ = some (.int .i64 s.last) := (heap_cell q2).trans k1
    have r2 : w2.cell? ⟨b, 2, none⟩ = some (.bool s.armed) := (heap_cell q2).trans (H.out.cell 2)
    have r3 : w2.cell? ⟨b, 3, none⟩ = some (.int .i64 s.fuse) := (heap_cell q2).trans (H.out.cell 3)
    have r4 : w2.cell? ⟨b, 4, none⟩ = some (.bool s.down) := (heap_cell q2).trans (H.out.cell 4)
    have z1 : w2.frozen? ⟨b, 1, none⟩ = false := (World.frozen?_of_block q2).trans kf1
    have z2 : w2.frozen? ⟨b, 2, none⟩ = false := (World.frozen?_of_block q2).trans kf2
    have z3 : w2.frozen? ⟨b, 3, none⟩ = false := (World.frozen?_of_block q2).trans kf3
    have z4 : w2.frozen? ⟨b, 4, none⟩ = false := (World.frozen?_of_block q2).trans kf4
    clear q2 ho hb2 hne Q HR HZ HN HZL HB16 m1 m2 m3 m4 k0 k1 kf0 kf1 kf2 kf3 kf4 HE H hl1 hl2 hk1 hcn
    go_wp2
    go_end0
    exact ⟨_, rfl, HLZ.out ▸ HF.out, KF.out⟩

set_option maxHeartbeats 1000000 in
theorem copy_any (w : World) (b : Nat) (v : Value) (s : St) (h : IsSt w b v s) :
    Calls Try.prog 24 #[.pointer (some ⟨b, 0, none⟩)] w fun e w' => ∃ b2 v2, e = .returned (.pointer (some ⟨b2, 0, none⟩)) ∧ IsSt w' b2 v2 s ∧ w.heap.size ≤ b2 ∧ (∀ k, v2.ownBlock = some k → w.heap.size ≤ k) ∧ Below w.heap.size w w' := by
  obtain ⟨ao, cap, e⟩ := own_shape h.row
  have H := Lib.hid h
  have k0 : w.cell? ⟨b, 0, none⟩ = some v := h.cell 0
  have k1 : w.cell? ⟨b, 1, none⟩ = some (.int .i64 s.last) := h.cell 1
  have k2 : w.cell? ⟨b, 2, none⟩ = some (.bool s.armed) := h.cell 2
  have k3 : w.cell? ⟨b, 3, none⟩ = some (.int .i64 s.fuse) := h.cell 3
  have k4 : w.cell? ⟨b, 4, none⟩ = some (.bool s.down) := h.cell 4
  have hb := h.lt
  clear h
  subst e
  go_enter Try.func24, Try.ntmps24
  have hb1 : Below w.heap.size w (w.alloc (.cells (s.cells (.slice ao s.ws.length cap)) 55)) := (Below.refl _ _).alloc (Nat.le_refl _) _
  have HR := Lib.hid (Row.below (Row.of_own H.out.row) hb1)
  have HL := Lib.hid (show s.ws.length * 16 ≤ 140737488355328 by have := H.out.len; omega)
  have HB := Lib.hid hb1
  clear hb1
  go_wp2_with fail
  refine (clone_any s.ws _ _ HR.out HL.out).mono ?_
  rintro e w2 ⟨u, rfl, ho, hb2⟩
  obtain ⟨ao2, cap2, rfl⟩ := own_shape ho
  have q2 : w2.heap[w.heap.size]? = some (.cells (s.cells (.slice ao s.ws.length cap)) 55 (0, 0)) := (hb2.block _ (by simp)).trans (heap_alloc_new _ _)
  have r0 : w2.cell? ⟨w.heap.size, 0, none⟩ = some (.slice ao s.ws.length cap) := by simp [World.cell?, q2, St.cells]
  have z0 : w2.frozen? ⟨w.heap.size, 0, none⟩ = false := by simp [World.frozen?, q2]
  have hnew : ∀ k, (Value.slice ao2 s.ws.length cap2).ownBlock = some k → w.heap.size + 1 ≤ k := fun k hk => by have := own_block ho hk; simpa using this
  have hne : (Value.slice ao2 s.ws.length cap2).ownBlock ≠ some w.heap.size := fun e => by have := hnew _ e; omega
  have HF := Lib.hid (show IsSt (w2.setCell ⟨w.heap.size, 0, none⟩ (.slice ao2 s.ws.length cap2)) w.heap.size (.slice ao2 s.ws.length cap2) s from
    ⟨by rw [heap_set q2]; rfl, ownsRow_setCell_other (show w2.ownsRow 0 9 1 _ _ _ from ⟨ho.1, ho.2.imp id (fun ⟨g, c, cur, a1, _, a3⟩ => ⟨g, c, cur, a1, Nat.zero_le _, a3⟩)⟩) hne _, hne, H.out.f0, H.out.f1, H.out.len, H.out.last⟩)
  have HBF := Lib.hid (show Below w.heap.size w (w2.setCell ⟨w.heap.size, 0, none⟩ (.slice ao2 s.ws.length cap2)) from (HB.out.trans (hb2.mono (by simp))).setCell (Nat.le_refl _) _)
  have HNW := Lib.hid hnew
  clear q2 ho hb2 hne hnew k0 k1 k2 k3 k4 H HR HL HB
  go_wp2
  go_ret
  exact ⟨_, _, rfl, HF.out, Nat.le_refl _, fun k hk => by have := HNW.out k hk; omega, HBF.out⟩
end Go.Proofs.Ythfddgffanajaaa
