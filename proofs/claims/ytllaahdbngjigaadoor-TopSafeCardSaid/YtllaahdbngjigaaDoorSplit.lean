/-
  share.Split.
-/
import Derived.Test.YtllaahdbngjigaaDoorSplitP
import Derived.Test.YtllaahdbngjigaaDoorStable
import Derived.Test.YtllaahdbngjigaaDoorDiv
import Derived.Test.YtllaahdbngjigaaDoorWrong
import Derived.Deep.OwnRows
namespace Go.Proofs.YtllaahdbngjigaaDoor
open Go Go.RowKit
set_option linter.unusedVariables false
set_option linter.unusedSimpArgs false

theorem Tryd.infoI64 : (Tryd.prog.info? 2).map (fun i => (i.zero, i.size, i.bytes)) = some (some (.int .i64 0), 1, 8) := by kernel_rfl
theorem Tryd.infoU64 : (Tryd.prog.info? 109).map (fun i => (i.zero, i.size, i.bytes)) = some (some (.int .u64 0), 1, 8) := by kernel_rfl
theorem Tryd.infoInt : (Tryd.prog.info? 3).map (fun i => (i.zero, i.size, i.bytes)) = some (some (.int .i64 0), 1, 8) := by kernel_rfl
theorem made_nums (n : Nat) : madeCells #[.int .i64 0] n = nums (List.replicate n 0) := by
  apply Array.ext'
  rw [toList_madeCells_one]; simp [nums]
theorem made_rnums (n : Nat) : madeCells #[.int .u64 0] n = rnums (List.replicate n 0) := by
  apply Array.ext'
  rw [toList_madeCells_one]; simp [rnums]
theorem rnums_set (xs : List Nat) (i y : Nat) : (rnums xs).setIfInBounds i (.int .u64 (y : Int)) = rnums (xs.set i y) := by
  unfold rnums; simp [List.map_set]

def natI (W : List Nat) : List Int := W.map fun x : Nat => (x : Int)

/-- How the four blocks lie while the parts are made. -/
structure Lay (bp br bc bo n : Nat) (w : World) (P R O : List Nat) : Prop where
  p : w.heap[bp]? = some (.cells (nums P) 2 (0, 0))
  r : w.heap[br]? = some (.cells (rnums R) 109 (0, 0))
  c : w.heap[bc]? = some (.cells #[.slice (some ⟨br, 0, none⟩) n n] 116 (0, 0))
  o : w.heap[bo]? = some (.cells (nums O) 3 (0, 0))
  lp : P.length = n
  lr : R.length = n
  lo : O.length = n

section
variable {bp br bc bo n : Nat} {w : World} {P R O : List Nat}
theorem Lay.drewN (h : Lay bp br bc bo n w P R O) (k : Nat) : Lay bp br bc bo n (w.drewN k) P R O := ⟨h.p, h.r, h.c, h.o, h.lp, h.lr, h.lo⟩
theorem Lay.drew (h : Lay bp br bc bo n w P R O) : Lay bp br bc bo n w.drew P R O := ⟨h.p, h.r, h.c, h.o, h.lp, h.lr, h.lo⟩
theorem Lay.setP (h : Lay bp br bc bo n w P R O) (h1 : br ≠ bp) (h2 : bc ≠ bp) (h3 : bo ≠ bp) (i y : Nat) : Lay bp br bc bo n (w.setCell ⟨bp, i, none⟩ (.int .i64 (y : Int))) (P.set i y) R O :=
  ⟨by rw [heap_set h.p, nums_set], by rw [Below.heap_setCell _ _ _ _ h1]; exact h.r, by rw [Below.heap_setCell _ _ _ _ h2]; exact h.c, by rw [Below.heap_setCell _ _ _ _ h3]; exact h.o, by simp [h.lp], h.lr, h.lo⟩
theorem Lay.setR (h : Lay bp br bc bo n w P R O) (h1 : bp ≠ br) (h2 : bc ≠ br) (h3 : bo ≠ br) (i y : Nat) : Lay bp br bc bo n (w.setCell ⟨br, i, none⟩ (.int .u64 (y : Int))) P (R.set i y) O :=
  ⟨by rw [Below.heap_setCell _ _ _ _ h1]; exact h.p, by rw [heap_set h.r, rnums_set], by rw [Below.heap_setCell _ _ _ _ h2]; exact h.c, by rw [Below.heap_setCell _ _ _ _ h3]; exact h.o, h.lp, by simp [h.lr], h.lo⟩
theorem Lay.setO (h : Lay bp br bc bo n w P R O) (h1 : bp ≠ bo) (h2 : br ≠ bo) (h3 : bc ≠ bo) (i y : Nat) : Lay bp br bc bo n (w.setCell ⟨bo, i, none⟩ (.int .i64 (y : Int))) P R (O.set i y) :=
  ⟨by rw [Below.heap_setCell _ _ _ _ h1]; exact h.p, by rw [Below.heap_setCell _ _ _ _ h2]; exact h.r, by rw [Below.heap_setCell _ _ _ _ h3]; exact h.c, by rw [heap_set h.o, nums_set], h.lp, h.lr, by simp [h.lo]⟩
end

section
variable {bp br bc bo n : Nat} {w : World} {P R O : List Nat}
theorem Lay.pcell (h : Lay bp br bc bo n w P R O) {i x : Nat} (hx : P[i]? = some x) : w.cell? ⟨bp, i, none⟩ = some (.int .i64 (x : Int)) := by simp [World.cell?, h.p, nums, hx]
theorem Lay.rcell (h : Lay bp br bc bo n w P R O) {i x : Nat} (hx : R[i]? = some x) : w.cell? ⟨br, i, none⟩ = some (.int .u64 (x : Int)) := by simp [World.cell?, h.r, rnums, hx]
theorem Lay.ocell (h : Lay bp br bc bo n w P R O) {i x : Nat} (hx : O[i]? = some x) : w.cell? ⟨bo, i, none⟩ = some (.int .i64 (x : Int)) := by simp [World.cell?, h.o, nums, hx]
theorem Lay.ccell (h : Lay bp br bc bo n w P R O) : w.cell? ⟨bc, 0, none⟩ = some (.slice (some ⟨br, 0, none⟩) n n) := by simp [World.cell?, h.c]
theorem Lay.free (h : Lay bp br bc bo n w P R O) (i : Nat) : w.frozen? ⟨bp, i, none⟩ = false ∧ w.frozen? ⟨br, i, none⟩ = false ∧ w.frozen? ⟨bo, i, none⟩ = false := by
  refine ⟨?_, ?_, ?_⟩ <;> simp [World.frozen?, h.p, h.r, h.o]
end

set_option maxRecDepth 100000 in
set_option maxHeartbeats 4000000 in
theorem split_some (T : Nat) (v : Value) (W : List Nat) (w : World) (h : Ints w v (natI W)) (hT0 : 0 < T) (hT : T ≤ 1099511627776) (hn0 : 0 < W.length) (hn : W.length ≤ 4096) (hw : ∀ x ∈ W, x ≤ 1099511627776) (hS : 0 < W.sum) (hwr : wrongN T (natI W) = 0) :
    Calls Tryd.prog 26 #[.int .i64 (T : Int), v] w fun e w' => ∃ b n out, n = W.length ∧ e = .returned (.tuple #[.slice (some ⟨b, 0, none⟩) n n, .int .i64 0]) ∧ IsSplit T W out ∧ w'.heap[b]? = some (.cells (nums out) 2 (0, 0)) ∧ w.heap.size ≤ b ∧ Below w.heap.size w w' := by
  have HWR := Lib.hid (fun w1 (h1 : Ints w1 v (natI W)) => show Calls Tryd.prog 58 #[.int .i64 (T : Int), v] w1 fun e w' => e = .returned (.int .i64 0) ∧ w' = w1 by have := wrong_any T v (natI W) w1 h1; rwa [hwr] at this)
  obtain ⟨ao, cap, e, k1, k2, k3⟩ := h.shape
  obtain ⟨n, HN⟩ : ∃ n, Hid (n = W.length) := ⟨_, rfl⟩
  have hnl : (natI W).length = n := by rw [HN.out]; simp [natI]
  rw [hnl] at e k1
  rw [← HN.out] at hn0 hn
  unfold maxLen at k2
  have H := Lib.hid h
  subst e
  clear h hwr k3
  have e0 : ((T : Int) == 0) = false := by rw [beq_eq_false_iff_ne]; omega
  have MK1 : ∀ w, (Instr.makeSlice 67 (.int .i64 (n : Int)) (.int .i64 (n : Int))).run Tryd.prog w = .ok (.slice (some ⟨w.heap.size, 0, none⟩) n n) (w.alloc (.cells (nums (List.replicate n 0)) 2)) := fun w => by
    rw [← made_nums]; exact run_make_row' _ _ _ 8 Tryd.underlying67 Tryd.infoI64 rfl _ _ n (by omega) (by omega) w
  have MK2 : ∀ w, (Instr.makeSlice 116 (.int .i64 (n : Int)) (.int .i64 (n : Int))).run Tryd.prog w = .ok (.slice (some ⟨w.heap.size, 0, none⟩) n n) (w.alloc (.cells (rnums (List.replicate n 0)) 109)) := fun w => by
    rw [← made_rnums]; exact run_make_row' _ _ _ 8 Tryd.underlying116 Tryd.infoU64 rfl _ _ n (by omega) (by omega) w
  have MK3 : ∀ w, (Instr.makeSlice 117 (.int .i64 (n : Int)) (.int .i64 (n : Int))).run Tryd.prog w = .ok (.slice (some ⟨w.heap.size, 0, none⟩) n n) (w.alloc (.cells (nums (List.replicate n 0)) 3)) := fun w => by
    rw [← made_nums]; exact run_make_row' _ _ _ 8 Tryd.underlying117 Tryd.infoInt rfl _ _ n (by omega) (by omega) w
  have HW := Lib.hid hw
  have HSS := Lib.hid hS
  have HT := Lib.hid (And.intro hT0 hT)
  clear hw hS hnl hT0 hT
  go_enter Tryd.func26, Tryd.ntmps26
  go_wp2_with fail
  refine (HWR.out w H.out).mono ?_
  rintro e w1 ⟨rfl, rfl⟩
  have HB := Lib.hid (show Below w1.heap.size w1 (w1.alloc (.cells (nums (List.replicate n 0)) 2)) from (Below.refl _ _).alloc (Nat.le_refl _) _)
  go_wp2_with fail
  go_loop [8, 36] (fun sm i => ∃ (k s : Nat), k ≤ n ∧ i = .int .i64 (k : Int) ∧ sm = .int .u64 (s : Int) ∧ Hid (s = (W.take k).sum)) (fun _ i => n - (intOf i).toNat)
  case atStart => exact ⟨0, 0, Nat.zero_le _, rfl, rfl, Lib.hid (by simp)⟩
  case round =>
  obtain ⟨k, s, hk, rfl, rfl, hsum⟩ := hrel
  by_cases hlt : k < n
  · obtain ⟨bk, off, cap', e, _, _, hbk, hc⟩ := H.out.at (by rw [show (natI W).length = n by rw [HN.out]; simp [natI]]; omega)
    have c1 := hc k (by rw [show (natI W).length = n by rw [HN.out]; simp [natI]]; exact hlt)
    rw [show (natI W).length = n by rw [HN.out]; simp [natI]] at e
    cases e
    have hkW : k < W.length := by rw [← HN.out]; exact hlt
    rw [show (natI W)[k]'(by simp [natI]; exact hkW) = ((W[k] : Nat) : Int) by simp [natI]] at c1
    have hx := HW.out W[k] (List.getElem_mem _)
    have hsb : (W.take k).sum ≤ 4503599627370496 := sum_bd2 (fun x hx => HW.out x (List.mem_of_mem_take hx)) (by rw [List.length_take]; omega)
    have HS2 := Lib.hid (show s + W[k] = (W.take (k + 1)).sum by rw [List.take_succ_eq_append_getElem hkW, List.sum_append, hsum.out]; simp)
    have hs' := hsum.out
    generalize W[k] = x at *
    obtain ⟨s2, hs2⟩ : ∃ s2, s2 = s + x := ⟨_, rfl⟩
    have E0 : IntKind.u64.wrap (x : Int) = (x : Int) := wrapN x (by omega)
    have E1 : IntKind.u64.wrap ((s : Int) + (x : Int)) = (s2 : Int) := u64_eq (by omega) (by omega)
    rw [← hs2] at HS2
    clear hs2 hc hx hsb hs' hsum hkW
    go_wp2
    go_round
    case rel => exact ⟨k + 1, s2, by omega, by go_num, rfl, Lib.hid HS2.out⟩
    case measure => simp [intOf]; omega
  · obtain rfl : n = k := by omega
    have hsum' : s = W.sum := by have := hsum.out; rwa [List.take_of_length_le (by rw [← HN.out]; omega)] at this
    have HSM := Lib.hid hsum'
    clear hsum hsum' hk hlt
    go_wp2_with fail
    obtain ⟨wz, hwz⟩ : ∃ wz : World, Hid (wz = ((((w1.alloc (.cells (nums (List.replicate n 0)) 2)).alloc (.cells (rnums (List.replicate n 0)) 109)).alloc (.cells #[.slice (some ⟨w1.heap.size + 1, 0, none⟩) n n] 116)).alloc (.cells (nums (List.replicate n 0)) 3))) := ⟨_, rfl⟩
    rw [← hwz.out]
    have HLZ := Lib.hid (show Lay w1.heap.size (w1.heap.size + 1) (w1.heap.size + 1 + 1) (w1.heap.size + 1 + 1 + 1) n wz (List.replicate n 0) (List.replicate n 0) (List.replicate n 0) from by
      rw [hwz.out]
      refine ⟨?_, ?_, ?_, ?_, by simp, by simp, by simp⟩
      · rw [Below.heap_alloc _ _ _ (by simp <;> omega), Below.heap_alloc _ _ _ (by simp <;> omega), Below.heap_alloc _ _ _ (by simp)]
        exact heap_alloc_new _ _
      · rw [Below.heap_alloc _ _ _ (by simp <;> omega), Below.heap_alloc _ _ _ (by simp)]
        have := heap_alloc_new (w1.alloc (.cells (nums (List.replicate n 0)) 2)) (.cells (rnums (List.replicate n 0)) 109)
        simpa using this
      · rw [Below.heap_alloc _ _ _ (by simp)]
        have := heap_alloc_new ((w1.alloc (.cells (nums (List.replicate n 0)) 2)).alloc (.cells (rnums (List.replicate n 0)) 109)) (.cells #[.slice (some ⟨w1.heap.size + 1, 0, none⟩) n n] 116)
        simpa using this
      · have := heap_alloc_new (((w1.alloc (.cells (nums (List.replicate n 0)) 2)).alloc (.cells (rnums (List.replicate n 0)) 109)).alloc (.cells #[.slice (some ⟨w1.heap.size + 1, 0, none⟩) n n] 116)) (.cells (nums (List.replicate n 0)) 3)
        simpa using this)
    have HBZ := Lib.hid (show Below w1.heap.size w1 wz from by
      rw [hwz.out]
      exact ((((Below.refl _ _).alloc (Nat.le_refl _) _).alloc (by simp) _).alloc (by simp <;> omega) _).alloc (by simp <;> omega) _)
    obtain ⟨bp, hbp⟩ : ∃ x, Hid (x = w1.heap.size) := ⟨_, rfl⟩
    obtain ⟨br, hbr⟩ : ∃ x, Hid (x = w1.heap.size + 1) := ⟨_, rfl⟩
    obtain ⟨bc, hbc⟩ : ∃ x, Hid (x = w1.heap.size + 1 + 1) := ⟨_, rfl⟩
    obtain ⟨bo, hbo⟩ : ∃ x, Hid (x = w1.heap.size + 1 + 1 + 1) := ⟨_, rfl⟩
    rw [← hbo.out, ← hbc.out, ← hbr.out, ← hbp.out] at HLZ ⊢
    have HNE := Lib.hid (show (¬ bp = br ∧ ¬ bp = bc ∧ ¬ bp = bo) ∧ (¬ br = bp ∧ ¬ br = bc ∧ ¬ br = bo) ∧ (¬ bc = bp ∧ ¬ bc = br ∧ ¬ bc = bo) ∧ (¬ bo = bp ∧ ¬ bo = br ∧ ¬ bo = bc) from by
      have h1 := hbp.out; have h2 := hbr.out; have h3 := hbc.out; have h4 := hbo.out
      omega)
    have HBS := Lib.hid (show w1.heap.size ≤ bp ∧ w1.heap.size ≤ br ∧ w1.heap.size ≤ bc ∧ w1.heap.size ≤ bo from by
      have h1 := hbp.out; have h2 := hbr.out; have h3 := hbc.out; have h4 := hbo.out
      omega)
    clear hwz hbp hbr hbc hbo HB MK1 MK2 MK3
    go_wp2_with fail
    go_loopw [13, 54] (fun lf i wr => ∃ (k l : Nat), k ≤ n ∧ i = .int .i64 (k : Int) ∧ lf = .int .i64 (l : Int) ∧ Hid (l + ((ptsL T W).take k).sum = T) ∧
        Lay bp br bc bo n wr ((ptsL T W).take k ++ List.replicate (n - k) 0) ((rtsL T W).take k ++ List.replicate (n - k) 0) ((List.range n).take k ++ List.replicate (n - k) 0) ∧ Below w1.heap.size w1 wr) (fun _ i _ => n - (intOf i).toNat)
    case atStart => exact ⟨0, T, Nat.zero_le _, rfl, rfl, Lib.hid (by simp), by simpa using HLZ.out, HBZ.out⟩
    case round =>
    clear HLZ HBZ
    obtain ⟨k, l, hk, rfl, rfl, hl, hlay, hbel⟩ := hrel
    have HLY := Lib.hid hlay
    have HBL := Lib.hid hbel
    clear hlay hbel
    by_cases hlt : k < n
    · obtain ⟨bk, off, cap', e, _, _, hbk, hc⟩ := (H.out.below HBL.out).at (by rw [show (natI W).length = n by rw [HN.out]; simp [natI]]; omega)
      have c1 := hc k (by rw [show (natI W).length = n by rw [HN.out]; simp [natI]]; exact hlt)
      rw [show (natI W).length = n by rw [HN.out]; simp [natI]] at e
      cases e
      have hkW : k < W.length := by rw [← HN.out]; exact hlt
      rw [show (natI W)[k]'(by simp [natI]; exact hkW) = ((W[k] : Nat) : Int) by simp [natI]] at c1
      obtain ⟨x, hx⟩ : ∃ x, x = W[k] := ⟨_, rfl⟩
      have hxm : x ∈ W := by rw [hx]; exact List.getElem_mem _
      have lx := HW.out x hxm
      have lxs := le_sum hxm
      have lp : (ptsL T W).length = n := by rw [HN.out]; simp [ptsL]
      have lr : (rtsL T W).length = n := by rw [HN.out]; simp [rtsL]
      have lo : (List.range n).length = n := List.length_range
      obtain ⟨pt, hpt⟩ : ∃ pt, pt = T * x / s := ⟨_, rfl⟩
      obtain ⟨rt, hrt⟩ : ∃ rt, rt = T * x % s := ⟨_, rfl⟩
      have gp : (ptsL T W)[k]? = some pt := by unfold ptsL; rw [hpt, hx, HSM.out]; simp [hkW]
      have gr : (rtsL T W)[k]? = some rt := by unfold rtsL; rw [hrt, hx, HSM.out]; simp [hkW]
      have go : (List.range n)[k]? = some k := by simp [hlt]
      have s0 : 0 < s := by rw [HSM.out]; exact HSS.out
      have ptT : pt ≤ T := by rw [hpt]; exact pt_le (by rw [HSM.out]; exact lxs) s0
      have hT := HT.out.2
      have hsl : s ≤ 4503599627370496 := by rw [HSM.out]; exact sum_bd2 HW.out (by rw [← HN.out]; exact hn)
      have rtl : rt < s := by rw [hrt]; exact Nat.mod_lt _ s0
      have HM := Lib.hid (fun w => mul_any T x (by omega) (by omega) w)
      have hlt2 := hi_lt (T := T) (x := x) (S := s) (by omega) (by rw [HSM.out]; exact lxs) s0
      have HD := Lib.hid (fun w => show Calls Tryd.prog 60 #[.int .u64 ((T * x / 18446744073709551616 : Nat) : Int), .int .u64 ((T * x % 18446744073709551616 : Nat) : Int), .int .u64 (s : Int)] w fun e w' => e = .returned (.tuple #[.int .u64 (pt : Int), .int .u64 (rt : Int)]) ∧ ∃ n, w' = w.drewN n from by
        have := div_any (T * x / 18446744073709551616) (T * x % 18446744073709551616) s w hlt2 (by omega) (Nat.mod_lt _ (by decide))
        rwa [show T * x / 18446744073709551616 * 18446744073709551616 + T * x % 18446744073709551616 = T * x by rw [Nat.mul_comm]; exact Nat.div_add_mod _ _, ← hpt, ← hrt] at this)
      obtain ⟨l2, hl2⟩ : ∃ l2, l = l2 + pt := by
        have h1 := hl.out
        have h2 : ((ptsL T W).take (k + 1)).sum ≤ T := pts_take T W HSS.out _
        obtain ⟨g1, g2⟩ := List.getElem?_eq_some_iff.1 gp
        rw [List.take_succ_eq_append_getElem g1, List.sum_append, g2] at h2
        simp at h2
        exact ⟨l - pt, by omega⟩
      have hll : l ≤ T := by have := hl.out; omega
      have HL2 := Lib.hid (show l2 + ((ptsL T W).take (k + 1)).sum = T by
        obtain ⟨g1, g2⟩ := List.getElem?_eq_some_iff.1 gp
        rw [List.take_succ_eq_append_getElem g1, List.sum_append, g2]
        have := hl.out; simp; omega)
      have E0 : IntKind.u64.wrap (T : Int) = (T : Int) := wrapN T (by omega)
      have E1 : IntKind.u64.wrap (x : Int) = (x : Int) := wrapN x (by omega)
      have E2 : IntKind.i64.wrap (pt : Int) = (pt : Int) := IntWalk.i64_in _ (by omega)
      have E3 : IntKind.i64.wrap ((l : Int) - (pt : Int)) = (l2 : Int) := i64_eq (by omega) (by omega)
      have a0 := HLY.out.pcell (pre_get lp hlt)
      have a1 := HLY.out.rcell (pre_get lr hlt)
      have a2 := HLY.out.ocell (pre_get lo hlt)
      have a3 := HLY.out.ccell
      obtain ⟨a4, a5, a6⟩ := HLY.out.free k
      have HPS := Lib.hid (And.intro (pre_set lp gp hlt) (And.intro (pre_set lr gr hlt) (pre_set lo go hlt)))
      rw [← hx] at c1
      obtain ⟨⟨n1, n2, n3⟩, ⟨n4, n5, n6⟩, ⟨n7, n8, n9⟩, ⟨n10, n11, n12⟩⟩ := HNE.out
      generalize (ptsL T W).take k ++ List.replicate (n - k) 0 = P at *
      generalize (rtsL T W).take k ++ List.replicate (n - k) 0 = R at *
      generalize (List.range n).take k ++ List.replicate (n - k) 0 = O at *
      clear hc hx hxm lx lxs lp lr lo hpt hrt gp gr go s0 ptT hT hsl rtl hlt2 hl2 hll hl hkW
      go_wp2_with fail
      refine (HM.out _).mono ?_
      rintro e w2 ⟨rfl, rfl⟩
      go_wp2_with fail
      refine (HD.out _).mono ?_
      rintro e w2 ⟨rfl, nd, rfl⟩
      have HLY2 := Lib.hid (HLY.out.drewN nd)
      have HBL2 := Lib.hid (show Below w1.heap.size w1 (wr.drewN nd) from below_drewN HBL.out nd)
      obtain ⟨wq, hwq⟩ : ∃ wq : World, wq = wr.drewN nd := ⟨_, rfl⟩
      rw [← hwq] at HLY2 HBL2 ⊢
      have b0 : wq.cell? ⟨bp, k, none⟩ = some (.int .i64 ((0 : Nat) : Int)) := by rw [hwq]; exact a0
      have b1 : wq.cell? ⟨br, k, none⟩ = some (.int .u64 ((0 : Nat) : Int)) := by rw [hwq]; exact a1
      have b2 : wq.cell? ⟨bo, k, none⟩ = some (.int .i64 ((0 : Nat) : Int)) := by rw [hwq]; exact a2
      have b3 : wq.cell? ⟨bc, 0, none⟩ = some (.slice (some ⟨br, 0, none⟩) n n) := by rw [hwq]; exact a3
      have b4 : wq.frozen? ⟨bp, k, none⟩ = false := by rw [hwq]; exact a4
      have b5 : wq.frozen? ⟨br, k, none⟩ = false := by rw [hwq]; exact a5
      have b6 : wq.frozen? ⟨bo, k, none⟩ = false := by rw [hwq]; exact a6
      have lkn : (k : Int) < (n : Int) := by omega
      clear a0 a1 a2 a3 a4 a5 a6 c1 hwq E0 E1 hbk k1 HLY HBL
      go_wp2_with fail
      go_region
      all_goals
        go_wp2_with fail
        refine ⟨⟨k + 1, l2, by omega, by go_num, rfl, Lib.hid HL2.out, ?_, ?_⟩, by simp [intOf]; omega⟩
        · have := ((HLY2.out.setP n4 n7 n10 k pt).setR n1 n8 n11 k rt).setO n3 n6 n9 k k
          rw [HPS.out.1, HPS.out.2.1, HPS.out.2.2] at this
          exact this.drew
        · obtain ⟨z1, z2, z3, z4⟩ := HBS.out
          exact below_drewN (((HBL2.out.setCell (p := ⟨bp, k, none⟩) z1 _).setCell (p := ⟨br, k, none⟩) z2 _).setCell (p := ⟨bo, k, none⟩) z4 _) 1
    · obtain rfl : n = k := by omega
      have lp : (ptsL T W).length = n := by rw [HN.out]; simp [ptsL]
      have lr : (rtsL T W).length = n := by rw [HN.out]; simp [rtsL]
      have hlay := HLY.out
      rw [Nat.sub_self, List.replicate_zero, List.append_nil, List.append_nil, List.append_nil, List.take_of_length_le (by omega), List.take_of_length_le (by omega), List.take_of_length_le (by simp)] at hlay
      have hlf : l = leftL T W := by have := hl.out; rw [List.take_of_length_le (by omega)] at this; unfold leftL; omega
      have hln : l < n := by rw [hlf, HN.out]; exact left_lt T W HSS.out
      have HSRT := Lib.hid (sort_any (bo := bo) (bc := bc) (br := br) (n := n) (rs := rtsL T W) (w := wr) ⟨hlay.o, hlay.c, hlay.r, by simp, lr, fun x hx => List.mem_range.1 hx, HNE.out.2.2.1.2.2, HNE.out.2.1.2.2, hn⟩)
      unfold FV at HSRT
      have HPB := Lib.hid hlay.p
      have HLF := Lib.hid hlf
      clear hlay lp lr hl hlf HLY hk hlt
      go_wp2_with fail
      refine HSRT.out.mono ?_
      rintro e w5 ⟨rfl, ys, py, sy, hsrt, hmvd⟩
      have ly : ys.length = n := by rw [py.length_eq]; simp
      have HPY := Lib.hid (show ys.Perm (List.range W.length) by rw [← HN.out]; exact py)
      have HSY := Lib.hid sy
      have HP5 := Lib.hid (show w5.heap[bp]? = some (.cells (nums (outL T W ys 0)) 2 (0, 0)) by
        rw [outL_zero]
        exact (hmvd.touch.block bp (lt_of_block HPB.out) HNE.out.1.2.2).trans HPB.out)
      have HO5 := Lib.hid hsrt.blk
      have HB5 := Lib.hid (show Below w1.heap.size w1 w5 from HBL.out.trans (hmvd.touch.below HBL.out.size (fun x hx => by have := HBS.out.2.2.2; omega)))
      have HLY := Lib.hid ly
      clear py sy hsrt hmvd HSRT HPB ly
      have l0 : (0 : Int) ≤ (l : Int) := by omega
      have l1 : (l : Int) ≤ (n : Int) := by omega
      go_wp2_with fail
      go_loopw [101] (fun i wr => ∃ k : Nat, k ≤ l ∧ i = .int .i64 (k : Int) ∧ Hid (wr.heap[bp]? = some (.cells (nums (outL T W ys k)) 2 (0, 0))) ∧ Hid (wr.heap[bo]? = some (.cells (nums ys) 3 (0, 0))) ∧ Below w1.heap.size w1 wr) (fun i _ => l - (intOf i).toNat)
      case atStart => exact ⟨0, Nat.zero_le _, rfl, HP5, HO5, HB5.out⟩
      case round =>
      clear HP5 HO5 HB5
      obtain ⟨k, hk, rfl, hp, ho, hbel⟩ := hrel
      have HBK := Lib.hid hbel
      clear hbel
      by_cases hlt : k < l
      · obtain ⟨i, hi⟩ := get_some (xs := ys) (i := k) (by have := HLY.out; omega)
        have hin : i < n := by have := List.mem_range.1 (HPY.out.mem_iff.1 (List.mem_of_getElem? hi)); rw [HN.out]; exact this
        obtain ⟨x, hx⟩ := get_some (xs := outL T W ys k) (i := i) (by simp [outL]; rw [← HN.out]; exact hin)
        have hxT := outL_le HSS.out hx
        have hT := HT.out.2
        have HST := Lib.hid (outL_step' HPY.out hi hx)
        have c1 : wr.cell? ⟨bo, k, none⟩ = some (.int .i64 (i : Int)) := by have := ho.out; simp [World.cell?, this, nums, hi]
        have c2 : wr.cell? ⟨bp, i, none⟩ = some (.int .i64 (x : Int)) := by have := hp.out; simp [World.cell?, this, nums, hx]
        have c3 : wr.frozen? ⟨bp, i, none⟩ = false := by have := hp.out; simp [World.frozen?, this]
        have E1 : IntKind.i64.wrap ((x : Int) + 1) = ((x + 1 : Nat) : Int) := i64_eq (by omega) (by omega)
        have z1 : (k : Int) < (n : Int) := by omega
        have z2 : (i : Int) < (n : Int) := by omega
        clear hi hx hxT hT
        go_wp2
        refine ⟨⟨k + 1, by omega, by go_num, Lib.hid ?_, Lib.hid ?_, HBK.out.setCell (p := ⟨bp, i, none⟩) HBS.out.1 _⟩, by simp [intOf]; omega⟩
        · rw [show (Value.int .i64 ((x : Int) + 1)) = .int .i64 ((x + 1 : Nat) : Int) by go_num, heap_set hp.out, nums_set, HST.out]
        · rw [Below.heap_setCell _ _ _ _ HNE.out.2.2.2.1]; exact ho.out
      · obtain rfl : l = k := by omega
        have HOUT := Lib.hid (show IsSplit T W (outL T W ys l) from ⟨ys, HPY.out, HSY.out, by rw [← HLF.out]⟩)
        go_wp2
        go_ret2
        exact ⟨bp, n, _, HN.out, rfl, HOUT.out, hp.out, HBS.out.1, HBK.out⟩

set_option maxHeartbeats 1000000 in
theorem split_none (v : Value) (W : List Nat) (w : World) (h : Ints w v (natI W)) (hn : W.length ≤ 4096) (hwr : wrongN 0 (natI W) = 0) :
    Calls Tryd.prog 26 #[.int .i64 0, v] w fun e w' => ∃ b n out, n = W.length ∧ e = .returned (.tuple #[.slice (some ⟨b, 0, none⟩) n n, .int .i64 0]) ∧ IsSplit 0 W out ∧ w'.heap[b]? = some (.cells (nums out) 2 (0, 0)) ∧ w.heap.size ≤ b ∧ Below w.heap.size w w' := by
  have HWR := Lib.hid (show Calls Tryd.prog 58 #[.int .i64 0, v] w fun e w' => e = .returned (.int .i64 0) ∧ w' = w by have := wrong_any 0 v (natI W) w h; rwa [hwr] at this)
  obtain ⟨ao, cap, e, k1, k2, k3⟩ := h.shape
  obtain ⟨n, HN⟩ : ∃ n, Hid (n = W.length) := ⟨_, rfl⟩
  have hnl : (natI W).length = n := by rw [HN.out]; simp [natI]
  rw [hnl] at e k1
  rw [← HN.out] at hn
  subst e
  clear h hwr k3 hnl k2
  have MK1 : ∀ w, (Instr.makeSlice 67 (.int .i64 (n : Int)) (.int .i64 (n : Int))).run Tryd.prog w = .ok (.slice (some ⟨w.heap.size, 0, none⟩) n n) (w.alloc (.cells (nums (List.replicate n 0)) 2)) := fun w => by
    rw [← made_nums]; exact run_make_row' _ _ _ 8 Tryd.underlying67 Tryd.infoI64 rfl _ _ n (by omega) (by omega) w
  go_enter Tryd.func26, Tryd.ntmps26
  go_wp2_with fail
  refine HWR.out.mono ?_
  rintro e w1 ⟨rfl, rfl⟩
  go_wp2
  go_ret2
  exact ⟨_, n, _, HN.out, rfl, split_zero W, by rw [← HN.out]; exact heap_alloc_new _ _, Nat.le_refl _, (Below.refl _ _).alloc (Nat.le_refl _) _⟩

set_option maxHeartbeats 1000000 in
theorem split_bad (T : Int) (v : Value) (ws : List Int) (w : World) (h : Ints w v ws) (hwr : wrongN T ws ≠ 0) :
    Calls Tryd.prog 26 #[.int .i64 T, v] w fun e w' => e = .returned (.tuple #[.slice none 0 0, .int .i64 (wrongN T ws)]) ∧ w' = w := by
  have HWR := Lib.hid (wrong_any T v ws w h)
  have d1 : (wrongN T ws == 0) = false := by rw [beq_eq_false_iff_ne]; exact hwr
  have d2 : (wrongN T ws != 0) = true := by simp [bne, d1]
  generalize wrongN T ws = r at *
  clear hwr h
  go_enter Tryd.func26, Tryd.ntmps26
  go_wp2_with fail
  refine HWR.out.mono ?_
  rintro e w1 ⟨rfl, rfl⟩
  go_wp2
  go_ret2
  exact ⟨rfl, rfl⟩

/-- A split that has no error: what it asks. -/
theorem wrong_ok {T : Int} {ws : List Int} (h : wrongN T ws = 0) : ∃ (T' : Nat) (W : List Nat), T = (T' : Int) ∧ ws = natI W ∧ T' ≤ 1099511627776 ∧ 0 < W.length ∧ W.length ≤ 4096 ∧ (∀ x ∈ W, x ≤ 1099511627776) ∧ (0 < T' → 0 < W.sum) := by
  unfold wrongN at h
  split at h
  · cases h
  · rename_i h1
    split at h
    · cases h
    · rename_i h2
      split at h
      · cases h
      · rename_i h3
        have a1 : 0 ≤ T := by rcases Int.lt_or_le T 0 with g | g; exact absurd (.inl g) h1; exact g
        have a2 : ws ≠ [] := fun e => h1 (.inr (.inl e))
        have a3 : ∀ z ∈ ws, 0 ≤ z := fun z hz => by
          rcases Int.lt_or_le z 0 with g | g
          · exact absurd (.inr (.inr (List.any_eq_true.2 ⟨z, hz, by simpa [is_neg] using g⟩))) h1
          · exact g
        have b1 : T ≤ 1099511627776 := by rcases Int.lt_or_le 1099511627776 T with g | g; exact absurd (.inl g) h2; exact g
        have b2 : ws.length ≤ 4096 := by rcases Nat.lt_or_ge 4096 ws.length with g | g; exact absurd (.inr (.inl g)) h2; exact g
        have b3 : ∀ z ∈ ws, z ≤ 1099511627776 := fun z hz => by
          rcases Int.lt_or_le 1099511627776 z with g | g
          · exact absurd (.inr (.inr (List.any_eq_true.2 ⟨z, hz, by simpa [is_over] using g⟩))) h2
          · exact g
        have e : ws = natI (ws.map Int.toNat) := by
          unfold natI
          rw [List.map_map]
          conv => lhs; rw [← List.map_id ws]
          apply List.map_congr_left
          intro z hz
          have := a3 z hz
          simp; omega
        refine ⟨T.toNat, ws.map Int.toNat, by omega, e, by omega, by simpa using List.length_pos_iff.2 a2, by simpa using b2, fun x hx => ?_, fun hT => ?_⟩
        · obtain ⟨z, hz, rfl⟩ := List.mem_map.1 hx
          have := b3 z hz; omega
        · have : ws.any is_pos = true := by
            cases hp : ws.any is_pos with
            | true => rfl
            | false => exact absurd ⟨by omega, hp⟩ h3
          obtain ⟨z, hz, hp⟩ := List.any_eq_true.1 this
          have hp' : 0 < z := by simpa [is_pos] using hp
          have := le_sum (List.mem_map_of_mem (f := Int.toNat) hz)
          omega

/-- A slice of its own that holds the numbers. -/
def Parts (w0 w : World) (v : Value) (out : List Nat) : Prop := ∃ b, v = .slice (some ⟨b, 0, none⟩) out.length out.length ∧ w.heap[b]? = some (.cells (nums out) 2 (0, 0)) ∧ w0.heap.size ≤ b

theorem split_any (T : Nat) (v : Value) (W : List Nat) (w : World) (h : Ints w v (natI W)) (hwr : wrongN T (natI W) = 0) :
    Calls Tryd.prog 26 #[.int .i64 (T : Int), v] w fun e w' => ∃ u out, e = .returned (.tuple #[u, .int .i64 0]) ∧ IsSplit T W out ∧ Parts w w' u out ∧ Below w.heap.size w w' := by
  obtain ⟨T', W', e1, e2, hT, h0, hn, hw, hS⟩ := wrong_ok hwr
  obtain rfl : T = T' := by omega
  obtain rfl : W = W' := by
    have := congrArg (List.map Int.toNat) e2
    simpa [natI, List.map_map, Function.comp_def] using this
  have key : ∀ {e : Ending} {w' : World}, (∃ b n out, n = W.length ∧ e = .returned (.tuple #[.slice (some ⟨b, 0, none⟩) n n, .int .i64 0]) ∧ IsSplit T W out ∧ w'.heap[b]? = some (.cells (nums out) 2 (0, 0)) ∧ w.heap.size ≤ b ∧ Below w.heap.size w w') →
      ∃ u out, e = .returned (.tuple #[u, .int .i64 0]) ∧ IsSplit T W out ∧ Parts w w' u out ∧ Below w.heap.size w w' := by
    rintro e w' ⟨b, n, out, rfl, rfl, hs, hb, hlo, hbel⟩
    exact ⟨_, out, rfl, hs, ⟨b, by rw [hs.len], hb, hlo⟩, hbel⟩
  by_cases hT0 : T = 0
  · subst hT0
    exact (split_none v W w h hn hwr).mono fun e w' q => key q
  · exact (split_some T v W w h (by omega) hT h0 hn hw (hS (by omega)) hwr).mono fun e w' q => key q
end Go.Proofs.YtllaahdbngjigaaDoor
