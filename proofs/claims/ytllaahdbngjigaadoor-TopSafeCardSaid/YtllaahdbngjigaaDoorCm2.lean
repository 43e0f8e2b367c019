/-
  The two orders as the closures tell them.
-/
import Derived.Test.YtllaahdbngjigaaDoorLcm
import Derived.Test.YtllaahdbngjigaaDoorStk
namespace Go.Proofs.YtllaahdbngjigaaDoor
open Go Go.RowKit Go.Sort
set_option linter.unusedVariables false
set_option linter.unusedSimpArgs false

theorem cmA_or (x y : Ld) : cmA x y = orF [cmI x.b y.b, cmI x.r y.r, cmI x.t y.t] := by
  unfold cmA cm2 orF
  simp only [orF]
  split
  · rfl
  · split
    · rfl
    · split <;> omega
theorem cmI_q {w : World} {n : Nat} (x y : Int) : Calls Tryd.prog 47 #[.int .i64 x, .int .i64 y] (w.drewN n) fun e w'' => e = .returned (.int .i64 (cmI x y)) ∧ ∃ m, w'' = w.drewN m :=
  Calls.quiet_of_same ((cmpI_any x y _).mono fun e w' h => ⟨h.1, h.2.symm⟩)
theorem litI_ints (w : World) (zs : List Int) (b n : Nat) (hb : b = w.heap.size) (hn : n = zs.length) (hl : zs.length ≤ 4096) : Ints (w.alloc (.cells (zs.map (Value.int .i64)).toArray 3)) (.slice (some ⟨b, 0, none⟩) n n) zs := by
  subst hb hn
  refine ⟨by simp, some ⟨w.heap.size, 0, none⟩, zs.length, rfl, Nat.le_refl _, by unfold maxLen; omega, (fun h => by cases h), fun a ha j u hu => ?_⟩
  cases ha
  have := new_cells w (zs.map (Value.int .i64)).toArray 3 j u (by simpa using hu)
  exact this
theorem grow3 {W W1 : World} {o1 o2 : Obj} (h : W1 = (W.alloc o1).alloc o2) (o3 : Obj) : ∃ q os', W1.drew.alloc o3 = grow (W.drewN q) os' := by
  refine ⟨1, #[o1] ++ #[o2] ++ #[o3], ?_⟩
  rw [h, alloc_eq_grow, alloc_eq_grow, alloc_eq_grow, grow_grow]
  show grow (grow W.drew _) _ = _
  rw [grow_grow]
  rfl
theorem cmB_or (x y : Ld) : cmB x y = orF [cmI x.t y.t, cmI x.b y.b, cmI x.r y.r, cmL x.nm.toList y.nm.toList] := by
  unfold cmB cm2 orF
  simp only [orF]
  split
  · rfl
  · split
    · rfl
    · split
      · rfl
      · split <;> omega
set_option maxRecDepth 20000 in
set_option maxHeartbeats 4000000 in
theorem clsA (x y : Ld) (W : World) : Calls Tryd.prog 45 #[.agg #[.int .i64 x.b, .int .i64 x.r, .int .i64 x.t, .string x.nm, .int .i64 x.wt, .int .i64 x.cl, .int .i64 x.pt], .agg #[.int .i64 y.b, .int .i64 y.r, .int .i64 y.t, .string y.nm, .int .i64 y.wt, .int .i64 y.cl, .int .i64 y.pt]] W fun e w' =>
    e = .returned (.int .i64 (cmA x y)) ∧ ∃ q os', w' = grow (W.drewN q) os' := by
  rw [cmA_or]
  obtain ⟨W1, hW1⟩ : ∃ W1, W1 = (W.alloc (.cells #[.int .i64 x.b, .int .i64 x.r, .int .i64 x.t, .string x.nm, .int .i64 x.wt, .int .i64 x.cl, .int .i64 x.pt] 37)).alloc (.cells #[.int .i64 y.b, .int .i64 y.r, .int .i64 y.t, .string y.nm, .int .i64 y.wt, .int .i64 y.cl, .int .i64 y.pt] 37) := ⟨_, rfl⟩
  have hsz : (W.alloc (.cells #[.int .i64 x.b, .int .i64 x.r, .int .i64 x.t, .string x.nm, .int .i64 x.wt, .int .i64 x.cl, .int .i64 x.pt] 37)).heap.size = W.heap.size + 1 := by simp
  have hx : LdAt W1 W.heap.size x := by rw [hW1]; exact (LdAt.of_block (heap_alloc_new W _)).below ((Below.refl _ _).alloc (Nat.le_refl _) _)
  have hy : LdAt W1 (W.heap.size + 1) y := by rw [hW1, ← hsz]; exact LdAt.of_block (heap_alloc_new _ _)
  have HW := Lib.hid hW1
  have HO := Lib.hid (fun (zs : List Int) (b n : Nat) (h : Ints (W1.drew.alloc (.cells (zs.map (Value.int .i64)).toArray 3)) (.slice (some ⟨b, 0, none⟩) n n) zs) (hn : n = zs.length) (h0 : 0 < n) (h4 : n ≤ 100) => or_any _ b n zs h hn h0 h4)
  have HL := Lib.hid (litI_ints W1.drew [cmI x.b y.b, cmI x.r y.r, cmI x.t y.t] W1.heap.size 3 rfl rfl (by simp))
  obtain ⟨x0, x1, x2, x3, x4, x5, x6⟩ := hx
  obtain ⟨y0, y1, y2, y3, y4, y5, y6⟩ := hy
  clear hW1 hsz
  go_enter Tryd.func45, Tryd.ntmps45
  go_wp2_with fail
  rw [show (W.alloc (.cells #[.int .i64 x.b, .int .i64 x.r, .int .i64 x.t, .string x.nm, .int .i64 x.wt, .int .i64 x.cl, .int .i64 x.pt] 37)).alloc (.cells #[.int .i64 y.b, .int .i64 y.r, .int .i64 y.t, .string y.nm, .int .i64 y.wt, .int .i64 y.cl, .int .i64 y.pt] 37) = W1 from HW.out.symm]
  refine wp_region_still_tail 21 (by kernel_rfl) (by kernel_rfl) ?_
  simp only [List.take_succ_cons, List.take_zero, List.drop_succ_cons, List.drop_zero]
  change wpStill _ _ W1.drew _ _ _
  repeat still_step
  still_call ((cmpI_any _ _ _).mono fun e w' h => ⟨h.1, h.2.symm⟩)
  repeat still_step
  still_call ((cmpI_any _ _ _).mono fun e w' h => ⟨h.1, h.2.symm⟩)
  repeat still_step
  still_call ((cmpI_any _ _ _).mono fun e w' h => ⟨h.1, h.2.symm⟩)
  refine wpStill_nil ?_
  change wpList _ _ _ _ _ W1.drew
  go_wp2_with fail
  refine (HO.out [cmI x.b y.b, cmI x.r y.r, cmI x.t y.t] _ _ HL.out rfl (by decide) (by decide)).mono ?_
  rintro e w2 ⟨rfl, rfl⟩
  go_wp2
  go_ret
  exact ⟨rfl, grow3 HW.out _⟩
set_option maxRecDepth 20000 in
set_option maxHeartbeats 4000000 in
theorem clsB (x y : Ld) (W : World) : Calls Tryd.prog 93 #[.agg #[.int .i64 x.b, .int .i64 x.r, .int .i64 x.t, .string x.nm, .int .i64 x.wt, .int .i64 x.cl, .int .i64 x.pt], .agg #[.int .i64 y.b, .int .i64 y.r, .int .i64 y.t, .string y.nm, .int .i64 y.wt, .int .i64 y.cl, .int .i64 y.pt]] W fun e w' =>
    e = .returned (.int .i64 (cmB x y)) ∧ ∃ q os', w' = grow (W.drewN q) os' := by
  rw [cmB_or]
  obtain ⟨W1, hW1⟩ : ∃ W1, W1 = (W.alloc (.cells #[.int .i64 x.b, .int .i64 x.r, .int .i64 x.t, .string x.nm, .int .i64 x.wt, .int .i64 x.cl, .int .i64 x.pt] 37)).alloc (.cells #[.int .i64 y.b, .int .i64 y.r, .int .i64 y.t, .string y.nm, .int .i64 y.wt, .int .i64 y.cl, .int .i64 y.pt] 37) := ⟨_, rfl⟩
  have hsz : (W.alloc (.cells #[.int .i64 x.b, .int .i64 x.r, .int .i64 x.t, .string x.nm, .int .i64 x.wt, .int .i64 x.cl, .int .i64 x.pt] 37)).heap.size = W.heap.size + 1 := by simp
  have hx : LdAt W1 W.heap.size x := by rw [hW1]; exact (LdAt.of_block (heap_alloc_new W _)).below ((Below.refl _ _).alloc (Nat.le_refl _) _)
  have hy : LdAt W1 (W.heap.size + 1) y := by rw [hW1, ← hsz]; exact LdAt.of_block (heap_alloc_new _ _)
  have HW := Lib.hid hW1
  have HO := Lib.hid (fun (zs : List Int) (b n : Nat) (h : Ints (W1.drew.alloc (.cells (zs.map (Value.int .i64)).toArray 3)) (.slice (some ⟨b, 0, none⟩) n n) zs) (hn : n = zs.length) (h0 : 0 < n) (h4 : n ≤ 100) => or_any _ b n zs h hn h0 h4)
  have HL := Lib.hid (litI_ints W1.drew [cmI x.t y.t, cmI x.b y.b, cmI x.r y.r, cmL x.nm.toList y.nm.toList] W1.heap.size 4 rfl rfl (by simp))
  obtain ⟨x0, x1, x2, x3, x4, x5, x6⟩ := hx
  obtain ⟨y0, y1, y2, y3, y4, y5, y6⟩ := hy
  clear hW1 hsz
  go_enter Tryd.func93, Tryd.ntmps93
  go_wp2_with fail
  rw [show (W.alloc (.cells #[.int .i64 x.b, .int .i64 x.r, .int .i64 x.t, .string x.nm, .int .i64 x.wt, .int .i64 x.cl, .int .i64 x.pt] 37)).alloc (.cells #[.int .i64 y.b, .int .i64 y.r, .int .i64 y.t, .string y.nm, .int .i64 y.wt, .int .i64 y.cl, .int .i64 y.pt] 37) = W1 from HW.out.symm]
  refine wp_region_still_tail 26 (by kernel_rfl) (by kernel_rfl) ?_
  simp only [List.take_succ_cons, List.take_zero, List.drop_succ_cons, List.drop_zero]
  change wpStill _ _ W1.drew _ _ _
  repeat still_step
  still_call ((cmpI_any _ _ _).mono fun e w' h => ⟨h.1, h.2.symm⟩)
  repeat still_step
  still_call ((cmpI_any _ _ _).mono fun e w' h => ⟨h.1, h.2.symm⟩)
  repeat still_step
  still_call ((cmpI_any _ _ _).mono fun e w' h => ⟨h.1, h.2.symm⟩)
  repeat still_step
  still_call ((cmpS_any _ _ _).mono fun e w' h => ⟨h.1, h.2.symm⟩)
  refine wpStill_nil ?_
  change wpList _ _ _ _ _ W1.drew
  go_wp2_with fail
  refine (HO.out [cmI x.t y.t, cmI x.b y.b, cmI x.r y.r, cmL x.nm.toList y.nm.toList] _ _ HL.out rfl (by decide) (by decide)).mono ?_
  rintro e w2 ⟨rfl, rfl⟩
  go_wp2
  go_ret
  exact ⟨rfl, grow3 HW.out _⟩
end Go.Proofs.YtllaahdbngjigaaDoor
