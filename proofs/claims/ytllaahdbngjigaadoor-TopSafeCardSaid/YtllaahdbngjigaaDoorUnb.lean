/-
  bay: unborne; Put's last conditions.
-/
import Derived.Test.YtllaahdbngjigaaDoorCls
namespace Go.Proofs.YtllaahdbngjigaaDoor
open Go Go.RowKit
set_option linter.unusedVariables false
set_option linter.unusedSimpArgs false

theorem new_cell (w : World) (cs : Array Value) (t : TypeId) {j : Nat} {v : Value} (h : cs[j]? = some v) : (w.alloc (.cells cs t)).cell? ⟨w.heap.size, j, none⟩ = some v := by
  unfold World.cell?
  rw [heap_alloc_new]
  exact h
set_option maxRecDepth 20000 in
set_option maxHeartbeats 4000000 in
theorem unb_any (w : World) (bh bs bn : Nat) (s : Shp) (L : List Ld) (x : Ld) (h : HoldIs w bh bs bn s L) (hL : AllFine L) (hx : x.fine) :
    Calls Tryd.prog 35 #[.pointer (some ⟨bh, 0, none⟩), .agg #[.int .i64 x.b, .int .i64 x.r, .int .i64 x.t, .string x.nm, .int .i64 x.wt, .int .i64 x.cl, .int .i64 x.pt]] w fun e w' => e = .returned (.bool (unB L x)) ∧ Below w.heap.size w w' := by
  have m1 := hx.b
  have m2 := hx.r
  have m3 := hx.t
  have H := Lib.hid h
  have HL := Lib.hid hL
  obtain ⟨R, hR⟩ : ∃ R, R = unB L x := ⟨_, rfl⟩
  rw [← hR]
  unfold unB at hR
  have HR := Lib.hid hR
  clear h hL hx hR
  by_cases e0 : x.t = 0
  · have d0 : (x.t == 0) = true := by simp [e0]
    have HR2 := Lib.hid (show R = false by rw [HR.out, if_pos e0])
    clear e0
    go_enter Tryd.func35, Tryd.ntmps35
    go_wp2
    go_ret
    exact ⟨by rw [HR2.out]; rfl, (Below.refl _ _).alloc (Nat.le_refl _) _⟩
  · have d0 : (x.t == 0) = false := by simp [e0]
    have HR2 := Lib.hid (show R = (!(atL L x.b x.r (x.t - 1)).isSome || decide ((optLd (atL L x.b x.r (x.t - 1))).wt < x.wt)) by
      rw [HR.out, if_neg e0]
      cases atL L x.b x.r (x.t - 1) <;> rfl)
    have m4 : 1 ≤ x.t := by omega
    have hb1 := boxL_below w x
    have hb2 : Below w.heap.size w ((boxL w x).alloc (.cells #[.int .i64 x.b, .int .i64 x.r, .int .i64 (x.t - 1)] 35)) := btw hb1 ((Below.refl _ _).alloc (Nat.le_refl _) _)
    obtain ⟨W2, hW2⟩ : ∃ W2, W2 = (boxL w x).alloc (.cells #[.int .i64 x.b, .int .i64 x.r, .int .i64 (x.t - 1)] 35) := ⟨_, rfl⟩
    have hsz : (boxL w x).heap.size = w.heap.size + 1 := by simp [boxL]
    have s0 : W2.cell? ⟨w.heap.size + 1, 0, none⟩ = some (.int .i64 x.b) := by rw [hW2, ← hsz]; exact new_cell _ _ _ rfl
    have s1 : W2.cell? ⟨w.heap.size + 1, 1, none⟩ = some (.int .i64 x.r) := by rw [hW2, ← hsz]; exact new_cell _ _ _ rfl
    have s2 : W2.cell? ⟨w.heap.size + 1, 2, none⟩ = some (.int .i64 (x.t - 1)) := by rw [hW2, ← hsz]; exact new_cell _ _ _ rfl
    have q4 : W2.cell? ⟨w.heap.size, 4, none⟩ = some (.int .i64 x.wt) := by rw [hW2]; exact cell_alloc (boxL_at w x).c4 _
    rw [← hW2] at hb2
    have H2 := H.out.below hb2
    have Hz := H2.below ((Below.refl _ _).alloc (Nat.le_refl _) zBox)
    have c9 := H2.c9
    have c9' := Hz.c9
    have s0' := cell_alloc s0 zBox
    have s1' := cell_alloc s1 zBox
    have s2' := cell_alloc s2 zBox
    have hl := (H2.heap (w' := W2.drew) rfl).slot HL.out (b := x.b) (r := x.r) (t := x.t - 1) (by omega) (by omega) (by omega)
    have hl' := (Hz.heap (w' := (W2.alloc zBox).drew) rfl).slot HL.out (b := x.b) (r := x.r) (t := x.t - 1) (by omega) (by omega) (by omega)
    generalize atL L x.b x.r (x.t - 1) = o at *
    rw [lookV_is] at hl hl'
    generalize optLd o = y at *
    generalize o.isSome = f at *
    have HB2 := Lib.hid hb2
    have HW2 := Lib.hid hW2
    have HF := Lib.hid (fun (y : Ld) (z : Value) (hz : (#[.int .i64 y.b, .int .i64 y.r, .int .i64 y.t, .string y.nm, .int .i64 y.wt, .int .i64 y.cl, .int .i64 y.pt] : Array Value)[4]? = some z) => show ((W2.alloc (.cells #[.int .i64 y.b, .int .i64 y.r, .int .i64 y.t, .string y.nm, .int .i64 y.wt, .int .i64 y.cl, .int .i64 y.pt] 37)).drew).cell? ⟨W2.heap.size, 4, none⟩ = some z from new_cell W2 _ _ hz)
    clear e0 HR hb1 hb2 hW2 hsz H2 Hz
    unfold Ld.val slotV at hl hl'
    unfold zBox at *
    clear m1 m2
    cases f with
    | false =>
      go_enter Tryd.func35, Tryd.ntmps35
      go_wp2_with fail
      rw [show (w.alloc (.cells #[.int .i64 x.b, .int .i64 x.r, .int .i64 x.t, .string x.nm, .int .i64 x.wt, .int .i64 x.cl, .int .i64 x.pt] 37)).alloc (.cells #[.int .i64 x.b, .int .i64 x.r, .int .i64 (x.t - 1)] 35) = W2 from HW2.out.symm]
      go_region
      all_goals
        go_wp2
        go_ret
        exact ⟨by rw [HR2.out]; rfl, btw HB2.out (((Below.refl _ _).alloc (Nat.le_refl _) _).drew)⟩
    | true =>
      go_enter Tryd.func35, Tryd.ntmps35
      go_wp2_with fail
      rw [show (w.alloc (.cells #[.int .i64 x.b, .int .i64 x.r, .int .i64 x.t, .string x.nm, .int .i64 x.wt, .int .i64 x.cl, .int .i64 x.pt] 37)).alloc (.cells #[.int .i64 x.b, .int .i64 x.r, .int .i64 (x.t - 1)] 35) = W2 from HW2.out.symm]
      go_region
      all_goals
        have q4' := cell_alloc q4 (.cells #[.int .i64 y.b, .int .i64 y.r, .int .i64 y.t, .string y.nm, .int .i64 y.wt, .int .i64 y.cl, .int .i64 y.pt] 37)
        have y4 := HF.out y _ rfl
        go_wp2
        go_ret
        exact ⟨by rw [HR2.out]; rfl, btw HB2.out (((Below.refl _ _).alloc (Nat.le_refl _) _).drew)⟩
end Go.Proofs.YtllaahdbngjigaaDoor
