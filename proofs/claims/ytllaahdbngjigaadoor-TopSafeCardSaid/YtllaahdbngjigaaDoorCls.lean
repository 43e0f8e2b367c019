/-
  bay: Put's seven conditions.
-/
import Derived.Test.YtllaahdbngjigaaDoorApa
import Derived.Deep.RegionHeld3
namespace Go.Proofs.YtllaahdbngjigaaDoor
open Go Go.RowKit
set_option linter.unusedVariables false
set_option linter.unusedSimpArgs false

/-- Where Put's closures look: the hold's box, the load's box. -/
structure PEnv (w : World) (p q bh bs bn : Nat) (s : Shp) (L : List Ld) (x : Ld) : Prop where
  p : w.cell? ⟨p, 0, none⟩ = some (.pointer (some ⟨bh, 0, none⟩))
  q : LdAt w q x
  h : HoldIs w bh bs bn s L
  a : Apt w
theorem PEnv.below {w w' : World} {p q bh bs bn : Nat} {s : Shp} {L : List Ld} {x : Ld} (h : PEnv w p q bh bs bn s L x) (hb : Below w.heap.size w w') : PEnv w' p q bh bs bn s L x :=
  ⟨cell_later hb h.p, h.q.below hb, h.h.below hb, h.a.below hb⟩

set_option maxHeartbeats 1000000 in
theorem cls1 (w : World) (p q bh bs bn : Nat) (s : Shp) (L : List Ld) (x : Ld) (h : PEnv w p q bh bs bn s L x) (hx : x.ok) :
    Calls Tryd.prog 28 #[.pointer (some ⟨q, 0, none⟩)] w fun e w' => e = .returned (.bool false) ∧ Below w.heap.size w w' := by
  obtain ⟨q0, q1, q2, q3, q4, q5, q6⟩ := h.q
  have HM := Lib.hid (mayLoad_ok x hx)
  clear h hx
  go_enter Tryd.func28, Tryd.ntmps28
  go_wp2_with fail
  refine (HM.out _).mono ?_
  rintro e w1 ⟨rfl, hb⟩
  go_wp2
  go_ret
  exact ⟨rfl, hb⟩
def zBox : Obj := .cells #[.int .i64 0, .int .i64 0, .int .i64 0, .string ⟨#[]⟩, .int .i64 0, .int .i64 0, .int .i64 0] 37
theorem PEnv.z {w : World} {p q bh bs bn : Nat} {s : Shp} {L : List Ld} {x : Ld} (h : PEnv w p q bh bs bn s L x) : PEnv (w.alloc zBox) p q bh bs bn s L x := h.below ((Below.refl _ _).alloc (Nat.le_refl _) _)
set_option maxRecDepth 20000 in
set_option maxHeartbeats 4000000 in
theorem cls2 (w : World) (p q bh bs bn : Nat) (s : Shp) (L : List Ld) (x : Ld) (h : PEnv w p q bh bs bn s L x) (hL : AllFine L) (hx : x.nm.size ≤ 16) (hn : ∀ y ∈ L, y.nm ≠ x.nm) :
    Calls Tryd.prog 30 #[.pointer (some ⟨p, 0, none⟩), .pointer (some ⟨q, 0, none⟩)] w fun e w' => e = .returned (.bool false) ∧ Below w.heap.size w w' := by
  have q3 := h.q.c3
  have p0 := h.p
  have c10 := h.h.c10
  have q3' := h.z.q.c3
  have p0' := h.z.p
  have c10' := h.z.h.c10
  have hl := (h.h.heap (w' := w.drew) rfl).name hL hx hn
  have hl' := (h.z.h.heap (w' := (w.alloc zBox).drew) rfl).name hL hx hn
  unfold zLd Ld.val at hl hl'
  unfold zBox at *
  dsimp only at hl hl'
  clear h hL hx hn
  go_enter Tryd.func30, Tryd.ntmps30
  go_wp2_with fail
  go_region
  all_goals
    go_wp2
    go_ret
    exact ⟨rfl, ((Below.refl _ _).alloc (Nat.le_refl _) _).drew⟩
set_option maxHeartbeats 1000000 in
theorem cls3 (w : World) (p q bh bs bn : Nat) (s : Shp) (L : List Ld) (x : Ld) (h : PEnv w p q bh bs bn s L x) (hs : s.fine) (hx : x.fine) :
    Calls Tryd.prog 31 #[.pointer (some ⟨p, 0, none⟩), .pointer (some ⟨q, 0, none⟩)] w fun e w' => e = .returned (.bool (!hasB s x)) ∧ Below w.heap.size w w' := by
  obtain ⟨q0, q1, q2, q3, q4, q5, q6⟩ := h.q
  have p0 := h.p
  have HM := Lib.hid (has_core x.b x.r x.t s.bays s.rows s.tiers w bh h.h.c1 h.h.c2 h.h.c3 hs.bays hs.rows hs.tiers hx.b.1 hx.r.1 hx.t.1)
  rw [show (decide (x.b ≤ s.bays - 1) && decide (x.r ≤ s.rows - 1) && decide (x.t ≤ s.tiers - 1)) = hasB s x from rfl] at HM
  generalize hasB s x = r at *
  clear h hs hx
  go_enter Tryd.func31, Tryd.ntmps31
  go_wp2_with fail
  refine HM.out.mono ?_
  rintro e w1 ⟨rfl, hb⟩
  go_wp2
  go_ret
  exact ⟨rfl, hb⟩
def ldBox (y : Ld) : Obj := .cells #[.int .i64 y.b, .int .i64 y.r, .int .i64 y.t, .string y.nm, .int .i64 y.wt, .int .i64 y.cl, .int .i64 y.pt] 37
def optLd (o : Option Ld) : Ld := o.getD zLd
theorem lookV_is (o : Option Ld) : lookV o = .tuple #[(optLd o).val, .bool o.isSome] := by cases o <;> rfl
set_option maxRecDepth 20000 in
set_option maxHeartbeats 4000000 in
theorem cls4 (w : World) (p q bh bs bn : Nat) (s : Shp) (L : List Ld) (x : Ld) (h : PEnv w p q bh bs bn s L x) (hL : AllFine L) (hx : x.fine) :
    Calls Tryd.prog 33 #[.pointer (some ⟨p, 0, none⟩), .pointer (some ⟨q, 0, none⟩)] w fun e w' => e = .returned (.bool (atL L x.b x.r x.t).isSome) ∧ Below w.heap.size w w' := by
  obtain ⟨q0, q1, q2, -, -, -, -⟩ := h.q
  obtain ⟨q0', q1', q2', -, -, -, -⟩ := h.z.q
  have p0 := h.p
  have c9 := h.h.c9
  have p0' := h.z.p
  have c9' := h.z.h.c9
  have m1 := hx.b
  have m2 := hx.r
  have m3 := hx.t
  have hl := (h.h.heap (w' := w.drew) rfl).slot hL (b := x.b) (r := x.r) (t := x.t) (by omega) (by omega) (by omega)
  have hl' := (h.z.h.heap (w' := (w.alloc zBox).drew) rfl).slot hL (b := x.b) (r := x.r) (t := x.t) (by omega) (by omega) (by omega)
  generalize atL L x.b x.r x.t = o at *
  rw [lookV_is] at hl hl'
  generalize optLd o = y at *
  generalize o.isSome = r at *
  unfold Ld.val slotV at hl hl'
  unfold zBox at *
  clear h hL hx m1 m2 m3
  go_enter Tryd.func33, Tryd.ntmps33
  go_wp2_with fail
  go_region
  all_goals
    go_wp2
    go_ret
    first
      | exact ⟨rfl, ((Below.refl _ _).alloc (Nat.le_refl _) _).drew⟩
      | skip
end Go.Proofs.YtllaahdbngjigaaDoor
