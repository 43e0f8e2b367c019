/-
  bay.New; the ship.
-/
import Derived.Test.YtllaahdbngjigaaDoorPut
import Derived.Maps.Own
namespace Go.Proofs.YtllaahdbngjigaaDoor
open Go Go.RowKit Go.Maps
set_option linter.unusedVariables false
set_option linter.unusedSimpArgs false

/-- A ship in a block. -/
structure ShAt (w : World) (q : Nat) (s : Shp) : Prop where
  c0 : w.cell? ⟨q, 0, none⟩ = some (.string ⟨#[115, 104, 105, 112]⟩)
  c1 : w.cell? ⟨q, 1, none⟩ = some (.int .i64 s.bays)
  c2 : w.cell? ⟨q, 2, none⟩ = some (.int .i64 s.rows)
  c3 : w.cell? ⟨q, 3, none⟩ = some (.int .i64 s.tiers)
  c4 : w.cell? ⟨q, 4, none⟩ = some (.int .i64 s.stack)
  c5 : w.cell? ⟨q, 5, none⟩ = some (.int .i64 40)
  c6 : w.cell? ⟨q, 6, none⟩ = some (.int .i64 40)
  c7 : w.cell? ⟨q, 7, none⟩ = some (.int .i64 60)
  c8 : w.cell? ⟨q, 8, none⟩ = some (.int .i64 s.most)
theorem ShAt.below {w w' : World} {q : Nat} {s : Shp} (h : ShAt w q s) (hb : Below w.heap.size w w') : ShAt w' q s :=
  ⟨cell_later hb h.c0, cell_later hb h.c1, cell_later hb h.c2, cell_later hb h.c3, cell_later hb h.c4, cell_later hb h.c5, cell_later hb h.c6, cell_later hb h.c7, cell_later hb h.c8⟩
theorem ShAt.of_block {w : World} {q : Nat} {s : Shp} {t : TypeId} {fz : Nat × Nat} (h : w.heap[q]? = some (.cells #[.string ⟨#[115, 104, 105, 112]⟩, .int .i64 s.bays, .int .i64 s.rows, .int .i64 s.tiers, .int .i64 s.stack, .int .i64 40, .int .i64 40, .int .i64 60, .int .i64 s.most] t fz)) : ShAt w q s := by
  refine ⟨?_, ?_, ?_, ?_, ?_, ?_, ?_, ?_, ?_⟩ <;> simp [World.cell?, h]
def boxS (w : World) (s : Shp) : World := w.alloc (.cells #[.string ⟨#[115, 104, 105, 112]⟩, .int .i64 s.bays, .int .i64 s.rows, .int .i64 s.tiers, .int .i64 s.stack, .int .i64 40, .int .i64 40, .int .i64 60, .int .i64 s.most] 26)
theorem boxS_at (w : World) (s : Shp) : ShAt (boxS w s) w.heap.size s := ShAt.of_block (heap_alloc_new w _)
theorem boxS_below (w : World) (s : Shp) : Below w.heap.size w (boxS w s) := (Below.refl _ _).alloc (Nat.le_refl _) _
theorem hold_new (w1 : World) (s : Shp) : HoldIs (((w1.alloc (.map #[] 0)).alloc (.map #[] 0)).alloc (.cells (holdA s w1.heap.size (w1.heap.size + 1) 0) 78)) (w1.heap.size + 2) w1.heap.size (w1.heap.size + 1) s [] := by
  have e1 : (w1.alloc (.map #[] 0)).heap.size = w1.heap.size + 1 := by simp
  have e2 : ((w1.alloc (.map #[] 0)).alloc (.map #[] 0)).heap.size = w1.heap.size + 2 := by simp
  refine ⟨?_, ?_, ?_, by omega⟩
  · rw [← e2]
    exact heap_alloc_new _ _
  · exact ((MP.new w1).below ((Below.refl _ _).alloc (Nat.le_refl _) _)).below ((Below.refl _ _).alloc (Nat.le_refl _) _)
  · rw [← e1]
    exact (MP.new (w1.alloc (.map #[] 0))).below ((Below.refl _ _).alloc (Nat.le_refl _) _)
/-- What New tells. -/
def NewPost (w : World) (s : Shp) (e : Ending) (w' : World) : Prop := ∃ bh bs bn : Nat, e = .returned (.tuple #[.pointer (some ⟨bh, 0, none⟩), .int .i64 0]) ∧ HoldIs w' bh bs bn s [] ∧ (w.heap.size ≤ bh ∧ w.heap.size ≤ bs ∧ w.heap.size ≤ bn) ∧ Below w.heap.size w w'
set_option maxRecDepth 20000 in
set_option maxHeartbeats 2000000 in
theorem bnew_any (w : World) (s : Shp) (hs : s.fine) :
    Calls Tryd.prog 8 #[.agg #[.string ⟨#[115, 104, 105, 112]⟩, .int .i64 s.bays, .int .i64 s.rows, .int .i64 s.tiers, .int .i64 s.stack, .int .i64 40, .int .i64 40, .int .i64 60, .int .i64 s.most]] w (NewPost w s) := by
  have HM := Lib.hid (shipMay_ok s hs (boxS w s))
  have hmm := @run_makeMap Tryd.prog
  obtain ⟨c0, c1, c2, c3, c4, c5, c6, c7, c8⟩ := boxS_at w s
  have HS := Lib.hid (boxS_at w s)
  clear hs
  unfold Shp.val at HM
  unfold boxS at c0 c1 c2 c3 c4 c5 c6 c7 c8
  go_enter Tryd.func8, Tryd.ntmps8
  go_wp2_with fail
  refine HM.out.mono ?_
  rintro e w1 ⟨rfl, hb⟩
  obtain ⟨d0, d1, d2, d3, d4, d5, d6, d7, d8⟩ := HS.out.below hb
  have HB := Lib.hid (btw (boxS_below w s) hb)
  clear hb c0 c1 c2 c3 c4 c5 c6 c7 c8 HM HS
  go_wp2
  go_ret2
  have h := hold_new w1 s
  have hz := HB.out.size
  exact ⟨_, _, _, rfl, h, by omega, btw HB.out ((((Below.refl _ _).alloc (Nat.le_refl _) _).alloc (by simp) _).alloc (by simp; omega) _)⟩
end Go.Proofs.YtllaahdbngjigaaDoor
