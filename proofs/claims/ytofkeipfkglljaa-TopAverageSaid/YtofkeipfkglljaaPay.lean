/-
  The closures of average.Pays.
-/
import Derived.Test.YtofkeipfkglljaaPayP
import Derived.OwnWalk
import Derived.Deep.RegionLaw
namespace Go.Proofs.Ytofkeipfkglljaa
open Go Go.RowKit
set_option linter.unusedVariables false
set_option linter.unusedSimpArgs false

def owesV (bg : Nat) : Value := .func (.func 24) #[] #[.pointer (some ⟨bg + 2, 0, none⟩), .pointer (some ⟨bg, 0, none⟩)]
/-- How the closures' variables lie. -/
structure PEnv (w0 : World) (l : List In1) (lv : Value) (bG bg : Nat) (w : World) (G : List Int) (v : Value) (D : List De) (f : Nat) : Prop where
  hg : w.cell? ⟨bg, 0, none⟩ = some (.slice (some ⟨bG, 0, none⟩) l.length l.length)
  ho : w.cell? ⟨bg + 1, 0, none⟩ = some v
  row : w.ownsRow (bg + 4) 55 4 v D.length (D.flatMap De.cells)
  hf : w.cell? ⟨bg + 2, 0, none⟩ = some (.int .i64 (f : Int))
  hw : w.cell? ⟨bg + 3, 0, none⟩ = some (owesV bg)
  hl : w.cell? ⟨w0.heap.size, 0, none⟩ = some lv
  fo : w.frozen? ⟨bg + 1, 0, none⟩ = false
  ff : w.frozen? ⟨bg + 2, 0, none⟩ = false
  hG : Blk w bG G
  l1 : w0.heap.size < bG
  l2 : bG < bg
  l3 : bg + 3 < w.heap.size
  hb : Below w0.heap.size w0 w
  hi : Ins w0 lv l
  fl : f ≤ l.length
  gl : G.length = l.length
  nn : ∀ j, j < f → 0 ≤ G.getD j 0

theorem PEnv.setF {w0 : World} {l : List In1} {lv : Value} {bG bg : Nat} {w : World} {G : List Int} {v : Value} {D : List De} {f : Nat} (h : PEnv w0 l lv bG bg w G v D f) (f' : Nat) (h1 : f' ≤ l.length) (h2 : ∀ j, j < f' → 0 ≤ G.getD j 0) :
    PEnv w0 l lv bG bg (w.setCell ⟨bg + 2, 0, none⟩ (.int .i64 (f' : Int))) G v D f' := by
  obtain ⟨hg, ho, row, hf, hw, hl, fo, ff, hG, l1, l2, l3, hb, hi, fl, gl, nn⟩ := h
  refine ⟨?_, ?_, ?_, ?_, ?_, ?_, ?_, ?_, ?_, l1, l2, by simpa [World.setCell] using l3, hb.setCell (p := ⟨bg + 2, 0, none⟩) (by show _ ≤ bg + 2; omega) _, hi, h1, gl, h2⟩
  · rw [← hg]; exact heap_cell (Below.heap_setCell _ _ _ _ (by show bg ≠ bg + 2; omega))
  · rw [← ho]; exact heap_cell (Below.heap_setCell _ _ _ _ (by show bg + 1 ≠ bg + 2; omega))
  · refine own_touch row ((Touch.refl (fun k => k = bg + 2) w).setCell (p := ⟨bg + 2, 0, none⟩) (.inl rfl) _) (fun k hk e => ?_)
    have := own_block row hk; omega
  · simp [go_sem, hf, ff]
  · rw [← hw]; exact heap_cell (Below.heap_setCell _ _ _ _ (by show bg + 3 ≠ bg + 2; omega))
  · rw [← hl]; exact heap_cell (Below.heap_setCell _ _ _ _ (by show w0.heap.size ≠ bg + 2; omega))
  · rw [← fo]; exact World.frozen?_of_block (Below.heap_setCell _ _ _ _ (by show bg + 1 ≠ bg + 2; omega))
  · simp [go_sem, hf, ff]
  · exact (Below.heap_setCell _ _ _ _ (by show bG ≠ bg + 2; omega)).trans hG

theorem PEnv.setG {w0 : World} {l : List In1} {lv : Value} {bG bg : Nat} {w : World} {G : List Int} {v : Value} {D : List De} {f : Nat} (h : PEnv w0 l lv bG bg w G v D f) (c : Nat) (y : Int) (hc : f ≤ c) :
    PEnv w0 l lv bG bg (w.setCell ⟨bG, c, none⟩ (.int .i64 y)) (G.set c y) v D f := by
  obtain ⟨hg, ho, row, hf, hw, hl, fo, ff, hG, l1, l2, l3, hb, hi, fl, gl, nn⟩ := h
  refine ⟨?_, ?_, ?_, ?_, ?_, ?_, ?_, ?_, hG.set c y, l1, l2, by simpa [World.setCell] using l3, hb.setCell (p := ⟨bG, c, none⟩) (by show _ ≤ bG; omega) _, hi, fl, by simpa using gl, ?_⟩
  · rw [← hg]; exact heap_cell (Below.heap_setCell _ _ _ _ (by show bg ≠ bG; omega))
  · rw [← ho]; exact heap_cell (Below.heap_setCell _ _ _ _ (by show bg + 1 ≠ bG; omega))
  · refine own_touch row ((Touch.refl (fun k => k = bG) w).setCell (p := ⟨bG, c, none⟩) (.inl rfl) _) (fun k hk e => ?_)
    have := own_block row hk; omega
  · rw [← hf]; exact heap_cell (Below.heap_setCell _ _ _ _ (by show bg + 2 ≠ bG; omega))
  · rw [← hw]; exact heap_cell (Below.heap_setCell _ _ _ _ (by show bg + 3 ≠ bG; omega))
  · rw [← hl]; exact heap_cell (Below.heap_setCell _ _ _ _ (by show w0.heap.size ≠ bG; omega))
  · rw [← fo]; exact World.frozen?_of_block (Below.heap_setCell _ _ _ _ (by show bg + 1 ≠ bG; omega))
  · rw [← ff]; exact World.frozen?_of_block (Below.heap_setCell _ _ _ _ (by show bg + 2 ≠ bG; omega))
  · intro j hj
    rw [set_getD, if_neg (by omega)]
    exact nn j hj

/-- New blocks alone. -/
theorem PEnv.later {w0 : World} {l : List In1} {lv : Value} {bG bg : Nat} {w w' : World} {G : List Int} {v : Value} {D : List De} {f : Nat} (h : PEnv w0 l lv bG bg w G v D f) (hx : Below w.heap.size w w') : PEnv w0 l lv bG bg w' G v D f := by
  obtain ⟨hg, ho, row, hf, hw, hl, fo, ff, hG, l1, l2, l3, hb, hi, fl, gl, nn⟩ := h
  have hs := hx.size
  refine ⟨cell_later hx hg, cell_later hx ho, ?_, cell_later hx hf, cell_later hx hw, cell_later hx hl, ?_, ?_, hG.below hx, l1, l2, by omega, bt hb hx, hi, fl, gl, nn⟩
  · exact own_touch row (Touch.of_below (S := fun _ => False) hx) (fun _ _ h => h)
  · rw [hx.frozen (by show bg + 1 < _; omega)]; exact fo
  · rw [hx.frozen (by show bg + 2 < _; omega)]; exact ff

/-- A debt is appended, and the slice written. -/
theorem PEnv.app {w0 : World} {l : List In1} {lv : Value} {bG bg : Nat} {w w1 : World} {G : List Int} {v v' : Value} {D : List De} {f : Nat} (h : PEnv w0 l lv bG bg w G v D f) (d : De) (hx : Below (bg + 4) w w1) (hr : w1.ownsRow (bg + 4) 55 4 v' (D.length + 1) (D.flatMap De.cells ++ d.cells)) :
    PEnv w0 l lv bG bg (w1.setCell ⟨bg + 1, 0, none⟩ v') G v' (D ++ [d]) f := by
  obtain ⟨hg, ho, row, hf, hw, hl, fo, ff, hG, l1, l2, l3, hb, hi, fl, gl, nn⟩ := h
  have hs := hx.size
  have b1 : ∀ k, k < bg + 4 → k ≠ bg + 1 → (w1.setCell ⟨bg + 1, 0, none⟩ v').heap[k]? = w.heap[k]? := fun k hk hn => (Below.heap_setCell _ _ _ _ hn).trans (hx.block k hk)
  have ho1 : w1.cell? ⟨bg + 1, 0, none⟩ = some v := by rw [← ho]; exact heap_cell (hx.block (bg + 1) (by omega))
  have fo1 : w1.frozen? ⟨bg + 1, 0, none⟩ = false := by rw [← fo]; exact World.frozen?_of_block (hx.block (bg + 1) (by omega))
  refine ⟨?_, ?_, ?_, ?_, ?_, ?_, ?_, ?_, (b1 bG (by omega) (by omega)).trans hG, l1, l2, by simp [World.setCell]; omega, (hb.trans (hx.mono (by omega))).setCell (p := ⟨bg + 1, 0, none⟩) (by show _ ≤ bg + 1; omega) _, hi, fl, gl, nn⟩
  · rw [← hg]; exact heap_cell (b1 bg (by omega) (by omega))
  · simp [go_sem, ho1, fo1]
  · have e1 : (D ++ [d]).length = D.length + 1 := by simp
    have e2 : (D ++ [d]).flatMap De.cells = D.flatMap De.cells ++ d.cells := by simp
    rw [e1, e2]
    refine own_touch hr ((Touch.refl (fun k => k = bg + 1) w1).setCell (p := ⟨bg + 1, 0, none⟩) (.inl rfl) _) (fun k hk e => ?_)
    have := own_block hr hk; omega
  · rw [← hf]; exact heap_cell (b1 (bg + 2) (by omega) (by omega))
  · rw [← hw]; exact heap_cell (b1 (bg + 3) (by omega) (by omega))
  · rw [← hl]; exact heap_cell (b1 w0.heap.size (by omega) (by omega))
  · simp [go_sem, ho1, fo1]
  · rw [← ff]; exact World.frozen?_of_block (b1 (bg + 2) (by omega) (by omega))

theorem PEnv.gcell {w0 : World} {l : List In1} {lv : Value} {bG bg : Nat} {w : World} {G : List Int} {v : Value} {D : List De} {f : Nat} (h : PEnv w0 l lv bG bg w G v D f) {c : Nat} (hc : c < l.length) : w.cell? ⟨bG, c, none⟩ = some (.int .i64 (G.getD c 0)) := by
  refine h.hG.cell ?_
  have := h.gl
  rw [List.getD_eq_getElem?_getD, List.getElem?_eq_getElem (by omega)]; rfl

def OwesPost (w0 : World) (l : List In1) (lv : Value) (bG bg : Nat) (G : List Int) (v : Value) (D : List De) (f : Nat) (e : Ending) (w' : World) : Prop :=
  ∃ c, f ≤ c ∧ ((c = l.length ∧ e = .returned (.int .i64 0)) ∨ (c < l.length ∧ G.getD c 0 < 0 ∧ e = .returned (.int .i64 (-(G.getD c 0))))) ∧ PEnv w0 l lv bG bg w' G v D c

set_option maxHeartbeats 2000000 in
theorem owes_any (w0 : World) (l : List In1) (lv : Value) (bG bg : Nat) (w : World) (G : List Int) (v : Value) (D : List De) (f : Nat) (h : PEnv w0 l lv bG bg w G v D f) (h40 : l.length ≤ 4096) (hM : ∀ j, -4398046511104 ≤ G.getD j 0 ∧ G.getD j 0 ≤ 4398046511104) :
    Calls Try.prog 24 #[.pointer (some ⟨bg + 2, 0, none⟩), .pointer (some ⟨bg, 0, none⟩)] w (OwesPost w0 l lv bG bg G v D f) := by
  have H := Lib.hid h
  have HM := Lib.hid hM
  obtain ⟨n, HN⟩ : ∃ n, Hid (n = l.length) := ⟨_, Lib.hid rfl⟩
  have hn4 : n ≤ 4096 := by rw [HN.out]; exact h40
  clear h hM h40
  go_enter Try.func24, Try.ntmps24
  go_wp2
  go_loopw [] (fun wr => ∃ c : Nat, f ≤ c ∧ Hid (PEnv w0 l lv bG bg wr G v D c)) (fun wr => n - (intOf ((wr.cell? ⟨bg + 2, 0, none⟩).getD undef)).toNat)
  case atStart => exact ⟨f, Nat.le_refl _, H⟩
  case round =>
    obtain ⟨c, hfc, hE⟩ := hrel
    have c1 := hE.out.hf
    have c2 := hE.out.hg
    rw [← HN.out] at c2
    have f1 := hE.out.ff
    have hcn : c ≤ n := by rw [HN.out]; exact hE.out.fl
    by_cases hlt : c < n
    · have l1 : (c : Int) < (n : Int) := by omega
      have l0 : (0 : Int) ≤ (c : Int) := by omega
      have d1 : decide (c < n) = true := by rw [decide_eq_true_iff]; exact hlt
      have d2 : decide ((c : Int) < (n : Int)) = true := by rw [decide_eq_true_iff]; exact l1
      have c3 := hE.out.gcell (c := c) (by rw [← HN.out]; exact hlt)
      have hm := HM.out c
      have HNN := Lib.hid hE.out.nn
      obtain ⟨y, hy⟩ : ∃ y, y = G.getD c 0 := ⟨_, rfl⟩
      have HY := Lib.hid hy
      rw [← hy] at c3 hm
      clear hy
      by_cases g : 0 ≤ y
      · have d3 : decide (0 ≤ y) = true := by rw [decide_eq_true_iff]; exact g
        have HE1 := Lib.hid (hE.out.setF (c + 1) (by rw [← HN.out]; exact hlt) (fun j hj => by
          by_cases e : j = c
          · subst e; rw [← HY.out]; exact g
          · exact HNN.out j (by omega)))
        have v1 : IntKind.i64.wrap ((c : Int) + 1) = (c : Int) + 1 := IntWalk.i64_in _ (by omega)
        have HF1 := Lib.hid HE1.out.hf
        go_wp2
        go_roundw
        case rel => exact ⟨c + 1, by omega, by simpa using HE1⟩
        case measure =>
          have := HF1.out
          simp only [Int.natCast_add, Int.natCast_one] at this
          simp [this, c1, intOf]; omega
      · have d3 : decide (0 ≤ y) = false := by rw [decide_eq_false_iff_not]; exact g
        have d4 : ((c : Int) == (n : Int)) = false := by rw [beq_eq_false_iff_ne]; omega
        have v1 : IntKind.i64.wrap (-y) = -y := IntWalk.i64_in _ (by omega)
        go_wp2
        go_ret
        exact ⟨c, hfc, .inr ⟨by rw [← HN.out]; exact hlt, by rw [← HY.out]; omega, by rw [← HY.out]; rfl⟩, hE.out⟩
    · obtain rfl : c = n := by omega
      go_wp2
      go_ret
      exact ⟨c, hfc, .inl ⟨HN.out, rfl⟩, hE.out⟩
end Go.Proofs.Ytofkeipfkglljaa
