/-
  The document's Pays; AveragePays.
-/
import Derived.Test.YtofkeipfkglljaaRefPays
namespace Go.Proofs.Ytofkeipfkglljaa
open Go Go.RowKit
set_option linter.unusedVariables false
set_option linter.unusedSimpArgs false

/-- A row of numbers of one's own: read and written. -/
theorem own_ints {w : World} {base n : Nat} {v : Value} {G : List Int} (h : w.ownsRow base 2 1 v n (G.map (Value.int .i64))) (hp : 0 < n) :
    ∃ g cap, v = .slice (some ⟨g, 0, none⟩) n cap ∧ base ≤ g ∧ g < w.heap.size ∧ (∀ c, c < n → w.cell? ⟨g, c, none⟩ = some (.int .i64 (G.getD c 0)) ∧ w.frozen? ⟨g, c, none⟩ = false) ∧
      ∀ c y, c < n → (w.setCell ⟨g, c, none⟩ (.int .i64 y)).ownsRow base 2 1 v n ((G.set c y).map (Value.int .i64)) := by
  have hl : G.length = n := by have := h.1; simpa using this
  have hrow := Row.of_own h
  obtain ⟨h1, h⟩ := h
  rcases h with ⟨rfl, rfl⟩ | ⟨g, cap, cur, rfl, h3, h4, h5, h6, h7, h8⟩
  · simp at h1; omega
  · refine ⟨g, cap, rfl, h3, lt_of_block h4, fun c hc => ⟨?_, by simp [World.frozen?, h4]⟩, fun c y hc => ⟨by simpa using h1, .inr ⟨g, cap, cur.setIfInBounds c (.int .i64 y), rfl, h3, heap_set h4, h5, h6, by simpa using h7, ?_⟩⟩⟩
    · obtain ⟨_, ao, cap', e, _, _, _, h9⟩ := hrow
      cases e
      have := h9 _ rfl c (.int .i64 (G.getD c 0)) (by rw [List.getElem?_map, List.getD_eq_getElem?_getD, List.getElem?_eq_getElem (by omega)]; rfl)
      rwa [add_in] at this
    · rw [List.map_set, ← h8]
      simp [List.take_set]

/-- How the document's Pays stands. -/
structure REnv (w0 : World) (bs bd n gb gc : Nat) (w : World) (G : List Int) (v : Value) (D : List De) : Prop where
  g : w.ownsRow bs 2 1 (.slice (some ⟨gb, 0, none⟩) n gc) n (G.map (Value.int .i64))
  d : w.ownsRow bd 55 4 v D.length (D.flatMap De.cells)
  lt : gb < bd
  l0 : w0.heap.size ≤ gb
  sz : bd ≤ w.heap.size
  b : Below w0.heap.size w0 w

theorem REnv.drewN {w0 w : World} {bs bd n gb gc : Nat} {G : List Int} {v : Value} {D : List De} (h : REnv w0 bs bd n gb gc w G v D) (q : Nat) : REnv w0 bs bd n gb gc (w.drewN q) G v D :=
  ⟨h.g, h.d, h.lt, h.l0, h.sz, below_drewN h.b q⟩

def RPPost (T : Nat) (W : List Nat) (l : List In1) (g : List Int) (S : Int) (w : World) (e : Ending) (w' : World) : Prop :=
  ∃ v out, e = .returned (.tuple #[v, .int .i64 0]) ∧ IsSplit T W out ∧ Des w' v (payAll l (getsL g out) S l.length).D ∧ Below w.heap.size w w'

/-- What stands behind so many rounds. -/
def paid (l : List In1) (G : List Int) (S : Int) : Nat → List Int × List De
  | 0 => (G, [])
  | k + 1 => ((payAll l G S k).G, (payAll l G S k).D)
/-- The state in which round k begins. -/
def begS (l : List In1) (G : List Int) (S : Int) : Nat → PS
  | 0 => ⟨G, S, []⟩
  | k + 1 => ⟨(payAll l G S k).G, (payAll l G S k).G.getD k 0, (payAll l G S k).D⟩
def begT (l : List In1) : Nat → ByteArray
  | 0 => emp
  | k + 1 => (l.getD k default).t
theorem beg_paid (l : List In1) (G : List Int) (S : Int) (k : Nat) : (begS l G S k).G = (paid l G S k).1 ∧ (begS l G S k).D = (paid l G S k).2 := by cases k <;> exact ⟨rfl, rfl⟩
theorem paid_next (l : List In1) (G : List Int) (S : Int) (k : Nat) : (paid l G S (k + 1)).1 = (scanTo l (begT l k) (begS l G S k) l.length).G ∧ (paid l G S (k + 1)).2 = (scanTo l (begT l k) (begS l G S k) l.length).D := by cases k <;> exact ⟨rfl, rfl⟩

end Go.Proofs.Ytofkeipfkglljaa
