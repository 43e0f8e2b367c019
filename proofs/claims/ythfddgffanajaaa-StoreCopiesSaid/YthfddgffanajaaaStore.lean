/-
  The store: how it lies in memory, and what each of its methods does.
-/
import Derived.Test.YthfddgffanajaaaRows
import Derived.Test.YthfddgffanajaaaSep
import Derived.Deep.RegionLaw
namespace Go.Proofs.Ythfddgffanajaaa
open Go Go.RowKit
set_option linter.unusedVariables false
set_option linter.unusedSimpArgs false

structure St where
  ws : List ByteArray
  last : Nat
  armed : Bool
  fuse : Int
  down : Bool

def St.cells (s : St) (v : Value) : Array Value := #[v, .int .i64 s.last, .bool s.armed, .int .i64 s.fuse, .bool s.down]

/-- Block b is the store s; its writes lie in the row v. -/
structure IsSt (w : World) (b : Nat) (v : Value) (s : St) : Prop where
  blk : w.heap[b]? = some (.cells (s.cells v) 55 (0, 0))
  row : w.ownsRow 0 9 1 v s.ws.length (s.ws.map Value.string)
  ne : v.ownBlock ≠ some b
  f0 : 0 ≤ s.fuse
  f1 : s.fuse ≤ 9223372036854775807
  len : s.ws.length ≤ 4096
  last : s.last ≤ s.ws.length

theorem IsSt.cell {w : World} {b : Nat} {v : Value} {s : St} (h : IsSt w b v s) (i : Nat) : w.cell? ⟨b, i, none⟩ = (s.cells v)[i]? := by simp [World.cell?, h.blk]
theorem IsSt.free {w : World} {b : Nat} {v : Value} {s : St} (h : IsSt w b v s) (i : Nat) : w.frozen? ⟨b, i, none⟩ = false := by simp [World.frozen?, h.blk]
theorem IsSt.lt {w : World} {b : Nat} {v : Value} {s : St} (h : IsSt w b v s) : b < w.heap.size := lt_of_block h.blk

/-- What a method may write. -/
def Fp (b : Nat) (v : Value) : Nat → Prop := fun k => k = b ∨ v.ownBlock = some k
/-- A method's frame: only its own blocks are written; the row stays, or moves to a new block. -/
structure Keep (b : Nat) (v : Value) (w : World) (v' : Value) (w' : World) : Prop where
  touch : Touch (Fp b v) w w'
  row : ∀ k, v'.ownBlock = some k → v.ownBlock = some k ∨ w.heap.size ≤ k
theorem Keep.refl (b : Nat) (v : Value) (w : World) : Keep b v w v w := ⟨Touch.refl _ _, fun _ h => .inl h⟩
theorem Keep.trans {b : Nat} {v v1 v2 : Value} {w w1 w2 : World} (h : Keep b v w v1 w1) (k : Keep b v1 w1 v2 w2) : Keep b v w v2 w2 :=
  ⟨h.touch.trans k.touch (fun x hx => hx.elim (fun e => .inl (.inl e)) (fun e => (h.row x e).elim (fun e => .inl (.inr e)) .inr)),
   fun x hx => (k.row x hx).elim (h.row x) (fun e => .inr (Nat.le_trans h.touch.size e))⟩

/-- A world that differs from w by new blocks and draws alone. -/
theorem IsSt.kept {w w' : World} {b : Nat} {v : Value} {s : St} {S : Nat → Prop} (h : IsSt w b v s) (ht : Touch S w w') (hb : ¬ S b) (hv : ∀ k, v.ownBlock = some k → ¬ S k) : IsSt w' b v s :=
  ⟨(ht.block b h.lt hb).trans h.blk, own_touch h.row ht hv, h.ne, h.f0, h.f1, h.len, h.last⟩

def St.new : St := ⟨[], 0, false, 0, false⟩

theorem new_any (w : World) :
    Calls Try.prog 11 #[] w fun e w' => ∃ b, e = .returned (.pointer (some ⟨b, 0, none⟩)) ∧ IsSt w' b (.slice none 0 0) St.new ∧ w.heap.size ≤ b ∧ Below w.heap.size w w' := by
  go_enter Try.func11, Try.ntmps11
  go_wp2
  go_ret
  refine ⟨w.heap.size, rfl, ⟨heap_alloc_new _ _, World.ownsRow_nil _ _ _ _, by simp [Value.ownBlock], by decide, by decide, by decide, by decide⟩, Nat.le_refl _, (Below.refl _ _).alloc (Nat.le_refl _) _⟩

theorem Try.info9 : (Try.prog.info? 9).map (fun i => (i.zero, i.size, i.bytes)) = some (some (.string ⟨#[]⟩), 1, 16) := by kernel_rfl

theorem heap_set {w : World} {b i : Nat} {cs : Array Value} {e : TypeId} {u : Value} (h : w.heap[b]? = some (.cells cs e (0, 0))) : (w.setCell ⟨b, i, none⟩ u).heap[b]? = some (.cells (cs.setIfInBounds i u) e (0, 0)) := by
  simp only [World.setCell, Array.getElem?_modify, if_pos, h]
  rfl

theorem one_str (t : ByteArray) : ∀ u ∈ [Value.string t], u.oneCell' = true := by intro u hu; simp at hu; subst hu; rfl

theorem grown_heap {w w' : World} {row : Option Nat} (h : w.grownBy w' row) {k : Nat} (hk : k < w.heap.size) (hn : row ≠ some k) : w'.heap[k]? = w.heap[k]? := h.block k hk (fun e => hn e.symm)

/-- The row and one cell of the struct are written anew. -/
theorem IsSt.put {w w1 : World} {b : Nat} {v v' : Value} {s s' : St} {i : Nat} {u : Value} (h : IsSt w b v s) (hb : w1.heap[b]? = some (.cells (s.cells v) 55 (0, 0))) (hr : w1.ownsRow 0 9 1 v' s'.ws.length (s'.ws.map Value.string)) (hne : v'.ownBlock ≠ some b)
    (hc : (s.cells v).setIfInBounds i u = s'.cells v') (f0 : 0 ≤ s'.fuse) (f1 : s'.fuse ≤ 9223372036854775807) (hl : s'.ws.length ≤ 4096) (hla : s'.last ≤ s'.ws.length) : IsSt (w1.setCell ⟨b, i, none⟩ u) b v' s' :=
  ⟨by rw [heap_set hb, hc], ownsRow_setCell_other hr hne u, hne, f0, f1, hl, hla⟩

set_option maxHeartbeats 1000000 in
/-- The closure of Write: the text is appended. -/
theorem write1_any (w : World) (b c1 c2 : Nat) (v : Value) (s : St) (t : ByteArray) (h : IsSt w b v s) (h1 : w.cell? ⟨c1, 0, none⟩ = some (.pointer (some ⟨b, 0, none⟩))) (h2 : w.cell? ⟨c2, 0, none⟩ = some (.string t)) (hl : s.ws.length < 4096) (n1 : v.ownBlock ≠ some c1) :
    Calls Try.prog 26 #[.pointer (some ⟨c1, 0, none⟩), .pointer (some ⟨c2, 0, none⟩)] w fun e w' => ∃ v', e = .returned (.tuple #[]) ∧ IsSt w' b v' { s with ws := s.ws ++ [t] } ∧ Keep b v w v' w' := by
  obtain ⟨i0, hi, hz0, hz1, hz2⟩ := info_parts Try.info9
  have H := Lib.hid h
  have k0 : w.cell? ⟨b, 0, none⟩ = some v := h.cell 0
  have kf : w.frozen? ⟨b, 0, none⟩ = false := h.free 0
  have hb := h.lt
  have hc1 : c1 < w.heap.size := World.block_lt_of_cell? _ _ h1
  have hc2 : c2 < w.heap.size := World.block_lt_of_cell? _ _ h2
  have L1 : s.ws.length + 1 ≤ maxLen := by unfold maxLen; omega
  have L2 : (s.ws.length + 1) * 16 ≤ 140737488355328 := by omega
  have Z5 : 0 < 1 := by decide
  have HO := Lib.hid (((h.row.alloc (.cells #[.string t] 9)).drew))
  go_enter Try.func26, Try.ntmps26
  go_wp2
  go_region_law (refine step_own rfl (.tmp 6) (.tmp 8) 22 rfl 9 i0 _ 1 16 Try.underlying22 hi hz0 hz1 hz2 rfl Z5 _ _ _ rfl HO.out ⟨w.heap.size, 0, none⟩ 1 1 [.string t] rfl rfl (new_cells _ _ _) (one_str t) L1 L2 ?_; intro v4 w4 hown4 hg4 hn4; obtain ⟨ao4, cap4, rfl⟩ := own_shape hown4; have q2 := (grown_heap hg4 (by simp; omega) H.out.ne).trans (by rw [show ((w.alloc (.cells #[.string t] 9)).drew).heap[b]? = (w.alloc (.cells #[.string t] 9)).heap[b]? from rfl, Below.heap_alloc _ _ _ hb]); have q3 : w4.cell? ⟨c1, 0, none⟩ = some (.pointer (some ⟨b, 0, none⟩)) := (heap_cell ((grown_heap hg4 (by simp; omega) n1).trans (by rw [show ((w.alloc (.cells #[.string t] 9)).drew).heap[c1]? = (w.alloc (.cells #[.string t] 9)).heap[c1]? from rfl, Below.heap_alloc _ _ _ hc1]))).trans h1; have q0 : w4.cell? ⟨b, 0, none⟩ = some v := (heap_cell q2).trans k0; have q1 : w4.frozen? ⟨b, 0, none⟩ = false := (World.frozen?_of_block q2).trans kf; have Q := Lib.hid (And.intro q2 (And.intro hown4 (And.intro hg4 hn4))); clear q2 hown4 hg4 hn4)
  all_goals
    go_end0
    obtain ⟨q2, hown4, hg4, hn4⟩ := Q.out
    have hne : (Value.slice ao4 (s.ws.length + 1) cap4).ownBlock ≠ some b := by
      intro e
      rcases hn4 b e with e | e
      · exact H.out.ne e
      · simp at e; omega
    refine ⟨_, rfl, H.out.put (q2.trans H.out.blk) (by simpa using hown4) hne (by simp [St.cells]) H.out.f0 H.out.f1 (by simp; omega) (by have := H.out.last; simp; omega), ⟨((((Touch.refl _ _).alloc _).drew).grown hg4 (fun k e => .inl (.inr e))).setCell (.inl (.inl rfl)) _, fun k e => (hn4 k e).imp id (fun h => by simp at h; omega)⟩⟩
end Go.Proofs.Ythfddgffanajaaa
