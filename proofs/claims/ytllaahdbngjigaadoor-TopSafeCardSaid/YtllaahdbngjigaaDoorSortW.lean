/-
  Go's stable sort, of places by their rests: what lies in memory; the comparison; exchanges.
-/
import Derived.Test.YtllaahdbngjigaaDoorRows
import Derived.Test.YtllaahdbngjigaaDoorSep
import Derived.Test.YtllaahdbngjigaaDoorSortP
namespace Go.Proofs.YtllaahdbngjigaaDoor
open Go Go.RowKit
set_option linter.unusedVariables false
set_option linter.unusedSimpArgs false

def nums (xs : List Nat) : Array Value := (xs.map fun x : Nat => Value.int .i64 (x : Int)).toArray
def rnums (xs : List Nat) : Array Value := (xs.map fun x : Nat => Value.int .u64 (x : Int)).toArray
def keyOf (rs : List Nat) (x : Nat) : Nat := rs.getD x 0

/-- Block bo holds xs, places of the rests, which lie in block br; the variable in block bc shows them. -/
structure Srt (bo bc br n : Nat) (rs : List Nat) (w : World) (xs : List Nat) : Prop where
  blk : w.heap[bo]? = some (.cells (nums xs) 3 (0, 0))
  cap : w.heap[bc]? = some (.cells #[.slice (some ⟨br, 0, none⟩) n n] 116 (0, 0))
  row : w.heap[br]? = some (.cells (rnums rs) 109 (0, 0))
  len : xs.length = n
  rl : rs.length = n
  lt : ∀ x ∈ xs, x < n
  nc : bc ≠ bo
  nr : br ≠ bo
  hn : n ≤ 4096

/-- Block bo alone is written. -/
structure Mvd (bo : Nat) (w w' : World) : Prop where
  touch : Touch (fun k => k = bo) w w'
  size : w'.heap.size = w.heap.size
theorem Mvd.refl (bo : Nat) (w : World) : Mvd bo w w := ⟨Touch.refl _ _, rfl⟩
theorem Mvd.trans {bo : Nat} {a b c : World} (h : Mvd bo a b) (k : Mvd bo b c) : Mvd bo a c := ⟨h.touch.trans k.touch (fun _ e => .inl e), k.size.trans h.size⟩
theorem Mvd.drewN {bo : Nat} {a b : World} (h : Mvd bo a b) (n : Nat) : Mvd bo a (b.drewN n) := ⟨h.touch.drewN n, h.size⟩
theorem Mvd.drew {bo : Nat} {a b : World} (h : Mvd bo a b) : Mvd bo a b.drew := ⟨h.touch.drew, h.size⟩
theorem Mvd.set {bo : Nat} {a b : World} (h : Mvd bo a b) (i : Nat) (u : Value) : Mvd bo a (b.setCell ⟨bo, i, none⟩ u) := ⟨h.touch.setCell (.inl rfl) u, by rw [← h.size]; simp [World.setCell]⟩

theorem heap_set {w : World} {b i : Nat} {cs : Array Value} {e : TypeId} {u : Value} (h : w.heap[b]? = some (.cells cs e (0, 0))) : (w.setCell ⟨b, i, none⟩ u).heap[b]? = some (.cells (cs.setIfInBounds i u) e (0, 0)) := by
  simp only [World.setCell, Array.getElem?_modify, if_pos, h]
  rfl
theorem nums_set (xs : List Nat) (i y : Nat) : (nums xs).setIfInBounds i (.int .i64 (y : Int)) = nums (xs.set i y) := by
  unfold nums; simp [List.map_set]

section
variable {bo bc br n : Nat} {rs xs : List Nat} {w w' : World}
theorem Srt.cell (h : Srt bo bc br n rs w xs) {i x : Nat} (hx : xs[i]? = some x) : w.cell? ⟨bo, i, none⟩ = some (.int .i64 (x : Int)) := by
  simp [World.cell?, h.blk, nums, hx]
theorem Srt.free (h : Srt bo bc br n rs w xs) (i : Nat) : w.frozen? ⟨bo, i, none⟩ = false := by simp [World.frozen?, h.blk]
theorem Srt.ccell (h : Srt bo bc br n rs w xs) : w.cell? ⟨bc, 0, none⟩ = some (.slice (some ⟨br, 0, none⟩) n n) := by simp [World.cell?, h.cap]
theorem Srt.rcell (h : Srt bo bc br n rs w xs) {x : Nat} (hx : x < n) : w.cell? ⟨br, x, none⟩ = some (.int .u64 (keyOf rs x : Nat)) := by
  have : x < rs.length := by rw [h.rl]; exact hx
  simp [World.cell?, h.row, rnums, keyOf, this]
theorem Srt.drewN (h : Srt bo bc br n rs w xs) (k : Nat) : Srt bo bc br n rs (w.drewN k) xs := ⟨h.blk, h.cap, h.row, h.len, h.rl, h.lt, h.nc, h.nr, h.hn⟩
theorem Srt.drew (h : Srt bo bc br n rs w xs) : Srt bo bc br n rs w.drew xs := ⟨h.blk, h.cap, h.row, h.len, h.rl, h.lt, h.nc, h.nr, h.hn⟩
theorem Srt.set (h : Srt bo bc br n rs w xs) (i : Nat) {y : Nat} (hy : y < n) : Srt bo bc br n rs (w.setCell ⟨bo, i, none⟩ (.int .i64 (y : Int))) (xs.set i y) := by
  refine ⟨by rw [heap_set h.blk, nums_set], ?_, ?_, by simp [h.len], h.rl, fun x hx => ?_, h.nc, h.nr, h.hn⟩
  · rw [Below.heap_setCell _ _ _ _ h.nc]; exact h.cap
  · rw [Below.heap_setCell _ _ _ _ h.nr]; exact h.row
  · rcases List.mem_or_eq_of_mem_set hx with e | e
    · exact h.lt x e
    · omega
end

/-- What the comparison tells. -/
def cv (rs : List Nat) (x y : Nat) : Int := if keyOf rs y < keyOf rs x then -1 else if keyOf rs x < keyOf rs y then 1 else 0

theorem nan_any (x : Int) (w : World) : Calls Tryd.prog 90 #[.int .u64 x] w fun e w' => e = .returned (.bool false) ∧ w' = w := by
  go_enter Tryd.func90, Tryd.ntmps90
  go_wp2
  go_ret
  exact ⟨rfl, rfl⟩
set_option maxHeartbeats 400000 in
theorem compare_any (x y : Nat) (w : World) : Calls Tryd.prog 63 #[.int .u64 (x : Int), .int .u64 (y : Int)] w fun e w' => e = .returned (.int .i64 (if x < y then -1 else if y < x then 1 else 0)) ∧ w' = w := by
  by_cases h1 : x < y
  · rw [if_pos h1]
    have d1 : decide (x < y) = true := by simpa using h1
    go_enter Tryd.func63, Tryd.ntmps63
    go_wp2_with (go_at_call 90; refine (nan_any _ _).mono ?_; rintro e w' ⟨rfl, rfl⟩)
    go_ret
    exact ⟨rfl, rfl⟩
  · rw [if_neg h1]
    have d1 : decide (x < y) = false := by simpa using h1
    by_cases h2 : y < x
    · rw [if_pos h2]
      have d2 : decide (y < x) = true := by simpa using h2
      go_enter Tryd.func63, Tryd.ntmps63
      go_wp2_with (go_at_call 90; refine (nan_any _ _).mono ?_; rintro e w' ⟨rfl, rfl⟩)
      go_ret
      exact ⟨rfl, rfl⟩
    · rw [if_neg h2]
      have d2 : decide (y < x) = false := by simpa using h2
      go_enter Tryd.func63, Tryd.ntmps63
      go_wp2_with (go_at_call 90; refine (nan_any _ _).mono ?_; rintro e w' ⟨rfl, rfl⟩)
      go_ret
      exact ⟨rfl, rfl⟩

set_option maxHeartbeats 400000 in
theorem cmp_any {bo bc br n : Nat} {rs xs : List Nat} {w : World} (h : Srt bo bc br n rs w xs) (x y : Nat) (hx : x < n) (hy : y < n) :
    Calls Tryd.prog 62 #[.int .i64 (x : Int), .int .i64 (y : Int), .pointer (some ⟨bc, 0, none⟩)] w fun e w' => e = .returned (.int .i64 (cv rs x y)) ∧ ∃ m, w' = w.drewN m := by
  have c0 := h.ccell
  have c1 := h.rcell hx
  have c2 := h.rcell hy
  have HC := Lib.hid (show ∀ w, Calls Tryd.prog 63 #[.int .u64 (keyOf rs y : Nat), .int .u64 (keyOf rs x : Nat)] w fun e w' => e = .returned (.int .i64 (cv rs x y)) ∧ w' = w from fun w => compare_any _ _ w)
  clear h
  generalize cv rs x y = v at *
  generalize keyOf rs x = kx at *
  generalize keyOf rs y = ky at *
  go_enter Tryd.func62, Tryd.ntmps62
  go_wp2
  go_quiet ((go_at_call 63; exact Calls.quiet_of_same (HC.out _)))
  go_wp2
  go_ret
  exact ⟨rfl, _, rfl⟩
end Go.Proofs.YtllaahdbngjigaaDoor
