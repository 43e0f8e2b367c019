/-
  Blocks of numbers that the call makes; a row that is written from its beginning on.
-/
import Derived.Test.YtofkeipfkglljaaDoorAppRow
import Derived.Test.YtofkeipfkglljaaDoorRefSplit
import Derived.OwnWalk
namespace Go.Proofs.YtofkeipfkglljaaDoor
open Go Go.RowKit
set_option linter.unusedVariables false
set_option linter.unusedSimpArgs false

/-- A's first k, then B's rest. -/
def mixL (A B : List Int) (k : Nat) : List Int := A.take k ++ B.drop k
theorem mix_zero (A B : List Int) : mixL A B 0 = B := by simp [mixL]
theorem mix_all {A B : List Int} {k : Nat} (h1 : A.length = k) (h2 : B.length = k) : mixL A B k = A := by
  unfold mixL
  rw [List.take_of_length_le (by omega), List.drop_eq_nil_of_le (by omega), List.append_nil]
theorem mix_len {A B : List Int} (h : A.length = B.length) (k : Nat) : (mixL A B k).length = A.length := by simp [mixL]; omega
theorem mix_get {A B : List Int} {k : Nat} (h : A.length = B.length) (hk : k < A.length) : (mixL A B k)[k]? = some (B.getD k 0) := by
  unfold mixL
  rw [List.getElem?_append_right (by simp; omega)]
  simp only [List.length_take, Nat.min_eq_left (Nat.le_of_lt hk), Nat.sub_self, List.getElem?_drop, Nat.add_zero]
  rw [List.getD_eq_getElem?_getD, List.getElem?_eq_getElem (by omega)]; rfl
theorem mix_set {A B : List Int} {k : Nat} (h : A.length = B.length) (hk : k < A.length) : (mixL A B k).set k (A.getD k 0) = mixL A B (k + 1) := by
  have e : A.getD k 0 = A[k] := by rw [List.getD_eq_getElem?_getD, List.getElem?_eq_getElem hk]; rfl
  unfold mixL
  rw [e]
  apply List.ext_getElem
  · simp; omega
  intro i h1 h2
  rw [List.getElem_set]
  by_cases hi : k = i
  · subst hi
    rw [if_pos rfl, List.getElem_append_left (by simp; omega)]
    simp
  · rw [if_neg hi]
    by_cases hlt : i < k
    · rw [List.getElem_append_left (by simp; omega), List.getElem_append_left (by simp; omega)]
      simp
    · rw [List.getElem_append_right (by simp; omega), List.getElem_append_right (by simp; omega)]
      simp only [List.length_take, List.getElem_drop]
      congr 1
      omega

/-- Block b holds these numbers. -/
def Blk (w : World) (b : Nat) (xs : List Int) : Prop := w.heap[b]? = some (.cells (iA xs) 2 (0, 0))
theorem Blk.lt {w : World} {b : Nat} {xs : List Int} (h : Blk w b xs) : b < w.heap.size := lt_of_block h
theorem Blk.below {w w' : World} {b : Nat} {xs : List Int} (h : Blk w b xs) (hb : Below w.heap.size w w') : Blk w' b xs := (hb.block b h.lt).trans h
theorem Blk.cell {w : World} {b k : Nat} {xs : List Int} {x : Int} (h : Blk w b xs) (hx : xs[k]? = some x) : w.cell? ⟨b, k, none⟩ = some (.int .i64 x) := by simp [World.cell?, show w.heap[b]? = _ from h, iA, hx]
theorem Blk.free {w : World} {b : Nat} {xs : List Int} (h : Blk w b xs) (k : Nat) : w.frozen? ⟨b, k, none⟩ = false := by simp [World.frozen?, show w.heap[b]? = _ from h]
theorem Blk.set {w : World} {b : Nat} {xs : List Int} (h : Blk w b xs) (k : Nat) (y : Int) : Blk (w.setCell ⟨b, k, none⟩ (.int .i64 y)) b (xs.set k y) := by
  unfold Blk
  rw [heap_set h, iA_set]
theorem Blk.ints {w : World} {b n : Nat} {xs : List Int} (h : Blk w b xs) (hn : n = xs.length) (hl : n ≤ 4096) : Ints w (.slice (some ⟨b, 0, none⟩) n n) xs := by
  subst hn
  refine ⟨by simp, some ⟨b, 0, none⟩, xs.length, by simp, by simp, by unfold maxLen; omega, (fun h => by cases h), fun a ha j u hu => ?_⟩
  cases ha
  rw [add_in]
  have : (iA xs)[j]? = some u := by unfold iA; simpa using hu
  simp [World.cell?, show w.heap[b]? = _ from h, this]
theorem Parts.blk {w0 w : World} {v : Value} {out : List Nat} (h : Parts w0 w v out) : ∃ b, v = .slice (some ⟨b, 0, none⟩) out.length out.length ∧ Blk w b (natI out) ∧ w0.heap.size ≤ b := by
  obtain ⟨b, h1, h2, h3⟩ := h
  exact ⟨b, h1, by unfold Blk; rw [iA_nat]; exact h2, h3⟩
theorem blk_new (w : World) (xs : List Int) : Blk (w.alloc (.cells (iA xs) 2)) w.heap.size xs := heap_alloc_new _ _
theorem zeros_nums (n : Nat) : nums (List.replicate n 0) = iA (List.replicate n 0) := by
  rw [← iA_nat]; simp [natI]

end Go.Proofs.YtofkeipfkglljaaDoor
