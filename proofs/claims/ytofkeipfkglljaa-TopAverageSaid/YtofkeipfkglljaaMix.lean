/-
  average.values.
-/
import Derived.Test.YtofkeipfkglljaaSum
import Derived.OwnWalk
namespace Go.Proofs.Ytofkeipfkglljaa
open Go Go.RowKit
set_option linter.unusedVariables false
set_option linter.unusedSimpArgs false

/-- A's first k, then B's rest. -/
def mixL (A B : List Int) (k : Nat) : List Int := A.take k ++ B.drop k
theorem mix_zero (A B : List Int) : mixL A B 0 = B := by simp [mixL]
theorem mix_all {A B : List Int} {k : Nat} (h1 : A.length = k) (h2 : B.length = k) : mixL A B k = A := by
  unfold mixL
  rw [List.take_of_length_le (by omega), List.drop_eq_nil_of_le (by omega), List.append_nil]
theorem mix_len {A B : List Int} (h : A.length = B.length) (k : Nat) : (mixL A B k).length = A.length := by simp [mixL]; omega
theorem mix_get {A B : List Int} {k : Nat} (h : A.length = B.length) (hk : k < A.length) : (mixL A B k)[k]? = some (B.getD k 0) := by
  unfold mixL
  rw [List.getElem?_append_right (by simp; omega)]
  simp only [List.length_take, Nat.min_eq_left (Nat.le_of_lt hk), Nat.sub_self, List.getElem?_drop, Nat.add_zero]
  rw [List.getD_eq_getElem?_getD, List.getElem?_eq_getElem (by omega)]; rfl
theorem mix_set {A B : List Int} {k : Nat} (h : A.length = B.length) (hk : k < A.length) : (mixL A B k).set k (A.getD k 0) = mixL A B (k + 1) := by
  have e : A.getD k 0 = A[k] := by rw [List.getD_eq_getElem?_getD, List.getElem?_eq_getElem hk]; rfl
  unfold mixL
  rw [e]
  apply List.ext_getElem
  · simp; omega
  intro i h1 h2
  rw [List.getElem_set]
  by_cases hi : k = i
  · subst hi
    rw [if_pos rfl, List.getElem_append_left (by simp; omega)]
    simp
  · rw [if_neg hi]
    by_cases hlt : i < k
    · rw [List.getElem_append_left (by simp; omega), List.getElem_append_left (by simp; omega)]
      simp
    · rw [List.getElem_append_right (by simp; omega), List.getElem_append_right (by simp; omega)]
      simp only [List.length_take, List.getElem_drop]
      congr 1
      omega

/-- Block b holds these numbers. -/
def Blk (w : World) (b : Nat) (xs : List Int) : Prop := w.heap[b]? = some (.cells (iA xs) 2 (0, 0))
theorem Blk.lt {w : World} {b : Nat} {xs : List Int} (h : Blk w b xs) : b < w.heap.size := lt_of_block h
theorem Blk.below {w w' : World} {b : Nat} {xs : List Int} (h : Blk w b xs) (hb : Below w.heap.size w w') : Blk w' b xs := (hb.block b h.lt).trans h
theorem Blk.cell {w : World} {b k : Nat} {xs : List Int} {x : Int} (h : Blk w b xs) (hx : xs[k]? = some x) : w.cell? ⟨b, k, none⟩ = some (.int .i64 x) := by simp [World.cell?, show w.heap[b]? = _ from h, iA, hx]
theorem Blk.free {w : World} {b : Nat} {xs : List Int} (h : Blk w b xs) (k : Nat) : w.frozen? ⟨b, k, none⟩ = false := by simp [World.frozen?, show w.heap[b]? = _ from h]
theorem Blk.set {w : World} {b : Nat} {xs : List Int} (h : Blk w b xs) (k : Nat) (y : Int) : Blk (w.setCell ⟨b, k, none⟩ (.int .i64 y)) b (xs.set k y) := by
  unfold Blk
  rw [heap_set h, iA_set]
theorem Blk.ints {w : World} {b n : Nat} {xs : List Int} (h : Blk w b xs) (hn : n = xs.length) (hl : n ≤ 4096) : Ints w (.slice (some ⟨b, 0, none⟩) n n) xs := by
  subst hn
  refine ⟨by simp, some ⟨b, 0, none⟩, xs.length, by simp, by simp, by unfold maxLen; omega, (fun h => by cases h), fun a ha j u hu => ?_⟩
  cases ha
  rw [add_in]
  have : (iA xs)[j]? = some u := by unfold iA; simpa using hu
  simp [World.cell?, show w.heap[b]? = _ from h, this]
theorem Parts.blk {w0 w : World} {v : Value} {out : List Nat} (h : Parts w0 w v out) : ∃ b, v = .slice (some ⟨b, 0, none⟩) out.length out.length ∧ Blk w b (natI out) ∧ w0.heap.size ≤ b := by
  obtain ⟨b, h1, h2, h3⟩ := h
  exact ⟨b, h1, by unfold Blk; rw [iA_nat]; exact h2, h3⟩
theorem blk_new (w : World) (xs : List Int) : Blk (w.alloc (.cells (iA xs) 2)) w.heap.size xs := heap_alloc_new _ _
theorem zeros_nums (n : Nat) : nums (List.replicate n 0) = iA (List.replicate n 0) := by
  rw [← iA_nat]; simp [natI]

set_option maxHeartbeats 2000000 in
theorem values_any (ao : Option Addr) (n cap : Nat) (l : List In1) (w : World) (h : Ins w (.slice ao n cap) l) (hn : n = l.length) (h40 : n ≤ 4096) :
    Calls Try.prog 34 #[.slice ao n cap] w fun e w' => ∃ b, e = .returned (.slice (some ⟨b, 0, none⟩) n n) ∧ Blk w' b (valsL l) ∧ w.heap.size ≤ b ∧ Below w.heap.size w w' := by
  have H := Lib.hid h
  have HN := Lib.hid hn
  have MK1 : ∀ w, (Instr.makeSlice 45 (.int .i64 (n : Int)) (.int .i64 (n : Int))).run Try.prog w = .ok (.slice (some ⟨w.heap.size, 0, none⟩) n n) (w.alloc (.cells (iA (List.replicate n 0)) 2)) := fun w => by
    rw [← zeros_nums, ← made_nums]; exact run_make_row' _ _ _ 8 Try.underlying45 Try.infoI64 rfl _ _ n (by omega) (by omega) w
  have hlen : (valsL l).length = (List.replicate n (0 : Int)).length := by rw [vals_len, List.length_replicate, hn]
  have HL := Lib.hid hlen
  have HB0 := Lib.hid (blk_new w (List.replicate n 0))
  have HW0 := Lib.hid ((Below.refl w.heap.size w).alloc (Nat.le_refl _) (.cells (iA (List.replicate n 0)) 2))
  clear h hlen hn
  go_enter Try.func34, Try.ntmps34
  go_wp2
  go_loopw [11] (fun i wr => ∃ k : Nat, k ≤ n ∧ i = .int .i64 (k : Int) ∧ Hid (Blk wr w.heap.size (mixL (valsL l) (List.replicate n 0) k)) ∧ Hid (Below w.heap.size w wr)) (fun i _ => n - (intOf i).toNat)
  case atStart => exact ⟨0, Nat.zero_le _, rfl, Lib.hid (by rw [mix_zero]; exact HB0.out), HW0⟩
  case round =>
    clear HB0 HW0 MK1
    obtain ⟨k, hk, rfl, hm, hb⟩ := hrel
    by_cases hlt : k < n
    · have l1 : (k : Int) < (n : Int) := by omega
      have l0 : (0 : Int) ≤ (k : Int) := by omega
      obtain ⟨bl, off, rfl, hbl, hc⟩ := H.out.get HN.out (by omega)
      obtain ⟨c1, c2⟩ := hc k hlt
      have c1 : wr.cell? ⟨bl, off + k * 2, none⟩ = some (.string (l.getD k default).t) := by rw [hb.out.cell (by show bl < _; omega)]; exact c1
      have c2 : wr.cell? ⟨bl, off + k * 2 + 1, none⟩ = some (.int .i64 (l.getD k default).z) := by rw [hb.out.cell (by show bl < _; omega)]; exact c2
      have HS := Lib.hid (mix_set HL.out (k := k) (by rw [vals_len, ← HN.out]; exact hlt))
      rw [vals_get] at HS
      have c3 := hm.out.cell (mix_get HL.out (k := k) (by rw [vals_len, ← HN.out]; exact hlt))
      have c4 := hm.out.free k
      generalize (l.getD k default).t = t at *
      generalize (l.getD k default).z = z at *
      have HW := Lib.hid hm.out.lt
      have hne : ¬ w.heap.size = wr.heap.size := by have := HW.out; omega
      have hlt' := HW.out
      have HM1 := Lib.hid (hm.out.below ((Below.refl wr.heap.size wr).alloc (Nat.le_refl _) (.cells #[.string t, .int .i64 z] 48)))
      have HW1 := Lib.hid (hb.out.alloc hb.out.size (.cells #[.string t, .int .i64 z] 48))
      have c5 := HM1.out.free k
      clear hc
      go_wp2
      go_roundw
      case rel => exact ⟨k + 1, by omega, by go_num, Lib.hid (by rw [← HS.out]; exact (hm.out.set k z).below ((Below.refl _ _).alloc (Nat.le_refl _) _)), Lib.hid (by have hx := hb.out.setCell (p := ⟨w.heap.size, k, none⟩) (Nat.le_refl _) (.int .i64 z); exact hx.alloc hx.size _)⟩
      case measure => simp [intOf]; omega
    · obtain rfl : k = n := by omega
      go_wp2
      go_ret
      exact ⟨w.heap.size, rfl, by have hx := hm.out; rwa [mix_all (by rw [vals_len, ← HN.out]) (by simp)] at hx, Nat.le_refl _, hb.out⟩

end Go.Proofs.Ytofkeipfkglljaa
