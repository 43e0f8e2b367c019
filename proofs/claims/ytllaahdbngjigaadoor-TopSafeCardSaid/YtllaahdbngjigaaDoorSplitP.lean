/-
  A total shared by weights, to the last unit: plain numbers.
-/
import Derived.Test.YtllaahdbngjigaaDoorSortP
namespace Go.Proofs.YtllaahdbngjigaaDoor
set_option linter.unusedVariables false
set_option linter.unusedSimpArgs false

def ptsL (T : Nat) (W : List Nat) : List Nat := W.map fun x => T * x / W.sum
def rtsL (T : Nat) (W : List Nat) : List Nat := W.map fun x => T * x % W.sum
def leftL (T : Nat) (W : List Nat) : Nat := T - (ptsL T W).sum
def keyL (rs : List Nat) (x : Nat) : Nat := rs.getD x 0
/-- The parts, by an order of the places. -/
def outL (T : Nat) (W ys : List Nat) (m : Nat) : List Nat := (List.range W.length).map fun i => (ptsL T W).getD i 0 + if i ∈ ys.take m then 1 else 0
/-- What a split is: the rests, greatest first, of alike ones the first, tell who gets one more. -/
def IsSplit (T : Nat) (W out : List Nat) : Prop := ∃ ys, ys.Perm (List.range W.length) ∧ Srtd (keyL (rtsL T W)) ys ∧ out = outL T W ys (leftL T W)

theorem sum_div (T S : Nat) : ∀ W : List Nat, S * (W.map fun x => T * x / S).sum + (W.map fun x => T * x % S).sum = T * W.sum
  | [] => by simp
  | x :: W => by
    have h := sum_div T S W
    have h1 := Nat.div_add_mod (T * x) S
    simp only [List.map_cons, List.sum_cons, Nat.mul_add]
    omega
theorem sum_lt (S : Nat) (hS : 0 < S) : ∀ W : List Nat, W ≠ [] → (∀ x ∈ W, x < S) → W.sum < W.length * S
  | [], h, _ => absurd rfl h
  | x :: W, _, hx => by
    have h1 := hx x (by simp)
    rw [List.sum_cons, List.length_cons, Nat.add_mul]
    rcases List.eq_nil_or_concat W with rfl | ⟨W', y, rfl⟩
    · simp; omega
    · have h2 := sum_lt S hS (W'.concat y) (by simp) (fun z hz => hx z (List.mem_cons_of_mem _ hz))
      omega
theorem le_sum {W : List Nat} {x : Nat} (h : x ∈ W) : x ≤ W.sum := by
  induction W with
  | nil => cases h
  | cons y W ih =>
    rw [List.sum_cons]
    rcases List.mem_cons.1 h with rfl | h
    · omega
    · have := ih h; omega

theorem sum_bd (M : Nat) : ∀ l : List Nat, (∀ x ∈ l, x ≤ M) → l.sum ≤ l.length * M
  | [], _ => by simp
  | a :: l, hl => by
    rw [List.sum_cons, List.length_cons, Nat.add_mul]
    have h1 := sum_bd M l (fun x hx => hl x (List.mem_cons_of_mem _ hx))
    have h2 := hl a (by simp)
    omega
theorem sum_bd2 {W : List Nat} (h : ∀ x ∈ W, x ≤ 1099511627776) (hl : W.length ≤ 4096) : W.sum ≤ 4503599627370496 :=
  Nat.le_trans (sum_bd _ W h) (Nat.le_trans (Nat.mul_le_mul_right _ hl) (by decide))

theorem pts_le (T : Nat) (W : List Nat) (hS : 0 < W.sum) : (ptsL T W).sum ≤ T := by
  have h := sum_div T W.sum W
  have h2 : W.sum * (ptsL T W).sum ≤ W.sum * T := by
    rw [Nat.mul_comm W.sum T]
    show W.sum * (W.map fun x => T * x / W.sum).sum ≤ _
    omega
  exact Nat.le_of_mul_le_mul_left h2 hS
theorem left_mul (T : Nat) (W : List Nat) (hS : 0 < W.sum) : leftL T W * W.sum = (rtsL T W).sum := by
  have h := sum_div T W.sum W
  have h2 := pts_le T W hS
  unfold leftL
  rw [Nat.sub_mul, ← h, Nat.mul_comm (ptsL T W).sum]
  show _ - W.sum * (W.map fun x => T * x / W.sum).sum = (W.map fun x => T * x % W.sum).sum
  omega
theorem left_lt (T : Nat) (W : List Nat) (hS : 0 < W.sum) : leftL T W < W.length := by
  have hW : W ≠ [] := by intro e; rw [e] at hS; simp at hS
  have h1 := left_mul T W hS
  have h2 := sum_lt W.sum hS (rtsL T W) (by unfold rtsL; simpa using hW) (fun x hx => by
    obtain ⟨y, _, rfl⟩ := List.mem_map.1 hx
    exact Nat.mod_lt _ hS)
  rw [show (rtsL T W).length = W.length by unfold rtsL; simp] at h2
  rw [← h1] at h2
  exact Nat.lt_of_mul_lt_mul_right h2
theorem pts_take (T : Nat) (W : List Nat) (hS : 0 < W.sum) (k : Nat) : ((ptsL T W).take k).sum ≤ T := by
  have h := List.take_append_drop k (ptsL T W)
  have h2 := pts_le T W hS
  rw [← h, List.sum_append] at h2
  omega
theorem pt_le {T x S : Nat} (hx : x ≤ S) (hS : 0 < S) : T * x / S ≤ T := by
  rw [Nat.div_le_iff_le_mul_add_pred hS, Nat.mul_comm S T]
  have := Nat.mul_le_mul_left T hx
  omega
theorem hi_lt {T x S : Nat} (hT : T < 18446744073709551616) (hx : x ≤ S) (hS : 0 < S) : T * x / 18446744073709551616 < S := by
  rw [Nat.div_lt_iff_lt_mul (by decide), Nat.mul_comm S]
  exact Nat.lt_of_le_of_lt (Nat.mul_le_mul_left T hx) (Nat.mul_lt_mul_of_pos_right hT hS)

/-- A list filled from the left. -/
theorem pre_set {l : List Nat} {k n x : Nat} (hl : l.length = n) (hx : l[k]? = some x) (hk : k < n) : (l.take k ++ List.replicate (n - k) 0).set k x = l.take (k + 1) ++ List.replicate (n - (k + 1)) 0 := by
  obtain ⟨h1, h2⟩ := List.getElem?_eq_some_iff.1 hx
  rw [show n - k = (n - (k + 1)) + 1 by omega, List.replicate_succ, set_mid _ _ 0 x k (by rw [List.length_take]; omega), List.take_succ_eq_append_getElem h1, h2]
  simp
theorem pre_get {l : List Nat} {k n : Nat} (hl : l.length = n) (hk : k < n) : (l.take k ++ List.replicate (n - k) 0)[k]? = some 0 := by
  rw [show n - k = (n - (k + 1)) + 1 by omega, List.replicate_succ]
  exact get_mid _ _ _ _ (by rw [List.length_take]; omega)
theorem pre_len {l : List Nat} {k n : Nat} (hl : l.length = n) (hk : k ≤ n) : (l.take k ++ List.replicate (n - k) 0).length = n := by
  rw [List.length_append, List.length_take, List.length_replicate]; omega

/-- Sorted, an order is one alone. -/
theorem srtd_unique {k : Nat → Nat} : ∀ {xs ys : List Nat}, xs.Perm ys → Srtd k xs → Srtd k ys → xs = ys
  | [], ys, h, _, _ => by simpa using h
  | x :: xs, [], h, _, _ => by simp at h
  | x :: xs, y :: ys, h, hx, hy => by
    have hxy : x = y := by
      rcases Nat.lt_or_ge 0 (if x = y then 1 else 0) with _ | _
      · by_cases e : x = y
        · exact e
        · simp_all
      · by_cases e : x = y
        · exact e
        · have h1 : x ∈ ys := by have := h.mem_iff.1 (show x ∈ x :: xs by simp); exact (List.mem_cons.1 this).resolve_left e
          have h2 : y ∈ xs := by have := h.mem_iff.2 (show y ∈ y :: ys by simp); exact (List.mem_cons.1 this).resolve_left (fun e' => e e'.symm)
          exact ((List.pairwise_cons.1 hx).1 y h2).asymm ((List.pairwise_cons.1 hy).1 x h1) |>.elim
    subst hxy
    rw [srtd_unique (List.perm_cons x |>.1 h) (List.pairwise_cons.1 hx).2 (List.pairwise_cons.1 hy).2]
theorem IsSplit.unique {T : Nat} {W a b : List Nat} (ha : IsSplit T W a) (hb : IsSplit T W b) : a = b := by
  obtain ⟨ys, p, s, rfl⟩ := ha
  obtain ⟨zs, p', s', rfl⟩ := hb
  rw [srtd_unique (p.trans p'.symm) s s']
theorem IsSplit.len {T : Nat} {W a : List Nat} (h : IsSplit T W a) : a.length = W.length := by
  obtain ⟨ys, p, s, rfl⟩ := h
  simp [outL]

/-- One more for the next one of the order. -/
theorem outL_step {T : Nat} {W ys : List Nat} {k i : Nat} (hp : ys.Perm (List.range W.length)) (hk : ys[k]? = some i) : (outL T W ys k).set i ((outL T W ys k).getD i 0 + 1) = outL T W ys (k + 1) := by
  obtain ⟨hkl, hki⟩ := List.getElem?_eq_some_iff.1 hk
  have hi : i < W.length := List.mem_range.1 (hp.mem_iff.1 (List.mem_of_getElem? hk))
  have hnd : ys.Nodup := hp.nodup_iff.2 List.nodup_range
  have e1 : ys.take (k + 1) = ys.take k ++ [i] := by rw [List.take_succ_eq_append_getElem hkl, hki]
  have hni : i ∉ ys.take k := by
    have := hnd.sublist (List.take_sublist (k + 1) ys)
    rw [e1, List.nodup_append] at this
    intro h
    exact this.2.2 i h i (by simp) rfl
  have hlen : (outL T W ys k).length = W.length := by simp [outL]
  have hget : ∀ m j, j < W.length → (outL T W ys m).getD j 0 = (ptsL T W).getD j 0 + if j ∈ ys.take m then 1 else 0 := by
    intro m j hj
    simp [outL, hj]
  apply List.ext_getElem?
  intro j
  by_cases hj : j < W.length
  · have h2 : (outL T W ys (k + 1))[j]? = some ((ptsL T W).getD j 0 + if j ∈ ys.take (k + 1) then 1 else 0) := by simp [outL, hj]
    rw [h2]
    by_cases hji : j = i
    · subst hji
      rw [List.getElem?_set_self (by omega), hget k j hj, if_neg hni, e1, if_pos (by simp)]
    · rw [List.getElem?_set_ne (fun e => hji e.symm)]
      have h3 : (outL T W ys k)[j]? = some ((ptsL T W).getD j 0 + if j ∈ ys.take k then 1 else 0) := by simp [outL, hj]
      rw [h3, e1]
      simp [hji]
  · rw [List.getElem?_eq_none (by rw [List.length_set, hlen]; omega), List.getElem?_eq_none (by simp [outL]; omega)]
theorem outL_zero (T : Nat) (W ys : List Nat) : outL T W ys 0 = ptsL T W := by
  apply List.ext_getElem?
  intro j
  by_cases hj : j < W.length
  · have hj' : j < (ptsL T W).length := by unfold ptsL; simpa using hj
    simp [outL, hj, hj']
  · rw [List.getElem?_eq_none (by simp [outL]; omega), List.getElem?_eq_none (by unfold ptsL; simp; omega)]

theorem outL_get {T : Nat} {W ys : List Nat} {m j : Nat} (hj : j < W.length) : (outL T W ys m)[j]? = some ((ptsL T W).getD j 0 + if j ∈ ys.take m then 1 else 0) := by simp [outL, hj]
theorem outL_step' {T : Nat} {W ys : List Nat} {k i x : Nat} (hp : ys.Perm (List.range W.length)) (hk : ys[k]? = some i) (hx : (outL T W ys k)[i]? = some x) : (outL T W ys k).set i (x + 1) = outL T W ys (k + 1) := by
  rw [← outL_step hp hk, List.getD_eq_getElem?_getD, hx]; rfl
theorem outL_le {T : Nat} {W ys : List Nat} {m j x : Nat} (hS : 0 < W.sum) (hx : (outL T W ys m)[j]? = some x) : x ≤ T + 1 := by
  have hj : j < W.length := by
    have := (List.getElem?_eq_some_iff.1 hx).1
    simpa [outL] using this
  rw [outL_get hj] at hx
  have h1 : (ptsL T W).getD j 0 ≤ T := by
    have e : (ptsL T W).getD j 0 = T * W[j] / W.sum := by unfold ptsL; simp [hj]
    rw [e]
    exact pt_le (le_sum (List.getElem_mem _)) hS
  have h2 : (if j ∈ ys.take m then 1 else 0) ≤ 1 := by split <;> omega
  have := Option.some.inj hx
  omega

/-- Nothing shared: nothing each. -/
theorem split_zero (W : List Nat) : IsSplit 0 W (List.replicate W.length 0) := by
  refine ⟨List.range W.length, List.Perm.refl _, ?_, ?_⟩
  · refine List.Pairwise.imp ?_ List.pairwise_lt_range
    intro a b hab
    right
    refine ⟨?_, hab⟩
    have : ∀ x, keyL (rtsL 0 W) x = 0 := fun x => by
      unfold keyL rtsL
      simp only [Nat.zero_mul, Nat.zero_mod]
      rcases Nat.lt_or_ge x W.length with h | h <;> simp [h]
    rw [this, this]
  · have h1 : leftL 0 W = 0 := by simp [leftL]
    rw [h1, outL_zero]
    unfold ptsL
    simp only [Nat.zero_mul, Nat.zero_div]
    exact (List.eq_replicate_iff.2 ⟨by simp, by simp⟩).symm
end Go.Proofs.YtllaahdbngjigaaDoor
