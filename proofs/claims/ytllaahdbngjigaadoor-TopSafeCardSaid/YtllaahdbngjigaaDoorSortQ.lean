/-
  Go's stable sort, block by block: plain lists.
-/
import Derived.Test.YtllaahdbngjigaaDoorSortP
namespace Go.Proofs.YtllaahdbngjigaaDoor
set_option linter.unusedVariables false
set_option linter.unusedSimpArgs false

/-- The j-th run of s. -/
def run (s j : Nat) (xs : List Nat) : List Nat := (xs.drop (j * s)).take s
/-- It is sorted, and holds what it held at first. -/
def Gd (k : Nat → Nat) (n s j : Nat) (xs : List Nat) : Prop := Srtd k (run s j xs) ∧ (run s j xs).Perm (List.range' (j * s) (min s (n - j * s)))

theorem run_take {s j a : Nat} {xs ys : List Nat} (h : xs.take a = ys.take a) (hj : j * s + s ≤ a) : run s j xs = run s j ys := by
  have e : ∀ zs : List Nat, run s j zs = ((zs.take a).drop (j * s)).take s := fun zs => by
    unfold run
    rw [List.drop_take, List.take_take, Nat.min_eq_left (by omega)]
  rw [e xs, e ys, h]
theorem run_drop {s j b : Nat} {xs ys : List Nat} (h : xs.drop b = ys.drop b) (hj : b ≤ j * s) : run s j xs = run s j ys := by
  have e : ∀ zs : List Nat, run s j zs = ((zs.drop b).drop (j * s - b)).take s := fun zs => by
    unfold run
    rw [List.drop_drop, show b + (j * s - b) = j * s by omega]
  rw [e xs, e ys, h]
theorem Gd.of_eq {k : Nat → Nat} {n s j : Nat} {xs ys : List Nat} (h : Gd k n s j xs) (e : run s j xs = run s j ys) : Gd k n s j ys := by
  unfold Gd at *; rw [← e]; exact h
theorem Gd.past {k : Nat → Nat} {n s j : Nat} {xs : List Nat} (hl : xs.length = n) (h : n ≤ j * s) : Gd k n s j xs := by
  unfold Gd run
  rw [List.drop_eq_nil_of_le (by omega), show n - j * s = 0 by omega]
  simp
/-- The midst replaced. -/
theorem mid_take {A W Z xs : List Nat} {a : Nat} (ha : a = A.length) (hA : A = xs.take a) : (A ++ W ++ Z).take a = xs.take a := by
  rw [List.append_assoc, List.take_left' ha.symm]; exact hA
theorem mid_drop {A W Z xs : List Nat} {b : Nat} (hb : b = A.length + W.length) (hZ : Z = xs.drop b) : (A ++ W ++ Z).drop b = xs.drop b := by
  rw [List.drop_left' (by simp; omega)]; exact hZ
theorem mid_run {A W Z : List Nat} {s j : Nat} (ha : j * s = A.length) (hw : W.length = s ∨ (W.length ≤ s ∧ Z = [])) : run s j (A ++ W ++ Z) = W := by
  unfold run
  rw [List.append_assoc, List.drop_left' ha.symm]
  rcases hw with hw | ⟨hw, rfl⟩
  · rw [List.take_left' hw]
  · rw [List.append_nil, List.take_of_length_le hw]

theorem split3 (xs : List Nat) (a b : Nat) (hab : a ≤ b) : xs.take a ++ (xs.drop a).take (b - a) ++ xs.drop b = xs := by
  have h1 : (xs.drop a).take (b - a) ++ (xs.drop a).drop (b - a) = xs.drop a := List.take_append_drop _ _
  rw [List.drop_drop, show a + (b - a) = b by omega] at h1
  rw [List.append_assoc, h1, List.take_append_drop]

/-- One insertion sort more. -/
theorem ph1_step {k : Nat → Nat} {n c a : Nat} {xs W : List Nat} (hl : xs.length = n) (ha : a = c * 20) (hb : a + 20 ≤ n) (hG : ∀ j, j < c → Gd k n 20 j xs) (hR : xs.drop a = List.range' a (n - a))
    (hP : W.Perm (List.range' a 20)) (hS : Srtd k W) :
    (∀ j, j < c + 1 → Gd k n 20 j (xs.take a ++ W ++ xs.drop (a + 20))) ∧ (xs.take a ++ W ++ xs.drop (a + 20)).drop (a + 20) = List.range' (a + 20) (n - (a + 20)) ∧ (xs.take a ++ W ++ xs.drop (a + 20)).length = n := by
  have lW : W.length = 20 := by rw [hP.length_eq]; simp
  have lA : (xs.take a).length = a := by rw [List.length_take]; omega
  refine ⟨fun j hj => ?_, ?_, by simp [lA, lW]; omega⟩
  · by_cases hjc : j < c
    · refine (hG j hjc).of_eq (run_take (a := a) (mid_take lA.symm rfl).symm ?_)
      have := Nat.mul_le_mul_right 20 (show j + 1 ≤ c by omega)
      rw [Nat.succ_mul] at this; omega
    · obtain rfl : j = c := by omega
      unfold Gd
      rw [mid_run (by omega) (.inl lW), ← ha, Nat.min_eq_left (by omega)]
      exact ⟨hS, hP⟩
  · rw [List.drop_left' (by simp [lA, lW])]
    have := congrArg (List.drop 20) hR
    rw [List.drop_drop, List.drop_range'] at this
    rw [this, Nat.sub_sub, Nat.mul_one]
theorem ph1_last {k : Nat → Nat} {n c a : Nat} {xs W : List Nat} (hl : xs.length = n) (ha : a = c * 20) (han : a ≤ n) (hb : n < a + 20) (hG : ∀ j, j < c → Gd k n 20 j xs)
    (hP : W.Perm (List.range' a (n - a))) (hS : Srtd k W) : (∀ j, Gd k n 20 j (xs.take a ++ W ++ [])) ∧ (xs.take a ++ W ++ []).length = n := by
  have lW : W.length = n - a := by rw [hP.length_eq]; simp
  have lA : (xs.take a).length = a := by rw [List.length_take]; omega
  have hlen : (xs.take a ++ W ++ []).length = n := by simp [lA, lW]; omega
  refine ⟨fun j => ?_, hlen⟩
  rcases Nat.lt_trichotomy j c with hjc | rfl | hjc
  · refine (hG j hjc).of_eq (run_take (a := a) (mid_take lA.symm rfl).symm ?_)
    have := Nat.mul_le_mul_right 20 (show j + 1 ≤ c by omega)
    rw [Nat.succ_mul] at this; omega
  · unfold Gd
    rw [mid_run (by omega) (.inr ⟨by omega, rfl⟩), ← ha, Nat.min_eq_right (by omega)]
    exact ⟨hS, hP⟩
  · refine Gd.past hlen ?_
    have := Nat.mul_le_mul_right 20 (show c + 1 ≤ j by omega)
    rw [Nat.succ_mul] at this; omega

/-- The two runs that are merged next. -/
theorem ph2_runs {k : Nat → Nat} {n s c a b : Nat} {xs : List Nat} (hl : xs.length = n) (ha : a = c * (2 * s)) (hs : 0 < s) (hb : b ≤ n) (hmb : a + s < b) (hbs : b ≤ a + 2 * s) (hbe : b = a + 2 * s ∨ b = n) (hG : ∀ j, 2 * c ≤ j → Gd k n s j xs) :
    ∃ U V, U.length = s ∧ V.length = b - (a + s) ∧ xs = xs.take a ++ (U ++ V) ++ xs.drop b ∧ Srtd k U ∧ Srtd k V ∧ U.Perm (List.range' a s) ∧ V.Perm (List.range' (a + s) (b - (a + s))) := by
  have e1 : 2 * c * s = a := by rw [ha, Nat.mul_comm 2 c, Nat.mul_assoc]
  have e2 : (2 * c + 1) * s = a + s := by rw [Nat.succ_mul, e1]
  obtain ⟨u1, u2⟩ := hG (2 * c) (Nat.le_refl _)
  obtain ⟨v1, v2⟩ := hG (2 * c + 1) (by omega)
  rw [e1, Nat.min_eq_left (by omega)] at u2
  have hmin : min s (n - (a + s)) = b - (a + s) := by rcases hbe with h | h <;> omega
  rw [e2, hmin] at v2
  have lu : (run s (2 * c) xs).length = s := by rw [u2.length_eq]; simp
  have lv : (run s (2 * c + 1) xs).length = b - (a + s) := by rw [v2.length_eq]; simp
  refine ⟨run s (2 * c) xs, run s (2 * c + 1) xs, lu, lv, ?_, u1, v1, u2, v2⟩
  have hx := split3 xs a b (by omega)
  have hm : (xs.drop a).take (b - a) = run s (2 * c) xs ++ run s (2 * c + 1) xs := by
    have h1 := List.take_append_drop s ((xs.drop a).take (b - a))
    rw [← h1]
    congr 1
    · unfold run; rw [e1, List.take_take, Nat.min_eq_left (by omega)]
    · unfold run
      rw [e2, List.drop_take, List.drop_drop]
      rcases hbe with h | h
      · rw [show b - a - s = s by omega]
      · rw [List.take_of_length_le (by rw [List.length_drop]; omega), List.take_of_length_le (by rw [List.length_drop]; omega)]
  rw [← hm, hx]
theorem range_two (a s t : Nat) : List.range' a s ++ List.range' (a + s) t = List.range' a (s + t) := by
  have := List.range'_append (s := a) (m := s) (n := t) (step := 1)
  rwa [Nat.one_mul] at this
theorem ph2_step {k : Nat → Nat} {n s c a : Nat} {xs U V W : List Nat} (hl : xs.length = n) (ha : a = c * (2 * s)) (hb : a + 2 * s ≤ n) (hD : ∀ j, j < c → Gd k n (2 * s) j xs) (hG : ∀ j, 2 * c ≤ j → Gd k n s j xs)
    (pU : U.Perm (List.range' a s)) (pV : V.Perm (List.range' (a + s) s)) (hP : W.Perm (U ++ V)) (hS : Srtd k W) :
    (∀ j, j < c + 1 → Gd k n (2 * s) j (xs.take a ++ W ++ xs.drop (a + 2 * s))) ∧ (∀ j, 2 * (c + 1) ≤ j → Gd k n s j (xs.take a ++ W ++ xs.drop (a + 2 * s))) ∧ (xs.take a ++ W ++ xs.drop (a + 2 * s)).length = n := by
  have pW : W.Perm (List.range' a (2 * s)) := by
    have := hP.trans (pU.append pV)
    rwa [range_two, ← Nat.two_mul] at this
  have lW : W.length = 2 * s := by rw [pW.length_eq]; simp
  have lA : (xs.take a).length = a := by rw [List.length_take]; omega
  refine ⟨fun j hj => ?_, fun j hj => ?_, by simp [lA, lW]; omega⟩
  · by_cases hjc : j < c
    · refine (hD j hjc).of_eq (run_take (a := a) (mid_take lA.symm rfl).symm ?_)
      have := Nat.mul_le_mul_right (2 * s) (show j + 1 ≤ c by omega)
      rw [Nat.succ_mul] at this; omega
    · obtain rfl : j = c := by omega
      unfold Gd
      rw [mid_run (by omega) (.inl lW), ← ha, Nat.min_eq_left (by omega)]
      exact ⟨hS, pW⟩
  · refine (hG j (by omega)).of_eq (run_drop (b := a + 2 * s) (mid_drop (by omega) rfl).symm ?_)
    have h1 := Nat.mul_le_mul_right s (show 2 * (c + 1) ≤ j from hj)
    have h2 : 2 * (c + 1) * s = a + 2 * s := by rw [Nat.mul_add, Nat.add_mul, ha, Nat.mul_comm 2 c, Nat.mul_assoc]
    omega
theorem ph2_last {k : Nat → Nat} {n s c a : Nat} {xs U V W : List Nat} (hl : xs.length = n) (ha : a = c * (2 * s)) (ham : a + s < n) (hb : n < a + 2 * s) (hD : ∀ j, j < c → Gd k n (2 * s) j xs)
    (pU : U.Perm (List.range' a s)) (pV : V.Perm (List.range' (a + s) (n - (a + s)))) (hP : W.Perm (U ++ V)) (hS : Srtd k W) :
    (∀ j, Gd k n (2 * s) j (xs.take a ++ W ++ xs.drop n)) ∧ (xs.take a ++ W ++ xs.drop n).length = n := by
  have hz : xs.drop n = [] := List.drop_eq_nil_of_le (by omega)
  have pW : W.Perm (List.range' a (n - a)) := by
    have := hP.trans (pU.append pV)
    rwa [range_two, show s + (n - (a + s)) = n - a by omega] at this
  have lW : W.length = n - a := by rw [pW.length_eq]; simp
  have lA : (xs.take a).length = a := by rw [List.length_take]; omega
  have hlen : (xs.take a ++ W ++ xs.drop n).length = n := by simp [lA, lW, hz]; omega
  refine ⟨fun j => ?_, hlen⟩
  rcases Nat.lt_trichotomy j c with hjc | rfl | hjc
  · refine (hD j hjc).of_eq (run_take (a := a) (mid_take lA.symm rfl).symm ?_)
    have := Nat.mul_le_mul_right (2 * s) (show j + 1 ≤ c by omega)
    rw [Nat.succ_mul] at this; omega
  · unfold Gd
    rw [mid_run (by omega) (.inr ⟨by omega, hz⟩), ← ha, Nat.min_eq_right (by omega)]
    exact ⟨hS, pW⟩
  · refine Gd.past hlen ?_
    have := Nat.mul_le_mul_right (2 * s) (show c + 1 ≤ j by omega)
    rw [Nat.succ_mul] at this; omega
theorem ph2_rest {k : Nat → Nat} {n s c a : Nat} {xs : List Nat} (hl : xs.length = n) (ha : a = c * (2 * s)) (han : a ≤ n) (ham : n ≤ a + s) (hD : ∀ j, j < c → Gd k n (2 * s) j xs) (hG : ∀ j, 2 * c ≤ j → Gd k n s j xs) : ∀ j, Gd k n (2 * s) j xs := by
  have e1 : 2 * c * s = a := by rw [ha, Nat.mul_comm 2 c, Nat.mul_assoc]
  intro j
  rcases Nat.lt_trichotomy j c with hjc | rfl | hjc
  · exact hD j hjc
  · obtain ⟨g1, g2⟩ := hG (2 * j) (Nat.le_refl _)
    have e : run (2 * s) j xs = run s (2 * j) xs := by
      unfold run
      rw [e1, ← ha, List.take_of_length_le (by rw [List.length_drop]; omega), List.take_of_length_le (by rw [List.length_drop]; omega)]
    unfold Gd
    rw [e, ← ha]
    rw [e1] at g2
    rw [show min (2 * s) (n - a) = min s (n - a) by omega]
    exact ⟨g1, g2⟩
  · refine Gd.past hl ?_
    have := Nat.mul_le_mul_right (2 * s) (show c + 1 ≤ j by omega)
    rw [Nat.succ_mul] at this; omega
theorem ph_end {k : Nat → Nat} {n s : Nat} {xs : List Nat} (hl : xs.length = n) (hs : n ≤ s) (h : Gd k n s 0 xs) : Srtd k xs ∧ xs.Perm (List.range n) := by
  have e : run s 0 xs = xs := by unfold run; rw [Nat.zero_mul, List.drop_zero, List.take_of_length_le (by omega)]
  unfold Gd at h
  rw [e, Nat.zero_mul, Nat.min_eq_right (by omega), Nat.sub_zero, ← List.range_eq_range'] at h
  exact h
end Go.Proofs.YtllaahdbngjigaaDoor
