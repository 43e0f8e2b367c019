/-
  When all is paid: plain, to its end.
-/
import Derived.Test.YtofkeipfkglljaaSetP
namespace Go.Proofs.Ytofkeipfkglljaa
open Go Go.RowKit
set_option linter.unusedVariables false
set_option linter.unusedSimpArgs false

def posP (G0 : List Int) (k : Nat) : Int := ((G0.map pos0).take k).sum
theorem posP_step {G0 : List Int} {k : Nat} (hk : k < G0.length) : posP G0 (k + 1) = posP G0 k + pos0 (G0.getD k 0) := by
  unfold posP
  rw [← itake_step (by simpa using hk)]
  congr 1
  simp [List.getD_eq_getElem?_getD, hk]
theorem sum_nonneg : ∀ (l : List Int), (∀ x ∈ l, 0 ≤ x) → 0 ≤ l.sum
  | [], _ => by simp
  | x :: l, h => by
    have h1 := h x (by simp)
    have h2 := sum_nonneg l (fun y hy => h y (by simp [hy]))
    rw [List.sum_cons]; omega
theorem posP_le (G0 : List Int) (k : Nat) : posP G0 k ≤ (G0.map pos0).sum := by
  unfold posP
  have h1 : (G0.map pos0).sum = ((G0.map pos0).take k).sum + ((G0.map pos0).drop k).sum := by rw [← List.sum_append, List.take_append_drop]
  have h2 := sum_nonneg ((G0.map pos0).drop k) (fun x hx => by
    obtain ⟨y, _, rfl⟩ := List.mem_map.1 (List.mem_of_mem_drop hx)
    unfold pos0; omega)
  omega
theorem posP_all (G0 : List Int) : posP G0 G0.length = (G0.map pos0).sum := by
  unfold posP; rw [List.take_of_length_le (by simp)]
/-- How many of the first k get. -/
def cntP (G0 : List Int) (k : Nat) : Nat := ((List.range k).filter fun j => decide (0 < G0.getD j 0)).length
theorem cntP_step (G0 : List Int) (k : Nat) : cntP G0 (k + 1) = cntP G0 k + if 0 < G0.getD k 0 then 1 else 0 := by
  unfold cntP
  rw [List.range_succ, List.filter_append, List.length_append]
  congr 1
  by_cases h : 0 < G0.getD k 0
  · rw [List.filter_cons_of_pos (by simpa using h), if_pos h]; rfl
  · rw [List.filter_cons_of_neg (by simpa using h), if_neg h]; rfl
theorem cnt_two (G0 G : List Int) : done G0 G + cntP G0 G0.length ≤ G0.length := by
  unfold done cntP
  have e : ∀ (L : List Nat), (L.filter fun j => decide (G0.getD j 0 < 0) && decide (G.getD j 0 = 0)).length + (L.filter fun j => decide (0 < G0.getD j 0)).length ≤ L.length := by
    intro L
    induction L with
    | nil => simp
    | cons a L ih =>
      simp only [List.filter_cons, List.length_cons]
      by_cases h1 : G0.getD a 0 < 0
      · have h2 : ¬ 0 < G0.getD a 0 := by omega
        rw [if_neg (show ¬ decide (0 < G0.getD a 0) = true by simpa using h2)]
        split <;> (try simp only [List.length_cons]) <;> omega
      · rw [if_neg (show ¬ (decide (G0.getD a 0 < 0) && decide (G.getD a 0 = 0)) = true by simp only [Bool.and_eq_true, decide_eq_true_eq]; exact fun h => h1 h.1)]
        split <;> (try simp only [List.length_cons]) <;> omega
  have := e (List.range G0.length)
  rwa [List.length_range] at this

/-- Behind round k. -/
structure AI (l : List In1) (G0 : List Int) (S : Int) (k : Nat) (G : List Int) (D : List De) : Prop where
  neg : negS G = negS G0 - S - posP G0 k
  len : G.length = l.length
  g : ∀ j, (0 ≤ G0.getD j 0 → G.getD j 0 = G0.getD j 0) ∧ G0.getD j 0 ≤ G.getD j 0 ∧ (G0.getD j 0 < 0 → G.getD j 0 ≤ 0)
  nt : ∀ j, j < l.length → (G0.getD j 0 < 0 → netD D (l.getD j default).t = G0.getD j 0 - G.getD j 0) ∧ (0 ≤ G0.getD j 0 → j < k → netD D (l.getD j default).t = G0.getD j 0) ∧ (0 ≤ G0.getD j 0 → k ≤ j → netD D (l.getD j default).t = 0)
  nem : netD D emp = S
  good : ∀ x ∈ D, Good l G0 x
  cnt : D.length ≤ done G0 G + 1 + cntP G0 k

/-- What is asked of the numbers. -/
structure Bal (l : List In1) (G0 : List Int) (S : Int) : Prop where
  nm : Named l
  len : G0.length = l.length
  sum : G0.sum = -S
  s0 : 0 ≤ S
  s1 : S ≤ 1099511627776
  bd : ∀ j, G0.getD j 0 ≤ 4398046511104

theorem si_fin {l : List In1} {G0 : List Int} {t : ByteArray} {s0 s : PS} (h : SI l G0 t s0 l.length s) (hR : s0.n ≤ negS s0.G) : s.n = 0 := by
  rcases Int.lt_or_le 0 s.n with h1 | h1
  · have h2 := neg_zero (G := s.G) (fun j hj => h.d h1 j (by rw [← h.len]; exact hj))
    have h3 := h.neg
    have h4 := h.n0
    omega
  · have := h.n0; omega

theorem ai_zero {l : List In1} {G0 : List Int} {S : Int} (h : Bal l G0 S) : AI l G0 S 0 (payAll l G0 S 0).G (payAll l G0 S 0).D := by
  have hp0 : posP G0 0 = 0 := by simp [posP]
  have hc0 : cntP G0 0 = 0 := by simp [cntP]
  have htot := pos_neg G0
  have hle := posP_le G0 0
  rw [h.sum] at htot
  show AI l G0 S 0 (scanTo l emp ⟨G0, S, []⟩ l.length).G (scanTo l emp ⟨G0, S, []⟩ l.length).D
  by_cases hS : 0 < S
  · have hi := si_scan (l := l) (G0 := G0) (t := emp) (s0 := ⟨G0, S, []⟩) h.nm h.len h.len hS (fun j hj => hj) l.length (Nat.le_refl _)
    have hn := si_fin hi (by show S ≤ negS G0; omega)
    generalize scanTo l emp ⟨G0, S, []⟩ l.length = s at hi hn
    obtain ⟨i1, i2, i3, i4, i5, i6, i7, i8, i9, i10, i11⟩ := hi
    dsimp only at i1 i3 i5 i7 i8 i9 i10 i11
    refine ⟨by rw [hp0]; omega, i4, i5, fun j hj => ?_, ?_, fun x hx => ?_, ?_⟩
    · obtain ⟨q1, q2⟩ := i7 j hj
      have q3 := q2 (fun e => h.nm.em j hj e.symm)
      have q4 : netD [] (l.getD j default).t = 0 := rfl
      rw [q4] at q3
      refine ⟨fun hj2 => by omega, fun _ hk => by omega, fun hj2 _ => ?_⟩
      have := (i5 j).1 hj2
      omega
    · have q1 := i8.1 rfl
      have q2 : netD [] emp = 0 := rfl
      rw [q2] at q1; omega
    · rcases i9 x hx with hx | ⟨a1, a2, a3, a4, j, a5, a6, a7⟩
      · simp at hx
      · exact ⟨a1, by have := h.s1; omega, a3, ⟨j, a5, a6, a7⟩, .inl a4⟩
    · rw [if_pos hn] at i10
      have : ([] : List De).length = 0 := rfl
      omega
  · have hS0 : S = 0 := by have := h.s0; omega
    have e : scanTo l emp ⟨G0, S, []⟩ l.length = ⟨G0, S, []⟩ := scan_skip (c := 0) (Nat.zero_le _) (fun j _ _ => .inl (by show S ≤ 0; omega))
    rw [e]
    refine ⟨by rw [hp0]; show negS G0 = _; omega, h.len, fun j => ⟨fun _ => rfl, Int.le_refl _, fun h => by show G0.getD j 0 ≤ 0; omega⟩, fun j hj => ⟨fun _ => ?_, fun _ hk => by omega, fun _ _ => rfl⟩, by rw [hS0]; rfl, fun x hx => by simp at hx, Nat.zero_le _⟩
    show (0 : Int) = G0.getD j 0 - G0.getD j 0
    omega

theorem ai_step {l : List In1} {G0 : List Int} {S : Int} (h : Bal l G0 S) {k : Nat} (hk : k < l.length) (IH : AI l G0 S k (payAll l G0 S k).G (payAll l G0 S k).D) : AI l G0 S (k + 1) (payAll l G0 S (k + 1)).G (payAll l G0 S (k + 1)).D := by
  have hp0 := posP_step (G0 := G0) (k := k) (by rw [h.len]; exact hk)
  have hc0 := cntP_step G0 k
  have htot := pos_neg G0
  have hle := posP_le G0 (k + 1)
  rw [h.sum] at htot
  show AI l G0 S (k + 1) (scanTo l (l.getD k default).t ⟨(payAll l G0 S k).G, (payAll l G0 S k).G.getD k 0, (payAll l G0 S k).D⟩ l.length).G (scanTo l (l.getD k default).t ⟨(payAll l G0 S k).G, (payAll l G0 S k).G.getD k 0, (payAll l G0 S k).D⟩ l.length).D
  generalize (payAll l G0 S k).G = G at IH
  generalize (payAll l G0 S k).D = D at IH
  obtain ⟨j1, j2, j3, j4, j5, j6, j7⟩ := IH
  have hneg : ∀ j, G.getD j 0 < 0 → G0.getD j 0 < 0 := fun j hj => by
    rcases Int.lt_or_le (G0.getD j 0) 0 with h1 | h1
    · exact h1
    · have := (j3 j).1 h1; omega
  by_cases hS : 0 < G.getD k 0
  · have hk0 : G.getD k 0 = G0.getD k 0 := by
      rcases Int.lt_or_le (G0.getD k 0) 0 with h1 | h1
      · have := (j3 k).2.2 h1; omega
      · exact (j3 k).1 h1
    have hpos : pos0 (G0.getD k 0) = G0.getD k 0 := by unfold pos0; omega
    have hi := si_scan (l := l) (G0 := G0) (t := (l.getD k default).t) (s0 := ⟨G, G.getD k 0, D⟩) h.nm j2 h.len hS hneg l.length (Nat.le_refl _)
    have hn := si_fin hi (by show G.getD k 0 ≤ negS G; omega)
    generalize scanTo l (l.getD k default).t ⟨G, G.getD k 0, D⟩ l.length = s at hi hn
    obtain ⟨i1, i2, i3, i4, i5, i6, i7, i8, i9, i10, i11⟩ := hi
    dsimp only at i1 i3 i5 i7 i8 i9 i10 i11
    refine ⟨by omega, i4, fun j => ?_, fun j hj => ?_, ?_, fun x hx => ?_, ?_⟩
    · obtain ⟨q1, q2, q3⟩ := i5 j
      obtain ⟨r1, r2, r3⟩ := j3 j
      refine ⟨fun h0 => ?_, by omega, fun h0 => ?_⟩
      · have e1 := r1 h0
        have e2 := q1 (by omega)
        omega
      · rcases Int.lt_or_le (G.getD j 0) 0 with h1 | h1
        · exact q3 h1
        · have := q1 h1
          have := r3 h0
          omega
    · obtain ⟨q1, q2⟩ := i7 j hj
      obtain ⟨r1, r2, r3⟩ := j4 j hj
      obtain ⟨u1, u2, u3⟩ := i5 j
      obtain ⟨t1, t2, t3⟩ := j3 j
      by_cases e : j = k
      · subst e
        have q3 := q1 rfl
        refine ⟨fun h0 => by omega, fun h0 _ => ?_, fun _ _ => by omega⟩
        have e1 := r3 h0 (Nat.le_refl _)
        have e2 := u1 (by omega)
        omega
      · have q3 := q2 (fun e2 => e (h.nm.ne k j hk hj e2).symm)
        refine ⟨fun h0 => ?_, fun h0 hlt => ?_, fun h0 hlt => ?_⟩
        · have e1 := r1 h0; omega
        · have e1 := r2 h0 (by omega)
          have e2 := t1 h0
          have e3 := u1 (by omega)
          omega
        · have e1 := r3 h0 (by omega)
          have e2 := t1 h0
          have e3 := u1 (by omega)
          omega
    · have q1 := i8.2 (h.nm.em k hk)
      omega
    · rcases i9 x hx with hx | ⟨a1, a2, a3, a4, j, a5, a6, a7⟩
      · exact j6 x hx
      · exact ⟨a1, by have := h.bd k; omega, a3, ⟨j, a5, a6, hneg j a7⟩, .inr ⟨k, hk, a4, by omega⟩⟩
    · rw [if_pos hn] at i10
      rw [hc0, if_pos (by omega)]
      omega
  · have hpos : pos0 (G0.getD k 0) = 0 := by
      unfold pos0
      rcases Int.lt_or_le (G0.getD k 0) 0 with h1 | h1
      · omega
      · have := (j3 k).1 h1; omega
    have e : scanTo l (l.getD k default).t ⟨G, G.getD k 0, D⟩ l.length = ⟨G, G.getD k 0, D⟩ := scan_skip (c := 0) (Nat.zero_le _) (fun j _ _ => .inl (by show G.getD k 0 ≤ 0; omega))
    rw [e]
    refine ⟨by show negS G = _; omega, j2, j3, fun j hj => ?_, j5, j6, by rw [hc0]; show D.length ≤ done G0 G + 1 + _; omega⟩
    obtain ⟨r1, r2, r3⟩ := j4 j hj
    refine ⟨r1, fun h0 hlt => ?_, fun h0 hlt => r3 h0 (by omega)⟩
    by_cases e : j = k
    · subst e
      have e1 := r3 h0 (Nat.le_refl _)
      have e2 := (j3 j).1 h0
      show netD D _ = _
      omega
    · exact r2 h0 (by omega)

theorem ai_all {l : List In1} {G0 : List Int} {S : Int} (h : Bal l G0 S) : ∀ k, k ≤ l.length → AI l G0 S k (payAll l G0 S k).G (payAll l G0 S k).D
  | 0, _ => ai_zero h
  | k + 1, hk => ai_step h (by omega) (ai_all h k (by omega))

theorem neg_none : ∀ {G : List Int}, negS G = 0 → ∀ j, 0 ≤ G.getD j 0
  | [], _, j => by simp
  | x :: G, h, j => by
    have h0 : ∀ (G : List Int), 0 ≤ negS G := fun G => sum_nonneg _ (fun y hy => by obtain ⟨z, _, rfl⟩ := List.mem_map.1 hy; unfold neg0; omega)
    have h1 : negS (x :: G) = neg0 x + negS G := by unfold negS; rw [List.map_cons, List.sum_cons]
    have h2 := h0 G
    have h3 : 0 ≤ neg0 x := by unfold neg0; omega
    cases j with
    | zero => simp only [List.getD_cons_zero]; unfold neg0 at h1; omega
    | succ j => simp only [List.getD_cons_succ]; exact neg_none (by omega) j

/-- All is settled. -/
theorem settled {l : List In1} {G0 : List Int} {S : Int} (h : Bal l G0 S) : (∀ x ∈ (payAll l G0 S l.length).D, Good l G0 x) ∧ (∀ j, j < l.length → netD (payAll l G0 S l.length).D (l.getD j default).t = G0.getD j 0) ∧ netD (payAll l G0 S l.length).D emp = S ∧ (payAll l G0 S l.length).D.length ≤ l.length + 1 := by
  obtain ⟨j1, j2, j3, j4, j5, j6, j7⟩ := ai_all h l.length (Nat.le_refl _)
  have htot := pos_neg G0
  rw [h.sum] at htot
  have hall := posP_all G0
  rw [h.len] at hall
  rw [hall] at j1
  have hz := neg_none (G := (payAll l G0 S l.length).G) (by omega)
  have hct := cnt_two G0 (payAll l G0 S l.length).G
  rw [h.len] at hct
  refine ⟨j6, fun j hj => ?_, j5, by omega⟩
  obtain ⟨r1, r2, r3⟩ := j4 j hj
  rcases Int.lt_or_le (G0.getD j 0) 0 with h1 | h1
  · have := r1 h1
    have := (j3 j).2.2 h1
    have := hz j
    omega
  · exact r2 h1 hj
end Go.Proofs.Ytofkeipfkglljaa
