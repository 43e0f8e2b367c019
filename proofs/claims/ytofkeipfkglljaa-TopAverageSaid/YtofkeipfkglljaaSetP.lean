/-
  When all is paid: plain.
-/
import Derived.Test.YtofkeipfkglljaaLawOrder
namespace Go.Proofs.Ytofkeipfkglljaa
open Go Go.RowKit
set_option linter.unusedVariables false
set_option linter.unusedSimpArgs false

/-- What one has got, by these debts. -/
def netD : List De → ByteArray → Int
  | [], _ => 0
  | d :: D, u => (if d.t = u then d.z else 0) - (if d.f = u then d.z else 0) + netD D u
theorem net_app : ∀ (A B : List De) (u : ByteArray), netD (A ++ B) u = netD A u + netD B u
  | [], B, u => by simp [netD]
  | d :: A, B, u => by rw [List.cons_append, netD, netD, net_app A B u]; omega
theorem net_one (d : De) (u : ByteArray) : netD [d] u = (if d.t = u then d.z else 0) - (if d.f = u then d.z else 0) := by simp [netD]
def neg0 (x : Int) : Int := max 0 (-x)
def pos0 (x : Int) : Int := max 0 x
def negS (G : List Int) : Int := (G.map neg0).sum
theorem neg_set {G : List Int} {c : Nat} {y : Int} (hc : c < G.length) : negS (G.set c y) = negS G - neg0 (G.getD c 0) + neg0 y := by
  unfold negS
  rw [List.map_set, isum_set _ _ _ (by simpa using hc)]
  congr 2
  simp [List.getD_eq_getElem?_getD, hc]
theorem neg_zero : ∀ {G : List Int}, (∀ j, j < G.length → 0 ≤ G.getD j 0) → negS G = 0
  | [], _ => rfl
  | x :: G, h => by
    have h1 := h 0 (by simp)
    have h2 := neg_zero (G := G) (fun j hj => by have := h (j + 1) (by simpa using hj); simpa using this)
    have h1 : 0 ≤ x := by simpa using h1
    unfold negS at h2 ⊢
    rw [List.map_cons, List.sum_cons, h2]
    unfold neg0; omega
theorem pos_neg : ∀ (G : List Int), G.sum = (G.map pos0).sum - negS G
  | [] => rfl
  | x :: G => by
    have := pos_neg G
    unfold negS at this ⊢
    rw [List.map_cons, List.map_cons, List.sum_cons, List.sum_cons, List.sum_cons]
    unfold neg0 pos0 at *
    omega

/-- Names that tell who is who. -/
structure Named (l : List In1) : Prop where
  ne : ∀ i k, i < l.length → k < l.length → (l.getD i default).t = (l.getD k default).t → i = k
  em : ∀ i, i < l.length → (l.getD i default).t ≠ emp
theorem may_named {l : List In1} (h : mayB l = true) : Named l := by
  obtain ⟨_, _, h3⟩ := (may_iff l).1 h
  have key : ∀ i k, i < k → k < l.length → (l.getD i default).t ≠ (l.getD k default).t := by
    intro i k hik hk e
    have := h3 k hk
    rw [okAt_eq, seen_true (Nat.le_of_lt hk) hik e] at this
    simp at this
  refine ⟨fun i k hi hk e => ?_, fun i hi e => ?_⟩
  · rcases Nat.lt_trichotomy i k with g | g | g
    · exact absurd e (key i k g hk)
    · exact g
    · exact absurd e.symm (key k i g hi)
  · have := h3 i hi
    rw [okAt_eq, e] at this
    have e2 : nameB emp = false := by decide
    rw [e2] at this
    simp at this

/-- A debt as it may be. -/
def Good (l : List In1) (G0 : List Int) (d : De) : Prop :=
  1 ≤ d.z ∧ d.z ≤ 4398046511104 ∧ d.c = emp ∧ (∃ j, j < l.length ∧ d.f = (l.getD j default).t ∧ G0.getD j 0 < 0) ∧ (d.t = emp ∨ ∃ k, k < l.length ∧ d.t = (l.getD k default).t ∧ 0 < G0.getD k 0)

/-- How many have paid all that they owed. -/
def done (G0 G : List Int) : Nat := ((List.range G0.length).filter fun j => decide (G0.getD j 0 < 0) && decide (G.getD j 0 = 0)).length
theorem done_set {G0 G : List Int} {c : Nat} (hc : c < G0.length) (hl : G.length = G0.length) (h0 : G0.getD c 0 < 0) (h1 : G.getD c 0 ≠ 0) : done G0 (G.set c 0) = done G0 G + 1 := by
  unfold done
  have e : ∀ (L : List Nat), L.Nodup → c ∈ L → (L.filter fun j => decide (G0.getD j 0 < 0) && decide ((G.set c 0).getD j 0 = 0)).length = (L.filter fun j => decide (G0.getD j 0 < 0) && decide (G.getD j 0 = 0)).length + 1 := by
    intro L
    induction L with
    | nil => intro _ h; simp at h
    | cons a L ih =>
      intro hn hm
      rw [List.nodup_cons] at hn
      by_cases ha : a = c
      · subst ha
        have e1 : ((G.set a 0).getD a 0 = 0) := by rw [set_getD, if_pos ⟨rfl, by omega⟩]
        have e2 : (L.filter fun j => decide (G0.getD j 0 < 0) && decide ((G.set a 0).getD j 0 = 0)) = L.filter fun j => decide (G0.getD j 0 < 0) && decide (G.getD j 0 = 0) := by
          apply List.filter_congr
          intro j hj
          rw [set_getD, if_neg (by rintro ⟨rfl, _⟩; exact hn.1 hj)]
        rw [List.filter_cons_of_pos (by simp only [Bool.and_eq_true, decide_eq_true_eq]; exact ⟨h0, e1⟩), List.filter_cons_of_neg (by simp only [Bool.and_eq_true, decide_eq_true_eq]; exact fun h => h1 h.2), e2]
        simp
      · have hm' : c ∈ L := by
          rcases List.mem_cons.1 hm with h | h
          · exact absurd h.symm ha
          · exact h
        have := ih hn.2 hm'
        have e1 : (G.set c 0).getD a 0 = G.getD a 0 := by rw [set_getD, if_neg (by rintro ⟨h, _⟩; exact ha h.symm)]
        simp only [List.filter_cons, e1]
        split
        · simp only [List.length_cons, this]
        · exact this
  exact e _ List.nodup_range (List.mem_range.2 hc)
theorem done_same {G0 G : List Int} {c : Nat} {y : Int} (hl : G.length = G0.length) (h1 : G.getD c 0 ≠ 0) : done G0 G ≤ done G0 (G.set c y) := by
  unfold done
  have e : ∀ (L : List Nat), (L.filter fun j => decide (G0.getD j 0 < 0) && decide (G.getD j 0 = 0)).length ≤ (L.filter fun j => decide (G0.getD j 0 < 0) && decide ((G.set c y).getD j 0 = 0)).length := by
    intro L
    induction L with
    | nil => simp
    | cons a L ih =>
      simp only [List.filter_cons]
      by_cases ha : a = c
      · subst ha
        rw [if_neg (by simp only [Bool.and_eq_true, decide_eq_true_eq]; exact fun h => h1 h.2)]
        split
        · simp only [List.length_cons]; omega
        · exact ih
      · have e1 : (G.set c y).getD a 0 = G.getD a 0 := by rw [set_getD, if_neg (by rintro ⟨h, _⟩; exact ha h.symm)]
        rw [e1]
        split
        · simp only [List.length_cons]; omega
        · exact ih
  exact e _

/-- While one is paid. -/
structure SI (l : List In1) (G0 : List Int) (t : ByteArray) (s0 : PS) (c : Nat) (s : PS) : Prop where
  neg : negS s.G - s.n = negS s0.G - s0.n
  n0 : 0 ≤ s.n
  n1 : s.n ≤ s0.n
  len : s.G.length = l.length
  g : ∀ j, (0 ≤ s0.G.getD j 0 → s.G.getD j 0 = s0.G.getD j 0) ∧ s0.G.getD j 0 ≤ s.G.getD j 0 ∧ (s0.G.getD j 0 < 0 → s.G.getD j 0 ≤ 0)
  d : 0 < s.n → ∀ j, j < c → 0 ≤ s.G.getD j 0
  nt : ∀ j, j < l.length → (t = (l.getD j default).t → netD s.D (l.getD j default).t = netD s0.D (l.getD j default).t + (s0.n - s.n) - (s.G.getD j 0 - s0.G.getD j 0)) ∧ (t ≠ (l.getD j default).t → netD s.D (l.getD j default).t = netD s0.D (l.getD j default).t - (s.G.getD j 0 - s0.G.getD j 0))
  nem : (t = emp → netD s.D emp = netD s0.D emp + (s0.n - s.n)) ∧ (t ≠ emp → netD s.D emp = netD s0.D emp)
  good : ∀ x ∈ s.D, x ∈ s0.D ∨ (1 ≤ x.z ∧ x.z ≤ s0.n ∧ x.c = emp ∧ x.t = t ∧ ∃ j, j < l.length ∧ x.f = (l.getD j default).t ∧ s0.G.getD j 0 < 0)
  cnt : s.D.length ≤ s0.D.length + (done G0 s.G - done G0 s0.G) + (if s.n = 0 then 1 else 0)
  mon : done G0 s0.G ≤ done G0 s.G

theorem si_scan {l : List In1} {G0 : List Int} {t : ByteArray} {s0 : PS} (hN : Named l) (hl : s0.G.length = l.length) (hl0 : G0.length = l.length) (hn : 0 < s0.n) (hG : ∀ j, s0.G.getD j 0 < 0 → G0.getD j 0 < 0) : ∀ c, c ≤ l.length → SI l G0 t s0 c (scanTo l t s0 c)
  | 0, _ => by
    refine ⟨rfl, ?_, Int.le_refl _, hl, fun j => ⟨fun _ => rfl, Int.le_refl _, fun h => ?_⟩, fun _ j hj => ?_, fun j hj => ?_, ?_, fun x hx => .inl hx, ?_, Nat.le_refl _⟩
    · show 0 ≤ s0.n; omega
    · show s0.G.getD j 0 ≤ 0; omega
    · omega
    · refine ⟨fun _ => ?_, fun _ => ?_⟩
      · show netD s0.D _ = netD s0.D _ + (s0.n - s0.n) - (s0.G.getD j 0 - s0.G.getD j 0); omega
      · show netD s0.D _ = netD s0.D _ - (s0.G.getD j 0 - s0.G.getD j 0); omega
    · refine ⟨fun _ => ?_, fun _ => rfl⟩
      show netD s0.D _ = netD s0.D _ + (s0.n - s0.n); omega
    · show s0.D.length ≤ _; omega
  | c + 1, hc => by
    have IH := si_scan (t := t) hN hl hl0 hn hG c (by omega)
    rw [scanTo]
    generalize scanTo l t s0 c = s at IH
    by_cases hy : 0 < s.n ∧ s.G.getD c 0 < 0
    · rw [stp_yes hy.1 hy.2]
      obtain ⟨y, hye⟩ : ∃ y, y = s.G.getD c 0 := ⟨_, rfl⟩
      obtain ⟨p, hp⟩ : ∃ p, p = min s.n (-y) := ⟨_, rfl⟩
      rw [← hye, ← hp]
      rw [← hye] at hy
      obtain ⟨i1, i2, i3, i4, i5, i6, i7, i8, i9, i10, i11⟩ := IH
      have hcl : c < s.G.length := by omega
      have hp1 : 1 ≤ p ∧ p ≤ s.n ∧ p ≤ -y ∧ (p = s.n ∨ p = -y) := by omega
      have h0c : s0.G.getD c 0 < 0 := by
        have := (i5 c).1
        rcases Int.lt_or_le (s0.G.getD c 0) 0 with h | h
        · exact h
        · have := this h; omega
      have hnd : (⟨(l.getD c default).t, t, emp, p⟩ : De).z = p := rfl
      refine ⟨?_, by show 0 ≤ s.n - p; omega, by show s.n - p ≤ s0.n; omega, by show (s.G.set c (y + p)).length = _; simpa using i4, ?_, ?_, ?_, ?_, ?_, ?_, ?_⟩
      · show negS (s.G.set c (y + p)) - (s.n - p) = _
        rw [neg_set hcl, ← hye]
        unfold neg0; omega
      · intro j
        show (_ → (s.G.set c (y + p)).getD j 0 = _) ∧ _ ≤ (s.G.set c (y + p)).getD j 0 ∧ (_ → (s.G.set c (y + p)).getD j 0 ≤ 0)
        rw [set_getD]
        obtain ⟨q1, q2, q3⟩ := i5 j
        by_cases e : c = j
        · subst e
          rw [if_pos ⟨rfl, hcl⟩]
          refine ⟨fun h => by omega, by omega, fun _ => by omega⟩
        · rw [if_neg (by rintro ⟨h, _⟩; exact e h)]
          exact ⟨q1, q2, q3⟩
      · intro hn2 j hj
        have hn2 : 0 < s.n - p := hn2
        show 0 ≤ (s.G.set c (y + p)).getD j 0
        rw [set_getD]
        by_cases e : c = j
        · subst e
          rw [if_pos ⟨rfl, hcl⟩]; omega
        · rw [if_neg (by rintro ⟨h, _⟩; exact e h)]
          exact i6 (by omega) j (by omega)
      · intro j hj
        have hone : ∀ u, netD (s.D ++ [⟨(l.getD c default).t, t, emp, p⟩]) u = netD s.D u + ((if t = u then p else 0) - (if (l.getD c default).t = u then p else 0)) := fun u => by rw [net_app, net_one]
        obtain ⟨q1, q2⟩ := i7 j hj
        have hs : (s.G.set c (y + p)).getD j 0 = if c = j ∧ j < s.G.length then y + p else s.G.getD j 0 := set_getD
        by_cases e : c = j
        · subst e
          rw [if_pos (show c = c ∧ c < s.G.length from ⟨rfl, hcl⟩)] at hs
          have ho := hone (l.getD c default).t
          rw [if_pos (show (l.getD c default).t = (l.getD c default).t from rfl)] at ho
          refine ⟨fun ht => ?_, fun ht => ?_⟩
          · rw [if_pos ht] at ho
            have := q1 ht
            show netD (s.D ++ [⟨(l.getD c default).t, t, emp, p⟩]) _ = netD s0.D _ + (s0.n - (s.n - p)) - ((s.G.set c (y + p)).getD c 0 - s0.G.getD c 0)
            rw [ho, hs]; omega
          · rw [if_neg ht] at ho
            have := q2 ht
            show netD (s.D ++ [⟨(l.getD c default).t, t, emp, p⟩]) _ = netD s0.D _ - ((s.G.set c (y + p)).getD c 0 - s0.G.getD c 0)
            rw [ho, hs]; omega
        · rw [if_neg (by rintro ⟨h, _⟩; exact e h)] at hs
          have ho := hone (l.getD j default).t
          rw [if_neg (show ¬ (l.getD c default).t = (l.getD j default).t from fun h => e (hN.ne c j (by omega) hj h))] at ho
          refine ⟨fun ht => ?_, fun ht => ?_⟩
          · rw [if_pos ht] at ho
            have := q1 ht
            show netD (s.D ++ [⟨(l.getD c default).t, t, emp, p⟩]) _ = netD s0.D _ + (s0.n - (s.n - p)) - ((s.G.set c (y + p)).getD j 0 - s0.G.getD j 0)
            rw [ho, hs]; omega
          · rw [if_neg ht] at ho
            have := q2 ht
            show netD (s.D ++ [⟨(l.getD c default).t, t, emp, p⟩]) _ = netD s0.D _ - ((s.G.set c (y + p)).getD j 0 - s0.G.getD j 0)
            rw [ho, hs]; omega
      · have ho : netD (s.D ++ [⟨(l.getD c default).t, t, emp, p⟩]) emp = netD s.D emp + ((if t = emp then p else 0) - (if (l.getD c default).t = emp then p else 0)) := by rw [net_app, net_one]
        rw [if_neg (show ¬ (l.getD c default).t = emp from hN.em c (by omega))] at ho
        refine ⟨fun ht => ?_, fun ht => ?_⟩
        · rw [if_pos ht] at ho
          have := i8.1 ht
          show netD (s.D ++ [⟨(l.getD c default).t, t, emp, p⟩]) emp = netD s0.D emp + (s0.n - (s.n - p))
          rw [ho]; omega
        · rw [if_neg ht] at ho
          have := i8.2 ht
          show netD (s.D ++ [⟨(l.getD c default).t, t, emp, p⟩]) emp = netD s0.D emp
          rw [ho]; omega
      · intro x hx
        rcases List.mem_append.1 hx with hx | hx
        · exact i9 x hx
        · simp at hx; subst hx
          exact .inr ⟨by show 1 ≤ p; omega, by show p ≤ s0.n; omega, rfl, rfl, c, by omega, rfl, h0c⟩
      · show (s.D ++ [_]).length ≤ s0.D.length + (done G0 (s.G.set c (y + p)) - done G0 s0.G) + (if s.n - p = 0 then 1 else 0)
        rw [if_neg (by omega)] at i10
        rw [List.length_append, List.length_singleton]
        by_cases e : p = -y
        · have e3 : y + p = 0 := by omega
          rw [e3, done_set (by omega) (by omega) (hG c h0c) (by rw [← hye]; omega)]
          omega
        · have e4 : s.n - p = 0 := by omega
          rw [if_pos e4]
          have := done_same (G0 := G0) (G := s.G) (c := c) (y := y + p) (by omega) (by rw [← hye]; omega)
          omega
      · show done G0 s0.G ≤ done G0 (s.G.set c (y + p))
        exact Nat.le_trans i11 (done_same (by omega) (by rw [← hye]; omega))
    · rw [stp_no (by omega)]
      obtain ⟨i1, i2, i3, i4, i5, i6, i7, i8, i9, i10, i11⟩ := IH
      refine ⟨i1, i2, i3, i4, i5, fun h j hj => ?_, i7, i8, i9, i10, i11⟩
      by_cases e : j = c
      · subst e; omega
      · exact i6 h j (by omega)
end Go.Proofs.Ytofkeipfkglljaa
