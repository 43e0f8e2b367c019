/-
  Who pays whom: plain.
-/
import Derived.Test.YtofkeipfkglljaaWhole
namespace Go.Proofs.Ytofkeipfkglljaa
open Go Go.RowKit
set_option linter.unusedVariables false
set_option linter.unusedSimpArgs false

/-- A debt. -/
structure De where
  f : ByteArray
  t : ByteArray
  c : ByteArray
  z : Int
instance : Inhabited De := ⟨⟨⟨#[]⟩, ⟨#[]⟩, ⟨#[]⟩, 0⟩⟩
def De.cells (d : De) : List Value := [.string d.f, .string d.t, .string d.c, .int .i64 d.z]
def emp : ByteArray := ⟨#[]⟩

/-- While one is paid: what each gets yet, what is due yet, and the debts so far. -/
structure PS where
  G : List Int
  n : Int
  D : List De
/-- The c-th pays, if it owes. -/
def stp (l : List In1) (t : ByteArray) (c : Nat) (s : PS) : PS :=
  if 0 < s.n ∧ s.G.getD c 0 < 0 then ⟨s.G.set c (s.G.getD c 0 + min s.n (-(s.G.getD c 0))), s.n - min s.n (-(s.G.getD c 0)), s.D ++ [⟨(l.getD c default).t, t, emp, min s.n (-(s.G.getD c 0))⟩]⟩ else s
def scanTo (l : List In1) (t : ByteArray) (s : PS) : Nat → PS
  | 0 => s
  | c + 1 => stp l t c (scanTo l t s c)
theorem stp_no {l : List In1} {t : ByteArray} {c : Nat} {s : PS} (h : s.n ≤ 0 ∨ 0 ≤ s.G.getD c 0) : stp l t c s = s := by
  unfold stp
  rw [if_neg (by omega)]
theorem stp_yes {l : List In1} {t : ByteArray} {c : Nat} {s : PS} (h1 : 0 < s.n) (h2 : s.G.getD c 0 < 0) : stp l t c s = ⟨s.G.set c (s.G.getD c 0 + min s.n (-(s.G.getD c 0))), s.n - min s.n (-(s.G.getD c 0)), s.D ++ [⟨(l.getD c default).t, t, emp, min s.n (-(s.G.getD c 0))⟩]⟩ := by
  unfold stp
  rw [if_pos ⟨h1, h2⟩]
/-- From c on nobody pays. -/
theorem scan_no {l : List In1} {t : ByteArray} {s : PS} {c : Nat} : ∀ d, (∀ j, c ≤ j → j < c + d → (scanTo l t s c).n ≤ 0 ∨ 0 ≤ (scanTo l t s c).G.getD j 0) → scanTo l t s (c + d) = scanTo l t s c
  | 0, _ => rfl
  | d + 1, h => by
    have h1 := scan_no (l := l) (t := t) (s := s) (c := c) d (fun j a b => h j a (by omega))
    show stp l t (c + d) (scanTo l t s (c + d)) = _
    rw [h1]
    exact stp_no (h (c + d) (by omega) (by omega))
theorem scan_skip {l : List In1} {t : ByteArray} {s : PS} {c d : Nat} (hcd : c ≤ d) (h : ∀ j, c ≤ j → j < d → (scanTo l t s c).n ≤ 0 ∨ 0 ≤ (scanTo l t s c).G.getD j 0) : scanTo l t s d = scanTo l t s c := by
  obtain ⟨e, rfl⟩ := Nat.exists_eq_add_of_le hcd
  exact scan_no e h
theorem stp_len (l : List In1) (t : ByteArray) (c : Nat) (s : PS) : (stp l t c s).G.length = s.G.length := by
  unfold stp; split <;> simp
theorem scan_len (l : List In1) (t : ByteArray) (s : PS) : ∀ c, (scanTo l t s c).G.length = s.G.length
  | 0 => rfl
  | c + 1 => by rw [scanTo, stp_len, scan_len l t s c]
theorem stp_debts (l : List In1) (t : ByteArray) (c : Nat) (s : PS) : (stp l t c s).D.length ≤ s.D.length + 1 := by
  unfold stp; split <;> simp
theorem scan_debts (l : List In1) (t : ByteArray) (s : PS) : ∀ c, (scanTo l t s c).D.length ≤ s.D.length + c
  | 0 => Nat.le_refl _
  | c + 1 => by have h1 := scan_debts l t s c; have h2 := stp_debts l t c (scanTo l t s c); rw [scanTo]; omega
theorem set_getD {G : List Int} {c j : Nat} {y : Int} : (G.set c y).getD j 0 = if c = j ∧ j < G.length then y else G.getD j 0 := by
  simp only [List.getD_eq_getElem?_getD, List.getElem?_set]
  by_cases h : c = j
  · subst h
    by_cases h2 : c < G.length
    · simp [h2]
    · simp [h2]
  · simp [h]
/-- Bounds: nobody's number leaves its place. -/
theorem stp_bd {l : List In1} {t : ByteArray} {c : Nat} {s : PS} {M : Int} (h : ∀ j, -M ≤ s.G.getD j 0 ∧ s.G.getD j 0 ≤ M) : (∀ j, -M ≤ (stp l t c s).G.getD j 0 ∧ (stp l t c s).G.getD j 0 ≤ M) ∧ (stp l t c s).n ≤ s.n := by
  unfold stp
  split
  · rename_i hc
    refine ⟨fun j => ?_, ?_⟩
    · show -M ≤ (s.G.set c _).getD j 0 ∧ (s.G.set c _).getD j 0 ≤ M
      rw [set_getD]
      have h1 := h j
      have h2 := h c
      split <;> omega
    · show s.n - _ ≤ s.n; omega
  · exact ⟨h, Int.le_refl _⟩
theorem scan_bd {l : List In1} {t : ByteArray} {s : PS} {M : Int} (h : ∀ j, -M ≤ s.G.getD j 0 ∧ s.G.getD j 0 ≤ M) : ∀ c, (∀ j, -M ≤ (scanTo l t s c).G.getD j 0 ∧ (scanTo l t s c).G.getD j 0 ≤ M) ∧ (scanTo l t s c).n ≤ s.n
  | 0 => ⟨h, Int.le_refl _⟩
  | c + 1 => by
    have h1 := scan_bd (l := l) (t := t) h c
    have h2 := stp_bd (l := l) (t := t) (c := c) h1.1
    exact ⟨h2.1, Int.le_trans h2.2 h1.2⟩

/-- All, one behind the other. -/
def payAll (l : List In1) (G : List Int) (S : Int) : Nat → PS
  | 0 => scanTo l emp ⟨G, S, []⟩ l.length
  | k + 1 => scanTo l (l.getD k default).t ⟨(payAll l G S k).G, (payAll l G S k).G.getD k 0, (payAll l G S k).D⟩ l.length
theorem pay_len (l : List In1) (G : List Int) (S : Int) : ∀ k, (payAll l G S k).G.length = G.length
  | 0 => scan_len l emp ⟨G, S, []⟩ _
  | k + 1 => by rw [payAll, scan_len]; exact pay_len l G S k
theorem pay_debts (l : List In1) (G : List Int) (S : Int) : ∀ k, (payAll l G S k).D.length ≤ (k + 1) * l.length
  | 0 => by have := scan_debts l emp ⟨G, S, []⟩ l.length; rw [payAll]; simp at this ⊢; omega
  | k + 1 => by
    have h1 := pay_debts l G S k
    have h2 := scan_debts l (l.getD k default).t ⟨(payAll l G S k).G, (payAll l G S k).G.getD k 0, (payAll l G S k).D⟩ l.length
    rw [payAll, Nat.succ_mul]
    have h3 : (PS.mk (payAll l G S k).G ((payAll l G S k).G.getD k 0) (payAll l G S k).D).D = (payAll l G S k).D := rfl
    rw [h3] at h2
    omega
theorem pay_bd {l : List In1} {G : List Int} {S M : Int} (h : ∀ j, -M ≤ G.getD j 0 ∧ G.getD j 0 ≤ M) : ∀ k, (∀ j, -M ≤ (payAll l G S k).G.getD j 0 ∧ (payAll l G S k).G.getD j 0 ≤ M)
  | 0 => (scan_bd (l := l) (t := emp) (s := ⟨G, S, []⟩) h _).1
  | k + 1 => (scan_bd (l := l) (t := (l.getD k default).t) (s := ⟨(payAll l G S k).G, (payAll l G S k).G.getD k 0, (payAll l G S k).D⟩) (pay_bd h k) _).1
end Go.Proofs.Ytofkeipfkglljaa
