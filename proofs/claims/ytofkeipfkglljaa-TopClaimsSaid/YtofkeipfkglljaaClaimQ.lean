/-
  A file of claims: in whatever order; who gets back how much: plain.
-/
import Derived.Test.YtofkeipfkglljaaClaimP
namespace Go.Proofs.Ytofkeipfkglljaa
open Go Go.RowKit
set_option linter.unusedVariables false
set_option linter.unusedSimpArgs false

theorem paid_add (f : Fi) (t : ByteArray) (n : Int) : paidF (addF f t n) = paidF f + min n (leftF f) ∧ (addF f t n).loss = f.loss ∧ (addF f t n).own = f.own := by
  refine ⟨by simp [paidF, addF], rfl, rfl⟩
/-- Claimed of one behind the other. -/
def addsF (f : Fi) : List (ByteArray × Int) → Fi
  | [] => f
  | x :: l => addsF (addF f x.1 x.2) l
theorem paid_all : ∀ (l : List (ByteArray × Int)) (f : Fi), (∀ x ∈ l, 0 ≤ x.2) → paidF f + f.own ≤ f.loss → paidF (addsF f l) = min (f.loss - f.own) (paidF f + (l.map fun x => x.2).sum)
  | [], f, _, h => by simp [addsF]; omega
  | x :: l, f, hx, h => by
    have h1 := hx x (by simp)
    obtain ⟨e1, e2, e3⟩ := paid_add f x.1 x.2
    have hl : leftF f = f.loss - paidF f - f.own := rfl
    have IH := paid_all l (addF f x.1 x.2) (fun y hy => hx y (by simp [hy])) (by rw [e1, e2, e3]; omega)
    have hs : 0 ≤ (l.map fun x => x.2).sum := by
      have : ∀ (l : List (ByteArray × Int)), (∀ x ∈ l, 0 ≤ x.2) → 0 ≤ (l.map fun x => x.2).sum := by
        intro l
        induction l with
        | nil => intro _; simp
        | cons y l ih =>
          intro hy
          have := hy y (by simp)
          have := ih (fun z hz => hy z (by simp [hz]))
          rw [List.map_cons, List.sum_cons]; omega
      exact this l (fun y hy => hx y (by simp [hy]))
    rw [addsF, IH, e1, e2, e3, List.map_cons, List.sum_cons]
    omega
theorem sum_rev : ∀ (l : List (ByteArray × Int)), (l.reverse.map fun x => x.2).sum = (l.map fun x => x.2).sum
  | [] => rfl
  | x :: l => by
    rw [List.reverse_cons, List.map_append, List.sum_append, sum_rev l, List.map_cons, List.sum_cons]
    simp; omega
/-- Whoever pays first, all together is the same. -/
theorem paid_order (l : List (ByteArray × Int)) (f : Fi) (h0 : ∀ x ∈ l, 0 ≤ x.2) (h : paidF f + f.own ≤ f.loss) : paidF (addsF f l) = paidF (addsF f l.reverse) ∧ paidF (addsF f l) ≤ f.loss - f.own := by
  have e1 := paid_all l f h0 h
  have e2 := paid_all l.reverse f (fun x hx => h0 x (List.mem_reverse.1 hx)) h
  rw [sum_rev] at e2
  refine ⟨by rw [e1, e2], by rw [e1]; omega⟩

/-- What entries of one name bring. -/
def backE : List En → ByteArray → Int
  | [], _ => 0
  | x :: D, u => (if x.t = u then x.z else 0) + backE D u
theorem backE_app : ∀ (A B : List En) (u : ByteArray), backE (A ++ B) u = backE A u + backE B u
  | [], B, u => by simp [backE]
  | x :: A, B, u => by rw [List.cons_append, backE, backE, backE_app A B u]; omega
theorem giveS_back {t : ByteArray} {most : Int} {r : RS} (h0 : 0 ≤ r.s) (hm : 0 ≤ most) (u : ByteArray) : backE (giveS t most r).D u = backE r.D u + if t = u then giveN most r else 0 := by
  unfold giveS giveN
  split
  · show backE (r.D ++ [_]) u = _
    rw [backE_app]
    congr 1
    simp [backE]
  · have : min r.s most = 0 := by omega
    rw [this]; simp
/-- What came back to the name u by the file. -/
def backL : List Pm → ByteArray → Int
  | [], _ => 0
  | o :: L, u => (if o.t = u then o.b else 0) + backL L u
/-- Entries and the file tell the same. -/
theorem recK_back : ∀ {L : List Pm} {r : RS} (u : ByteArray), (∀ o ∈ L, 0 ≤ o.b ∧ o.b ≤ o.p) → 0 ≤ r.s → backE (recK L r).2.D u - backE r.D u = backL (recK L r).1 u - backL L u
  | [], r, u, _, _ => by simp [recK, backL]
  | o :: L, r, u, h, h0 => by
    have h1 := h o (by simp)
    have hs := giveS_s (t := o.t) (most := o.p - o.b) h0 (by omega)
    have hg : 0 ≤ giveN (o.p - o.b) r ∧ giveN (o.p - o.b) r ≤ r.s := by unfold giveN; omega
    have IH := recK_back (L := L) (r := giveS o.t (o.p - o.b) r) u (fun x hx => h x (by simp [hx])) (by omega)
    have hb := giveS_back (t := o.t) (most := o.p - o.b) h0 (by omega) u
    rw [recK]
    show backE (recK L (giveS o.t (o.p - o.b) r)).2.D u - backE r.D u = backL (⟨o.t, o.p, o.b + giveN (o.p - o.b) r⟩ :: (recK L (giveS o.t (o.p - o.b) r)).1) u - backL (o :: L) u
    rw [backL, backL]
    dsimp only
    by_cases e : o.t = u
    · rw [if_pos e] at hb
      rw [if_pos e, if_pos e]; omega
    · rw [if_neg e] at hb
      rw [if_neg e, if_neg e]; omega
end Go.Proofs.Ytofkeipfkglljaa
