/-
  A file of claims: who paid how much, and who got back how much, told as functions of the name: plain.
-/
import Derived.Test.YtofkeipfkglljaaClaimQ
import Derived.Test.YtofkeipfkglljaaFRec
namespace Go.Proofs.Ytofkeipfkglljaa
open Go Go.RowKit
set_option linter.unusedVariables false
set_option linter.unusedSimpArgs false

/-- What the name u paid, by the file. -/
def paidT : List Pm → ByteArray → Int
  | [], _ => 0
  | o :: L, u => (if o.t = u then o.p else 0) + paidT L u
theorem paidT_app : ∀ (A B : List Pm) (u : ByteArray), paidT (A ++ B) u = paidT A u + paidT B u
  | [], B, u => by simp [paidT]
  | x :: A, B, u => by rw [List.cons_append, paidT, paidT, paidT_app A B u]; omega
theorem backL_app : ∀ (A B : List Pm) (u : ByteArray), backL (A ++ B) u = backL A u + backL B u
  | [], B, u => by simp [backL]
  | x :: A, B, u => by rw [List.cons_append, backL, backL, backL_app A B u]; omega
theorem paidT_none : ∀ {L : List Pm} {u : ByteArray}, (∀ o ∈ L, o.t ≠ u) → paidT L u = 0
  | [], u, _ => rfl
  | o :: L, u, h => by
    rw [paidT, if_neg (h o (by simp)), paidT_none (L := L) (fun x hx => h x (by simp [hx]))]; rfl
theorem backL_none : ∀ {L : List Pm} {u : ByteArray}, (∀ o ∈ L, o.t ≠ u) → backL L u = 0
  | [], u, _ => rfl
  | o :: L, u, h => by
    rw [backL, if_neg (h o (by simp)), backL_none (L := L) (fun x hx => h x (by simp [hx]))]; rfl
theorem has_none {L : List Pm} {u : ByteArray} (h : hasF L u = false) : ∀ o ∈ L, o.t ≠ u := by
  intro o ho e
  unfold hasF at h
  rw [List.any_eq_false] at h
  exact h o ho (by simp [e])
theorem back_le_paid : ∀ {L : List Pm} (u : ByteArray), (∀ o ∈ L, 0 ≤ o.b ∧ o.b ≤ o.p) → 0 ≤ backL L u ∧ backL L u ≤ paidT L u ∧ paidT L u ≤ (L.map fun o => o.p).sum
  | [], u, _ => by simp [backL, paidT]
  | o :: L, u, h => by
    have h1 := h o (by simp)
    have h2 := back_le_paid (L := L) u (fun x hx => h x (by simp [hx]))
    rw [backL, paidT, List.map_cons, List.sum_cons]
    split <;> omega
theorem recK_paidT : ∀ (L : List Pm) (r : RS) (u : ByteArray), paidT (recK L r).1 u = paidT L u
  | [], r, u => rfl
  | o :: L, r, u => by
    rw [recK]
    show paidT (_ :: (recK L _).1) u = _
    rw [paidT, paidT, recK_paidT L _ u]
theorem recK_t : ∀ (L : List Pm) (r : RS), ∀ o ∈ (recK L r).1, ∃ p ∈ L, o.t = p.t
  | [], r, o, ho => by simp [recK] at ho
  | x :: L, r, o, ho => by
    rw [recK] at ho
    rcases List.mem_cons.1 ho with e | ho
    · subst e; exact ⟨x, by simp, rfl⟩
    · obtain ⟨p, hp, e⟩ := recK_t L _ o ho
      exact ⟨p, by simp [hp], e⟩
/-- Entries: of names that paid, and of more than nothing. -/
theorem giveS_ent {t : ByteArray} {most : Int} {r : RS} {S : ByteArray → Prop} (ht : S t) (h : ∀ x ∈ r.D, S x.t ∧ 0 ≤ x.z) : ∀ x ∈ (giveS t most r).D, S x.t ∧ 0 ≤ x.z := by
  unfold giveS
  split
  · intro x hx
    rcases List.mem_append.1 hx with hx | hx
    · exact h x hx
    · simp at hx; subst hx
      exact ⟨ht, by dsimp only; omega⟩
  · exact h
theorem recK_ents {S : ByteArray → Prop} : ∀ (L : List Pm) (r : RS), (∀ o ∈ L, S o.t) → (∀ x ∈ r.D, S x.t ∧ 0 ≤ x.z) → ∀ x ∈ (recK L r).2.D, S x.t ∧ 0 ≤ x.z
  | [], r, _, h => h
  | o :: L, r, hL, h => by
    rw [recK]
    exact recK_ents L _ (fun x hx => hL x (by simp [hx])) (giveS_ent (hL o (by simp)) h)
theorem giveS_len (t : ByteArray) (most : Int) (r : RS) : (giveS t most r).D.length ≤ r.D.length + 1 := by
  unfold giveS
  split
  · simp
  · omega
theorem recK_dlen : ∀ (L : List Pm) (r : RS), (recK L r).2.D.length ≤ r.D.length + L.length
  | [], r => Nat.le_refl _
  | o :: L, r => by
    rw [recK]
    have h1 := recK_dlen L (giveS o.t (o.p - o.b) r)
    have h2 := giveS_len o.t (o.p - o.b) r
    simp only [List.length_cons]
    omega
theorem backE_bd : ∀ {D : List En} (u : ByteArray), (∀ x ∈ D, 0 ≤ x.z) → 0 ≤ backE D u ∧ backE D u ≤ sumE D
  | [], u, _ => by simp [backE, sumE]
  | x :: D, u, h => by
    have h1 := h x (by simp)
    have h2 := backE_bd (D := D) u (fun y hy => h y (by simp [hy]))
    have e : sumE (x :: D) = x.z + sumE D := by simp [sumE]
    rw [backE, e]
    split <;> omega
theorem sumE_take {D : List En} (h : ∀ x ∈ D, 0 ≤ x.z) (k : Nat) : 0 ≤ sumE (D.take k) ∧ sumE (D.take k) ≤ sumE D := by
  have e : sumE (D.take k) + sumE (D.drop k) = sumE D := by rw [← sumE_app, List.take_append_drop]
  have h1 := (backE_bd (D := D.take k) ⟨#[]⟩ (fun x hx => h x (List.mem_of_mem_take hx)))
  have h2 := (backE_bd (D := D.drop k) ⟨#[]⟩ (fun x hx => h x (List.mem_of_mem_drop hx)))
  omega

/-- The law's own books tell what the file tells. -/
structure Nev (F : Fi) (fp fb : ByteArray → Int) (all : Int) : Prop where
  eall : all = paidF F
  efp : ∀ u, fp u = paidT F.L u
  efb : ∀ u, u ≠ ⟨#[]⟩ → fb u = backL F.L u
  efb0 : fb ⟨#[]⟩ = F.own
  nm : ∀ o ∈ F.L, nameB o.t = true
theorem name_ne {u : ByteArray} (h : nameB u = true) : u ≠ ⟨#[]⟩ := by
  intro e; subst e; revert h; decide
theorem Nev.new (loss value : Int) : Nev (Fi.new loss value) (fun _ => 0) (fun _ => 0) 0 := ⟨rfl, fun _ => rfl, fun _ _ => rfl, rfl, fun o ho => by simp [Fi.new] at ho⟩
theorem Nev.bd {F : Fi} {fp fb : ByteArray → Int} {all : Int} (h : Nev F fp fb all) (ok : FileOk F) (u : ByteArray) : 0 ≤ fb u ∧ fb u ≤ 1099511627776 ∧ 0 ≤ fp u ∧ fp u ≤ 1099511627776 := by
  have h1 := back_le_paid (L := F.L) u ok.each
  have h2 : paidF F = (F.L.map fun o => o.p).sum := rfl
  have h3 := ok.own; have h4 := ok.all; have h5 := ok.l1; have h6 := ok.v1
  have h8 : 0 ≤ paidF F := by omega
  rw [h.efp u]
  by_cases e : u = ⟨#[]⟩
  · subst e; rw [h.efb0]; omega
  · rw [h.efb u e]; omega
theorem Nev.le {F : Fi} {fp fb : ByteArray → Int} {all : Int} (h : Nev F fp fb all) (ok : FileOk F) {u : ByteArray} (hu : u ≠ ⟨#[]⟩) : fb u ≤ fp u := by
  have h1 := back_le_paid (L := F.L) u ok.each
  rw [h.efb u hu, h.efp u]; omega
/-- A payment more. -/
theorem Nev.add {F : Fi} {fp fb : ByteArray → Int} {all : Int} (h : Nev F fp fb all) {u : ByteArray} (n : Int) (hu : nameB u = true) (hn : hasF F.L u = false) :
    fp u = 0 ∧ Nev (addF F u n) (fun x => if x = u then min n (leftF F) else fp x) fb (all + min n (leftF F)) := by
  have h0 := has_none hn
  have e0 : fp u = 0 := by rw [h.efp u]; exact paidT_none h0
  refine ⟨e0, by rw [h.eall]; simp [paidF, addF], fun x => ?_, fun x hx => ?_, h.efb0, fun o ho => ?_⟩
  · show _ = paidT (F.L ++ [⟨u, min n (leftF F), 0⟩]) x
    rw [paidT_app, ← h.efp x]
    by_cases e : x = u
    · subst e; rw [if_pos rfl, e0]; simp [paidT]
    · rw [if_neg e]; simp [paidT, show ¬ u = x from fun e2 => e e2.symm]
  · show _ = backL (F.L ++ [⟨u, min n (leftF F), 0⟩]) x
    rw [backL_app, ← h.efb x hx]
    simp [backL]
  · rcases List.mem_append.1 ho with ho | ho
    · exact h.nm o ho
    · simp at ho; subst ho; exact hu
/-- Something came back. -/
theorem Nev.back {F : Fi} {fp fb : ByteArray → Int} {all : Int} (h : Nev F fp fb all) (ok : FileOk F) {s : Int} (h0 : 0 ≤ s) (h1 : s ≤ outF F) :
    Nev (recF F s).1 fp (fun u => fb u + backE (recF F s).2 u) all := by
  have hp := (recF_ok ok h0 h1).2.2
  have hr := fun u => recK_back (L := F.L) (r := ⟨s, []⟩) u ok.each h0
  have hs2 := (recK_sum (r := ⟨s, []⟩) ok.each h0).2.1
  have hl : 0 ≤ leftF F := by have := ok.all; unfold leftF; omega
  have hg := fun u => giveS_back (t := ⟨#[]⟩) (most := leftF F) (r := (recK F.L ⟨s, []⟩).2) hs2 hl u
  have e0 : ∀ u, backE (recF F s).2 u = backE (giveS ⟨#[]⟩ (leftF F) (recK F.L ⟨s, []⟩).2).D u := fun u => rfl
  have z0 : ∀ u, backE ([] : List En) u = 0 := fun u => rfl
  refine ⟨by rw [hp]; exact h.eall, fun u => ?_, fun u hu => ?_, ?_, fun o ho => ?_⟩
  · show _ = paidT (recK F.L ⟨s, []⟩).1 u
    rw [recK_paidT]; exact h.efp u
  · show fb u + backE (recF F s).2 u = backL (recK F.L ⟨s, []⟩).1 u
    have r1 := hr u
    have r2 := hg u
    rw [if_neg (fun e => hu e.symm)] at r2
    have r3 := h.efb u hu
    have r1 : backE (recK F.L ⟨s, []⟩).2.D u - 0 = backL (recK F.L ⟨s, []⟩).1 u - backL F.L u := r1
    rw [e0]; omega
  · show fb ⟨#[]⟩ + backE (recF F s).2 ⟨#[]⟩ = F.own + giveN (leftF F) (recK F.L ⟨s, []⟩).2
    have r1 := hr ⟨#[]⟩
    have r2 := hg ⟨#[]⟩
    rw [if_pos rfl] at r2
    have r1 : backE (recK F.L ⟨s, []⟩).2.D ⟨#[]⟩ - 0 = backL (recK F.L ⟨s, []⟩).1 ⟨#[]⟩ - backL F.L ⟨#[]⟩ := r1
    rw [backL_none (fun o ho => name_ne (h.nm o ho)), backL_none (fun o ho e => by obtain ⟨p, hp, e2⟩ := recK_t F.L _ o ho; exact name_ne (h.nm p hp) (by rw [← e2]; exact e))] at r1
    have r3 := h.efb0
    rw [e0]; omega
  · obtain ⟨p, hp, e⟩ := recK_t F.L _ o ho
    rw [e]; exact h.nm p hp
/-- The entries of what came back. -/
theorem Nev.ents {F : Fi} {fp fb : ByteArray → Int} {all : Int} (h : Nev F fp fb all) (s : Int) : (∀ x ∈ (recF F s).2, (x.t = ⟨#[]⟩ ∨ nameB x.t = true) ∧ 0 ≤ x.z) ∧ (recF F s).2.length ≤ F.L.length + 1 := by
  constructor
  · exact giveS_ent (S := fun t => t = ⟨#[]⟩ ∨ nameB t = true) (.inl rfl) (recK_ents (S := fun t => t = ⟨#[]⟩ ∨ nameB t = true) F.L ⟨s, []⟩ (fun o ho => .inr (h.nm o ho)) (fun x hx => by simp at hx))
  · have h1 := giveS_len ⟨#[]⟩ (leftF F) (recK F.L ⟨s, []⟩).2
    have h2 := recK_dlen F.L ⟨s, []⟩
    show (giveS ⟨#[]⟩ (leftF F) (recK F.L ⟨s, []⟩).2).D.length ≤ _
    simp at h2
    omega
end Go.Proofs.Ytofkeipfkglljaa
