/-
  A file of claims: plain.
-/
import Derived.Test.YtofkeipfkglljaaEns
import Derived.Test.YtofkeipfkglljaaSums
namespace Go.Proofs.Ytofkeipfkglljaa
open Go Go.RowKit
set_option linter.unusedVariables false
set_option linter.unusedSimpArgs false

/-- What an insurer paid, and what of it came back. -/
structure Pm where
  t : ByteArray
  p : Int
  b : Int
instance : Inhabited Pm := ⟨⟨⟨#[]⟩, 0, 0⟩⟩
def Pm.cells (o : Pm) : List Value := [.string o.t, .int .i64 o.p, .int .i64 o.b]
/-- A loss, a value, payments, and what came back to the insured. -/
structure Fi where
  loss : Int
  value : Int
  L : List Pm
  own : Int
def paidF (f : Fi) : Int := (f.L.map fun o => o.p).sum
def leftF (f : Fi) : Int := f.loss - paidF f - f.own
def openF (L : List Pm) : Int := (L.map fun o => o.p - o.b).sum
def outF (f : Fi) : Int := leftF f + openF f.L
/-- An insurer pays so much of what is left. -/
def addF (f : Fi) (t : ByteArray) (n : Int) : Fi := { f with L := f.L ++ [⟨t, min n (leftF f), 0⟩] }
/-- While something comes back: what is left of it, and the entries. -/
structure RS where
  s : Int
  D : List En
def giveS (t : ByteArray) (most : Int) (r : RS) : RS := if 0 < min r.s most then ⟨r.s - min r.s most, r.D ++ [⟨t, ⟨#[]⟩, min r.s most⟩]⟩ else r
/-- What one gets. -/
def giveN (most : Int) (r : RS) : Int := min r.s most
def recK : List Pm → RS → List Pm × RS
  | [], r => ([], r)
  | o :: L, r => (⟨o.t, o.p, o.b + giveN (o.p - o.b) r⟩ :: (recK L (giveS o.t (o.p - o.b) r)).1, (recK L (giveS o.t (o.p - o.b) r)).2)
theorem recK_len : ∀ (L : List Pm) (r : RS), (recK L r).1.length = L.length
  | [], r => rfl
  | o :: L, r => by rw [recK]; simp [recK_len L _]
theorem recK_app : ∀ (A B : List Pm) (r : RS), recK (A ++ B) r = ((recK A r).1 ++ (recK B (recK A r).2).1, (recK B (recK A r).2).2)
  | [], B, r => rfl
  | o :: A, B, r => by rw [List.cons_append, recK, recK, recK_app A B _]; rfl
/-- A file as it may stand. -/
structure FileOk (f : Fi) : Prop where
  each : ∀ o ∈ f.L, 0 ≤ o.b ∧ o.b ≤ o.p
  own : 0 ≤ f.own
  all : paidF f + f.own ≤ f.loss
  l0 : 0 ≤ f.loss
  l1 : f.loss ≤ f.value
  v1 : f.value ≤ 1099511627776
theorem openF_nonneg : ∀ {L : List Pm}, (∀ o ∈ L, 0 ≤ o.b ∧ o.b ≤ o.p) → 0 ≤ openF L
  | [], _ => Int.le_refl _
  | o :: L, h => by
    have h1 := h o (by simp)
    have h2 := openF_nonneg (L := L) (fun x hx => h x (by simp [hx]))
    unfold openF at h2 ⊢
    rw [List.map_cons, List.sum_cons]; omega
theorem giveS_s {t : ByteArray} {most : Int} {r : RS} (h0 : 0 ≤ r.s) (hm : 0 ≤ most) : (giveS t most r).s = r.s - giveN most r := by
  unfold giveS giveN
  split
  · rfl
  · have : min r.s most = 0 := by omega
    omega
/-- What comes back goes to the payments, never more than was paid. -/
theorem recK_sum : ∀ {L : List Pm} {r : RS}, (∀ o ∈ L, 0 ≤ o.b ∧ o.b ≤ o.p) → 0 ≤ r.s →
    (∀ o ∈ (recK L r).1, 0 ≤ o.b ∧ o.b ≤ o.p) ∧ 0 ≤ (recK L r).2.s ∧ openF (recK L r).1 - (recK L r).2.s = openF L - r.s ∧ ((recK L r).1.map fun o => o.p) = (L.map fun o => o.p) ∧ (openF L ≤ r.s → openF (recK L r).1 = 0) ∧ (r.s ≤ openF L → (recK L r).2.s = 0)
  | [], r, _, h0 => ⟨by simp [recK], h0, by simp [recK, openF], rfl, fun _ => rfl, fun h => by
      have : openF [] = 0 := rfl
      show r.s = 0; omega⟩
  | o :: L, r, h, h0 => by
    have h1 := h o (by simp)
    have hg : 0 ≤ giveN (o.p - o.b) r ∧ giveN (o.p - o.b) r ≤ o.p - o.b ∧ giveN (o.p - o.b) r ≤ r.s ∧ (giveN (o.p - o.b) r = r.s ∨ giveN (o.p - o.b) r = o.p - o.b) := by unfold giveN; omega
    have hs := giveS_s (t := o.t) (most := o.p - o.b) h0 (by omega)
    have IH := recK_sum (L := L) (r := giveS o.t (o.p - o.b) r) (fun x hx => h x (by simp [hx])) (by omega)
    have hO := openF_nonneg (L := L) (fun x hx => h x (by simp [hx]))
    rw [recK]
    generalize recK L (giveS o.t (o.p - o.b) r) = q at IH
    obtain ⟨i1, i2, i3, i4, i5, i6⟩ := IH
    have e1 : openF (⟨o.t, o.p, o.b + giveN (o.p - o.b) r⟩ :: q.1) = o.p - (o.b + giveN (o.p - o.b) r) + openF q.1 := by unfold openF; rw [List.map_cons, List.sum_cons]
    have e2 : openF (o :: L) = o.p - o.b + openF L := by unfold openF; rw [List.map_cons, List.sum_cons]
    refine ⟨fun x hx => ?_, i2, ?_, ?_, fun hle => ?_, fun hle => ?_⟩
    · rcases List.mem_cons.1 hx with e | hx
      · subst e
        show 0 ≤ o.b + giveN (o.p - o.b) r ∧ o.b + giveN (o.p - o.b) r ≤ o.p
        omega
      · exact i1 x hx
    · show openF (⟨o.t, o.p, o.b + giveN (o.p - o.b) r⟩ :: q.1) - q.2.s = openF (o :: L) - r.s
      rw [e1, e2]; omega
    · show ((⟨o.t, o.p, o.b + giveN (o.p - o.b) r⟩ : Pm) :: q.1).map (fun o => o.p) = _
      rw [List.map_cons, List.map_cons, i4]
    · show openF (⟨o.t, o.p, o.b + giveN (o.p - o.b) r⟩ :: q.1) = 0
      rw [e1]; rw [e2] at hle
      have := i5 (by omega)
      omega
    · show q.2.s = 0
      rw [e2] at hle
      rcases hg.2.2.2 with g | g
      · have := i6 (by omega)
        exact this
      · exact i6 (by omega)
/-- What came back, by entries, is what was to come. -/
def sumE (D : List En) : Int := (D.map fun x => x.z).sum
theorem sumE_app (a b : List En) : sumE (a ++ b) = sumE a + sumE b := by simp [sumE]
theorem giveS_sum {t : ByteArray} {most : Int} {r : RS} : sumE (giveS t most r).D + (giveS t most r).s = sumE r.D + r.s := by
  unfold giveS
  split
  · show sumE (r.D ++ [_]) + (r.s - min r.s most) = _
    rw [sumE_app]
    have : sumE [(⟨t, ⟨#[]⟩, min r.s most⟩ : En)] = min r.s most := by simp [sumE]
    rw [this]; omega
  · rfl
theorem recK_ent : ∀ (L : List Pm) (r : RS), sumE (recK L r).2.D + (recK L r).2.s = sumE r.D + r.s
  | [], r => rfl
  | o :: L, r => by rw [recK]; show sumE (recK L _).2.D + (recK L _).2.s = _; rw [recK_ent L _, giveS_sum]
/-- So much comes back. -/
def recF (f : Fi) (s : Int) : Fi × List En :=
  ({ f with L := (recK f.L ⟨s, []⟩).1, own := f.own + giveN (leftF f) (recK f.L ⟨s, []⟩).2 }, (giveS ⟨#[]⟩ (leftF f) (recK f.L ⟨s, []⟩).2).D)
theorem addF_ok {f : Fi} (h : FileOk f) (t : ByteArray) {n : Int} (hn : 0 ≤ n) : FileOk (addF f t n) := by
  obtain ⟨h1, h2, h3, h4, h5, h6⟩ := h
  have hp : paidF (addF f t n) = paidF f + min n (leftF f) := by simp [paidF, addF]
  have hl : 0 ≤ leftF f := by unfold leftF; omega
  refine ⟨fun o ho => ?_, h2, ?_, h4, h5, h6⟩
  · rcases List.mem_append.1 ho with ho | ho
    · exact h1 o ho
    · simp at ho; subst ho
      show (0 : Int) ≤ 0 ∧ 0 ≤ min n (leftF f)
      omega
  · rw [hp]; show _ + f.own ≤ f.loss
    unfold leftF at *; omega
theorem recF_ok {f : Fi} (h : FileOk f) {s : Int} (h0 : 0 ≤ s) (h1 : s ≤ outF f) : FileOk (recF f s).1 ∧ sumE (recF f s).2 = s ∧ paidF (recF f s).1 = paidF f := by
  obtain ⟨k1, k2, k3, k4, k5, k6⟩ := h
  obtain ⟨r1, r2, r3, r4, r5, r6⟩ := recK_sum (r := ⟨s, []⟩) k1 h0
  have hp : paidF (recF f s).1 = paidF f := by
    unfold paidF recF
    show ((recK f.L ⟨s, []⟩).1.map fun o => o.p).sum = _
    rw [r4]
  have hl : 0 ≤ leftF f := by unfold leftF; omega
  have hO := openF_nonneg k1
  have hO2 := openF_nonneg r1
  have hs2 : (recK f.L ⟨s, []⟩).2.s ≤ leftF f := by
    rcases Int.le_total s (openF f.L) with g | g
    · have := r6 g; omega
    · have := r5 g
      unfold outF at h1
      have r3 : openF (recK f.L ⟨s, []⟩).1 - (recK f.L ⟨s, []⟩).2.s = openF f.L - s := r3
      omega
  have hg : giveN (leftF f) (recK f.L ⟨s, []⟩).2 = (recK f.L ⟨s, []⟩).2.s := by unfold giveN; omega
  refine ⟨⟨r1, ?_, ?_, k4, k5, k6⟩, ?_, hp⟩
  · show 0 ≤ f.own + giveN (leftF f) (recK f.L ⟨s, []⟩).2
    rw [hg]; omega
  · rw [hp]
    show paidF f + (f.own + giveN (leftF f) (recK f.L ⟨s, []⟩).2) ≤ f.loss
    rw [hg]; unfold leftF at *; omega
  · have e1 := recK_ent f.L ⟨s, []⟩
    have e2 := giveS_sum (t := ⟨#[]⟩) (most := leftF f) (r := (recK f.L ⟨s, []⟩).2)
    have e3 := giveS_s (t := ⟨#[]⟩) (most := leftF f) (r := (recK f.L ⟨s, []⟩).2) r2 hl
    rw [hg] at e3
    have e4 : sumE (RS.mk s []).D + (RS.mk s []).s = s := by simp [sumE]
    rw [e4] at e1
    show sumE (giveS ⟨#[]⟩ (leftF f) (recK f.L ⟨s, []⟩).2).D = s
    omega
end Go.Proofs.Ytofkeipfkglljaa
