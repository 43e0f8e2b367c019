/-
  The document's Split.
-/
import Derived.Test.YtofkeipfkglljaaDoorSums
namespace Go.Proofs.YtofkeipfkglljaaDoor
open Go Go.RowKit
set_option linter.unusedVariables false
set_option linter.unusedSimpArgs false

theorem order_exists (k : Nat → Nat) (n : Nat) : ∃ ys : List Nat, ys.Perm (List.range n) ∧ Srtd k ys := by
  have key : ∀ l : List Nat, l.Nodup → ∃ ys : List Nat, ys.Perm l ∧ Srtd k ys := fun l => by
    induction l with
    | nil => exact fun _ => ⟨[], List.Perm.refl _, List.Pairwise.nil⟩
    | cons x l ih =>
      intro hnd
      obtain ⟨hx, hl⟩ := List.nodup_cons.1 hnd
      obtain ⟨ys, p, s⟩ := ih hl
      have hxy : x ∉ ys := fun h => hx (p.mem_iff.1 h)
      have hins : ∀ zs : List Nat, x ∉ zs → Srtd k zs → ∃ us, us.Perm (x :: zs) ∧ Srtd k us := fun zs => by
        induction zs with
        | nil => exact fun _ _ => ⟨[x], List.Perm.refl _, List.pairwise_singleton _ _⟩
        | cons z zs ih2 =>
          intro hz hs
          obtain ⟨s1, s2⟩ := List.pairwise_cons.1 hs
          have hne : x ≠ z := fun e => hz (by simp [e])
          rcases Lx.total (k := k) hne with h | h
          · exact ⟨x :: z :: zs, List.Perm.refl _, List.pairwise_cons.2 ⟨head_all hs h, hs⟩⟩
          · obtain ⟨us, p1, p2⟩ := ih2 (fun h' => hz (List.mem_cons_of_mem _ h')) s2
            refine ⟨z :: us, (List.Perm.cons z p1).trans (List.Perm.swap x z zs), List.pairwise_cons.2 ⟨fun y hy => ?_, p2⟩⟩
            rcases List.mem_cons.1 (p1.mem_iff.1 hy) with rfl | hy'
            · exact h
            · exact s1 y hy'
      obtain ⟨us, p1, p2⟩ := hins ys hxy s
      exact ⟨us, p1.trans (List.Perm.cons x p), p2⟩
  exact key _ List.nodup_range

/-- The rests, those that have been taken below all. -/
def restL (T : Nat) (W ys : List Nat) (m : Nat) : List Int := (List.range W.length).map fun i => if i ∈ ys.take m then -1 else ((rtsL T W).getD i 0 : Nat)
theorem restL_len (T : Nat) (W ys : List Nat) (m : Nat) : (restL T W ys m).length = W.length := by simp [restL]
theorem restL_get {T : Nat} {W ys : List Nat} {m i : Nat} (hi : i < W.length) : (restL T W ys m).getD i 0 = if i ∈ ys.take m then (-1 : Int) else (((rtsL T W).getD i 0 : Nat) : Int) := by simp [restL, hi]
theorem restL_zero (T : Nat) (W ys : List Nat) : restL T W ys 0 = natI (rtsL T W) := by
  apply List.ext_getElem?
  intro j
  by_cases hj : j < W.length
  · have hj' : j < (rtsL T W).length := by unfold rtsL; simpa using hj
    simp [restL, natI, hj, hj']
  · rw [List.getElem?_eq_none (by simp [restL]; omega), List.getElem?_eq_none (by simp [natI, rtsL]; omega)]
theorem restL_step {T : Nat} {W ys : List Nat} {k i : Nat} (hp : ys.Perm (List.range W.length)) (hk : ys[k]? = some i) : (restL T W ys k).set i (-1) = restL T W ys (k + 1) := by
  obtain ⟨hkl, hki⟩ := List.getElem?_eq_some_iff.1 hk
  have hi : i < W.length := List.mem_range.1 (hp.mem_iff.1 (List.mem_of_getElem? hk))
  have e1 : ys.take (k + 1) = ys.take k ++ [i] := by rw [List.take_succ_eq_append_getElem hkl, hki]
  apply List.ext_getElem?
  intro j
  by_cases hj : j < W.length
  · have h2 : (restL T W ys (k + 1))[j]? = some (if j ∈ ys.take (k + 1) then (-1 : Int) else (((rtsL T W).getD j 0 : Nat) : Int)) := by simp [restL, hj]
    rw [h2]
    by_cases hji : j = i
    · subst hji
      rw [List.getElem?_set_self (by rw [restL_len]; exact hj), e1, if_pos (by simp)]
    · rw [List.getElem?_set_ne (fun e => hji e.symm)]
      have h3 : (restL T W ys k)[j]? = some (if j ∈ ys.take k then (-1 : Int) else (((rtsL T W).getD j 0 : Nat) : Int)) := by simp [restL, hj]
      rw [h3, e1]
      simp [hji]
  · rw [List.getElem?_eq_none (by rw [List.length_set, restL_len]; omega), List.getElem?_eq_none (by rw [restL_len]; omega)]
/-- The greatest rest, the first of such, is the next one of the order. -/
theorem pick_next {T : Nat} {W ys : List Nat} {m j : Nat} (hp : ys.Perm (List.range W.length)) (hs : Srtd (keyL (rtsL T W)) ys) (hm : m < W.length) (h : MostAt (restL T W ys m) W.length j) : ys[m]? = some j := by
  have hl : ys.length = W.length := by rw [hp.length_eq]; simp
  have hml : m < ys.length := by omega
  have hj := h.1
  have hnd : ys.Nodup := hp.nodup_iff.2 List.nodup_range
  have e0 : ys.take m ++ ys[m] :: ys.drop (m + 1) = ys := by rw [← List.drop_eq_getElem_cons hml, List.take_append_drop]
  obtain ⟨i, hi⟩ : ∃ i, i = ys[m] := ⟨_, rfl⟩
  rw [← hi] at e0
  have hin : i < W.length := by rw [hi]; exact List.mem_range.1 (hp.mem_iff.1 (List.getElem_mem _))
  have hnd2 := hnd
  rw [← e0, List.nodup_append] at hnd2
  have hni : i ∉ ys.take m := fun h' => hnd2.2.2 i h' i (by simp) rfl
  have hg := h.2 i hin
  rw [restL_get hin, restL_get hj, if_neg hni] at hg
  have hnj : j ∉ ys.take m := fun h' => by
    rw [if_pos h'] at hg
    have := hg.1
    omega
  rw [if_neg hnj] at hg
  have hjm : j ∈ ys := hp.mem_iff.2 (List.mem_range.2 hj)
  rw [← e0] at hjm
  rcases List.mem_append.1 hjm with h' | h'
  · exact absurd h' hnj
  · rcases List.mem_cons.1 h' with h' | h'
    · rw [h', hi]; exact List.getElem?_eq_getElem hml
    · have hs2 := hs
      rw [← e0] at hs2
      have hlx := (List.pairwise_cons.1 (List.pairwise_append.1 hs2).2.1).1 j h'
      unfold Lx keyL at hlx
      rcases hlx with hlx | ⟨hlx, hij⟩
      · have := hg.1; omega
      · have := hg.2 (by rw [hlx]); omega

def iA (xs : List Int) : Array Value := (xs.map (Value.int .i64)).toArray
theorem iA_set (xs : List Int) (i : Nat) (y : Int) : (iA xs).setIfInBounds i (.int .i64 y) = iA (xs.set i y) := by unfold iA; simp [List.map_set]
theorem iA_nat (xs : List Nat) : iA (natI xs) = nums xs := by simp [iA, natI, nums, List.map_map, Function.comp_def]
/-- How the two blocks lie. -/
structure RL (bp br n : Nat) (w : World) (P : List Nat) (R : List Int) : Prop where
  p : w.heap[bp]? = some (.cells (nums P) 2 (0, 0))
  r : w.heap[br]? = some (.cells (iA R) 2 (0, 0))
  lp : P.length = n
  lr : R.length = n
section
variable {bp br n : Nat} {w : World} {P : List Nat} {R : List Int}
theorem RL.pcell (h : RL bp br n w P R) {i x : Nat} (hx : P[i]? = some x) : w.cell? ⟨bp, i, none⟩ = some (.int .i64 (x : Int)) := by simp [World.cell?, h.p, nums, hx]
theorem RL.rcell (h : RL bp br n w P R) {i : Nat} {x : Int} (hx : R[i]? = some x) : w.cell? ⟨br, i, none⟩ = some (.int .i64 x) := by simp [World.cell?, h.r, iA, hx]
theorem RL.free (h : RL bp br n w P R) (i : Nat) : w.frozen? ⟨bp, i, none⟩ = false ∧ w.frozen? ⟨br, i, none⟩ = false := by
  refine ⟨?_, ?_⟩ <;> simp [World.frozen?, h.p, h.r]
theorem RL.drewN (h : RL bp br n w P R) (k : Nat) : RL bp br n (w.drewN k) P R := ⟨h.p, h.r, h.lp, h.lr⟩
theorem RL.setP (h : RL bp br n w P R) (h1 : br ≠ bp) (i y : Nat) : RL bp br n (w.setCell ⟨bp, i, none⟩ (.int .i64 (y : Int))) (P.set i y) R :=
  ⟨by rw [heap_set h.p, nums_set], by rw [Below.heap_setCell _ _ _ _ h1]; exact h.r, by simp [h.lp], h.lr⟩
theorem RL.setR (h : RL bp br n w P R) (h1 : bp ≠ br) (i : Nat) (y : Int) : RL bp br n (w.setCell ⟨br, i, none⟩ (.int .i64 y)) P (R.set i y) :=
  ⟨by rw [Below.heap_setCell _ _ _ _ h1]; exact h.p, by rw [heap_set h.r, iA_set], h.lp, by simp [h.lr]⟩
end

theorem preI_set {l : List Nat} {k n x : Nat} (hl : l.length = n) (hx : l[k]? = some x) (hk : k < n) : (natI (l.take k ++ List.replicate (n - k) 0)).set k (x : Int) = natI (l.take (k + 1) ++ List.replicate (n - (k + 1)) 0) := by
  rw [← pre_set hl hx hk]
  unfold natI
  rw [List.map_set]
theorem preI_get {l : List Nat} {k n : Nat} (hl : l.length = n) (hk : k < n) : (natI (l.take k ++ List.replicate (n - k) 0))[k]? = some 0 := by
  have := pre_get (l := l) hl hk
  unfold natI
  rw [List.getElem?_map, this]; rfl

def RefPost (T : Nat) (W : List Nat) (w : World) (e : Ending) (w' : World) : Prop := ∃ u out, e = .returned u ∧ IsSplit T W out ∧ Parts w w' u out ∧ Below w.heap.size w w'

end Go.Proofs.YtofkeipfkglljaaDoor
