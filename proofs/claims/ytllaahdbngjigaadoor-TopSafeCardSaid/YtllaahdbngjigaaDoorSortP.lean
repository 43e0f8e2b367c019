/-
  Sorting so that alike ones keep their order: plain lists, no program.
-/
import Derived.Test.YtllaahdbngjigaaDoorKit
namespace Go.Proofs.YtllaahdbngjigaaDoor
set_option linter.unusedVariables false
set_option linter.unusedSimpArgs false

/-- x stands before y: the greater key first, of alike ones the smaller number. -/
def Lx (k : Nat → Nat) (x y : Nat) : Prop := k y < k x ∨ (k x = k y ∧ x < y)
theorem Lx.trans {k : Nat → Nat} {x y z : Nat} (h : Lx k x y) (h' : Lx k y z) : Lx k x z := by unfold Lx at *; omega
theorem Lx.irrefl {k : Nat → Nat} {x : Nat} (h : Lx k x x) : False := by unfold Lx at *; omega
theorem Lx.asymm {k : Nat → Nat} {x y : Nat} (h : Lx k x y) (h' : Lx k y x) : False := by unfold Lx at *; omega
theorem Lx.total {k : Nat → Nat} {x y : Nat} (h : x ≠ y) : Lx k x y ∨ Lx k y x := by unfold Lx; omega
theorem Lx.of_lt {k : Nat → Nat} {x y : Nat} (h : k y < k x) : Lx k x y := .inl h
/-- Of two of which the second has the greater number: not less by key is before. -/
theorem Lx.of_not {k : Nat → Nat} {x y : Nat} (h : x < y) (hn : ¬ k x < k y) : Lx k x y := by unfold Lx; omega
theorem Lx.key {k : Nat → Nat} {x y : Nat} (h : Lx k x y) (hl : y < x) : k y < k x := by unfold Lx at h; omega

/-- Rising numbers behind a list: each of ys is greater than each of xs. -/
def Up (xs ys : List Nat) : Prop := ∀ x ∈ xs, ∀ y ∈ ys, x < y
abbrev Srtd (k : Nat → Nat) (l : List Nat) : Prop := l.Pairwise (Lx k)

theorem set_mid {α : Type} (P Q : List α) (x y : α) (i : Nat) (hi : i = P.length) : (P ++ x :: Q).set i y = P ++ y :: Q := by
  subst hi
  rw [List.set_append_right _ _ (Nat.le_refl _), Nat.sub_self]; rfl
theorem get_mid {α : Type} (P Q : List α) (x : α) (i : Nat) (hi : i = P.length) : (P ++ x :: Q)[i]? = some x := by
  subst hi; simp
theorem swap_mid {α : Type} (P Q : List α) (x y : α) (i : Nat) (hi : i = P.length) : ((P ++ x :: y :: Q).set (i + 1) x).set i y = P ++ y :: x :: Q := by
  have e : P ++ x :: y :: Q = (P ++ [x]) ++ y :: Q := by simp
  rw [e, set_mid (P ++ [x]) Q y x (i + 1) (by simp [hi]), List.append_assoc, List.singleton_append, set_mid P _ x y i hi]
theorem swap_mid' {α : Type} (P Q : List α) (x y : α) (i : Nat) (hi : i = P.length) : ((P ++ x :: y :: Q).set i y).set (i + 1) x = P ++ y :: x :: Q := by
  rw [set_mid P _ x y i hi]
  have e : P ++ y :: y :: Q = (P ++ [y]) ++ y :: Q := by simp
  rw [e, set_mid (P ++ [y]) Q y x (i + 1) (by simp [hi])]; simp

/-- The last of a sorted list that lies before x: so do all. -/
theorem last_all {k : Nat → Nat} {l : List Nat} {y x : Nat} (h : Srtd k (l ++ [y])) (hy : Lx k y x) : ∀ z ∈ l ++ [y], Lx k z x := by
  intro z hz
  rcases List.mem_append.1 hz with hz | hz
  · exact ((List.pairwise_append.1 h).2.2 z hz y (by simp)).trans hy
  · simp at hz; subst hz; exact hy
theorem head_all {k : Nat → Nat} {l : List Nat} {y x : Nat} (h : Srtd k (y :: l)) (hy : Lx k x y) : ∀ z ∈ y :: l, Lx k x z := by
  intro z hz
  rcases List.mem_cons.1 hz with rfl | hz
  · exact hy
  · exact hy.trans ((List.pairwise_cons.1 h).1 z hz)
theorem srtd_put {k : Nat → Nat} {a b : List Nat} {x : Nat} (h : Srtd k (a ++ b)) (h1 : ∀ z ∈ a, Lx k z x) (h2 : ∀ z ∈ b, Lx k x z) : Srtd k (a ++ x :: b) := by
  rw [Srtd, List.pairwise_append] at *
  obtain ⟨p, q, r⟩ := h
  refine ⟨p, List.pairwise_cons.2 ⟨h2, q⟩, fun z hz y hy => ?_⟩
  rcases List.mem_cons.1 hy with rfl | hy
  · exact h1 z hz
  · exact r z hz y hy
theorem srtd_two {k : Nat → Nat} {a b : List Nat} (ha : Srtd k a) (hb : Srtd k b) (h : ∀ x ∈ a, ∀ y ∈ b, Lx k x y) : Srtd k (a ++ b) := List.pairwise_append.2 ⟨ha, hb, h⟩

theorem bs_up {k : Nat → Nat} {V : List Nat} {t u v : Nat} (h : Srtd k V) (hv : V[t]? = some v) (hl : Lx k v u) : ∀ z ∈ V.take (t + 1), Lx k z u := by
  obtain ⟨ht, hv'⟩ := List.getElem?_eq_some_iff.1 hv
  rw [List.take_succ_eq_append_getElem ht, hv']
  apply last_all _ hl
  have e : V.take (t + 1) = V.take t ++ [v] := by rw [List.take_succ_eq_append_getElem ht, hv']
  rw [← e]
  exact h.sublist (List.take_sublist _ _)
theorem bs_down {k : Nat → Nat} {V : List Nat} {t u v : Nat} (h : Srtd k V) (hv : V[t]? = some v) (hl : Lx k u v) : ∀ z ∈ V.drop t, Lx k u z := by
  obtain ⟨ht, hv'⟩ := List.getElem?_eq_some_iff.1 hv
  have e : V.drop t = v :: V.drop (t + 1) := by rw [List.drop_eq_getElem_cons ht, hv']
  rw [e]
  exact head_all (e ▸ h.sublist (List.drop_sublist _ _)) hl

/-- A merge parted in the midst: what is known of a pair is known of all before, and all behind. -/
theorem mg_uv {k : Nat → Nat} {U V : List Nat} {s t u v : Nat} (hU : Srtd k U) (hV : Srtd k V) (hu : U[s]? = some u) (hv : V[t]? = some v) (h : Lx k u v) : ∀ x ∈ U.take (s + 1), ∀ y ∈ V.drop t, Lx k x y := fun x hx y hy =>
  bs_up hU hu (bs_down hV hv h y hy) x hx
theorem mg_vu {k : Nat → Nat} {U V : List Nat} {s t u v : Nat} (hU : Srtd k U) (hV : Srtd k V) (hu : U[s]? = some u) (hv : V[t]? = some v) (h : Lx k v u) : ∀ y ∈ V.take (t + 1), ∀ x ∈ U.drop s, Lx k y x := fun y hy x hx =>
  bs_up hV hv (bs_down hU hu h x hx) y hy
/-- Both halves sorted. -/
theorem mg_all {k : Nat → Nat} {U V W1 W2 : List Nat} {i j : Nat} (hU : Srtd k U) (hV : Srtd k V) (h1 : ∀ x ∈ U.take i, ∀ y ∈ V.drop j, Lx k x y) (h2 : ∀ y ∈ V.take j, ∀ x ∈ U.drop i, Lx k y x)
    (p1 : W1.Perm (U.take i ++ V.take j)) (p2 : W2.Perm (U.drop i ++ V.drop j)) (s1 : Srtd k W1) (s2 : Srtd k W2) : (W1 ++ W2).Perm (U ++ V) ∧ Srtd k (W1 ++ W2) := by
  have eU : U.take i ++ U.drop i = U := List.take_append_drop i U
  have eV : V.take j ++ V.drop j = V := List.take_append_drop j V
  have aU := hU
  rw [← eU] at aU
  have aV := hV
  rw [← eV] at aV
  have cU := (List.pairwise_append.1 aU).2.2
  have cV := (List.pairwise_append.1 aV).2.2
  refine ⟨?_, srtd_two s1 s2 fun x hx y hy => ?_⟩
  · refine (p1.append p2).trans ?_
    conv => rhs; rw [← eU, ← eV]
    simp only [List.append_assoc]
    refine List.Perm.append_left _ ?_
    rw [← List.append_assoc, ← List.append_assoc]
    exact List.Perm.append_right _ List.perm_append_comm
  · have mx := p1.mem_iff.1 hx
    have my := p2.mem_iff.1 hy
    rcases List.mem_append.1 mx with mx | mx <;> rcases List.mem_append.1 my with my | my
    · exact cU x mx y my
    · exact h1 x mx y my
    · exact h2 x mx y my
    · exact cV x mx y my

/-- Exchanging two runs of the same length: what lies between stays. -/
def swk {α : Type} (xs : List α) (a b : Nat) : Nat → List α
  | 0 => xs
  | i + 1 => match (swk xs a b i)[a + i]?, (swk xs a b i)[b + i]? with
    | some x, some y => ((swk xs a b i).set (a + i) y).set (b + i) x
    | _, _ => swk xs a b i
theorem swk_len {α : Type} (xs : List α) (a b : Nat) : ∀ i, (swk xs a b i).length = xs.length
  | 0 => rfl
  | i + 1 => by
    have := swk_len xs a b i
    unfold swk
    split <;> simp [this]
theorem swk_step {α : Type} {xs : List α} {a b i : Nat} {x y : α} (hx : (swk xs a b i)[a + i]? = some x) (hy : (swk xs a b i)[b + i]? = some y) : swk xs a b (i + 1) = ((swk xs a b i).set (a + i) y).set (b + i) x := by
  show (match (swk xs a b i)[a + i]?, (swk xs a b i)[b + i]? with | some x, some y => ((swk xs a b i).set (a + i) y).set (b + i) x | _, _ => swk xs a b i) = _
  rw [hx, hy]
theorem swk_eq {α : Type} (A M Z : List α) : ∀ (i : Nat) (U V U' V' : List α), U.length = i → V.length = i → U'.length = V'.length →
    swk (A ++ (U ++ U') ++ M ++ (V ++ V') ++ Z) A.length (A.length + (U ++ U').length + M.length) i = A ++ (V ++ U') ++ M ++ (U ++ V') ++ Z
  | 0, U, V, U', V', hu, hv, _ => by
    obtain rfl : U = [] := List.eq_nil_of_length_eq_zero hu
    obtain rfl : V = [] := List.eq_nil_of_length_eq_zero hv
    rfl
  | i + 1, U, V, U', V', hu, hv, hl => by
    obtain ⟨U0, u, rfl⟩ : ∃ l x, U = l ++ [x] := ⟨U.dropLast, U.getLast (by intro e; rw [e] at hu; simp at hu), (List.dropLast_concat_getLast _).symm⟩
    obtain ⟨V0, v, rfl⟩ : ∃ l x, V = l ++ [x] := ⟨V.dropLast, V.getLast (by intro e; rw [e] at hv; simp at hv), (List.dropLast_concat_getLast _).symm⟩
    have hu0 : U0.length = i := by simpa using hu
    have hv0 : V0.length = i := by simpa using hv
    have ih := swk_eq A M Z i U0 V0 (u :: U') (v :: V') hu0 hv0 (by simp [hl])
    have e1 : U0 ++ [u] ++ U' = U0 ++ u :: U' := by simp
    have e2 : V0 ++ [v] ++ V' = V0 ++ v :: V' := by simp
    rw [e1, e2]
    have s1 : A ++ (V0 ++ u :: U') ++ M ++ (U0 ++ v :: V') ++ Z = (A ++ V0) ++ u :: (U' ++ M ++ (U0 ++ v :: V') ++ Z) := by simp
    have s2 : A ++ (V0 ++ u :: U') ++ M ++ (U0 ++ v :: V') ++ Z = (A ++ (V0 ++ u :: U') ++ M ++ U0) ++ v :: (V' ++ Z) := by simp
    rw [swk_step (x := u) (y := v)]
    · rw [ih, s1, set_mid (A ++ V0) _ u v _ (by simp; omega)]
      have s3 : A ++ V0 ++ v :: (U' ++ M ++ (U0 ++ v :: V') ++ Z) = (A ++ (V0 ++ v :: U') ++ M ++ U0) ++ v :: (V' ++ Z) := by simp
      rw [s3, set_mid _ _ v u _ (by simp; omega)]
      simp
    · rw [ih, s1]; exact get_mid _ _ _ _ (by simp; omega)
    · rw [ih, s2]; exact get_mid _ _ _ _ (by simp; omega)
theorem swk_full {α : Type} (A U M V Z : List α) (h : U.length = V.length) : swk (A ++ U ++ M ++ V ++ Z) A.length (A.length + U.length + M.length) U.length = A ++ V ++ M ++ U ++ Z := by
  have := swk_eq A M Z U.length U V [] [] rfl h.symm rfl
  simpa using this
end Go.Proofs.YtllaahdbngjigaaDoor
