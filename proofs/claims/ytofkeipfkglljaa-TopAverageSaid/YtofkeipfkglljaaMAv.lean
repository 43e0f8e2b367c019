/-
  TopAverage: plain; its four rows. (Put together of XAvP, XAvF.)
-/
import Derived.Test.YtofkeipfkglljaaLawFair
import Derived.Test.YtofkeipfkglljaaSetQ
import Derived.Test.YtofkeipfkglljaaLawSet
import Derived.Test.YtofkeipfkglljaaAppRow
import Derived.Test.YtofkeipfkglljaaArgU16
import Derived.Laws.BytesString
import Derived.Laws.EntriesVeiled
namespace Go.Proofs.Ytofkeipfkglljaa
open Go Go.RowKit
set_option linter.unusedVariables false
set_option linter.unusedSimpArgs false

/-- The name of the k-th interest. -/
def nmT (k : Nat) : ByteArray := ⟨#[UInt8.ofNat (97 + k)]⟩
theorem nmT_name {k : Nat} (h : k < 8) : nameB (nmT k) = true := by
  have : ∀ k : Fin 8, nameB (nmT k.1) = true := by decide
  exact this ⟨k, h⟩
theorem nmT_ne {i k : Nat} (hi : i < 8) (hk : k < 8) (h : i ≠ k) : nmT i ≠ nmT k := by
  have : ∀ i k : Fin 8, i ≠ k → nmT i.1 ≠ nmT k.1 := by decide
  exact this ⟨i, hi⟩ ⟨k, hk⟩ (fun e => h (by injection e))

theorem may_of {l : List In1} (h1 : 1 ≤ l.length) (h2 : l.length ≤ 4096) (h3 : ∀ o ∈ l, nameB o.t = true ∧ 0 ≤ o.z ∧ o.z ≤ 1099511627776) (h4 : l.Pairwise fun a b => a.t ≠ b.t) : mayB l = true := by
  refine (may_iff l).2 ⟨h1, h2, fun k hk => ?_⟩
  have e : l.getD k default = l[k] := by rw [List.getD_eq_getElem?_getD, List.getElem?_eq_getElem hk]; rfl
  have h5 := h3 l[k] (List.getElem_mem hk)
  unfold okAt
  rw [e]
  simp only [Bool.and_eq_true, decide_eq_true_eq, Bool.not_eq_true']
  refine ⟨⟨⟨h5.1, h5.2.1⟩, h5.2.2⟩, List.any_eq_false.2 fun o ho => ?_⟩
  obtain ⟨i, hi, rfl⟩ := List.mem_iff_getElem.1 ho
  rw [List.length_take] at hi
  rw [List.getElem_take]
  have := List.pairwise_iff_getElem.1 h4 i k (by omega) hk (by omega)
  simpa using this

/-- What Whole says, if all may be. -/
theorem whole_T {l : List In1} {g : List Int} {S : Int} (hm : mayB l = true) (hg : goneB l g = true) (h0 : 0 ≤ S) (h1 : S ≤ 1099511627776) (h2 : g.sum + S ≤ 1099511627776) :
    wholeN l g S = if (valsL l).sum < g.sum + S then 3 else 0 := by
  have hgs : 0 ≤ g.sum := by
    have := isum_bd 1099511627776 g (gone_bd hm hg)
    omega
  unfold wholeN
  rw [if_neg (by simp [hm, hg]; omega)]
  unfold adjN
  rw [if_neg (by simp [hm]; omega)]
  split
  · rfl
  · rename_i h3
    have hv := may_vals hm
    obtain ⟨l1, l2, -⟩ := (may_iff l).1 hm
    have hl := vals_len l
    unfold wrongN
    have e1 : (valsL l).any is_neg = false := List.any_eq_false.2 fun x hx => by have := hv x hx; simp [is_neg]; omega
    have e2 : (valsL l).any is_over = false := List.any_eq_false.2 fun x hx => by have := hv x hx; simp [is_over]; omega
    rw [if_neg, if_neg, if_neg]
    · rintro ⟨p, q⟩
      rw [List.any_eq_false] at q
      have : (valsL l).sum ≤ 0 := by
        have key : ∀ xs : List Int, (∀ x ∈ xs, x ≤ 0) → xs.sum ≤ 0 := by
          intro xs
          induction xs with
          | nil => intro _; simp
          | cons x xs ih =>
            intro h
            have a := h x (by simp)
            have b := ih (fun y hy => h y (by simp [hy]))
            rw [List.sum_cons]; omega
        refine key _ fun x hx => ?_
        have := q x hx
        simp [is_pos] at this
        omega
      omega
    · rintro (p | p | p)
      · omega
      · omega
      · rw [e2] at p; cases p
    · rintro (p | p | p)
      · omega
      · rw [p] at hl; simp at hl; omega
      · rw [e1] at p; cases p

theorem gone_rev {l : List In1} {g : List Int} (h : goneB l g = true) : goneB l.reverse g.reverse = true := by
  obtain ⟨h1, h2⟩ := (gone_iff l g).1 h
  refine (gone_iff _ _).2 ⟨by simpa using h1, fun k hk => ?_⟩
  rw [List.length_reverse] at hk
  have e := h2 (l.length - 1 - k) (by omega)
  unfold goneAt at e ⊢
  have e1 : g.reverse.getD k 0 = g.getD (l.length - 1 - k) 0 := by
    rw [List.getD_eq_getElem?_getD, List.getD_eq_getElem?_getD, List.getElem?_reverse (by omega), h1]
  have e2 : l.reverse.getD k default = l.getD (l.length - 1 - k) default := by
    rw [List.getD_eq_getElem?_getD, List.getD_eq_getElem?_getD, List.getElem?_reverse (by omega)]
  rw [e1, e2]
  exact e
theorem vals_rev (l : List In1) : valsL l.reverse = (valsL l).reverse := by simp [valsL]
theorem natI_inj {A B : List Nat} (h : natI A = natI B) : A = B := by
  have := congrArg (List.map Int.toNat) h
  simpa [natI, List.map_map, Function.comp_def] using this
theorem natI_rev (A : List Nat) : natI A.reverse = (natI A).reverse := by simp [natI]
theorem isum_rev : ∀ l : List Int, l.reverse.sum = l.sum
  | [] => rfl
  | x :: l => by rw [List.reverse_cons, List.sum_append, isum_rev l, List.sum_cons]; simp; omega
theorem rev_getD {A : List Nat} {i : Nat} (h : i < A.length) : A.reverse.getD (A.length - 1 - i) 0 = A.getD i 0 := by
  rw [List.getD_eq_getElem?_getD, List.getD_eq_getElem?_getD, List.getElem?_reverse (by omega)]
  congr 2
  omega

theorem mem_le_sum : ∀ {l : List Nat} {x : Nat}, x ∈ l → x ≤ l.sum
  | [], _, h => by simp at h
  | y :: l, x, h => by
    rcases List.mem_cons.1 h with e | h
    · subst e; simp
    · have := mem_le_sum h; simp; omega
theorem near_ok {T : Nat} {W out : List Nat} (h : IsSplit T W out) (hS : 0 < T → 0 < W.sum) (hT : T ≤ W.sum) {i : Nat} (hi : i < W.length) :
    out.getD i 0 * W.sum ≤ T * W.getD i 0 + W.sum ∧ T * W.getD i 0 ≤ out.getD i 0 * W.sum + W.sum := by
  rcases Nat.eq_zero_or_pos W.sum with h0 | h0
  · have : T = 0 := by omega
    subst this
    rw [h0]; simp
  · have h5 := Nat.div_add_mod (T * W.getD i 0) W.sum
    have h6 := Nat.mod_lt (T * W.getD i 0) h0
    rcases split_near h h0 hi with e | ⟨e, _⟩
    · rw [e, Nat.mul_comm (T * W.getD i 0 / W.sum)]; omega
    · rw [e, Nat.add_mul, Nat.mul_comm (T * W.getD i 0 / W.sum)]; omega
/-- Whoever stands first, nobody's part differs by more than one. -/
theorem near_two {T : Nat} {W out out' : List Nat} (h : IsSplit T W out) (h' : IsSplit T W.reverse out') (hS : 0 < T → 0 < W.sum) (hT : T ≤ W.sum) {i : Nat} (hi : i < W.length) :
    out.getD i 0 ≤ out'.getD (W.length - 1 - i) 0 + 1 ∧ out'.getD (W.length - 1 - i) 0 ≤ out.getD i 0 + 1 := by
  have hs : W.reverse.sum = W.sum := by
    have := isum_rev (natI W)
    rw [← natI_rev, isum_nat, isum_nat] at this
    omega
  rcases Nat.eq_zero_or_pos W.sum with h0 | h0
  · have : T = 0 := by omega
    subst this
    have a := split_cap h hS hT hi
    have b := split_cap h' (by rw [hs]; exact hS) (by rw [hs]; exact hT) (i := W.length - 1 - i) (by rw [List.length_reverse]; omega)
    rw [rev_getD hi] at b
    have c : W.getD i 0 = 0 := by
      have : W.getD i 0 ≤ W.sum := by
        rw [List.getD_eq_getElem?_getD, List.getElem?_eq_getElem hi]
        exact mem_le_sum (List.getElem_mem hi)
      omega
    omega
  · have a := split_near h h0 hi
    have b := split_near h' (by rw [hs]; exact h0) (i := W.length - 1 - i) (by rw [List.length_reverse]; omega)
    rw [rev_getD hi, hs] at b
    omega


/-- The four rows, apart. -/
structure Four (W w : World) (v7 v8 v9 v10 : Value) (n7 n8 n9 n10 : Nat) (c7 c8 c9 c10 : List Value) : Prop where
  r7 : w.ownsRow 0 48 2 v7 n7 c7
  r8 : w.ownsRow 0 48 2 v8 n8 c8
  r9 : w.ownsRow 0 2 1 v9 n9 c9
  r10 : w.ownsRow 0 2 1 v10 n10 c10
  l7 : ∀ k, v7.ownBlock = some k → W.heap.size ≤ k
  l9 : ∀ k, v9.ownBlock = some k → W.heap.size ≤ k
  d78 : ∀ k, v7.ownBlock = some k → v8.ownBlock = some k → False
  d79 : ∀ k, v7.ownBlock = some k → v9.ownBlock = some k → False
  d70 : ∀ k, v7.ownBlock = some k → v10.ownBlock = some k → False
  d98 : ∀ k, v9.ownBlock = some k → v8.ownBlock = some k → False
  d90 : ∀ k, v9.ownBlock = some k → v10.ownBlock = some k → False
  bel : Below W.heap.size W w
section
variable {W w w' : World} {v7 v8 v9 v10 v' : Value} {n7 n8 n9 n10 m : Nat} {c7 c8 c9 c10 c : List Value}
theorem Four.new (W : World) {w : World} (h : Below W.heap.size W w) : Four W w (.slice none 0 0) (.slice none 0 0) (.slice none 0 0) (.slice none 0 0) 0 0 0 0 [] [] [] [] :=
  ⟨World.ownsRow_nil _ _ _ _, World.ownsRow_nil _ _ _ _, World.ownsRow_nil _ _ _ _, World.ownsRow_nil _ _ _ _, fun _ h => (by cases h), fun _ h => (by cases h), fun _ h => (by cases h), fun _ h => (by cases h), fun _ h => (by cases h), fun _ h => (by cases h), fun _ h => (by cases h), h⟩
theorem Four.later (h : Four W w v7 v8 v9 v10 n7 n8 n9 n10 c7 c8 c9 c10) (hb : Below w.heap.size w w') : Four W w' v7 v8 v9 v10 n7 n8 n9 n10 c7 c8 c9 c10 := by
  have ht : Touch (fun _ => False) w w' := Touch.of_below hb
  obtain ⟨r7, r8, r9, r10, l7, l9, d78, d79, d70, d98, d90, bel⟩ := h
  exact ⟨own_touch r7 ht (fun _ _ h => h), own_touch r8 ht (fun _ _ h => h), own_touch r9 ht (fun _ _ h => h), own_touch r10 ht (fun _ _ h => h), l7, l9, d78, d79, d70, d98, d90, bel.trans (hb.mono bel.size)⟩
theorem Four.t7 (h : Four W w v7 v8 v9 v10 n7 n8 n9 n10 c7 c8 c9 c10) (hr : w'.ownsRow 0 48 2 v' m c) (ht : Touch (fun k => v7.ownBlock = some k) w w') (hn : ∀ k, v'.ownBlock = some k → v7.ownBlock = some k ∨ w.heap.size ≤ k) :
    Four W w' v' v8 v9 v10 m n8 n9 n10 c c8 c9 c10 := by
  obtain ⟨r7, r8, r9, r10, l7, l9, d78, d79, d70, d98, d90, bel⟩ := h
  have hs := bel.size
  refine ⟨hr, own_touch r8 ht (fun k hk e => d78 k e hk), own_touch r9 ht (fun k hk e => d79 k e hk), own_touch r10 ht (fun k hk e => d70 k e hk), fun k hk => ?_, l9, fun k hk e => ?_, fun k hk e => ?_, fun k hk e => ?_, d98, d90, bel.trans (ht.below hs (fun x hx => l7 x hx))⟩
  · rcases hn k hk with a | a
    · exact l7 k a
    · omega
  · rcases hn k hk with a | a
    · exact d78 k a e
    · have := own_lt r8 e; omega
  · rcases hn k hk with a | a
    · exact d79 k a e
    · have := own_lt r9 e; omega
  · rcases hn k hk with a | a
    · exact d70 k a e
    · have := own_lt r10 e; omega
theorem Four.t9 (h : Four W w v7 v8 v9 v10 n7 n8 n9 n10 c7 c8 c9 c10) (hr : w'.ownsRow 0 2 1 v' m c) (ht : Touch (fun k => v9.ownBlock = some k) w w') (hn : ∀ k, v'.ownBlock = some k → v9.ownBlock = some k ∨ w.heap.size ≤ k) :
    Four W w' v7 v8 v' v10 n7 n8 m n10 c7 c8 c c10 := by
  obtain ⟨r7, r8, r9, r10, l7, l9, d78, d79, d70, d98, d90, bel⟩ := h
  have hs := bel.size
  refine ⟨own_touch r7 ht (fun k hk e => d79 k hk e), own_touch r8 ht (fun k hk e => d98 k e hk), hr, own_touch r10 ht (fun k hk e => d90 k e hk), l7, fun k hk => ?_, d78, fun k e hk => ?_, d70, fun k hk e => ?_, fun k hk e => ?_, bel.trans (ht.below hs (fun x hx => l9 x hx))⟩
  · rcases hn k hk with a | a
    · exact l9 k a
    · omega
  · rcases hn k hk with a | a
    · exact d79 k e a
    · have := own_lt r7 e; omega
  · rcases hn k hk with a | a
    · exact d98 k a e
    · have := own_lt r8 e; omega
  · rcases hn k hk with a | a
    · exact d90 k a e
    · have := own_lt r10 e; omega
theorem Four.t8 (h : Four W w v7 v8 v9 v10 n7 n8 n9 n10 c7 c8 c9 c10) (hr : w'.ownsRow 0 48 2 v' m c) (hb : Below w.heap.size w w') (hn : ∀ k, v'.ownBlock = some k → w.heap.size ≤ k) :
    Four W w' v7 v' v9 v10 n7 m n9 n10 c7 c c9 c10 := by
  have ht : Touch (fun _ => False) w w' := Touch.of_below hb
  obtain ⟨r7, r8, r9, r10, l7, l9, d78, d79, d70, d98, d90, bel⟩ := h
  exact ⟨own_touch r7 ht (fun _ _ h => h), hr, own_touch r9 ht (fun _ _ h => h), own_touch r10 ht (fun _ _ h => h), l7, l9, fun k e hk => by have := own_lt r7 e; have := hn k hk; omega, d79, d70, fun k e hk => by have := own_lt r9 e; have := hn k hk; omega, d90, bel.trans (hb.mono bel.size)⟩
theorem Four.t0 (h : Four W w v7 v8 v9 v10 n7 n8 n9 n10 c7 c8 c9 c10) (hr : w'.ownsRow 0 2 1 v' m c) (hb : Below w.heap.size w w') (hn : ∀ k, v'.ownBlock = some k → w.heap.size ≤ k) :
    Four W w' v7 v8 v9 v' n7 n8 n9 m c7 c8 c9 c := by
  have ht : Touch (fun _ => False) w w' := Touch.of_below hb
  obtain ⟨r7, r8, r9, r10, l7, l9, d78, d79, d70, d98, d90, bel⟩ := h
  exact ⟨own_touch r7 ht (fun _ _ h => h), own_touch r8 ht (fun _ _ h => h), own_touch r9 ht (fun _ _ h => h), hr, l7, l9, d78, d79, fun k e hk => by have := own_lt r7 e; have := hn k hk; omega, d98, fun k e hk => by have := own_lt r9 e; have := hn k hk; omega, bel.trans (hb.mono bel.size)⟩
end

/-- The interests, and what each gave up. -/
def lT (vs : List Int) : List In1 := (List.range vs.length).map fun i => ⟨nmT i, vs.getD i 0⟩
def gT (vs gs : List Int) : List Int := (List.range vs.length).map fun i => min (gs.getD (i % gs.length) 0) (vs.getD i 0)
theorem lT_len (vs : List Int) : (lT vs).length = vs.length := by simp [lT]
theorem gT_len (vs gs : List Int) : (gT vs gs).length = vs.length := by simp [gT]
theorem lT_get {vs : List Int} {k : Nat} (h : k < vs.length) : (lT vs)[k]? = some ⟨nmT k, vs.getD k 0⟩ := by simp [lT, h]
theorem gT_get {vs gs : List Int} {k : Nat} (h : k < vs.length) : (gT vs gs)[k]? = some (min (gs.getD (k % gs.length) 0) (vs.getD k 0)) := by simp [gT, h]
theorem take_next {α : Type} {l : List α} {k : Nat} {x : α} (h : l[k]? = some x) : l.take (k + 1) = l.take k ++ [x] := by
  obtain ⟨hk, e⟩ := List.getElem?_eq_some_iff.1 h
  rw [List.take_succ_eq_append_getElem hk, e]

theorem valsT (vs : List Int) : valsL (lT vs) = vs := by
  apply List.ext_getElem
  · simp [valsL, lT]
  · intro i h1 h2
    simp only [valsL, lT, List.map_map, List.getElem_map, List.getElem_range, Function.comp_def]
    rw [List.getD_eq_getElem?_getD, List.getElem?_eq_getElem h2]; rfl
theorem isum_bd2 {B : Int} : ∀ (g : List Int), (∀ z ∈ g, 0 ≤ z ∧ z ≤ B) → 0 ≤ g.sum ∧ g.sum ≤ g.length * B
  | [], _ => by simp
  | x :: g, h => by
    have h1 := h x (by simp)
    have h2 := isum_bd2 g (fun z hz => h z (by simp [hz]))
    rw [List.sum_cons, List.length_cons, Int.natCast_add, Int.add_mul]
    omega
theorem getD_bd {B : Int} {l : List Int} (hB : 0 ≤ B) (h : ∀ z ∈ l, 0 ≤ z ∧ z ≤ B) (k : Nat) : 0 ≤ l.getD k 0 ∧ l.getD k 0 ≤ B := by
  by_cases hk : k < l.length
  · rw [List.getD_eq_getElem?_getD, List.getElem?_eq_getElem hk]; exact h _ (List.getElem_mem hk)
  · rw [List.getD_eq_getElem?_getD, List.getElem?_eq_none (by omega)]; simp; omega
theorem gT_bd {vs gs : List Int} (hv : ∀ z ∈ vs, 0 ≤ z ∧ z ≤ 65535) (hg : ∀ z ∈ gs, 0 ≤ z ∧ z ≤ 65535) : ∀ z ∈ gT vs gs, 0 ≤ z ∧ z ≤ 65535 := fun z hz => by
  simp only [gT, List.mem_map, List.mem_range] at hz
  obtain ⟨i, _, rfl⟩ := hz
  have := getD_bd (by omega) hv i
  have := getD_bd (by omega) hg (i % gs.length)
  omega
section
variable {vs gs : List Int} {S : Int}
theorem lT_may (h1 : 1 ≤ vs.length) (h8 : vs.length ≤ 8) (hv : ∀ z ∈ vs, 0 ≤ z ∧ z ≤ 65535) : mayB (lT vs) = true ∧ mayB (lT vs).reverse = true := by
  have e3 : ∀ o ∈ lT vs, nameB o.t = true ∧ 0 ≤ o.z ∧ o.z ≤ 1099511627776 := fun o ho => by
    simp only [lT, List.mem_map, List.mem_range] at ho
    obtain ⟨i, hi, rfl⟩ := ho
    have := getD_bd (by omega) hv i
    exact ⟨nmT_name (by omega), this.1, by dsimp only; omega⟩
  have e4 : (lT vs).Pairwise fun a b => a.t ≠ b.t := by
    refine List.pairwise_iff_getElem.2 fun i j hi hj hij => ?_
    rw [lT_len] at hi hj
    simp only [lT, List.getElem_map, List.getElem_range]
    exact nmT_ne (by omega) (by omega) (by omega)
  refine ⟨may_of (by rw [lT_len]; exact h1) (by rw [lT_len]; omega) e3 e4, may_of (by simp [lT_len]; omega) (by simp [lT_len]; omega) (fun o ho => e3 o (List.mem_reverse.1 ho)) ?_⟩
  rw [List.pairwise_reverse]
  exact e4.imp (fun h e => h e.symm)
theorem gT_gone (hv : ∀ z ∈ vs, 0 ≤ z ∧ z ≤ 65535) (hg : ∀ z ∈ gs, 0 ≤ z ∧ z ≤ 65535) : goneB (lT vs) (gT vs gs) = true := by
  refine (gone_iff _ _).2 ⟨by rw [lT_len, gT_len], fun k hk => ?_⟩
  rw [lT_len] at hk
  have a := getD_bd (by omega) (gT_bd hv hg) k
  unfold goneAt
  have e1 : (gT vs gs).getD k 0 = min (gs.getD (k % gs.length) 0) (vs.getD k 0) := by rw [List.getD_eq_getElem?_getD, gT_get hk]; rfl
  have e2 : ((lT vs).getD k default).z = vs.getD k 0 := by rw [List.getD_eq_getElem?_getD, lT_get hk]; rfl
  rw [e2]
  simp only [Bool.and_eq_true, decide_eq_true_eq]
  omega
/-- What Whole says of both rows. -/
theorem top_whole (h8 : vs.length ≤ 8) (hv : ∀ z ∈ vs, 0 ≤ z ∧ z ≤ 65535) (hg : ∀ z ∈ gs, 0 ≤ z ∧ z ≤ 65535) (hS : 0 ≤ S ∧ S ≤ 65535) :
    ((vs.length = 0 ∨ vs.sum < S + (gT vs gs).sum) → ∃ r, r ≠ 0 ∧ wholeN (lT vs) (gT vs gs) S = r ∧ wholeN (lT vs).reverse (gT vs gs).reverse S = r) ∧
    (0 < vs.length → S + (gT vs gs).sum ≤ vs.sum → wholeN (lT vs) (gT vs gs) S = 0 ∧ wholeN (lT vs).reverse (gT vs gs).reverse S = 0) := by
  rcases Nat.eq_zero_or_pos vs.length with h0 | h0
  · obtain rfl : vs = [] := List.eq_nil_of_length_eq_zero h0
    refine ⟨fun _ => ⟨1, by decide, ?_, ?_⟩, fun h => absurd h (by simp)⟩
    · unfold wholeN; rw [if_pos (.inl (by simp [lT, mayB]))]
    · unfold wholeN; rw [if_pos (.inl (by simp [lT, mayB]))]
  · obtain ⟨m1, m2⟩ := lT_may h0 h8 hv
    have g1 := gT_gone hv hg
    have g2 := gone_rev g1
    have b := isum_bd2 (gT vs gs) (gT_bd hv hg)
    rw [gT_len] at b
    have w1 := whole_T m1 g1 hS.1 (by omega) (by omega)
    have w2 := whole_T m2 g2 hS.1 (by omega) (by rw [isum_rev]; omega)
    rw [vals_rev, isum_rev, isum_rev, valsT] at w2
    rw [valsT] at w1
    constructor
    · rintro (h | h)
      · omega
      · rw [if_pos (by omega)] at w1 w2
        exact ⟨3, by decide, w1, w2⟩
    · intro _ h
      rw [if_neg (by omega)] at w1 w2
      exact ⟨w1, w2⟩
end
theorem rev_ok {l : List In1} {g : List Int} {S : Int} {T : Nat} {W : List Nat} (ho : WholeOk l g S T W) (h : wholeN l.reverse g.reverse S = 0) : WholeOk l.reverse g.reverse S T W.reverse := by
  obtain ⟨T', W', hw⟩ := whole_is h
  have e1 : (T' : Int) = T := by rw [← hw.sum, isum_rev, ho.sum]
  have e2 : W' = W.reverse := natI_inj (by rw [← hw.vals, vals_rev, ho.vals, natI_rev])
  obtain rfl : T' = T := by omega
  subst e2
  exact hw

theorem gets_take {g : List Int} {out : List Nat} (hl : out.length = g.length) : ∀ k, k ≤ g.length → ((getsL g out).take k).sum = (g.take k).sum - ((out.take k).sum : Nat)
  | 0, _ => by simp
  | k + 1, hk => by
    rw [← itake_step (by rw [gets_len]; omega), gets_take hl k (by omega), ← itake_step (by omega), ← take_sum_step (by omega), gets_get (by omega)]
    simp only [Int.natCast_add]
    omega
theorem take_bd {B : Int} {g : List Int} (h : ∀ z ∈ g, 0 ≤ z ∧ z ≤ B) (k : Nat) : 0 ≤ (g.take k).sum ∧ (g.take k).sum ≤ g.length * B := by
  have a := isum_bd2 (g.take k) (fun z hz => h z (List.mem_of_mem_take hz))
  have b := isum_bd2 (g.drop k) (fun z hz => h z (List.mem_of_mem_drop hz))
  have e := isum_bd2 g h
  have s : (g.take k).sum + (g.drop k).sum = g.sum := by rw [← List.sum_append, List.take_append_drop]
  omega
/-- What each has got yet: of d debts, and the next one for the first i. -/
def stG (G : List Int) (l : List In1) (D : List De) (d i : Nat) : List Int := (List.range l.length).map fun j => G.getD j 0 - netD (D.take (if j < i then d + 1 else d)) (l.getD j default).t
theorem stG_len (G : List Int) (l : List In1) (D : List De) (d i : Nat) : (stG G l D d i).length = l.length := by simp [stG]
theorem stG_get {G : List Int} {l : List In1} {D : List De} {d i j : Nat} (h : j < l.length) : (stG G l D d i).getD j 0 = G.getD j 0 - netD (D.take (if j < i then d + 1 else d)) (l.getD j default).t := by
  simp [stG, List.getD_eq_getElem?_getD, h]
theorem stG_zero {G : List Int} {l : List In1} (D : List De) (h : G.length = l.length) : stG G l D 0 0 = G := by
  apply List.ext_getElem
  · rw [stG_len, h]
  · intro i h1 h2
    simp only [stG, List.getElem_map, List.getElem_range]
    rw [List.getD_eq_getElem?_getD, List.getElem?_eq_getElem h2]
    simp [netD]
theorem stG_set {G : List Int} {l : List In1} {D : List De} {d i : Nat} (h : i < l.length) : (stG G l D d i).set i (G.getD i 0 - netD (D.take (d + 1)) (l.getD i default).t) = stG G l D d (i + 1) := by
  apply List.ext_getElem
  · rw [List.length_set, stG_len, stG_len]
  · intro j h1 h2
    rw [List.getElem_set]
    simp only [stG, List.getElem_map, List.getElem_range]
    by_cases e : i = j
    · subst e; rw [if_pos rfl, if_pos (by omega)]
    · rw [if_neg e]
      by_cases e2 : j < i
      · rw [if_pos e2, if_pos (by omega)]
      · rw [if_neg e2, if_neg (by omega)]
theorem stG_same {G : List Int} {l : List In1} {D : List De} {d i : Nat} (h : i < l.length) (e : netD (D.take (d + 1)) (l.getD i default).t = netD (D.take d) (l.getD i default).t) : stG G l D d i = stG G l D d (i + 1) := by
  rw [← stG_set h, e]
  symm
  have hl : i < (stG G l D d i).length := by rw [stG_len]; exact h
  have e2 : (stG G l D d i)[i] = G.getD i 0 - netD (D.take d) (l.getD i default).t := by
    have := stG_get (G := G) (D := D) (d := d) (i := i) h
    rw [List.getD_eq_getElem?_getD, List.getElem?_eq_getElem hl, if_neg (by omega)] at this
    exact this
  rw [← e2]
  exact List.set_getElem_self hl
theorem stG_next (G : List Int) (l : List In1) (D : List De) (d : Nat) : stG G l D d l.length = stG G l D (d + 1) 0 := by
  unfold stG
  refine List.map_congr_left fun j hj => ?_
  rw [if_pos (List.mem_range.1 hj), if_neg (by omega)]
theorem blk_no_text {w : World} {b j : Nat} {xs : List Int} {t : ByteArray} (h : Blk w b xs) (hc : w.cell? ⟨b, j, none⟩ = some (.string t)) : False := by
  simp [World.cell?, show w.heap[b]? = _ from h, iA] at hc
theorem blk_touch {S : Nat → Prop} {w w' : World} {b : Nat} {xs : List Int} (h : Blk w b xs) (ht : Touch S w w') (hn : ¬ S b) : Blk w' b xs := (ht.block b h.lt hn).trans h
theorem box_on {S : Nat → Prop} {w w2 : World} {j : Nat} {v : Value} {cs : Array Value} {t : TypeId} (h : Touch S (w.alloc (.cells cs t)) w2) (hS : ¬ S w.heap.size) (hv : cs[j]? = some v) : w2.cell? ⟨w.heap.size, j, none⟩ = some v := by
  have e := (h.block w.heap.size (by simp) hS).trans (heap_alloc_new w (.cells cs t))
  unfold World.cell?
  rw [e]; exact hv
theorem box_new1 {j : Nat} {v : Value} (w : World) (cs : Array Value) (t : TypeId) (h : cs[j]? = some v) : (w.alloc (.cells cs t)).cell? ⟨w.heap.size, j, none⟩ = some v := by
  unfold World.cell?; rw [heap_alloc_new]; exact h
/-- A text of one byte. -/
theorem one_byte {P : Program} (w : World) (src dst e : TypeId) (b l c : Nat) (z : Int) (hs : P.underlying src = some (.slice e)) (he : P.underlying e = some (.int .u8)) (hd : P.underlying dst = some .string)
    (hc : w.cell? ⟨b, 0, none⟩ = some (.int .u8 z)) : (convert src dst (.slice (some ⟨b, 0, none⟩) 1 c)).run P w = .ok (.string ⟨#[UInt8.ofNat z.toNat]⟩) w := by
  rw [run_convert_bytes_string w src dst e _ _ _ hs he hd]
  rw [run_bytesToString w ⟨b, 0, none⟩ 1 c [z] ?_]
  · rfl
  · simp [go_sem, hc]
end Go.Proofs.Ytofkeipfkglljaa
