/-
  Small words of our own, of no program: a slice value that reads as a list of cells; how that lasts.
-/
import Derived.WalkKit
import Derived.WalkSpells
import Derived.WalkLawsBesides
import Derived.ProofKit
import Derived.OpenShut
import Derived.Handy
import Derived.Lib.Hide
import Derived.Deep.QuietTactic
import Derived.BigQuiet
import Derived.Deep.Slices
namespace Go.Proofs.YtllaahdbngjigaaDoor
open Go Go.RowKit
set_option linter.unusedVariables false
set_option linter.unusedSimpArgs false

/-- The slice value v of n elements, each of sz cells, reads as the cells cs. -/
def Row (w : World) (v : Value) (sz n : Nat) (cs : List Value) : Prop :=
  cs.length = n * sz ∧ ∃ ao cap, v = .slice ao n cap ∧ n ≤ cap ∧ cap ≤ maxLen ∧ (ao = none → cap = 0) ∧ ∀ a, ao = some a → ∀ j u, cs[j]? = some u → w.cell? (a.add j) = some u

theorem Row.below {w w' : World} {v : Value} {sz n : Nat} {cs : List Value} (h : Row w v sz n cs) (hb : Below w.heap.size w w') : Row w' v sz n cs := by
  obtain ⟨h1, ao, cap, h2, h3, h4, h5, h6⟩ := h
  exact ⟨h1, ao, cap, h2, h3, h4, h5, fun a ha j u hu => cell_later hb (h6 a ha j u hu)⟩

theorem Row.drewN {w : World} {v : Value} {sz n : Nat} {cs : List Value} (h : Row w v sz n cs) (k : Nat) : Row (w.drewN k) v sz n cs := h

theorem Row.nil (w : World) (sz : Nat) : Row w (.slice none 0 0) sz 0 [] :=
  ⟨by simp, none, 0, rfl, Nat.le_refl _, by unfold maxLen; omega, fun _ => rfl, fun _ h => by cases h⟩

theorem add_in (b j : Nat) : (⟨b, 0, none⟩ : Addr).add j = ⟨b, j, none⟩ := by
  unfold Addr.add; split <;> simp_all
theorem add_at (b off j : Nat) : (⟨b, off, none⟩ : Addr).add j = ⟨b, off + j, none⟩ := by
  unfold Addr.add; split <;> simp_all

theorem Row.of_own {w : World} {base e sz n : Nat} {v : Value} {cs : List Value} (h : w.ownsRow base e sz v n cs) : Row w v sz n cs := by
  obtain ⟨h1, h⟩ := h
  rcases h with ⟨rfl, rfl⟩ | ⟨g, cap, cur, rfl, h3, h4, h5, h6, h7, rfl⟩
  · obtain rfl : cs = [] := List.eq_nil_of_length_eq_zero (by simpa using h1)
    exact Row.nil w sz
  · refine ⟨h1, _, cap, rfl, h5, h6, (fun h => by cases h), fun a ha j u hu => ?_⟩
    cases ha
    have hj : j < n * sz := by
      have := (List.getElem?_eq_some_iff.1 hu).1
      simp at this; omega
    have hu' : cur[j]? = some u := by
      rw [List.getElem?_take, if_pos hj] at hu
      simpa using hu
    rw [add_in g j]
    simp [World.cell?, h4, hu']

/-- A row that has cells: where they lie. -/
theorem Row.at {w : World} {v : Value} {sz n : Nat} {cs : List Value} (h : Row w v sz n cs) (hp : 0 < cs.length) :
    ∃ b off cap, v = .slice (some ⟨b, off, none⟩) n cap ∧ n ≤ cap ∧ cap ≤ maxLen ∧ b < w.heap.size ∧ ∀ k (hk : k < cs.length), w.cell? ⟨b, off + k, none⟩ = some cs[k] := by
  obtain ⟨h1, ao, cap, rfl, h3, h4, h5, h6⟩ := h
  cases ao with
  | none =>
    have e := h5 rfl
    obtain rfl : n = 0 := by omega
    rw [Nat.zero_mul] at h1
    omega
  | some a =>
    have hc := h6 a rfl 0 _ (List.getElem?_eq_getElem hp)
    obtain ⟨b, off, spot⟩ := a
    have hspot : spot = none := by simpa [Addr.add] using World.cell?_spot hc
    subst hspot
    have hc' := hc
    rw [add_at] at hc'
    refine ⟨b, off, cap, rfl, h3, h4, World.block_lt_of_cell? _ _ hc', fun k hk => ?_⟩
    have := h6 _ rfl k _ (List.getElem?_eq_getElem hk)
    rwa [add_at] at this

theorem one_at (w : World) (v : Value) (e n : Nat) (hn : n = w.heap.size) : ∀ j u, [v][j]? = some u → (w.alloc (.cells #[v] e)).cell? ((⟨n, 0, none⟩ : Addr).add j) = some u := by
  subst hn
  exact cell_one_new _ _ _
theorem one_int (k : IntKind) (z : Int) : ∀ u ∈ [Value.int k z], u.oneCell' = true := by intro u hu; simp at hu; subst hu; rfl

theorem own_lit (w : World) (e n : Nat) (cs : Array Value) (hn : n ≤ maxLen) (h : cs.size = n) : (w.alloc (.cells cs e)).ownsRow w.heap.size e 1 (.slice (some ⟨w.heap.size, 0, none⟩) n n) n cs.toList := by
  refine ⟨by simp [h], .inr ⟨w.heap.size, n, cs, rfl, Nat.le_refl _, ?_, Nat.le_refl _, hn, by simpa using h, ?_⟩⟩
  · show (w.heap.push _)[w.heap.size]? = _
    simp
  · rw [List.take_of_length_le (by simp [h])]


theorem own_block {w : World} {base e sz n : Nat} {v : Value} {cs : List Value} (h : w.ownsRow base e sz v n cs) {k : Nat} (hk : v.ownBlock = some k) : base ≤ k := by
  rcases h.2 with ⟨rfl, _⟩ | ⟨g, cap, cur, rfl, h3, _⟩
  · cases hk
  · cases hk; exact h3

/-- One element (of sz cells, just laid in a block of its own) is appended to a slice that the call owns. -/
theorem wp_app {P : Program} {ops : Array Oper} {rest : List Oper} {o : Oper} {a : Act} {Q : Exit → Act → World → Prop} {W w : World} {B : Nat} (hgd : o.guard = none) (s x : Operand) (t : TypeId)
    (ho : o.op = .call { callee := .builtin .append, args := #[s, x], argTypes := #[t, t] })
    (base : Nat) (e : TypeId) (i : TypeInfo) (z : Value) (sz bytes : Nat) (ht : P.underlying t = some (.slice e)) (hi : P.info? e = some i) (hz : i.zero = some z)
    (hsize : i.size = sz) (hby : i.bytes = bytes) (hzs : z.cells.size = sz) (hsz : 0 < sz)
    (v : Value) (n : Nat) (xs : List Value) (hs : a.eval s = v) (hown : w.ownsRow base e sz v n xs) (hB : Below B W w) (hBb : B ≤ base) (hbase : base ≤ w.heap.size)
    (us : Array Value) (m : Nat) (hm : m = w.heap.size) (hx : a.eval x = .slice (some ⟨m, 0, none⟩) 1 1) (hus : us.size = sz) (h1 : ∀ u ∈ us.toList, u.oneCell' = true)
    (h63 : n + 1 ≤ maxLen) (hbytes : (n + 1) * bytes ≤ 140737488355328)
    (h : ∀ v' w', w'.ownsRow base e sz v' (n + 1) (xs ++ us.toList) → Below B W w' → w.heap.size ≤ w'.heap.size → wpList P ops Q rest (a.put o.dst v') w') :
    wpList P ops Q (o :: rest) a (w.alloc (.cells us e)) := by
  subst hm
  refine wpList_append_own (w.alloc (.cells us e)) hgd s x t ho base e i z sz bytes ht hi hz hsize hby hzs hsz v n xs hs (hown.alloc _) ⟨w.heap.size, 0, none⟩ 1 1 us.toList hx (by simp [hus]) ?_ h1 h63 hbytes (by simp; omega) ?_
  · intro j u hu
    rw [add_in]
    have hj : us[j]? = some u := by simpa using hu
    unfold World.cell?
    rw [heap_alloc_new]
    simpa using hj
  · intro v' w' h2 h3 _
    refine h v' w' h2 ((hB.alloc (by have := hB.size; omega) _).grown h3 (by simp; omega) (fun k hk => Nat.le_trans hBb (own_block hown hk))) ?_
    have := h3.size; simp at this; omega

/-- The new block's cells. -/
theorem new_cells (w : World) (us : Array Value) (e : TypeId) : ∀ j u, us.toList[j]? = some u → (w.alloc (.cells us e)).cell? ((⟨w.heap.size, 0, none⟩ : Addr).add j) = some u := by
  intro j u hu
  rw [add_in]
  unfold World.cell?
  rw [heap_alloc_new]
  simpa using hu

/-- One element is appended as one step of a region that draws its order. -/
theorem step_app {P : Program} {ops : Array Oper} {o : Oper} {a : Act} {K : Act → World → Prop} {Q : Exit → Act → World → Prop} {E : Prop} {W w : World} {B : Nat} (hgd : o.guard = none) (s x : Operand) (t : TypeId)
    (ho : o.op = .call { callee := .builtin .append, args := #[s, x], argTypes := #[t, t] })
    (base : Nat) (e : TypeId) (i : TypeInfo) (z : Value) (sz bytes : Nat) (ht : P.underlying t = some (.slice e)) (hi : P.info? e = some i) (hz : i.zero = some z)
    (hsize : i.size = sz) (hby : i.bytes = bytes) (hzs : z.cells.size = sz) (hsz : 0 < sz)
    (v : Value) (n : Nat) (xs : List Value) (hs : a.eval s = v) (hown : w.ownsRow base e sz v n xs) (hB : Below B W w) (hBb : B ≤ base) (hbase : base ≤ w.heap.size)
    (us : Array Value) (m : Nat) (hx : a.eval x = .slice (some ⟨m, 0, none⟩) 1 1) (hcells : ∀ j u, us.toList[j]? = some u → w.cell? ((⟨m, 0, none⟩ : Addr).add j) = some u) (hus : us.size = sz) (h1 : ∀ u ∈ us.toList, u.oneCell' = true)
    (h63 : n + 1 ≤ maxLen) (hbytes : (n + 1) * bytes ≤ 140737488355328)
    (h : ∀ v' w', w'.ownsRow base e sz v' (n + 1) (xs ++ us.toList) → Below B W w' → w.heap.size ≤ w'.heap.size → K (a.put o.dst v') w') :
    if Region.wanted o (yielded ops a.tmps) = true then Oper.wp P o a w K Q else E := by
  have hw : Region.wanted o (yielded ops a.tmps) = true := by simp [Region.wanted, hgd]
  rw [if_pos hw]
  refine wp_append_own w s x t ho base e i z sz bytes ht hi hz hsize hby hzs hsz v n xs hs hown ⟨m, 0, none⟩ 1 1 us.toList hx (by simp [hus]) hcells h1 h63 hbytes hbase ?_
  intro v' w' h2 h3 _
  exact h v' w' h2 (hB.grown h3 (by omega) (fun k hk => Nat.le_trans hBb (own_block hown hk))) h3.size

/-- Elements of sz cells each, laid one behind the other. -/
theorem flat_get {α : Type} {f : α → List Value} {sz : Nat} (hf : ∀ a, (f a).length = sz) : ∀ (l : List α) (k j : Nat) (hk : k < l.length), j < sz → (l.flatMap f)[k * sz + j]? = (f l[k])[j]?
  | [], k, j, hk, _ => by simp at hk
  | a :: l, 0, j, _, hj => by
    rw [List.flatMap_cons, Nat.zero_mul, Nat.zero_add, List.getElem?_append_left (by rw [hf]; exact hj)]; rfl
  | a :: l, k + 1, j, hk, hj => by
    have e : (k + 1) * sz + j = sz + (k * sz + j) := by rw [Nat.succ_mul]; omega
    rw [List.flatMap_cons, e, List.getElem?_append_right (by rw [hf]; omega), hf, Nat.add_sub_cancel_left]
    exact flat_get hf l k j (by simpa using hk) hj
theorem flat_len {α : Type} {f : α → List Value} {sz : Nat} (hf : ∀ a, (f a).length = sz) : ∀ (l : List α), (l.flatMap f).length = l.length * sz
  | [] => by simp
  | a :: l => by rw [List.flatMap_cons, List.length_append, hf, flat_len hf l, List.length_cons, Nat.succ_mul]; omega

/-- A slice value that came in, element by element. -/
theorem row_of_each {α : Type} {f : α → List Value} {p : α → Prop} {sz : Nat} (hf : ∀ a, (f a).length = sz) {W : World} {a : Addr} {len cap : Nat} (hl : len ≤ cap) (hm : cap ≤ maxLen)
    (h : ∀ i, i < len → ∃ x : α, W.cells? 0 (a.add (i * sz)) sz = some (f x) ∧ p x) :
    ∃ xs : List α, xs.length = len ∧ (∀ x ∈ xs, p x) ∧ Row W (.slice (some a) len cap) sz len (xs.flatMap f) := by
  have key : ∀ n, n ≤ len → ∃ xs : List α, xs.length = n ∧ (∀ x ∈ xs, p x) ∧ ∀ i (hi : i < xs.length), W.cells? 0 (a.add (i * sz)) sz = some (f xs[i]) := by
    intro n
    induction n with
    | zero => intro _; exact ⟨[], rfl, by simp, by simp⟩
    | succ n ih =>
      intro hn
      obtain ⟨xs, h1, h2, h3⟩ := ih (by omega)
      obtain ⟨x, hx, hp⟩ := h n (by omega)
      refine ⟨xs ++ [x], by simp [h1], ?_, ?_⟩
      · intro y hy
        rcases List.mem_append.1 hy with hy | hy
        · exact h2 y hy
        · simp at hy; subst hy; exact hp
      · intro i hi
        by_cases hin : i < xs.length
        · rw [List.getElem_append_left hin]; exact h3 i hin
        · have : i = n := by simp at hi; omega
          subst this
          rw [List.getElem_append_right (by omega)]
          simpa [h1] using hx
  obtain ⟨xs, h1, h2, h3⟩ := key len (Nat.le_refl _)
  refine ⟨xs, h1, h2, by rw [flat_len hf, h1], some a, cap, rfl, hl, hm, (fun h => by cases h), ?_⟩
  intro b hb j u hu
  cases hb
  have hjl : j < xs.length * sz := by
    have := (List.getElem?_eq_some_iff.1 hu).1
    rwa [flat_len hf] at this
  have hsz : 0 < sz := by
    rcases Nat.eq_zero_or_pos sz with h0 | h0
    · rw [h0] at hjl; omega
    · exact h0
  have hk : j / sz < xs.length := Nat.div_lt_of_lt_mul (by rw [Nat.mul_comm]; exact hjl)
  have hr : j % sz < sz := Nat.mod_lt _ hsz
  have hj : j / sz * sz + j % sz = j := by rw [Nat.mul_comm]; exact Nat.div_add_mod j sz
  have e := flat_get hf xs (j / sz) (j % sz) hk hr
  rw [hj, hu] at e
  have hc := (World.cells?_some (h3 (j / sz) hk)).2.2 (j % sz) hr
  rw [Deep.add_add, hj] at hc
  rw [hc, ← e]

/-- A slice of ints. -/
def Ints (w : World) (v : Value) (zs : List Int) : Prop := Row w v 1 zs.length (zs.map (Value.int .i64))

theorem Ints.below {w w' : World} {v : Value} {zs : List Int} (h : Ints w v zs) (hb : Below w.heap.size w w') : Ints w' v zs := Row.below h hb
theorem Ints.nil (w : World) : Ints w (.slice none 0 0) [] := Row.nil w 1
theorem Ints.at {w : World} {v : Value} {zs : List Int} (h : Ints w v zs) (hp : 0 < zs.length) :
    ∃ b off cap, v = .slice (some ⟨b, off, none⟩) zs.length cap ∧ zs.length ≤ cap ∧ cap ≤ maxLen ∧ b < w.heap.size ∧ ∀ k (hk : k < zs.length), w.cell? ⟨b, off + k, none⟩ = some (.int .i64 zs[k]) := by
  obtain ⟨b, off, cap, h1, h2, h3, h4, h5⟩ := Row.at h (by simpa using hp)
  exact ⟨b, off, cap, h1, h2, h3, h4, fun k hk => by have := h5 k (by simpa using hk); rw [this]; simp⟩
theorem Ints.shape {w : World} {v : Value} {zs : List Int} (h : Ints w v zs) : ∃ ao cap, v = .slice ao zs.length cap ∧ zs.length ≤ cap ∧ cap ≤ maxLen ∧ (ao = none → cap = 0) := by
  obtain ⟨_, ao, cap, h1, h2, h3, h4, _⟩ := h
  exact ⟨ao, cap, h1, h2, h3, h4⟩
end Go.Proofs.YtllaahdbngjigaaDoor
