/-
  A map from texts to booleans, or to numbers, that the call itself makes.
-/
import Derived.Test.YtofkeipfkglljaaSep
import Derived.Maps.OwnOps
import Derived.Maps.OwnSet
import Derived.Maps.Views
import Derived.StringKeys
namespace Go.Proofs.Ytofkeipfkglljaa
open Go Go.RowKit Go.Maps Go.WideMaps
set_option linter.unusedVariables false
set_option linter.unusedSimpArgs false

theorem plain_bool_inv {H : Type} {P : Program} {e : TypeId} (he : P.underlying e = some .bool) {v : Value} {z : DataW H × List MemPlace} (h : plainElem P e v = some z) : ∃ x, v = .bool x ∧ z = (.lit (.bool x), []) := by
  unfold plainElem at h
  rw [he] at h
  cases v <;> simp at h
  exact ⟨_, rfl, h.symm⟩

def nkey (s : ByteArray) : Lit := .string s.data.toList
theorem nkey_ne {s t : ByteArray} (h : s ≠ t) : nkey s ≠ nkey t := by
  intro e
  unfold nkey at e
  apply h
  have : s.data.toList = t.data.toList := by injection e
  cases s; cases t
  simp at this
  simp [this]
theorem nkey_is (s : ByteArray) : WideAt.IsKeyLit (nkey s) := by simp [nkey, WideAt.IsKeyLit]

theorem owns_touch {H : Type} {P : Program} {k : TypeId} {R : Value → Option (DataW H × List MemPlace)} {w w' : World} {b n : Nat} {D : DataW H} {S : Nat → Prop} (h : w.ownsMap P k R b n D) (ht : Touch S w w') (hn : ¬ S b) : w'.ownsMap P k R b n D := by
  have hlt := h.lt
  obtain ⟨es, clock, hb, F, hs, hD⟩ := h
  exact ⟨es, clock, (ht.block b hlt hn).trans hb, F, hs, hD⟩
theorem touch_grown {w w' : World} {b : Nat} (h : w.grownBy w' (some b)) : Touch (fun k => k = b) w w' :=
  (Touch.refl _ w).grown h (fun k hk => .inl (by cases hk; rfl))

/-- Block b is a map of at most n entries that tells f. -/
def BMap (P : Program) (k e : TypeId) (w : World) (b n : Nat) (f : ByteArray → Bool) : Prop :=
  ∃ D : DataW Unit, w.ownsMap P k (plainElem P e) b n D ∧ ∀ s, D.atKey (nkey s) (.lit (.bool false)) = .lit (.bool (f s))
theorem BMap.made (P : Program) (k e : TypeId) (w : World) : BMap P k e (w.alloc (.map #[] 0)) w.heap.size 0 (fun _ => false) := ⟨.map [], World.ownsMap_made _ _ _ _, fun s => rfl⟩
theorem BMap.touch {P : Program} {k e : TypeId} {w w' : World} {b n : Nat} {f : ByteArray → Bool} {S : Nat → Prop} (h : BMap P k e w b n f) (ht : Touch S w w') (hn : ¬ S b) : BMap P k e w' b n f := by
  obtain ⟨D, h1, h2⟩ := h
  exact ⟨D, owns_touch h1 ht hn, h2⟩
theorem BMap.lt {P : Program} {k e : TypeId} {w : World} {b n : Nat} {f : ByteArray → Bool} (h : BMap P k e w b n f) : b < w.heap.size := by
  obtain ⟨D, h1, h2⟩ := h
  exact h1.lt

theorem wpList_bget {P : Program} (w : World) {ops : Array Oper} {rest : List Oper} {o : Oper} {a : Act} {Q : Exit → Act → World → Prop}
    (hg : o.guard = none) (m x : Operand) (t : TypeId) (hop : o.op = Op.lookup t m x false) (k e : TypeId) (hk : P.underlying k = some .string) (ht : P.underlying t = some (.map k e)) (he : P.underlying e = some .bool) (hz : (zeroValue e).run P w = .ok (.bool false) w)
    (b n : Nat) (f : ByteArray → Bool) (hm : a.eval m = .map (some b)) (h : BMap P k e w b n f) (s : ByteArray) (hx : a.eval x = .string s) (hs : s.size ≤ maxLen)
    (hK : wpList P ops Q rest (a.put o.dst (.bool (f s))) w) : wpList P ops Q (o :: rest) a w := by
  refine wpList_plain hg fun K' hK' => ?_
  obtain ⟨D, ho, hf⟩ := h
  obtain ⟨v, ps, hrun, hv⟩ := ho.lookup (string_keyed hk) ht hz (plainElem_bool he false) (keyOf_string_mk hk hs)
  obtain ⟨c, rfl, hc⟩ := plain_bool_inv he hv
  simp only [Prod.mk.injEq] at hc
  have h1 := (hf s).symm.trans hc.1
  have e : f s = c := by injection h1 with h1; injection h1
  subst e
  unfold Oper.wp
  simp [execOp, hop, hm, hx, hrun, Result.andThen]
  exact hK' _ _ hK

theorem wpList_bset {P : Program} (w : World) {ops : Array Oper} {rest : List Oper} {o : Oper} {a : Act} {Q : Exit → Act → World → Prop}
    (hg : o.guard = none) (m x v : Operand) (t : TypeId) (hop : o.op = Op.mapUpdate t m x v) (k e : TypeId) (hk : P.underlying k = some .string) (ht : P.underlying t = some (.map k e)) (he : P.underlying e = some .bool)
    (b n : Nat) (f : ByteArray → Bool) (hm : a.eval m = .map (some b)) (h : BMap P k e w b n f) (hn : n < maxLen) (s : ByteArray) (hx : a.eval x = .string s) (hs : s.size ≤ maxLen) (y : Bool) (hv : a.eval v = .bool y)
    (hK : ∀ w', BMap P k e w' b (n + 1) (fun u => if u = s then y else f u) → Touch (fun k => k = b) w w' → wpList P ops Q rest (a.put o.dst undef) w') : wpList P ops Q (o :: rest) a w := by
  obtain ⟨D, ho, hf⟩ := h
  refine wpList_mapUpdate_own w hg m x v t hop k e (string_keyed hk) ht _ b n D hm ho hn _ _ (nkey s) hx hv (keyOf_string_mk hk hs) _ [] (plainElem_bool he y) ?_
  intro w' h1 h2
  refine hK w' ⟨_, h1, fun u => ?_⟩ (touch_grown h2)
  by_cases hu : u = s
  · subst hu
    rw [atKey_put_same ho.isMap (nkey_is u)]
    simp
  · rw [atKey_put_other (nkey_ne hu), hf]
    simp [hu]

/-- .. of numbers. -/
def IMap (P : Program) (k e : TypeId) (w : World) (b n : Nat) (f : ByteArray → Int) : Prop :=
  ∃ D : DataW Unit, w.ownsMap P k (plainElem P e) b n D ∧ ∀ s, D.atKey (nkey s) (.lit (.int .i64 0)) = .lit (.int .i64 (f s))
theorem IMap.made (P : Program) (k e : TypeId) (w : World) : IMap P k e (w.alloc (.map #[] 0)) w.heap.size 0 (fun _ => 0) := ⟨.map [], World.ownsMap_made _ _ _ _, fun s => rfl⟩
theorem IMap.touch {P : Program} {k e : TypeId} {w w' : World} {b n : Nat} {f : ByteArray → Int} {S : Nat → Prop} (h : IMap P k e w b n f) (ht : Touch S w w') (hn : ¬ S b) : IMap P k e w' b n f := by
  obtain ⟨D, h1, h2⟩ := h
  exact ⟨D, owns_touch h1 ht hn, h2⟩
theorem IMap.lt {P : Program} {k e : TypeId} {w : World} {b n : Nat} {f : ByteArray → Int} (h : IMap P k e w b n f) : b < w.heap.size := by
  obtain ⟨D, h1, h2⟩ := h
  exact h1.lt

theorem wpList_iget {P : Program} (w : World) {ops : Array Oper} {rest : List Oper} {o : Oper} {a : Act} {Q : Exit → Act → World → Prop}
    (hg : o.guard = none) (m x : Operand) (t : TypeId) (hop : o.op = Op.lookup t m x false) (k e : TypeId) (hk : P.underlying k = some .string) (ht : P.underlying t = some (.map k e)) (he : P.underlying e = some (.int .i64)) (hz : (zeroValue e).run P w = .ok (.int .i64 0) w)
    (b n : Nat) (f : ByteArray → Int) (hm : a.eval m = .map (some b)) (h : IMap P k e w b n f) (s : ByteArray) (hx : a.eval x = .string s) (hs : s.size ≤ maxLen)
    (hK : wpList P ops Q rest (a.put o.dst (.int .i64 (f s))) w) : wpList P ops Q (o :: rest) a w := by
  obtain ⟨D, ho, hf⟩ := h
  refine wpList_lookup_own_int w hg m x t hop k e .i64 (string_keyed hk) ht he hz b n D hm ho _ (nkey s) hx (keyOf_string_mk hk hs) ?_
  intro c hc _
  have h1 := (hf s).symm.trans hc
  have e : f s = c := by injection h1 with h1; injection h1
  rw [← e]
  exact hK

theorem wpList_iset {P : Program} (w : World) {ops : Array Oper} {rest : List Oper} {o : Oper} {a : Act} {Q : Exit → Act → World → Prop}
    (hg : o.guard = none) (m x v : Operand) (t : TypeId) (hop : o.op = Op.mapUpdate t m x v) (k e : TypeId) (hk : P.underlying k = some .string) (ht : P.underlying t = some (.map k e)) (he : P.underlying e = some (.int .i64))
    (b n : Nat) (f : ByteArray → Int) (hm : a.eval m = .map (some b)) (h : IMap P k e w b n f) (hn : n < maxLen) (s : ByteArray) (hx : a.eval x = .string s) (hs : s.size ≤ maxLen) (y : Int) (hv : a.eval v = .int .i64 y) (hy : (Lit.int .i64 y).wf = true)
    (hK : ∀ w', IMap P k e w' b (n + 1) (fun u => if u = s then y else f u) → Touch (fun k => k = b) w w' → wpList P ops Q rest (a.put o.dst undef) w') : wpList P ops Q (o :: rest) a w := by
  obtain ⟨D, ho, hf⟩ := h
  refine wpList_mapUpdate_own w hg m x v t hop k e (string_keyed hk) ht _ b n D hm ho hn _ _ (nkey s) hx hv (keyOf_string_mk hk hs) _ [] (plainElem_int he hy) ?_
  intro w' h1 h2
  refine hK w' ⟨_, h1, fun u => ?_⟩ (touch_grown h2)
  by_cases hu : u = s
  · subst hu
    rw [atKey_put_same ho.isMap (nkey_is u)]
    simp
  · rw [atKey_put_other (nkey_ne hu), hf]
    simp [hu]
end Go.Proofs.Ytofkeipfkglljaa
