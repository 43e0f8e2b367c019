/-
  Maps that the call makes, told as lists of keys and values in the order in which they came: look-up, store, delete, range.
-/
import Derived.Test.YtllaahdbngjigaaDoorRows
import Derived.Test.YtllaahdbngjigaaDoorSep
import Derived.Maps.RangeWalk
import Derived.Maps.Keyed
import Derived.DeepKeys4
namespace Go.Proofs.YtllaahdbngjigaaDoor
open Go Go.RowKit Go.Maps Go.MapKept
set_option linter.unusedVariables false
set_option linter.unusedSimpArgs false

/-- Block b is a map of these keys and values, in this order. -/
def MP (w : World) (b : Nat) (l : List (Value × Value)) : Prop :=
  ∃ (es : Array MapEntry) (c : Nat), w.heap[b]? = some (.map es c) ∧ Stamped es c ∧ es.toList.map (fun e => (e.key, e.val)) = l
theorem MP.lt {w : World} {b : Nat} {l : List (Value × Value)} (h : MP w b l) : b < w.heap.size := by
  obtain ⟨es, c, h1, _⟩ := h
  exact lt_of_block h1
theorem MP.touch {S : Nat → Prop} {w w' : World} {b : Nat} {l : List (Value × Value)} (h : MP w b l) (ht : Touch S w w') (hn : ¬ S b) : MP w' b l := by
  have hl := h.lt
  obtain ⟨es, c, h1, h2⟩ := h
  exact ⟨es, c, (ht.block b hl hn).trans h1, h2⟩
theorem MP.below {w w' : World} {b : Nat} {l : List (Value × Value)} (h : MP w b l) (hb : Below w.heap.size w w') : MP w' b l := h.touch (S := fun _ => False) (Touch.of_below hb) id
theorem MP.new (w : World) : MP (w.alloc (.map #[] 0)) w.heap.size [] := ⟨#[], 0, heap_alloc_new _ _, stamped_empty 0, rfl⟩
theorem MP.nodup {w : World} {b : Nat} {l : List (Value × Value)} (h : MP w b l) : l.Pairwise (fun p q => p.1 ≠ q.1) := by
  obtain ⟨es, c, _, h2, rfl⟩ := h
  have := ((stamped_iff es c).1 h2).2.2
  exact List.pairwise_map.2 this

section
variable {P : Program} {k : TypeId} {w : World} {b : Nat} {l : List (Value × Value)}
/-- All keys read as keys. -/
def KeysAt (P : Program) (k : TypeId) (l : List (Value × Value)) : Prop := ∀ p ∈ l, ∃ q, keyOf P k p.1 = some q

theorem mp_find (K : Keyed P k) (es : Array MapEntry) (hk : KeysAt P k (es.toList.map (fun e => (e.key, e.val)))) {x : Value} {lx : Lit} (hx : keyOf P k x = some lx) (w : World) :
    ((Instr.findKey k x es.toList).run P w = .ok none w ∧ ∀ e ∈ es.toList, e.key ≠ x) ∨ ∃ j e, (Instr.findKey k x es.toList).run P w = .ok (some (j, e.val)) w ∧ es[j]? = some e ∧ e.key = x := by
  rcases K.find w hx es.toList (fun e he => hk _ (List.mem_map.2 ⟨e, he, rfl⟩)) with h | ⟨j, e, h1, h2, h3⟩
  · exact .inl h
  · exact .inr ⟨j, e, h1, by simpa using h2, h3⟩
theorem mp_look {T e : TypeId} (K : Keyed P k) (hT : P.underlying T = some (.map k e)) (h : MP w b l) (hk : KeysAt P k l) {x : Value} {lx : Lit} (hx : keyOf P k x = some lx) {z : Value} (hz : (zeroValue e).run P w = .ok z w) (ok : Bool) :
    (∃ v, (x, v) ∈ l ∧ (Instr.lookup T (.map (some b)) x ok).run P w = .ok (if ok then .tuple #[v, .bool true] else v) w) ∨ ((∀ p ∈ l, p.1 ≠ x) ∧ (Instr.lookup T (.map (some b)) x ok).run P w = .ok (if ok then .tuple #[z, .bool false] else z) w) := by
  obtain ⟨es, c, h1, h2, rfl⟩ := h
  rcases mp_find K es hk hx w with ⟨f1, f2⟩ | ⟨j, e0, f1, f2, f3⟩
  · refine .inr ⟨fun p hp => ?_, ?_⟩
    · obtain ⟨e1, he1, rfl⟩ := List.mem_map.1 hp
      exact f2 e1 he1
    · cases ok <;> simp [Instr.lookup, run_underlying hT, MapKept.run_getObj_map h1, K.check w es.isEmpty hx, f1, hz, Result.andThen]
  · refine .inl ⟨e0.val, List.mem_map.2 ⟨e0, ?_, by rw [f3]⟩, ?_⟩
    · have : e0 ∈ es := Array.mem_of_getElem? f2
      simpa using this
    · cases ok <;> simp [Instr.lookup, run_underlying hT, MapKept.run_getObj_map h1, K.check w es.isEmpty hx, f1, Result.andThen]

theorem set_touch2 (w : World) (b : Nat) (o : Obj) (h : b < w.heap.size) : Touch (fun k => k = b) w (ChangeMaps.setBlock w b o) ∧ (ChangeMaps.setBlock w b o).heap[b]? = some o := by
  refine ⟨⟨rfl, rfl, rfl, by simp [ChangeMaps.setBlock], fun k hk hn => ?_⟩, by simp [ChangeMaps.setBlock, h]⟩
  simp [ChangeMaps.setBlock, Array.getElem?_setIfInBounds, show ¬ b = k from fun e => hn e.symm]

/-- A store at a key that isn't there. -/
theorem mp_new {T e : TypeId} (K : Keyed P k) (hT : P.underlying T = some (.map k e)) (h : MP w b l) (hk : KeysAt P k l) {x : Value} {lx : Lit} (hx : keyOf P k x = some lx) (hn : ∀ p ∈ l, p.1 ≠ x) (v : Value) :
    ∃ w', (Instr.mapUpdate T (.map (some b)) x v).run P w = .ok () w' ∧ MP w' b (l ++ [(x, v)]) ∧ Touch (fun k => k = b) w w' := by
  obtain ⟨es, c, h1, h2, rfl⟩ := h
  rcases mp_find K es hk hx w with ⟨f1, f2⟩ | ⟨j, e0, f1, f2, f3⟩
  · have st := set_touch2 w b (.map (es.push ⟨x, v, c⟩) (c + 1)) (lt_of_block h1)
    refine ⟨_, ?_, ⟨_, _, st.2, stamped_push h2 f2, by simp⟩, st.1⟩
    simp [Instr.mapUpdate, run_underlying hT, MapKept.run_getObj_map h1, K.check w false hx, f1, MapKept.run_setObj_map _ h1, Result.andThen, ChangeMaps.setBlock]
  · exact absurd f3 (hn (e0.key, e0.val) (List.mem_map.2 ⟨e0, by have : e0 ∈ es := Array.mem_of_getElem? f2; simpa using this, rfl⟩))
/-- The same in two steps. -/
theorem mp_entry {T e : TypeId} (K : Keyed P k) (hT : P.underlying T = some (.map k e)) (h : MP w b l) (hk : KeysAt P k l) {x : Value} {lx : Lit} (hx : keyOf P k x = some lx) (hn : ∀ p ∈ l, p.1 ≠ x) (v : Value) {z : Value} (hz : (zeroValue e).run P w = .ok z w) :
    ∃ (n : Nat) (w1 : World), (Instr.mapEntry T (.map (some b)) x).run P w = .ok (.tuple #[z, .int .i64 (n : Int)]) w1 ∧ Touch (fun k => k = b) w w1 ∧
      ∀ (S : Nat → Prop) (w2 : World), Touch S w1 w2 → ¬ S b → ∃ w3, (Instr.entryStore T (.map (some b)) (.int .i64 (n : Int)) v).run P w2 = .ok () w3 ∧ MP w3 b (l ++ [(x, v)]) ∧ Touch (fun k => k = b) w2 w3 := by
  obtain ⟨es, c, h1, h2, rfl⟩ := h
  rcases mp_find K es hk hx w with ⟨f1, f2⟩ | ⟨j, e0, f1, f2, f3⟩
  · have st := set_touch2 w b (.map (es.push ⟨x, z, c⟩) (c + 1)) (lt_of_block h1)
    refine ⟨c, ChangeMaps.setBlock w b (.map (es.push ⟨x, z, c⟩) (c + 1)), ?_, st.1, fun S w2 ht hS => ?_⟩
    · simp [Instr.mapEntry, run_underlying hT, MapKept.run_getObj_map h1, K.check w false hx, f1, hz, MapKept.run_setObj_map _ h1, Result.andThen, ChangeMaps.setBlock, goInt]
    · have hb2 : w2.heap[b]? = some (.map (es.push ⟨x, z, c⟩) (c + 1)) := (ht.block b (lt_of_block st.2) hS).trans st.2
      have hbn := ((stamped_iff es c).1 h2).1
      have hf : (es.push ⟨x, z, c⟩).findIdx? (fun e => (e.born : Int) == (c : Int)) = some es.size := by
        rw [Array.findIdx?_eq_some_iff_getElem]
        refine ⟨by simp, by simp, fun j hj => ?_⟩
        rw [Array.getElem_push_lt hj]
        have := hbn es[j] (by simp)
        simp
        omega
      have hm : (es.push ⟨x, z, c⟩).modify es.size (fun e => { e with val := v }) = es.push ⟨x, v, c⟩ := by
        apply Array.ext
        · simp
        · intro i hi1 hi2
          simp only [Array.getElem_modify, Array.getElem_push]
          by_cases e : i < es.size
          · have : ¬ es.size = i := by omega
            simp [e, this]
          · have : es.size = i := by simp at hi1; omega
            simp [e, this]
      have st2 := set_touch2 w2 b (.map (es.push ⟨x, v, c⟩) (c + 1)) (lt_of_block hb2)
      refine ⟨_, ?_, ⟨_, _, st2.2, stamped_push h2 f2, by simp⟩, st2.1⟩
      simp [Instr.entryStore, MapKept.run_getObj_map hb2, asInt, asIntOf, hf, hm, MapKept.run_setObj_map _ hb2, Result.andThen, ChangeMaps.setBlock]
  · exact absurd f3 (hn (e0.key, e0.val) (List.mem_map.2 ⟨e0, by have : e0 ∈ es := Array.mem_of_getElem? f2; simpa using this, rfl⟩))
/-- A key that is there is struck. -/
theorem mp_del {T e : TypeId} (K : Keyed P k) (hT : P.underlying T = some (.map k e)) (h : MP w b l) (hk : KeysAt P k l) {x : Value} {lx : Lit} (hx : keyOf P k x = some lx) (ty : TypeId) (i : Nat) (v : Value) (hi : l[i]? = some (x, v)) :
    ∃ w', (Builtin.delete_ #[T, k] ty #[.map (some b), x]).run P w = .ok (.tuple #[]) w' ∧ MP w' b (l.eraseIdx i) ∧ Touch (fun k => k = b) w w' := by
  obtain ⟨es, c, h1, h2, rfl⟩ := h
  rw [List.getElem?_map] at hi
  cases e1 : es.toList[i]? with
  | none => rw [e1] at hi; simp at hi
  | some e0 =>
    rw [e1] at hi
    simp only [Option.map_some, Option.some.injEq, Prod.mk.injEq] at hi
    have e2 : es[i]? = some e0 := by simpa using e1
    rcases mp_find K es hk hx w with ⟨f1, f2⟩ | ⟨j, e3, f1, f2, f3⟩
    · exact absurd hi.1 (f2 e0 (List.mem_of_getElem? e1))
    · have hnd := ((stamped_iff es c).1 h2).2.2
      have hij : i = j := by
        have e4 : es.toList[j]? = some e3 := by simpa using f2
        obtain ⟨l1, g1⟩ := List.getElem?_eq_some_iff.1 e1
        obtain ⟨l2, g2⟩ := List.getElem?_eq_some_iff.1 e4
        rcases Nat.lt_trichotomy i j with hlt | he | hlt
        · exact absurd (by rw [g1, g2, hi.1, f3]) (List.pairwise_iff_getElem.1 hnd i j l1 l2 hlt)
        · exact he
        · exact absurd (by rw [g1, g2, hi.1, f3]) (List.pairwise_iff_getElem.1 hnd j i l2 l1 hlt)
      subst hij
      have st := set_touch2 w b (.map (es.eraseIdxIfInBounds i) c) (lt_of_block h1)
      refine ⟨_, ?_, ⟨_, _, st.2, stamped_erase h2 i, ?_⟩, st.1⟩
      · simp [Builtin.delete_, run_underlying hT, MapKept.run_getObj_map h1, K.check w es.isEmpty hx, f1, MapKept.run_setObj_map _ h1, Result.andThen, ChangeMaps.setBlock]
      · have hl : i < es.size := by have := (List.getElem?_eq_some_iff.1 e1).1; simpa using this
        simp [Array.eraseIdxIfInBounds, hl, List.eraseIdx_eq_take_drop_succ, List.map_append, List.map_take, List.map_drop]
end
end Go.Proofs.YtllaahdbngjigaaDoor
